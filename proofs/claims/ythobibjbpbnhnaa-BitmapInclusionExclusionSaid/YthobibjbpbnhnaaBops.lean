/-
  The walks of bitmap.And, Or, AndNot.
-/
import Derived.Test.YthobibjbpbnhnaaCmb
namespace Go.Proofs.Ythobibjbpbnhnaa
open Go.RowKit

/-- The result stored in the box of the results. -/
theorem bm_store {w w5 : World} {n : Nat} {gs : List Nat} {sa sb v : Value} {B : Nat} (hB : w.heap.size + 3 ≤ B) (hk : KInv w n sa sb w5) (hb : Bm w5 (fun k => B ≤ k ∧ k < w5.heap.size) v n gs) :
    ∃ A m c, v = .agg #[.int .i64 n, .slice A m c] ∧ Bm ((w5.setCell ⟨w.heap.size + 2, 0, none⟩ (.int .i64 n)).setCell ⟨w.heap.size + 2, 1, none⟩ (.slice A m c)) (fun k => w.heap.size ≤ k ∧ k < w5.heap.size) (.agg #[.int .i64 n, .slice A m c]) n gs ∧
      Below w.heap.size w ((w5.setCell ⟨w.heap.size + 2, 0, none⟩ (.int .i64 n)).setCell ⟨w.heap.size + 2, 1, none⟩ (.slice A m c)) ∧
      ((w5.setCell ⟨w.heap.size + 2, 0, none⟩ (.int .i64 n)).setCell ⟨w.heap.size + 2, 1, none⟩ (.slice A m c)).heap[w.heap.size + 2]? = some (.cells #[.int .i64 n, .slice A m c] 24 (0, 0)) := by
  obtain ⟨⟨A, c, rfl, he⟩, hg⟩ := hb
  refine ⟨A, _, c, rfl, ⟨⟨A, c, rfl, (he.keep fun k hk => ?_).more fun k hk => ⟨by omega, hk.2⟩⟩, hg⟩, (hk.below.setCell (p := ⟨w.heap.size + 2, 0, none⟩) (by show _ ≤ w.heap.size + 2; omega) _).setCell (p := ⟨w.heap.size + 2, 1, none⟩) (by show _ ≤ w.heap.size + 2; omega) _, ?_⟩
  · have h1 : k ≠ w.heap.size + 2 := by omega
    exact (Below.heap_setCell _ _ _ _ h1).trans (Below.heap_setCell _ _ _ _ h1)
  · have e0 := heap_setCell_same _ (w.heap.size + 2) 0 _ _ (.int .i64 n) hk.b6
    exact heap_setCell_same _ (w.heap.size + 2) 1 _ _ (.slice A (comp gs).length c) e0

set_option maxRecDepth 100000 in
set_option maxHeartbeats 1000000 in
theorem or_ (va vb : Value) (n : Nat) (a b : List Nat) (w : World) (ha : Bm w (· < w.heap.size) va n a) (hb : Bm w (· < w.heap.size) vb n b) (hg : Good n (zipOp (· ||| ·) a b)) (hn : n ≤ 100000) (hn1 : 1 ≤ n) :
    Calls Try.prog 8 #[va, vb] w (BmPost w n (zipOp (· ||| ·) a b)) := by
  obtain ⟨⟨A, c, rfl, hA⟩, gA⟩ := ha
  obtain ⟨⟨B, d, rfl, hB⟩, gB⟩ := hb
  have HK := KInv.first w n (.slice A (comp a).length c) (.slice B (comp b).length d)
  have hlb := HK.lb
  have HC := Lib.hid (combine _ _ (.agg #[.int .i64 n, .slice A (comp a).length c]) (.agg #[.int .i64 n, .slice B (comp b).length d]) n a b _ opn_or
    ⟨⟨A, c, rfl, (hA.keep (Keeps.of_below HK.below fun _ h => h)).more fun k (hk : k < w.heap.size) => by omega⟩, gA⟩
    ⟨⟨B, d, rfl, (hB.keep (Keeps.of_below HK.below fun _ h => h)).more fun k (hk : k < w.heap.size) => by omega⟩, gB⟩ hg hn hn1)
  have HK := Lib.hid HK
  have HLB := Lib.hid hlb
  clear hlb hA hB gA gB hg hn hn1
  go_enter Try.func8, Try.ntmps8
  go_wp2_with fail
  refine HC.out.mono ?_
  rintro e w5 ⟨v5, rfl, hm, hb5⟩
  have HK5 := HK.out.keep hb5 HLB.out
  obtain ⟨A5, m5, c5, rfl, hm6, hb6, hr⟩ := bm_store HLB.out HK5 hm
  have y0 := cell_of_row _ _ 0 _ _ _ HK5.b6
  have y1 := cell_of_row _ _ 1 _ _ _ HK5.b6
  have x0 := frozen_of_row _ _ 0 _ _ HK5.b6
  have x1 := frozen_of_row _ _ 1 _ _ HK5.b6
  have HM := Lib.hid hm6
  have HB := Lib.hid hb6
  have HR := Lib.hid hr
  clear HK5 hm hm6 hb6 hr
  go_wp2_with fail
  have r0 := cell_of_row _ (w.heap.size + 2) 0 _ _ _ HR.out
  have r1 := cell_of_row _ (w.heap.size + 2) 1 _ _ _ HR.out
  simp at r0 r1
  refine bodyPost_ret (v := .tuple #[.agg #[.int .i64 n, .slice A5 m5 c5], .int .i64 0]) (by simp [results, Try.results8, go_sem, r0, r1]) rfl ?_
  exact ⟨_, rfl, HM.out.more fun k hk => ⟨hk.1, by simpa [World.setCell] using hk.2⟩, HB.out⟩

set_option maxRecDepth 100000 in
set_option maxHeartbeats 1000000 in
theorem and_ (va vb : Value) (n : Nat) (a b : List Nat) (w : World) (ha : Bm w (· < w.heap.size) va n a) (hb : Bm w (· < w.heap.size) vb n b) (hg : Good n (zipOp (· &&& ·) a b)) (hn : n ≤ 100000) (hn1 : 1 ≤ n) :
    Calls Try.prog 10 #[va, vb] w (BmPost w n (zipOp (· &&& ·) a b)) := by
  obtain ⟨⟨A, c, rfl, hA⟩, gA⟩ := ha
  obtain ⟨⟨B, d, rfl, hB⟩, gB⟩ := hb
  have HK := KInv.first w n (.slice A (comp a).length c) (.slice B (comp b).length d)
  have hlb := HK.lb
  have HC := Lib.hid (combine _ _ (.agg #[.int .i64 n, .slice A (comp a).length c]) (.agg #[.int .i64 n, .slice B (comp b).length d]) n a b _ opn_and
    ⟨⟨A, c, rfl, (hA.keep (Keeps.of_below HK.below fun _ h => h)).more fun k (hk : k < w.heap.size) => by omega⟩, gA⟩
    ⟨⟨B, d, rfl, (hB.keep (Keeps.of_below HK.below fun _ h => h)).more fun k (hk : k < w.heap.size) => by omega⟩, gB⟩ hg hn hn1)
  have HK := Lib.hid HK
  have HLB := Lib.hid hlb
  clear hlb hA hB gA gB hg hn hn1
  go_enter Try.func10, Try.ntmps10
  go_wp2_with fail
  refine HC.out.mono ?_
  rintro e w5 ⟨v5, rfl, hm, hb5⟩
  have HK5 := HK.out.keep hb5 HLB.out
  obtain ⟨A5, m5, c5, rfl, hm6, hb6, hr⟩ := bm_store HLB.out HK5 hm
  have y0 := cell_of_row _ _ 0 _ _ _ HK5.b6
  have y1 := cell_of_row _ _ 1 _ _ _ HK5.b6
  have x0 := frozen_of_row _ _ 0 _ _ HK5.b6
  have x1 := frozen_of_row _ _ 1 _ _ HK5.b6
  have HM := Lib.hid hm6
  have HB := Lib.hid hb6
  have HR := Lib.hid hr
  clear HK5 hm hm6 hb6 hr
  go_wp2_with fail
  have r0 := cell_of_row _ (w.heap.size + 2) 0 _ _ _ HR.out
  have r1 := cell_of_row _ (w.heap.size + 2) 1 _ _ _ HR.out
  simp at r0 r1
  refine bodyPost_ret (v := .tuple #[.agg #[.int .i64 n, .slice A5 m5 c5], .int .i64 0]) (by simp [results, Try.results10, go_sem, r0, r1]) rfl ?_
  exact ⟨_, rfl, HM.out.more fun k hk => ⟨hk.1, by simpa [World.setCell] using hk.2⟩, HB.out⟩

set_option maxRecDepth 100000 in
set_option maxHeartbeats 1000000 in
theorem andNot_ (va vb : Value) (n : Nat) (a b : List Nat) (w : World) (ha : Bm w (· < w.heap.size) va n a) (hb : Bm w (· < w.heap.size) vb n b) (hg : Good n (zipOp andn a b)) (hn : n ≤ 100000) (hn1 : 1 ≤ n) :
    Calls Try.prog 9 #[va, vb] w (BmPost w n (zipOp andn a b)) := by
  obtain ⟨⟨A, c, rfl, hA⟩, gA⟩ := ha
  obtain ⟨⟨B, d, rfl, hB⟩, gB⟩ := hb
  have HK := KInv.first w n (.slice A (comp a).length c) (.slice B (comp b).length d)
  have hlb := HK.lb
  have HC := Lib.hid (combine _ _ (.agg #[.int .i64 n, .slice A (comp a).length c]) (.agg #[.int .i64 n, .slice B (comp b).length d]) n a b _ opn_andn
    ⟨⟨A, c, rfl, (hA.keep (Keeps.of_below HK.below fun _ h => h)).more fun k (hk : k < w.heap.size) => by omega⟩, gA⟩
    ⟨⟨B, d, rfl, (hB.keep (Keeps.of_below HK.below fun _ h => h)).more fun k (hk : k < w.heap.size) => by omega⟩, gB⟩ hg hn hn1)
  have HK := Lib.hid HK
  have HLB := Lib.hid hlb
  clear hlb hA hB gA gB hg hn hn1
  go_enter Try.func9, Try.ntmps9
  go_wp2_with fail
  refine HC.out.mono ?_
  rintro e w5 ⟨v5, rfl, hm, hb5⟩
  have HK5 := HK.out.keep hb5 HLB.out
  obtain ⟨A5, m5, c5, rfl, hm6, hb6, hr⟩ := bm_store HLB.out HK5 hm
  have y0 := cell_of_row _ _ 0 _ _ _ HK5.b6
  have y1 := cell_of_row _ _ 1 _ _ _ HK5.b6
  have x0 := frozen_of_row _ _ 0 _ _ HK5.b6
  have x1 := frozen_of_row _ _ 1 _ _ HK5.b6
  have HM := Lib.hid hm6
  have HB := Lib.hid hb6
  have HR := Lib.hid hr
  clear HK5 hm hm6 hb6 hr
  go_wp2_with fail
  have r0 := cell_of_row _ (w.heap.size + 2) 0 _ _ _ HR.out
  have r1 := cell_of_row _ (w.heap.size + 2) 1 _ _ _ HR.out
  simp at r0 r1
  refine bodyPost_ret (v := .tuple #[.agg #[.int .i64 n, .slice A5 m5 c5], .int .i64 0]) (by simp [results, Try.results9, go_sem, r0, r1]) rfl ?_
  exact ⟨_, rfl, HM.out.more fun k hk => ⟨hk.1, by simpa [World.setCell] using hk.2⟩, HB.out⟩

end Go.Proofs.Ythobibjbpbnhnaa
