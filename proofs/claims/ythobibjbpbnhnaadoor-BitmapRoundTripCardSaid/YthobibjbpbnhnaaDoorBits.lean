/-
  The walk of bitsOf.
-/
import Derived.Test.YthobibjbpbnhnaaDoorFidx
namespace Go.Proofs.YthobibjbpbnhnaaDoor
open Go.RowKit

def odd (x : Int) : Bool := x.tmod 2 != 0
/-- The indices of the odd numbers among the first k. -/
def idx (xs : List Int) (k : Nat) : List Nat := (List.range k).filter fun i => odd (xs.getD i 0)
theorem idx_succ {xs : List Int} {k : Nat} (hk : k < xs.length) : idx xs (k + 1) = if odd xs[k] then idx xs k ++ [k] else idx xs k := by
  unfold idx
  rw [List.range_succ, List.filter_append, List.filter_cons, List.filter_nil]
  have : xs.getD k 0 = xs[k] := by rw [List.getD_eq_getElem?_getD, List.getElem?_eq_getElem hk]; rfl
  rw [this]
  split <;> simp
theorem idx_lt (xs : List Int) (k : Nat) : ∀ i ∈ idx xs k, i < k := fun _ h => List.mem_range.1 (List.mem_filter.1 h).1
theorem idx_len (xs : List Int) (k : Nat) : (idx xs k).length ≤ k := Nat.le_trans (List.length_filter_le _ _) (by simp)
/-- The groups of a list of numbers. -/
def bitG (xs : List Int) : List Nat := fromG xs.length (idx xs xs.length)
theorem good_bitG (xs : List Int) : Good xs.length (bitG xs) := good_from (idx_lt xs xs.length)

theorem rb_store {w w5 : World} {n : Nat} {gs : List Nat} {v : Value} {B : Nat} (hB : w.heap.size + 1 ≤ B) (hk : RInv w w5) (hb : Bm w5 (fun k => B ≤ k ∧ k < w5.heap.size) v n gs) :
    ∃ A m c, v = .agg #[.int .i64 n, .slice A m c] ∧ ∀ o : Obj, Bm (((w5.setCell ⟨w.heap.size, 0, none⟩ (.int .i64 n)).setCell ⟨w.heap.size, 1, none⟩ (.slice A m c)).alloc o) (fun k => w.heap.size ≤ k ∧ k < w5.heap.size) (.agg #[.int .i64 n, .slice A m c]) n gs ∧
      Below w.heap.size w (((w5.setCell ⟨w.heap.size, 0, none⟩ (.int .i64 n)).setCell ⟨w.heap.size, 1, none⟩ (.slice A m c)).alloc o) ∧
      (((w5.setCell ⟨w.heap.size, 0, none⟩ (.int .i64 n)).setCell ⟨w.heap.size, 1, none⟩ (.slice A m c)).alloc o).heap[w.heap.size]? = some (.cells #[.int .i64 n, .slice A m c] 25 (0, 0)) := by
  obtain ⟨⟨A, c, rfl, he⟩, hg⟩ := hb
  have hs : ((w5.setCell ⟨w.heap.size, 0, none⟩ (.int .i64 n)).setCell ⟨w.heap.size, 1, none⟩ (.slice A (comp gs).length c)).heap.size = w5.heap.size := by simp [World.setCell]
  have hw := hk.lb
  refine ⟨A, _, c, rfl, fun o => ⟨⟨⟨A, c, rfl, (he.keep fun k hk => ?_).more fun k hk => ⟨by omega, hk.2⟩⟩, hg⟩, ((hk.below.setCell (p := ⟨w.heap.size, 0, none⟩) (Nat.le_refl _) _).setCell (p := ⟨w.heap.size, 1, none⟩) (Nat.le_refl _) _).alloc (by omega) _, ?_⟩⟩
  · have h1 : k ≠ w.heap.size := by omega
    exact (Below.heap_alloc _ _ _ (by omega)).trans ((Below.heap_setCell _ _ _ _ h1).trans (Below.heap_setCell _ _ _ _ h1))
  · have e0 := heap_setCell_same _ (w.heap.size) 0 _ _ (.int .i64 n) hk.b
    exact (Below.heap_alloc _ _ _ (by omega)).trans (heap_setCell_same _ (w.heap.size) 1 _ _ (.slice A (comp gs).length c) e0)

/-- What bitsOf leaves. -/
def BitsPost (w : World) (n : Nat) (gs : List Nat) (e : Ending) (w' : World) : Prop := ∃ v, e = .returned (.tuple #[v, .bool true]) ∧ Bm w' (fun k => w.heap.size ≤ k ∧ k < w'.heap.size) v n gs ∧ Below w.heap.size w w'

set_option maxRecDepth 100000 in
set_option maxHeartbeats 1000000 in
theorem bitsOf (A : Option Addr) (c : Nat) (xs : List Int) (w : World) (hx : Elems 1 intCs w (· < w.heap.size) A xs) (hl : xs.length ≤ 100000) (hl1 : 1 ≤ xs.length) :
    Calls Tryd.prog 5 #[.slice A xs.length c] w (BitsPost w xs.length (bitG xs)) := by
  have HR := Lib.hid (RInv.first w)
  go_enter Tryd.func5, Tryd.ntmps5
  go_wp2_with fail
  go_loopw [4, 11] (fun v i wr => ∃ k : Nat, k ≤ xs.length ∧ i = .int .i64 k ∧ Nats (w.heap.size + 1) wr v (idx xs k) ∧ RInv w wr) (fun _ i _ => xs.length - (intOf i).toNat)
  case atStart => exact ⟨0, by omega, rfl, Own.nil _, HR.out⟩
  case round =>
    obtain ⟨k, hk, rfl, hok, hri⟩ := hrel
    clear HR
    by_cases hlt : k < xs.length
    · obtain ⟨b, off, rfl, hbs, c0⟩ := (hx.keep (Keeps.of_below hri.below fun _ h => h)).int hlt
      have HT := Lib.hid (idx_succ hlt)
      have hil := idx_len xs k
      have hlb := hri.lb
      have HRI := Lib.hid hri
      have HOK := Lib.hid hok
      clear hri hok
      generalize idx xs k = d at *
      by_cases ho : odd xs[k] = true
      · rw [if_pos ho] at HT
        have ho' : (xs[k].tmod 2 != 0) = true := ho
        clear ho
        generalize xs[k] = x at *
        have H1 : Hid ((d.length + 1) * 8 ≤ 140737488355328) := Lib.hid (by omega)
        have H2 : Hid (d.length + 1 ≤ maxLen) := Lib.hid (by unfold maxLen; omega)
        go_wp2_with (at_builtin; refine wpList_app rfl (.tmp 19) (.tmp 21) _ _ rfl rfl rfl (run_push elem_ints natLay _ _ u4 d k _ HOK.out rfl H1.out H2.out hlb rfl) ?_; rintro v1 w1 ⟨ho1, hx1⟩)
        go_roundw
        case rel =>
          have hne : ∀ g, u4.ownBlock = some g → w.heap.size + 1 ≤ g := fun g hg => (HOK.out.lt g hg).1
          exact ⟨k + 1, by omega, by go_num, by rw [HT.out]; exact ho1, HRI.out.keep (hx1.below (base := w.heap.size + 1) hlb hne) (Nat.le_refl _)⟩
        case measure => simp [intOf]; omega
      · rw [if_neg ho] at HT
        have ho' : (xs[k].tmod 2 != 0) = false := by
          have h : odd xs[k] = false := by simpa using ho
          exact h
        clear ho
        generalize xs[k] = x at *
        go_wp2_with fail
        go_roundw
        case rel => exact ⟨k + 1, by omega, by go_num, by rw [HT.out]; exact HOK.out, HRI.out⟩
        case measure => simp [intOf]; omega
    · have hkl : k = xs.length := by omega
      subst hkl
      obtain ⟨A1, m1, c1, rfl, hm1⟩ := hok.form'
      have hel := (hok.elems natLay.len rfl).more (S' := (· < wr.heap.size)) fun j hj => (hok.lt j hj).2
      have hil := idx_len xs xs.length
      have HF0 := fromIndices xs.length A1 c1 (idx xs xs.length) wr hel (idx_lt xs xs.length) (by omega) hl hl1
      rw [hm1] at HF0
      have HF := Lib.hid HF0
      have HRI := Lib.hid hri
      have hlb := hri.lb
      clear HF0 hel hok hri hil hm1
      go_wp2_with fail
      refine HF.out.mono ?_
      rintro e w5 ⟨v5, rfl, hm, hb5⟩
      have HK5 := HRI.out.keep hb5 hlb
      obtain ⟨A5, m5, c5, rfl, hst⟩ := rb_store hlb HK5 hm
      have y0 := cell_of_row _ _ 0 _ _ _ HK5.b
      have y1 := cell_of_row _ _ 1 _ _ _ HK5.b
      have x0 := frozen_of_row _ _ 0 _ _ HK5.b
      have x1 := frozen_of_row _ _ 1 _ _ HK5.b
      have hlt5 : w.heap.size < w5.heap.size := HK5.lb
      have HST := Lib.hid hst
      clear HK5 hm hst
      go_wp2_with fail
      obtain ⟨q1, q2, q3⟩ := HST.out (.cells #[.int .i64 xs.length, .slice A5 m5 c5] 25)
      have r0 := cell_of_row _ w.heap.size 0 _ _ _ q3
      have r1 := cell_of_row _ w.heap.size 1 _ _ _ q3
      simp at r0 r1
      refine bodyPost_ret (v := .tuple #[.agg #[.int .i64 xs.length, .slice A5 m5 c5], .bool true]) (by simp [results, Tryd.results5, go_sem, r0, r1]) rfl ?_
      exact ⟨_, rfl, q1.more fun k hk => ⟨hk.1, by simp [World.setCell]; omega⟩, q2⟩

end Go.Proofs.YthobibjbpbnhnaaDoor
