/-
  The walks of the reference's Encode at a key of one digit, and of AffectedKey.
  Stable sorting by swaps, plain: rows as functions of the place; what insertion, rotation and the symmetric merge do. No program in sight.
  The stable sort of rows (fewer than twenty): a block of rows under sorting; insertionSort, stable, SortStableFunc by a comparison's contract.
  The walks of slices.Clone over rows, of stable, SortStableFunc (fewer than twenty rows), SortRows$1 and SortRows.
  The walk of the reference's SortRows.
-/
import Derived.Test.YtefifkleamiabaaGreatDoorUm12
import Derived.StillTailTactics
import Derived.Test.YtefifkleamiabaaGreatDoorUm01
import Derived.BigRegion
import Derived.Shelf.SlSortCmp.QuietGrown
import Derived.Deep.CutRange
namespace Go.Proofs.YtefifkleamiabaaGreatDoor
open Go.RowKit Go.Sort

theorem builder_below {T e : TypeId} {B b : Nat} {bs : List Value} {w w' : World} (h : Lib.IsBuilder T e B b bs w) (hb : Below w.heap.size w w') : Lib.IsBuilder T e B b bs w' := by
  have key : ∀ p, Lib.BuilderAt T e B b p bs w → Lib.BuilderAt T e B b p bs w' := by
    intro p h
    have hlt := h.lt
    obtain ⟨hB, v, h1, ho, hne⟩ := h
    refine ⟨hB, v, (hb.block b hlt).trans h1, ⟨ho.1, ?_⟩, hne⟩
    rcases ho.2 with hn | ⟨g, cap, cur, rfl, hg, hgg, rest⟩
    · exact .inl hn
    · exact .inr ⟨g, cap, cur, rfl, hg, (hb.block g (Array.getElem?_eq_some_iff.1 hgg).1).trans hgg, rest⟩
  exact h.elim (fun x => .inl (key _ x)) (fun x => .inr (key _ x))
/-- The key of one digit, encoded. -/
def encV1 (k : Nat) : ByteArray := (⟨#[124]⟩ : ByteArray) ++ dg 1 ++ ⟨#[44]⟩ ++ dg k ++ ⟨#[44]⟩ ++ dg 0 ++ ⟨#[44]⟩ ++ ⟨#[]⟩
theorem encV1_size (k : Nat) : (encV1 k).size = 7 := by
  have h1 : (dg 1).size = 1 := rfl
  have hk : (dg k).size = 1 := rfl
  have h0 : (dg 0).size = 1 := rfl
  have hc : ∀ x : UInt8, (⟨#[x]⟩ : ByteArray).size = 1 := fun _ => rfl
  have hn : (⟨#[]⟩ : ByteArray).size = 0 := rfl
  unfold encV1
  simp only [ByteArray.size_append, h1, hk, h0, hc, hn, Nat.reduceAdd, Nat.add_zero]
def encL (k : Nat) : List UInt8 := (dg 1).data.toList ++ (encV1 k).data.toList
def encK (k : Nat) : ByteArray := ⟨(encL k).toArray⟩
theorem encK_inj {a b : Nat} (ha : a < 10) (hb : b < 10) (h : encK a = encK b) : a = b := by
  have hA : a = 0 ∨ a = 1 ∨ a = 2 ∨ a = 3 ∨ a = 4 ∨ a = 5 ∨ a = 6 ∨ a = 7 ∨ a = 8 ∨ a = 9 := by omega
  have hB : b = 0 ∨ b = 1 ∨ b = 2 ∨ b = 3 ∨ b = 4 ∨ b = 5 ∨ b = 6 ∨ b = 7 ∨ b = 8 ∨ b = 9 := by omega
  have h2 : (encK a).data.toList.getD 4 0 = (encK b).data.toList.getD 4 0 := by rw [h]
  rcases hA with rfl | rfl | rfl | rfl | rfl | rfl | rfl | rfl | rfl | rfl <;> rcases hB with rfl | rfl | rfl | rfl | rfl | rfl | rfl | rfl | rfl | rfl <;> first | rfl | (exact absurd h2 (by decide +kernel))
set_option maxRecDepth 100000 in
set_option maxHeartbeats 8000000 in
theorem rEncode1 (A : Option Addr) (c : Nat) (k : Nat) (hk : k < 10) (w : World) (hx : Elems 3 Val.cs w (· < w.heap.size) A (ik (k : Int))) :
    Calls Tryz.prog 31 #[.slice A 1 c] w fun e w' => e = .returned (.string (encK k)) ∧ Below w.heap.size w w' := by
  have HX := Lib.hid hx
  obtain ⟨w1, hw1⟩ : ∃ w1, w1 = w.alloc (.cells #[.pointer none, .slice none 0 0] 125) := ⟨_, rfl⟩
  have hB1 : Lib.IsBuilder 125 5 w.heap.size w.heap.size [] w1 := by rw [hw1]; exact Lib.fresh_isBuilder 125 5 w
  have hb1 : Below w.heap.size w w1 := by rw [hw1]; exact (Below.refl _ _).alloc (Nat.le_refl _) _
  have HW1 := Lib.hid hw1
  have HB1 := Lib.hid (And.intro hB1 hb1)
  have HI1 : Hid (∀ W, Calls Tryz.prog 61 #[.int .i64 1] W fun e w' => e = .returned (.string (dg 1)) ∧ w' = W) := Lib.hid fun W => (itoa1 1 (by omega) W).mono fun e w' h => ⟨h.1, h.2.symm⟩
  have HI0 : Hid (∀ W, Calls Tryz.prog 61 #[.int .i64 0] W fun e w' => e = .returned (.string (dg 0)) ∧ w' = W) := Lib.hid fun W => (itoa1 0 (by omega) W).mono fun e w' h => ⟨h.1, h.2.symm⟩
  have HIK : Hid (∀ W, Calls Tryz.prog 61 #[.int .i64 (k : Int)] W fun e w' => e = .returned (.string (dg k)) ∧ w' = W) := Lib.hid fun W => (itoa1 k hk W).mono fun e w' h => ⟨h.1, h.2.symm⟩
  have HWS1 : Hid (∀ W, Lib.IsBuilder 125 5 w.heap.size w.heap.size [] W → Below w.heap.size w W → Calls Tryz.prog 60 #[.pointer (some ⟨w.heap.size, 0, none⟩), .string (dg 1)] W fun e w' => e = .returned (.tuple #[.int .i64 1, .nilIface]) ∧ Lib.IsBuilder 125 5 w.heap.size w.heap.size (Lib.byteCells (dg 1).data.toList) w' ∧ Below w.heap.size w w') := Lib.hid fun W hI hW =>
    (Tryz.Builder_WriteString w.heap.size w.heap.size [] (dg 1) W hI (by show 0 + 1 ≤ _; omega) hW.size).mono fun e w' h => ⟨h.1, .inr h.2.1, hW.trans h.2.2⟩
  have HWS2 : Hid (∀ W, Lib.IsBuilder 125 5 w.heap.size w.heap.size (Lib.byteCells (dg 1).data.toList) W → Below w.heap.size w W → Calls Tryz.prog 60 #[.pointer (some ⟨w.heap.size, 0, none⟩), .string (encV1 k)] W fun e w' => (∃ v, e = .returned v) ∧ Lib.IsBuilder 125 5 w.heap.size w.heap.size (Lib.byteCells (encL k)) w' ∧ Below w.heap.size w w') := Lib.hid fun W hI hW =>
    (Tryz.Builder_WriteString w.heap.size w.heap.size _ (encV1 k) W hI (by rw [Lib.byteCells_length, encV1_size]; show 1 + 7 ≤ 140737488355328; omega) hW.size).mono fun e w' h => ⟨⟨_, h.1⟩, .inr (by unfold encL; rw [Lib.byteCells_append]; exact h.2.1), hW.trans h.2.2⟩
  have HST : Hid (∀ W, Lib.IsBuilder 125 5 w.heap.size w.heap.size (Lib.byteCells (encL k)) W → Below w.heap.size w W → Calls Tryz.prog 62 #[.pointer (some ⟨w.heap.size, 0, none⟩)] W fun e w' => e = .returned (.string (encK k)) ∧ Below w.heap.size w w') := Lib.hid fun W hI hW =>
    (Tryz.Builder_String_any w.heap.size w.heap.size (encL k) W hI hW.size).mono fun e w' h => ⟨h.1, hW.trans h.2⟩
  have HX2 : Hid (∀ W, Below w.heap.size w W → ∃ b off, A = some ⟨b, off, none⟩ ∧ W.cell? ⟨b, off, none⟩ = some (.int .i64 1) ∧ W.cell? ⟨b, off + 1, none⟩ = some (.int .i64 (k : Int)) ∧ W.cell? ⟨b, off + 2, none⟩ = some (.string ⟨#[]⟩)) := Lib.hid fun W hW => by
    obtain ⟨b, off, e, -, a0, a1, a2⟩ := (HX.out.on hW).val (k := 0) (by show 0 < 1; omega)
    rw [Nat.zero_mul, Nat.add_zero] at a0 a1 a2
    exact ⟨b, off, e, a0, a1, a2⟩
  clear hx hw1 hB1 hb1 HX
  go_enter Tryz.func31, Tryz.ntmps31
  go_upto_region 2 with fail
  rw [← HW1.out]
  go_wp2_with fail
  refine (HI1.out _).mono ?_
  rintro e w2 ⟨rfl, hw2⟩
  subst hw2
  go_wp2_with fail
  refine (HWS1.out _ HB1.out.1 HB1.out.2).mono ?_
  rintro e w3 ⟨rfl, hI3, hb3⟩
  have HB3 := Lib.hid (And.intro hI3 hb3)
  clear hI3 hb3
  go_wp2_with fail
  go_loopw [12] (fun vi wr => (vi = .int .i64 0 ∧ w3 = wr) ∨ (vi = .int .i64 1 ∧ Lib.IsBuilder 125 5 w.heap.size w.heap.size (Lib.byteCells (encL k)) wr ∧ Below w.heap.size w wr)) (fun vi _ => 1 - (intOf vi).toNat)
  case atStart => exact .inl ⟨rfl, rfl⟩
  case round =>
    rcases hrel with ⟨rfl, rfl⟩ | ⟨rfl, hI, hb⟩
    · obtain ⟨b, off, rfl, a0, a1, a2⟩ := HX2.out w3 HB3.out.2
      go_upto_region 6 with fail
      obtain ⟨w4, hw4⟩ : ∃ w4, w4 = w3.alloc (Obj.cells #[Value.int IntKind.i64 1, Value.int IntKind.i64 ↑k, Value.string { data := #[] }] 60) := ⟨_, rfl⟩
      have hg4 : w4.heap[w3.heap.size]? = some (.cells #[Value.int IntKind.i64 1, Value.int IntKind.i64 ↑k, Value.string { data := #[] }] 60 (0, 0)) := by rw [hw4]; exact heap_alloc_new w3 _
      have HBA : Hid (Below w3.heap.size w3 w4) := Lib.hid (by rw [hw4]; exact (Below.refl _ _).alloc (Nat.le_refl _) _)
      have v0 : w4.cell? ⟨w3.heap.size, 0, none⟩ = some (.int .i64 1) := cell_of_row _ _ 0 _ _ _ hg4
      have v1 : w4.cell? ⟨w3.heap.size, 1, none⟩ = some (.int .i64 (k : Int)) := cell_of_row _ _ 1 _ _ _ hg4
      have v2 : w4.cell? ⟨w3.heap.size, 2, none⟩ = some (.string ⟨#[]⟩) := cell_of_row _ _ 2 _ _ _ hg4
      rw [← hw4]
      clear hw4 hg4
      have HI4 := Lib.hid (builder_below HB3.out.1 HBA.out)
      have HB4 := Lib.hid (HB3.out.2.trans (HBA.out.mono HB3.out.2.size))
      have hz1 : ¬ 9223372036854775807 < 1 + (dg 1).size := by show ¬ 9223372036854775807 < 1 + 1; omega
      have hz2 : ¬ 9223372036854775807 < 1 + (dg 1).size + 1 := by show ¬ 9223372036854775807 < 1 + 1 + 1; omega
      have hz3 : ¬ 9223372036854775807 < 1 + (dg 1).size + 1 + (dg k).size := by show ¬ 9223372036854775807 < 1 + 1 + 1 + 1; omega
      have hz4 : ¬ 9223372036854775807 < 1 + (dg 1).size + 1 + (dg k).size + 1 := by show ¬ 9223372036854775807 < 1 + 1 + 1 + 1 + 1; omega
      have hz5 : ¬ 9223372036854775807 < 1 + (dg 1).size + 1 + (dg k).size + 1 + (dg 0).size := by show ¬ 9223372036854775807 < 1 + 1 + 1 + 1 + 1 + 1; omega
      have hz6 : ¬ 9223372036854775807 < 1 + (dg 1).size + 1 + (dg k).size + 1 + (dg 0).size + 1 := by show ¬ 9223372036854775807 < 1 + 1 + 1 + 1 + 1 + 1 + 1; omega
      have HWQ : Hid (∀ W, Lib.IsBuilder 125 5 w.heap.size w.heap.size (Lib.byteCells (dg 1).data.toList) W → Below w.heap.size w W → Calls Tryz.prog 60 #[.pointer (some ⟨w.heap.size, 0, none⟩), .string ((⟨#[124]⟩ : ByteArray) ++ dg 1 ++ ⟨#[44]⟩ ++ dg k ++ ⟨#[44]⟩ ++ dg 0 ++ ⟨#[44]⟩ ++ ⟨#[]⟩)] W fun e w' => (∃ v, e = .returned v) ∧ Lib.IsBuilder 125 5 w.heap.size w.heap.size (Lib.byteCells (encL k)) w' ∧ Below w.heap.size w w') := HWS2
      clear HWS2
      go_still_tail 19, (by kernel_rfl)
      still_call (HI1.out _)
      repeat still_step
      still_call (HIK.out _)
      repeat still_step
      still_call (HI0.out _)
      repeat still_step
      refine wpStill_nil ?_
      change wpList _ _ _ _ _ w4.drew
      go_wp2_with fail
      refine (HWQ.out _ (builder_below HI4.out (below_drewN (Below.refl _ _) 1)) (below_drewN HB4.out 1)).mono ?_
      rintro e w5 ⟨⟨v, rfl⟩, hI5, hb5⟩
      have HB5 := Lib.hid (And.intro hI5 hb5)
      clear hI5 hb5
      go_wp2_with fail
      go_roundw
      case rel => exact .inr ⟨by go_num, HB5.out.1, HB5.out.2⟩
      case measure => simp [intOf]
    · have HB4 := Lib.hid (And.intro hI hb)
      clear hI hb
      go_wp2_with fail
      refine (HST.out _ HB4.out.1 HB4.out.2).mono ?_
      rintro e w5 ⟨rfl, hb5⟩
      have HB5 := Lib.hid hb5
      clear hb5
      go_wp2_with fail
      go_ret
      exact ⟨rfl, HB5.out⟩

set_option maxRecDepth 100000 in
set_option maxHeartbeats 8000000 in
theorem rAffKey1 (s : Sc) (ch : ChM) (i : Nat) (w : World) (hs : ScOk (· < w.heap.size) w s) (ho : ChOk (· < w.heap.size) w ch) (hc : ChC s ch i) (hk : ch.kind = 1) (hl : s.tabs.length ≤ 1000) :
    Calls Tryz.prog 32 #[s.v, .agg ch.cells] w fun e w' => ∃ v, e = .returned v ∧ Own 3 Val.cs 60 w.heap.size w' v (keyOf (s.tabs[i]'hc.il).pk ch.row.row) ∧ Below w.heap.size w w' := by
  have hil := hc.il
  obtain ⟨tb, toff, hTA, -, -⟩ := hs.tabs.tbl (k := 0) (by omega)
  obtain ⟨w1, hw1, hb1, hs1, hbk⟩ := scBox s ch w
  have HBK := Lib.hid hbk
  have HF1 := Lib.hid fun W (hW : Below w.heap.size w W) => rFindTable s ch.name i W (hs.on hW) hl hil hc.fi tb toff hTA
  have HTK : Hid (∀ W, Below w.heap.size w W → W.cell? ⟨tb, toff + i * 3, none⟩ = some (.string s.tabs[i].name) ∧ W.cell? ⟨tb, toff + i * 3 + 1, none⟩ = some (.slice s.tabs[i].CA s.tabs[i].cols.length s.tabs[i].cc) ∧ W.cell? ⟨tb, toff + i * 3 + 2, none⟩ = some (.slice s.tabs[i].PA s.tabs[i].pk.length s.tabs[i].pc)) := Lib.hid fun W hW => by
    obtain ⟨tb1, to1, e1, -, p0, p1, p2⟩ := (hs.on hW).tabs.tbl hil
    rw [hTA] at e1
    injection e1 with e1
    injection e1 with e11 e12
    subst e11 e12
    exact ⟨p0, p1, p2⟩
  have HCR : Hid (∀ W m, Below w.heap.size w W → Calls Tryz.prog 25 #[s.tabs[i].val, .slice ch.row.A ch.row.row.length ch.row.c] (W.drewN m) fun e w' => ∃ v, e = .returned v ∧ Own 3 Val.cs 60 w.heap.size w' v (keyOf s.tabs[i].pk ch.row.row) ∧ Below W.heap.size W w') := Lib.hid fun W m hW => by
    have hd : Below W.heap.size W (W.drewN m) := below_drewN (Below.refl _ _) m
    have h0 := hW.trans (hd.mono hW.size)
    exact (keyOfB _ ch.row.A ch.row.c ch.row.row (W.drewN m) ((hs.on h0).tab _ (List.getElem_mem hil)) (ho.row.on h0).el (by have := hc.tab.2; omega)).mono fun e w' ⟨v, h1, h2, h3⟩ => ⟨v, h1, h2.mono (by show w.heap.size ≤ W.heap.size; exact hW.size), hd.trans h3⟩
  have HB1 := Lib.hid hb1
  have HW1 := Lib.hid hw1
  obtain ⟨⟨s0, s1, s2⟩, k0, k1, k2, k3⟩ := HBK.out w1 (Below.refl _ _)
  unfold Sc.cells ChM.cells at HW1
  unfold Sc.v Sc.cells at HF1 ⊢
  unfold Tbl.val at HCR
  unfold ChM.cells
  rw [hk] at HW1 ⊢
  rw [hk] at HBK k0
  clear hs ho hk hTA hw1 hb1 hs1 hbk hl
  generalize keyOf (s.tabs[i]'hc.il).pk ch.row.row = res at *
  go_enter Tryz.func32, Tryz.ntmps32
  go_upto_region 1 with fail
  rw [← HW1.out]
  go_wp2_with fail
  refine (HF1.out w1 HB1.out).mono ?_
  rintro e w2 ⟨rfl, hb2⟩
  have HB2 := Lib.hid (And.intro hb2 (HB1.out.trans (hb2.mono HB1.out.size)))
  clear hb2 s0 s1 s2 k0 k1 k2 k3
  obtain ⟨⟨s0, s1, s2⟩, k0, k1, k2, k3⟩ := HBK.out w2 HB2.out.1
  obtain ⟨t0, t1, t2⟩ := HTK.out w2 HB2.out.2
  go_upto_region 3 with fail
  go_region_held3 (fun W => W.cell? ⟨tb, toff + i * 3, none⟩ = some (.string s.tabs[i].name) ∧ W.cell? ⟨tb, toff + i * 3 + 1, none⟩ = some (.slice s.tabs[i].CA s.tabs[i].cols.length s.tabs[i].cc) ∧ W.cell? ⟨tb, toff + i * 3 + 2, none⟩ = some (.slice s.tabs[i].PA s.tabs[i].pk.length s.tabs[i].pc) ∧ W.cell? ⟨w.heap.size + 1, 3, none⟩ = some (.slice ch.row.A ch.row.row.length ch.row.c)) (first | exact ⟨t0, t1, t2, k3⟩ | exact s9)
    (first
    | (go_at_call 25; refine (HCR.out w2 1 HB2.out.2).mono ?_; rintro e w3 ⟨v, rfl, ho3, hb3⟩; have s9 := And.intro (HTK.out w3 (HB2.out.2.trans (hb3.mono HB2.out.2.size))).1 (And.intro (HTK.out w3 (HB2.out.2.trans (hb3.mono HB2.out.2.size))).2.1 (And.intro (HTK.out w3 (HB2.out.2.trans (hb3.mono HB2.out.2.size))).2.2 (HBK.out w3 (HB2.out.1.trans (hb3.mono HB2.out.1.size))).2.2.2.2))))
  all_goals
    have HF := Lib.hid (And.intro ho3 (HB2.out.2.trans (hb3.mono HB2.out.2.size)))
    clear hb3 ho3 s9
    go_wp2_with fail
    go_ret
    exact ⟨_, rfl, HF.out.1, HF.out.2⟩

set_option maxRecDepth 100000 in
set_option maxHeartbeats 8000000 in
theorem rAffKey2 (s : Sc) (ch : ChM) (i : Nat) (w : World) (hs : ScOk (· < w.heap.size) w s) (hc : ChC s ch i) (hk : ch.kind = 2) (hl : s.tabs.length ≤ 1000) :
    Calls Tryz.prog 32 #[s.v, .agg ch.cells] w fun e w' => e = .returned (.slice ch.key.A ch.key.row.length ch.key.c) ∧ Below w.heap.size w w' := by
  have hil := hc.il
  obtain ⟨tb, toff, hTA, -, -⟩ := hs.tabs.tbl (k := 0) (by omega)
  obtain ⟨w1, hw1, hb1, hs1, hbk⟩ := scBox s ch w
  have HBK := Lib.hid hbk
  have HF1 := Lib.hid fun W (hW : Below w.heap.size w W) => rFindTable s ch.name i W (hs.on hW) hl hil hc.fi tb toff hTA
  have HB1 := Lib.hid hb1
  have HW1 := Lib.hid hw1
  obtain ⟨⟨s0, s1, s2⟩, k0, k1, k2, k3⟩ := HBK.out w1 (Below.refl _ _)
  unfold Sc.cells ChM.cells at HW1
  unfold Sc.v Sc.cells at HF1 ⊢
  unfold ChM.cells
  rw [hk] at HW1 ⊢
  rw [hk] at HBK k0
  clear hs hk hTA hw1 hb1 hs1 hbk hl
  go_enter Tryz.func32, Tryz.ntmps32
  go_upto_region 1 with fail
  rw [← HW1.out]
  go_wp2_with fail
  refine (HF1.out w1 HB1.out).mono ?_
  rintro e w2 ⟨rfl, hb2⟩
  have HB2 := Lib.hid (And.intro hb2 (HB1.out.trans (hb2.mono HB1.out.size)))
  clear hb2 s0 s1 s2 k0 k1 k2 k3
  obtain ⟨⟨s0, s1, s2⟩, k0, k1, k2, k3⟩ := HBK.out w2 HB2.out.1
  go_wp2_with fail
  go_ret
  exact ⟨rfl, HB2.out.2⟩
end Go.Proofs.YtefifkleamiabaaGreatDoor

namespace Go.Proofs.YtefifkleamiabaaGreatDoor

section
variable {α : Type}

def swp (f : Nat → α) (i j : Nat) : Nat → α := fun k => if k = i then f j else if k = j then f i else f k

/-- g comes of f by exchanges within [a, b). -/
inductive Sw (a b : Nat) (f : Nat → α) : (Nat → α) → Prop
  | refl : Sw a b f f
  | step {g : Nat → α} {i j : Nat} (h : Sw a b f g) (hi : a ≤ i ∧ i < b) (hj : a ≤ j ∧ j < b) : Sw a b f (swp g i j)

theorem Sw.trans {a b : Nat} {f g h : Nat → α} (x : Sw a b f g) (y : Sw a b g h) : Sw a b f h := by
  induction y with
  | refl => exact x
  | step _ hi hj ih => exact ih.step hi hj
theorem Sw.mono {a b a' b' : Nat} {f g : Nat → α} (x : Sw a b f g) (ha : a' ≤ a) (hb : b ≤ b') : Sw a' b' f g := by
  induction x with
  | refl => exact .refl
  | step _ hi hj ih => exact ih.step ⟨by omega, by omega⟩ ⟨by omega, by omega⟩
theorem Sw.out {a b : Nat} {f g : Nat → α} (x : Sw a b f g) {k : Nat} (hk : ¬ (a ≤ k ∧ k < b)) : g k = f k := by
  induction x with
  | refl => rfl
  | step h hi hj ih =>
    unfold swp
    rw [if_neg (by omega), if_neg (by omega)]
    exact ih
theorem Sw.all {a b : Nat} {f g : Nat → α} (x : Sw a b f g) {p : α → Prop} (h : ∀ k, a ≤ k → k < b → p (f k)) : ∀ k, a ≤ k → k < b → p (g k) := by
  induction x with
  | refl => exact h
  | @step g i j _ hi hj ih =>
    intro k h1 h2
    unfold swp
    split
    · exact ih j hj.1 hj.2
    · split
      · exact ih i hi.1 hi.2
      · exact ih k h1 h2
theorem Sw.congr {a b : Nat} {f g g' : Nat → α} (x : Sw a b f g) (e : ∀ k, g' k = g k) : Sw a b f g' := by
  rw [show g' = g from funext e]
  exact x

/-- As lists: permutations. -/
theorem map_set_swap (f : Nat → α) : ∀ (n i j : Nat), i < j → j < n → ((List.range n).map (swp f i j)).Perm ((List.range n).map f) := by
  intro n
  induction n with
  | zero => intro i j _ h; omega
  | succ n ih =>
    intro i j hij hj
    rw [List.range_succ, List.map_append, List.map_append]
    by_cases hjn : j < n
    · have e : swp f i j n = f n := by unfold swp; rw [if_neg (by omega), if_neg (by omega)]
      simp only [List.map_cons, List.map_nil, e]
      exact (ih i j hij hjn).append_right _
    · have hjn' : j = n := by omega
      subst hjn'
      have e : swp f i j j = f i := by unfold swp; rw [if_neg (by omega), if_pos rfl]
      simp only [List.map_cons, List.map_nil, e]
      have key : ∀ m, i < m → m ≤ j → ((List.range m).map (swp f i j) ++ [f i]).Perm ((List.range m).map f ++ [f j]) := by
        intro m
        induction m with
        | zero => intro h; omega
        | succ m ihm =>
          intro h1 h2
          rw [List.range_succ, List.map_append, List.map_append]
          simp only [List.map_cons, List.map_nil, List.append_assoc]
          by_cases him : i < m
          · have e2 : swp f i j m = f m := by unfold swp; rw [if_neg (by omega), if_neg (by omega)]
            rw [e2]
            have h3 := ihm him (by omega)
            have s1 : ([f m] ++ [f i]).Perm ([f i] ++ [f m]) := List.perm_append_comm
            have s2 : ([f j] ++ [f m]).Perm ([f m] ++ [f j]) := List.perm_append_comm
            refine (s1.append_left _).trans ?_
            refine List.Perm.trans ?_ (s2.append_left _)
            rw [← List.append_assoc, ← List.append_assoc]
            exact h3.append_right _
          · have him' : m = i := by omega
            subst him'
            have e2 : swp f m j m = f j := by unfold swp; rw [if_pos rfl]
            rw [e2]
            have e3 : (List.range m).map (swp f m j) = (List.range m).map f := by
              apply List.map_congr_left
              intro k hk
              have := List.mem_range.1 hk
              unfold swp
              rw [if_neg (by omega), if_neg (by omega)]
            rw [e3]
            exact List.perm_append_comm.append_left _
      exact key j hij (Nat.le_refl _)
theorem swp_comm (f : Nat → α) (i j : Nat) : swp f i j = swp f j i := by
  funext k
  unfold swp
  by_cases h1 : k = i <;> by_cases h2 : k = j <;> simp_all
theorem swp_self (f : Nat → α) (i : Nat) : swp f i i = f := by
  funext k
  unfold swp
  by_cases h1 : k = i <;> simp_all
theorem Sw.perm {a b n : Nat} {f g : Nat → α} (x : Sw a b f g) (hb : b ≤ n) : ((List.range n).map g).Perm ((List.range n).map f) := by
  induction x with
  | refl => exact .refl _
  | @step g i j _ hi hj ih =>
    refine List.Perm.trans ?_ ih
    rcases Nat.lt_trichotomy i j with h | h | h
    · exact map_set_swap g n i j h (by omega)
    · subst h
      rw [swp_self]
    · rw [swp_comm]
      exact map_set_swap g n j i h (by omega)

/-- A test that orders: 'less' of a total preorder. -/
structure Ord (lt : α → α → Prop) : Prop where
  asym : ∀ x y, lt x y → ¬ lt y x
  trans : ∀ x y z, ¬ lt y x → ¬ lt z y → ¬ lt z x

variable {lt : α → α → Prop}
def Srt (lt : α → α → Prop) (f : Nat → α) (a b : Nat) : Prop := ∀ i j, a ≤ i → i < j → j < b → ¬ lt (f j) (f i)

theorem Srt.sub {f : Nat → α} {a b a' b' : Nat} (h : Srt lt f a b) (ha : a ≤ a') (hb : b' ≤ b) : Srt lt f a' b' := fun i j h1 h2 h3 => h i j (by omega) h2 (by omega)
theorem Srt.congr {f g : Nat → α} {a b : Nat} (h : Srt lt f a b) (e : ∀ k, a ≤ k → k < b → g k = f k) : Srt lt g a b := fun i j h1 h2 h3 => by
  rw [e i (by omega) (by omega), e j (by omega) (by omega)]
  exact h i j h1 h2 h3
theorem Srt.short {f : Nat → α} {a b : Nat} (h : b ≤ a + 1) : Srt lt f a b := fun i j h1 h2 h3 => by omega
/-! Insertion. -/
/-- The run's element stands at j; all others of [a, i] are in order, those behind j above it. -/
structure Ins (lt : α → α → Prop) (f : Nat → α) (a i j : Nat) : Prop where
  le : a ≤ j ∧ j ≤ i
  srt : ∀ x y, a ≤ x → x < y → y ≤ i → x ≠ j → y ≠ j → ¬ lt (f y) (f x)
  up : ∀ y, j < y → y ≤ i → ¬ lt (f y) (f j)
theorem Ins.first {f : Nat → α} {a i : Nat} (h : Srt lt f a i) (hi : a ≤ i) : Ins lt f a i i := ⟨⟨hi, Nat.le_refl _⟩, fun x y h1 h2 h3 _ h5 => h x y h1 h2 (by omega), fun y h1 h2 => by omega⟩
theorem Ins.step (o : Ord lt) {f : Nat → α} {a i j : Nat} (h : Ins lt f a i j) (hj : a < j) (hl : lt (f j) (f (j - 1))) : Ins lt (swp f j (j - 1)) a i (j - 1) := by
  have e1 : swp f j (j - 1) (j - 1) = f j := by unfold swp; rw [if_neg (by omega), if_pos rfl]
  have e2 : swp f j (j - 1) j = f (j - 1) := by unfold swp; rw [if_pos rfl]
  have e3 : ∀ k, k ≠ j → k ≠ j - 1 → swp f j (j - 1) k = f k := fun k h1 h2 => by unfold swp; rw [if_neg h1, if_neg h2]
  have := h.le
  refine ⟨⟨by omega, by omega⟩, fun x y h1 h2 h3 h4 h5 => ?_, fun y h1 h2 => ?_⟩
  · by_cases hx : x = j
    · subst hx
      rw [e2, e3 y (by omega) (by omega)]
      exact h.srt (x - 1) y (by omega) (by omega) h3 (by omega) (by omega)
    · by_cases hy : y = j
      · subst hy
        rw [e2, e3 x (by omega) h4]
        exact h.srt x (y - 1) h1 (by omega) (by omega) hx (by omega)
      · rw [e3 x hx h4, e3 y hy h5]
        exact h.srt x y h1 h2 h3 hx hy
  · rw [e1]
    by_cases hy : y = j
    · subst hy
      rw [e2]
      exact o.asym _ _ hl
    · rw [e3 y hy (by omega)]
      exact h.up y (by omega) h2
theorem Ins.done (o : Ord lt) {f : Nat → α} {a i j : Nat} (h : Ins lt f a i j) (hs : j = a ∨ ¬ lt (f j) (f (j - 1))) : Srt lt f a (i + 1) := by
  intro x y h1 h2 h3
  have := h.le
  by_cases hx : x = j
  · subst hx
    exact h.up y h2 (by omega)
  · by_cases hy : y = j
    · subst hy
      rcases hs with hs | hs
      · omega
      · by_cases hx1 : x = y - 1
        · rw [hx1]; exact hs
        · exact o.trans _ _ _ (h.srt x (y - 1) h1 (by omega) (by omega) hx (by omega)) hs
    · exact h.srt x y h1 h2 (by omega) hx hy

/-! Ranges exchanged; rotation. -/
/-! The merge where one side has one element. -/
/-! The general merge. -/
end

end Go.Proofs.YtefifkleamiabaaGreatDoor

namespace Go.Proofs.YtefifkleamiabaaGreatDoor
open Go.RowKit Go.Sort

/-- A world that differs from w above its heap alone. -/
structure BelW (w : World) where
  v : World
  h : Below w.heap.size w v
instance {w : World} : Inhabited (BelW w) := ⟨⟨w, Below.refl _ _⟩⟩
theorem wp_region_quiet_bel {P : Program} {id : Nat} {Q : Exit → Act → World → Prop} {a : Act} {w : World} {l : List Oper} (hm : P.follows .mixedOrders = true) (hB : Region.lexB .any l.toArray = true)
    (h : wpQuiet P l.toArray (fun w' => ∃ p : BelW w, w' = p.v) (fun a' => ∀ w', (∃ p : BelW w, w' = p.v) → Q .normal a' w') l a) : (Code.region id l.toArray true).wp P Q a w :=
  wp_region_quiet (C := fun w' => ∃ p : BelW w, w' = p.v) hm hB ⟨⟨w.drew, (Below.refl _ _).drew⟩, rfl⟩ (by simpa using h)

theorem grown_below {a w w' : World} {g : Option Nat} (h : a.grownBy w g) (hb : Below w.heap.size w w') : a.grownBy w' g :=
  ⟨hb.os.trans h.os, hb.tape.trans h.tape, hb.output.trans h.output, Nat.le_trans h.size hb.size, fun k hk hne => (hb.block k (Nat.lt_of_lt_of_le hk h.size)).trans (h.block k hk hne)⟩
theorem grown_setCell {a w : World} {g : Nat} (h : a.grownBy w (some g)) (i : Nat) (u : Value) : a.grownBy (w.setCell ⟨g, i, none⟩ u) (some g) :=
  ⟨h.os, h.tape, h.output, by simpa [World.setCell] using h.size, fun k hk hne => (Below.heap_setCell _ _ _ _ (fun e => hne (by rw [e]))).trans (h.block k hk hne)⟩
def Key.v (k : Key) : Value := .slice k.A k.row.length k.c
/-- The rows f 0, .., f (n-1) lie at the head of block g; nothing else that was there in w0 has turned. -/
structure KB (w0 : World) (g n : Nat) (w : World) (f : Nat → Key) : Prop where
  only : w0.grownBy w (some g)
  blk : ∃ arr, w.heap[g]? = some (.cells arr 48 (0, 0)) ∧ ∀ i, i < n → arr[i]? = some (f i).v
theorem KB.cell {w0 w : World} {g n : Nat} {f : Nat → Key} (h : KB w0 g n w f) {i : Nat} (hi : i < n) : w.cell? ⟨g, i, none⟩ = some (.slice (f i).A (f i).row.length (f i).c) := by
  obtain ⟨arr, hb, hc⟩ := h.blk
  rw [cell_of_row _ g _ _ _ (0, 0) hb]
  exact hc i hi
theorem KB.frozen {w0 w : World} {g n : Nat} {f : Nat → Key} (h : KB w0 g n w f) (i : Nat) : w.frozen? ⟨g, i, none⟩ = false := by
  obtain ⟨arr, hb, hc⟩ := h.blk
  exact frozen_of_row w g i arr _ hb
theorem KB.lt {w0 w : World} {g n : Nat} {f : Nat → Key} (h : KB w0 g n w f) : g < w.heap.size := by
  obtain ⟨arr, hb, _⟩ := h.blk
  exact (Array.getElem?_eq_some_iff.1 hb).1
theorem KB.below {w0 w w' : World} {g n : Nat} {f : Nat → Key} (h : KB w0 g n w f) (hb : Below w.heap.size w w') : KB w0 g n w' f := by
  have hl := h.lt
  obtain ⟨arr, hg, hc⟩ := h.blk
  exact ⟨grown_below h.only hb, arr, (hb.block g hl).trans hg, hc⟩
theorem KB.drew {w0 w : World} {g n : Nat} {f : Nat → Key} (h : KB w0 g n w f) : KB w0 g n w.drew f := h.below (Below.refl _ _).drew
theorem KB.put {w0 w : World} {g n i : Nat} {f : Nat → Key} (h : KB w0 g n w f) (hi : i < n) (r : Key) : KB w0 g n (w.setCell ⟨g, i, none⟩ r.v) (fun x => if x = i then r else f x) := by
  obtain ⟨arr, hb, hc⟩ := h.blk
  have hsz : i < arr.size := (Array.getElem?_eq_some_iff.1 (hc i hi)).1
  refine ⟨grown_setCell h.only _ _, arr.setIfInBounds i r.v, heap_setCell_same _ g _ _ _ _ hb, fun j hj => ?_⟩
  by_cases hji : j = i
  · subst hji
    rw [if_pos rfl]
    simp [hsz]
  · rw [if_neg hji, Array.getElem?_setIfInBounds_ne (by omega)]
    exact hc j hj
theorem KB.swap {w0 w : World} {g n i j : Nat} {f : Nat → Key} {ri rj : Key} (h : KB w0 g n w f) (hi : i < n) (hj : j < n) (ei : f i = ri) (ej : f j = rj) : KB w0 g n ((w.setCell ⟨g, i, none⟩ (.slice rj.A rj.row.length rj.c)).setCell ⟨g, j, none⟩ (.slice ri.A ri.row.length ri.c)) (swp f i j) := by
  subst ei ej
  have h2 := (h.put hi (f j)).put hj (f i)
  have e : (fun x => if x = j then f i else if x = i then f j else f x) = swp f i j := by
    funext x
    unfold swp
    (repeat' split) <;> first | rfl | (subst_vars; rfl)
  rw [e] at h2
  exact h2

/-- A comparison of rows by contract, whatever block g holds. -/
structure CmpC (w0 : World) (g : Nat) (fid : FuncId) (caps : Array Value) (kid : Key → Int) (M : Key → Prop) : Prop where
  ent : ∀ (args : Array Value) (w : World), (callFunc fid args).run Tryz.prog w = .ok (.enter fid args) w
  run : ∀ (x y : Key) (W : World), w0.grownBy W (some g) → M x → M y → Calls Tryz.prog fid (#[.slice x.A x.row.length x.c, .slice y.A y.row.length y.c] ++ caps) W fun e w' => e = .returned (.int .i64 (c1 (kid x) (kid y))) ∧ Below W.heap.size W w'
def klt (kid : Key → Int) (x y : Key) : Prop := kid x < kid y
theorem klt_ord (kid : Key → Int) : Ord (klt kid) := ⟨fun x y h1 h2 => by unfold klt at *; omega, fun x y z h1 h2 => by unfold klt at *; omega⟩
theorem c1_neg (x y : Int) : c1 x y < 0 ↔ x < y := by
  unfold c1
  split
  · omega
  · split <;> omega

set_option maxRecDepth 100000 in
set_option maxHeartbeats 4000000 in
theorem insertionK (w0 : World) (g n c b : Nat) (f : Nat → Key) (w : World) {fid : FuncId} {caps : Array Value} {kid : Key → Int} {M : Key → Prop} (hT : CmpC w0 g fid caps kid M) (hM : ∀ k, k < n → M (f k)) (h : KB w0 g n w f) (hb : b ≤ n) (hn : n ≤ 1000) :
    Calls Tryz.prog 122 #[.slice (some ⟨g, 0, none⟩) n c, .int .i64 0, .int .i64 (b : Int), .func (.func fid) #[] caps] w fun e w' => e = .returned (.tuple #[]) ∧ ∃ f', KB w0 g n w' f' ∧ Sw 0 b f f' ∧ Srt (klt kid) f' 0 b := by
  have H0 := Lib.hid h
  have HM := Lib.hid hM
  have HT := Lib.hid hT
  have hent := hT.ent
  clear h hM hT
  go_enter Tryz.func122, Tryz.ntmps122
  go_wp2_with fail
  go_loopw [8] (fun vi wr => ∃ (i : Nat) (h : Nat → Key), vi = .int .i64 (i : Int) ∧ 1 ≤ i ∧ i ≤ b + 1 ∧ KB w0 g n wr h ∧ Sw 0 b f h ∧ Srt (klt kid) h 0 i) (fun vi _ => b + 1 - (intOf vi).toNat)
  case atStart => exact ⟨1, f, by go_num, by omega, by omega, H0.out, .refl, Srt.short (by omega)⟩
  case round =>
    obtain ⟨i, h, rfl, hi1, hi2, hs, hsw, hsr⟩ := hrel
    clear H0
    have HS := Lib.hid hs
    have HSW := Lib.hid hsw
    have HSR := Lib.hid hsr
    clear hs hsw hsr
    by_cases hlt : i < b
    · go_wp2_with fail
      go_loopw [9] (fun vj wr => ∃ (j : Nat) (h : Nat → Key), vj = .int .i64 (j : Int) ∧ j ≤ i ∧ KB w0 g n wr h ∧ Sw 0 b f h ∧ Ins (klt kid) h 0 i j) (fun vj _ => (intOf vj).toNat)
      case atStart => exact ⟨i, h, rfl, Nat.le_refl _, HS.out, HSW.out, Ins.first HSR.out (by omega)⟩
      case round =>
        obtain ⟨j, h, rfl, hji, hs, hsw, hin⟩ := hrel
        clear HS HSW HSR
        have HSW := Lib.hid hsw
        have HIN := Lib.hid hin
        clear hsw hin
        have hg := hs.lt
        by_cases hja : 0 < j
        · obtain ⟨p, rfl⟩ : ∃ p, j = p + 1 := ⟨j - 1, by omega⟩
          have c0 : ∀ q : BelW wr, q.v.cell? ⟨g, p + 1, none⟩ = _ := fun q => (hs.below q.h).cell (i := p + 1) (by omega)
          have d0 : ∀ q : BelW wr, q.v.cell? ⟨g, p, none⟩ = _ := fun q => (hs.below q.h).cell (i := p) (by omega)
          have hmm : ∀ k, k < n → M (h k) := fun k hk => by
            have := HSW.out.mono (Nat.zero_le 0) hb
            exact this.all (p := M) (fun k _ hk => HM.out k hk) k (Nat.zero_le _) hk
          have HC : Hid (∀ q : BelW wr, Calls Tryz.prog fid (#[.slice (h (p + 1)).A (h (p + 1)).row.length (h (p + 1)).c, .slice (h p).A (h p).row.length (h p).c] ++ caps) q.v fun e w' => e = .returned (.int .i64 (c1 (kid (h (p + 1))) (kid (h p)))) ∧ ∃ q' : BelW wr, w' = q'.v) := Lib.hid fun q =>
            (HT.out.run (h (p + 1)) (h p) q.v (grown_below hs.only q.h) (hmm _ (by omega)) (hmm _ (by omega))).mono fun e w' hh => ⟨hh.1, ⟨w', q.h.trans (hh.2.mono q.h.size)⟩, rfl⟩
          have HS := Lib.hid hs
          clear hs hmm
          have HRX := Lib.hid (show klt kid (h (p + 1)) (h p) ↔ c1 (kid (h (p + 1))) (kid (h p)) < 0 from (c1_neg _ _).symm)
          have y1 : decide ((0 : Int) < (p : Int) + 1) = true := decide_eq_true (by omega)
          have y2 : IntKind.i64.wrap (p : Int) = (p : Int) := by rw [IntKind.wrap_i64]; omega
          have y3 : (0 : Int) ≤ (p : Int) + 1 := by omega
          have y4 : (p : Int) + 1 < (n : Int) := by omega
          have y5 : (p : Int) < (n : Int) := by omega
          have y6 : ((p : Int) + 1).toNat = p + 1 := by omega
          generalize hcv : c1 (kid (h (p + 1))) (kid (h p)) = cv at *
          clear hcv
          go_wp2_with fail
          refine wp_region_quiet_bel mixed (by kernel_rfl) ?_
          repeat (quiet_step (exact HC.out _))
          refine wpQuiet_nil ?_
          intro _ hw'
          obtain ⟨⟨wq, hbq⟩, hw''⟩ := hw'
          subst hw''
          have HS2 := Lib.hid (HS.out.below hbq)
          clear c0 d0 HC HS hbq hg
          by_cases hlv : cv < 0
          · have c0 := HS2.out.cell (i := p + 1) (by omega)
            have d0 := HS2.out.cell (i := p) (by omega)
            have fz := fun i => HS2.out.frozen i
            have HSW2 := Lib.hid (HS2.out.swap (i := p + 1) (j := p) (by omega) (by omega) rfl rfl)
            have HIN2 := Lib.hid (HIN.out.step (klt_ord kid) hja (HRX.out.2 hlv))
            have HSS := Lib.hid (HSW.out.step (i := p + 1) (j := p) ⟨by omega, by omega⟩ ⟨by omega, by omega⟩)
            clear HS2 HRX HIN HSW
            have y7 : decide (cv < 0) = true := decide_eq_true hlv
            generalize (h (p + 1)) = ra at *
            generalize (h p) = rb at *
            go_wp2_with fail
            go_region
            go_wp2_with fail
            go_roundw
            case rel => exact ⟨p, _, by go_num, by omega, HSW2.out.drew, HSS.out, HIN2.out⟩
            case measure => simp [intOf]
          · have HD := Lib.hid (HIN.out.done (klt_ord kid) (.inr (fun hr => hlv (HRX.out.1 hr))))
            have y7 : decide (cv < 0) = false := decide_eq_false hlv
            go_wp2_with fail
            go_roundw
            case rel => exact ⟨i + 1, h, by go_num, by omega, by omega, HS2.out, HSW.out, HD.out⟩
            case measure => simp [intOf]; omega
        · have hj : j = 0 := by omega
          subst hj
          have HD := Lib.hid (HIN.out.done (klt_ord kid) (.inl rfl))
          have y1 : decide ((0 : Int) < (0 : Int)) = false := decide_eq_false (by omega)
          have HS2 := Lib.hid fun k => hs.below (below_drewN (Below.refl _ _) k)
          clear hs
          go_wp2_with fail
          go_quiet (fail)
          go_wp2_with fail
          go_roundw
          case rel => exact ⟨i + 1, h, by go_num, by omega, by omega, HS2.out _, HSW.out, HD.out⟩
          case measure => simp [intOf]; omega
    · go_wp2_with fail
      go_end0
      exact ⟨rfl, h, HS.out, HSW.out, HSR.out.sub (Nat.le_refl _) (by omega)⟩
end Go.Proofs.YtefifkleamiabaaGreatDoor

namespace Go.Proofs.YtefifkleamiabaaGreatDoor
open Go.RowKit Go.Sort

set_option maxRecDepth 100000 in
set_option maxHeartbeats 4000000 in
theorem stableK (w0 : World) (g n c : Nat) (f : Nat → Key) (w : World) {fid : FuncId} {caps : Array Value} {kid : Key → Int} {M : Key → Prop} (hT : CmpC w0 g fid caps kid M) (hM : ∀ k, k < n → M (f k)) (h : KB w0 g n w f) (hn : n < 20) :
    Calls Tryz.prog 99 #[.slice (some ⟨g, 0, none⟩) n c, .int .i64 (n : Int), .func (.func fid) #[] caps] w fun e w' => e = .returned (.tuple #[]) ∧ ∃ f', KB w0 g n w' f' ∧ Sw 0 n f f' ∧ Srt (klt kid) f' 0 n := by
  have HC := Lib.hid (insertionK w0 g n c n f w hT hM h (Nat.le_refl _) (by omega))
  clear h hM hT
  have y1 : ¬ (20 : Int) ≤ (n : Int) := by omega
  have y2 : ¬ (20 : Int) < (n : Int) := by omega
  go_enter Tryz.func99, Tryz.ntmps99
  go_wp2_with fail
  go_loopw [7, 8] (fun va vb wr => va = .int .i64 0 ∧ vb = .int .i64 20 ∧ w = wr) (fun _ _ _ => 0)
  case atStart => exact ⟨rfl, rfl, rfl⟩
  case round =>
    obtain ⟨rfl, rfl, rfl⟩ := hrel
    go_wp2_with fail
    refine HC.out.mono ?_
    rintro e w1 ⟨rfl, f1, h1, h2, h3⟩
    have H1 := Lib.hid (And.intro h1 (And.intro h2 h3))
    clear h1 h2 h3
    go_wp2_with fail
    go_loopw [6] (fun va wr => va = .int .i64 20 ∧ w1 = wr) (fun _ _ => 0)
    case atStart => exact ⟨rfl, rfl⟩
    case round =>
      obtain ⟨rfl, rfl⟩ := hrel
      go_wp2_with fail
      go_end0
      exact ⟨rfl, f1, H1.out⟩

set_option maxRecDepth 100000 in
theorem sortStableK (w0 : World) (g n c : Nat) (f : Nat → Key) (w : World) {fid : FuncId} {caps : Array Value} {kid : Key → Int} {M : Key → Prop} (hT : CmpC w0 g fid caps kid M) (hM : ∀ k, k < n → M (f k)) (h : KB w0 g n w f) (hn : n < 20) :
    Calls Tryz.prog 64 #[.slice (some ⟨g, 0, none⟩) n c, .func (.func fid) #[] caps] w fun e w' => e = .returned (.tuple #[]) ∧ ∃ f', KB w0 g n w' f' ∧ Sw 0 n f f' ∧ Srt (klt kid) f' 0 n := by
  have HC := Lib.hid (stableK w0 g n c f w hT hM h hn)
  clear h hM hT
  go_enter Tryz.func64, Tryz.ntmps64
  go_wp2_with fail
  refine HC.out.mono ?_
  rintro e w1 ⟨rfl, h1, hs1, hsw1, hsr1⟩
  go_wp2_with fail
  go_end0
  exact ⟨rfl, h1, hs1, hsw1, hsr1⟩

set_option maxRecDepth 100000 in
theorem insertion0 (v fn : Value) (w : World) :
    Calls Tryz.prog 122 #[v, .int .i64 0, .int .i64 0, fn] w fun e w' => e = .returned (.tuple #[]) ∧ w = w' := by
  go_enter Tryz.func122, Tryz.ntmps122
  go_wp2_with fail
  go_loopw [8] (fun vi wr => vi = .int .i64 1 ∧ w = wr) (fun _ _ => 0)
  case atStart => exact ⟨rfl, rfl⟩
  case round =>
    obtain ⟨rfl, rfl⟩ := hrel
    go_wp2_with fail
    go_end0
    exact ⟨rfl, rfl⟩

set_option maxRecDepth 100000 in
theorem stable0 (v fn : Value) (w : World) :
    Calls Tryz.prog 99 #[v, .int .i64 0, fn] w fun e w' => e = .returned (.tuple #[]) ∧ w = w' := by
  have HC := Lib.hid (insertion0 v fn w)
  go_enter Tryz.func99, Tryz.ntmps99
  go_wp2_with fail
  go_loopw [7, 8] (fun va vb wr => va = .int .i64 0 ∧ vb = .int .i64 20 ∧ w = wr) (fun _ _ _ => 0)
  case atStart => exact ⟨rfl, rfl, rfl⟩
  case round =>
    obtain ⟨rfl, rfl, rfl⟩ := hrel
    go_wp2_with fail
    refine HC.out.mono ?_
    rintro e w1 ⟨rfl, h1⟩
    subst h1
    go_wp2_with fail
    go_loopw [6] (fun va wr => va = .int .i64 20 ∧ w = wr) (fun _ _ => 0)
    case atStart => exact ⟨rfl, rfl⟩
    case round =>
      obtain ⟨rfl, rfl⟩ := hrel
      go_wp2_with fail
      go_end0
      exact ⟨rfl, rfl⟩

set_option maxRecDepth 100000 in
theorem sortStable0 (A : Option Addr) (c : Nat) (fn : Value) (w : World) :
    Calls Tryz.prog 64 #[.slice A 0 c, fn] w fun e w' => e = .returned (.tuple #[]) ∧ w = w' := by
  have HC := Lib.hid (stable0 (.slice A 0 c) fn w)
  go_enter Tryz.func64, Tryz.ntmps64
  go_wp2_with fail
  refine HC.out.mono ?_
  rintro e w1 ⟨rfl, rfl⟩
  go_wp2_with fail
  go_end0
  exact ⟨rfl, rfl⟩

set_option maxRecDepth 100000 in
theorem cloneKey (A : Option Addr) (n c : Nat) (xs : List Key) (w : World) (S : Nat → Prop) (hx : Elems 1 Key.cs w S A xs) (hS : ∀ k, S k → k < w.heap.size) (hn : n = xs.length) (hs : xs.length ≤ 100000) :
    Calls Tryz.prog 34 #[.slice A n c] w fun e w' => ∃ v, e = .returned v ∧ Own 1 Key.cs 48 w.heap.size w' v xs ∧ Below w.heap.size w w' := by
  have hnil := fun W => Lib.run_eql_slice_nil (P := Tryz.prog) W 76 48 A n c 0 0 Tryz.underlying76
  cases A with
  | none =>
    have h0 : xs = [] := by
      rcases Nat.eq_zero_or_pos xs.length with h | h
      · exact List.eq_nil_of_length_eq_zero h
      · obtain ⟨_, _, h', _⟩ := hx h; cases h'
    subst h0
    simp only [Option.isNone_none, List.length_nil] at hnil hn
    subst hn
    go_enter Tryz.func34, Tryz.ntmps34
    go_wp2_with fail
    go_ret
    exact ⟨_, rfl, Own.nil _, Below.refl _ _⟩
  | some a =>
    simp only [Option.isNone_some] at hnil
    have HX := Lib.hid (hx.keep (w' := w.alloc (.cells #[] 48)) fun k hk => Below.heap_alloc _ _ _ (hS k hk))
    have hB : w.heap.size ≤ (w.alloc (.cells #[] 48)).heap.size := by simp
    have H1 : Hid ((([] : List Key).length + xs.length) * 24 ≤ 140737488355328) := Lib.hid (by simp; omega)
    have H2 : Hid (([] : List Key).length + xs.length ≤ maxLen) := Lib.hid (by unfold maxLen; simp; omega)
    have HN := Lib.hid hn
    clear hx hs hn
    go_enter Tryz.func34, Tryz.ntmps34
    go_wp2_with (at_builtin; refine wpList_app rfl (.tmp 5) (.tmp 6) _ _ rfl rfl rfl (run_pushs elem_keys keyLay _ (w.alloc (.cells #[] 48)) _ ([] : List Key) (Own.lit0 w) HX.out HN.out H1.out H2.out hB) ?_; rintro v1 w1 ⟨ho1, hx1⟩)
    go_ret
    exact ⟨_, rfl, by simpa using ho1, ((Below.refl _ _).alloc (Nat.le_refl _) _).trans (hx1.below (base := w.heap.size) (by simp) (fun g hg => Nat.le_of_eq (Option.some.inj hg)))⟩

/-- Block B holds the table. -/
def BoxT (B : Nat) (t : Tbl) (W : World) : Prop := W.cell? ⟨B, 0, none⟩ = some (.string t.name) ∧ W.cell? ⟨B, 1, none⟩ = some (.slice t.CA t.cols.length t.cc) ∧ W.cell? ⟨B, 2, none⟩ = some (.slice t.PA t.pk.length t.pc)
theorem BoxT.below {B : Nat} {t : Tbl} {W W' : World} (h : BoxT B t W) (hB : B < W.heap.size) (hb : Below W.heap.size W W') : BoxT B t W' :=
  ⟨(hb.cell (p := ⟨B, 0, none⟩) hB).trans h.1, (hb.cell (p := ⟨B, 1, none⟩) hB).trans h.2.1, (hb.cell (p := ⟨B, 2, none⟩) hB).trans h.2.2⟩

def ScK (B : Nat) (t : Tbl) (w : World) (tv yv : Value) (z : Int) (e : Ending) (w2 : World) : Prop :=
  ∃ A2 c2, e = .returned (.slice A2 1 c2) ∧ BoxT B t w2 ∧ Hid (Calls Tryz.prog 25 #[tv, yv] w2 fun e w3 => ∃ A3 c3, e = .returned (.slice A3 1 c3) ∧ BoxT B t w3
    ∧ Hid (Calls Tryz.prog 58 #[.slice A2 1 c2, .slice A3 1 c3] w3 fun e w4 => e = .returned (.int .i64 z) ∧ BoxT B t w4 ∧ Below w.heap.size w w4))

theorem scK (B : Nat) (t : Tbl) (x y : Key) (a b : Int) (w : World) (m : Nat) (hB : B < w.heap.size) (hbx : BoxT B t w) (ht : TOk (· < w.heap.size) w t) (hx : KOk (· < w.heap.size) w x) (hy : KOk (· < w.heap.size) w y) (ha : keyOf t.pk x.row = ik a) (hb : keyOf t.pk y.row = ik b) (hp : t.pk.length ≤ 12) :
    Calls Tryz.prog 25 #[t.val, .slice x.A x.row.length x.c] (w.drewN m) (ScK B t w t.val (.slice y.A y.row.length y.c) (c1 a b)) := by
  have hd : Below w.heap.size w (w.drewN m) := below_drewN (Below.refl _ _) m
  refine (keyOfB t x.A x.c x.row (w.drewN m) (ht.on hd) (hx.on hd).el (by omega)).mono ?_
  rintro e w2 ⟨v2, rfl, ho2, hb2⟩
  rw [ha] at ho2
  obtain ⟨A2, c2, rfl, -, -⟩ := ho2.form
  have hb02 := hd.trans (hb2.mono hd.size)
  refine ⟨A2, c2, rfl, hbx.below hB hb02, Lib.hid ?_⟩
  refine (keyOfB t y.A y.c y.row w2 (ht.on hb02) (hy.on hb02).el (by omega)).mono ?_
  rintro e w3 ⟨v3, rfl, ho3, hb3⟩
  rw [hb] at ho3
  obtain ⟨A3, c3, rfl, -, -⟩ := ho3.form
  have hb03 := hb02.trans (hb3.mono hb02.size)
  refine ⟨A3, c3, rfl, hbx.below hB hb03, Lib.hid ?_⟩
  have e2 : Elems 3 Val.cs w3 (· < w3.heap.size) A2 (ik a) := ((ho2.below hb3).elems valLay.len rfl).more fun g hg => (Own.lt (ho2.below hb3) g hg).2
  have e3 : Elems 3 Val.cs w3 (· < w3.heap.size) A3 (ik b) := (ho3.elems valLay.len rfl).more fun g hg => (Own.lt ho3 g hg).2
  refine (rCmp1 A2 A3 c2 c3 a b w3 e2 e3).mono ?_
  rintro e w4 ⟨rfl, hb4⟩
  have hb04 := hb03.trans (hb4.mono hb03.size)
  exact ⟨rfl, hbx.below hB hb04, hb04⟩

set_option maxRecDepth 100000 in
set_option maxHeartbeats 8000000 in
theorem sortRows1 (B : Nat) (t : Tbl) (x y : Key) (a b : Int) (w : World) (hB : B < w.heap.size) (hbx : BoxT B t w) (ht : TOk (· < w.heap.size) w t) (hx : KOk (· < w.heap.size) w x) (hy : KOk (· < w.heap.size) w y) (ha : keyOf t.pk x.row = ik a) (hb : keyOf t.pk y.row = ik b) (hp : t.pk.length ≤ 12) :
    Calls Tryz.prog 65 #[.slice x.A x.row.length x.c, .slice y.A y.row.length y.c, .pointer (some ⟨B, 0, none⟩)] w fun e w' => e = .returned (.int .i64 (c1 a b)) ∧ Below w.heap.size w w' := by
  have HC := Lib.hid (scK B t x y a b w 1 hB hbx ht hx hy ha hb hp)
  unfold Tbl.val BoxT at *
  have s0 := hbx
  clear hB ht hx hy ha hb hp hbx
  generalize c1 a b = cv at *
  go_enter Tryz.func65, Tryz.ntmps65
  go_upto_region 1 with fail
  go_region_held3 (fun W => W.cell? ⟨B, 0, none⟩ = some (.string t.name) ∧ W.cell? ⟨B, 1, none⟩ = some (.slice t.CA t.cols.length t.cc) ∧ W.cell? ⟨B, 2, none⟩ = some (.slice t.PA t.pk.length t.pc)) (first | exact s0 | exact s4 | exact s3 | exact s2)
    (first
    | (go_at_call 58; refine HK3.out.mono ?_; rintro e w4 ⟨rfl, s4, hb4⟩)
    | (go_at_call 25; refine HK2.out.mono ?_; rintro e w3 ⟨A3, c3, rfl, s3, HK3⟩)
    | (go_at_call 25; refine HC.out.mono ?_; rintro e w2 ⟨A2, c2, rfl, s2, HK2⟩))
  all_goals
    have HF := Lib.hid hb4
    clear hb4 s4
    go_wp2_with fail
    go_ret
    exact ⟨rfl, HF.out⟩
end Go.Proofs.YtefifkleamiabaaGreatDoor

namespace Go.Proofs.YtefifkleamiabaaGreatDoor
open Go.RowKit Go.Sort

def key0 : Key := ⟨none, 0, []⟩
/-- The keys' integers do not fall. -/
def SrtL (kid : Key → Int) (ks : List Key) : Prop := ∀ i j (hi : i < ks.length) (hj : j < ks.length), i < j → kid ks[i] ≤ kid ks[j]
theorem range_getD (ks : List Key) : (List.range ks.length).map (fun i => ks.getD i key0) = ks := by
  apply List.ext_getElem
  · simp
  · intro i h1 h2
    simp [List.getD_eq_getElem?_getD, List.getElem?_eq_getElem h2]

set_option maxRecDepth 100000 in
set_option maxHeartbeats 8000000 in
theorem rSortRows (t : Tbl) (A : Option Addr) (c : Nat) (ks : List Key) (kid : Key → Int) (w : World) (ht : TOk (· < w.heap.size) w t) (hx : RsOk (· < w.heap.size) w A ks) (hk : ∀ k ∈ ks, keyOf t.pk k.row = ik (kid k)) (hl : ks.length < 20) (hp : t.pk.length ≤ 12) :
    Calls Tryz.prog 36 #[t.val, .slice A ks.length c] w fun e w' => ∃ A' c' ks', e = .returned (.slice A' ks.length c') ∧ ks'.Perm ks ∧ SrtL kid ks' ∧ Elems 1 Key.cs w' (fun g => w.heap.size ≤ g ∧ g < w'.heap.size) A' ks' ∧ Below w.heap.size w w' := by
  obtain ⟨n, hn⟩ : ∃ n, ks.length = n := ⟨_, rfl⟩
  obtain ⟨w1, hw1⟩ : ∃ w1, w1 = w.alloc (.cells #[.string t.name, .slice t.CA t.cols.length t.cc, .slice t.PA t.pk.length t.pc] 71) := ⟨_, rfl⟩
  have hb1 : Below w.heap.size w w1 := by rw [hw1]; exact (Below.refl _ _).alloc (Nat.le_refl _) _
  have hg1 : w1.heap[w.heap.size]? = some (.cells #[.string t.name, .slice t.CA t.cols.length t.cc, .slice t.PA t.pk.length t.pc] 71 (0, 0)) := by rw [hw1]; exact heap_alloc_new w _
  have hs1 : w.heap.size < w1.heap.size := by rw [hw1]; simp
  have hbox : BoxT w.heap.size t w1 := ⟨cell_of_row _ _ 0 _ _ _ hg1, cell_of_row _ _ 1 _ _ _ hg1, cell_of_row _ _ 2 _ _ _ hg1⟩
  have hCL := cloneKey A n c ks w1 (· < w1.heap.size) (hx.on hb1).el (fun _ h => h) hn.symm (by omega)
  -- the sort, whatever the clone is
  have hST : ∀ (A2 : Option Addr) (c2 : Nat) (w2 : World), Own 1 Key.cs 48 w1.heap.size w2 (.slice A2 n c2) ks → Below w1.heap.size w1 w2 →
      Calls Tryz.prog 64 #[.slice A2 n c2, .func (.func 65) #[] #[.pointer (some ⟨w.heap.size, 0, none⟩)]] w2 fun e w' => e = .returned (.tuple #[]) ∧ ∃ ks', ks'.Perm ks ∧ SrtL kid ks' ∧ Elems 1 Key.cs w' (fun g => w.heap.size ≤ g ∧ g < w'.heap.size) A2 ks' ∧ Below w.heap.size w w' := by
    intro A2 c2 w2 ho hb2
    have hb02 : Below w.heap.size w w2 := hb1.trans (hb2.mono hb1.size)
    rcases Nat.eq_zero_or_pos n with h0 | h0
    · have hnil : ks = [] := List.eq_nil_of_length_eq_zero (by omega)
      rw [h0]
      refine (sortStable0 A2 c2 _ w2).mono ?_
      rintro e w3 ⟨rfl, rfl⟩
      refine ⟨rfl, [], by rw [hnil], fun i j hi => absurd hi (by simp), fun h => absurd h (by simp), hb02⟩
    · obtain ⟨g, c', cur, hv, hgb, hg, hcl, hcm, hs, htk⟩ := Own.open_ ho (by omega)
      injection hv with e1 e2 e3
      subst e1 e3
      have hgl : g < w2.heap.size := (Array.getElem?_eq_some_iff.1 hg).1
      have hkb : KB w2 g n w2 (fun i => ks.getD i key0) := by
        refine ⟨World.grownBy.refl w2 _, cur, hg, fun i hi => ?_⟩
        have h1 := flatMap_getElem? keyLay.len ks i (ks.getD i key0) (by rw [List.getD_eq_getElem?_getD, List.getElem?_eq_getElem (by omega)]; rfl) 0 (by omega)
        rw [← htk, Nat.mul_one, Nat.add_zero, List.getElem?_take, if_pos (by omega)] at h1
        rw [Array.getElem?_toList, Nat.mul_one] at h1
        exact h1
      have hkeep : ∀ W, w2.grownBy W (some g) → Below w.heap.size w W := fun W hW => hb02.trans (below_of_grown hW (Nat.le_trans (Nat.le_of_lt hs1) hb2.size) (fun g' hg' => by injection hg' with e; omega))
      have hbx2 : ∀ W, w2.grownBy W (some g) → BoxT w.heap.size t W ∧ w.heap.size < W.heap.size := fun W hW => by
        have hB1 : Below w1.heap.size w1 W := hb2.trans (below_of_grown hW hb2.size (fun g' hg' => by injection hg' with e; omega))
        exact ⟨hbox.below hs1 hB1, Nat.lt_of_lt_of_le hs1 hB1.size⟩
      have hT : CmpC w2 g 65 #[.pointer (some ⟨w.heap.size, 0, none⟩)] kid (· ∈ ks) := ⟨fun args W => by kernel_rfl, fun x y W hW hx1 hy1 => by
        have hb := hkeep W hW
        obtain ⟨hbx, hbl⟩ := hbx2 W hW
        exact sortRows1 w.heap.size t x y (kid x) (kid y) W hbl hbx (ht.on hb) ((hx.row x hx1).on hb) ((hx.row y hy1).on hb) (hk x hx1) (hk y hy1) hp⟩
      refine (sortStableK w2 g n c2 _ w2 hT (fun k hkn => ?_) hkb (by omega)).mono ?_
      · show ks.getD k key0 ∈ ks
        rw [List.getD_eq_getElem?_getD, List.getElem?_eq_getElem (by omega)]
        exact List.getElem_mem _
      · rintro e w3 ⟨rfl, f', h1, h2, h3⟩
        have hlen : ((List.range n).map f').length = n := by simp
        have hat : ∀ i (hi : i < ((List.range n).map f').length), ((List.range n).map f')[i] = f' i := fun i hi => by simp
        refine ⟨rfl, (List.range n).map f', ?_, fun i j hi hj hij => ?_, fun hpos => ?_, hkeep w3 h1.only⟩
        · have hpm := h2.perm (n := n) (Nat.le_refl _)
          rw [← hn, range_getD, hn] at hpm
          exact hpm
        · rw [hat i hi, hat j hj]
          have := h3 i j (Nat.zero_le _) hij (by omega)
          unfold klt at this
          omega
        · refine ⟨g, 0, rfl, ⟨by omega, h1.lt⟩, fun i x hi j u hj => ?_⟩
          have hil : i < ((List.range n).map f').length := (List.getElem?_eq_some_iff.1 hi).1
          have hx2 : x = f' i := by
            rw [List.getElem?_eq_getElem hil, hat i hil] at hi
            exact (Option.some.inj hi).symm
          subst hx2
          have hj0 : j < 1 := (List.getElem?_eq_some_iff.1 hj).1
          have : j = 0 := by omega
          subst this
          have hu : u = (f' i).v := (Option.some.inj hj).symm
          subst hu
          have : w3.cell? ⟨g, i, none⟩ = some (f' i).v := h1.cell (i := i) (by omega)
          simpa using this
  have HCL := Lib.hid hCL
  have HST := Lib.hid hST
  have HB1 := Lib.hid hb1
  have HW1 := Lib.hid hw1
  unfold Tbl.val
  rw [hn]
  have HN := Lib.hid hn
  clear ht hx hk hl hp hn hw1 hb1 hg1 hs1 hbox hCL hST
  go_enter Tryz.func36, Tryz.ntmps36
  go_upto_region 1 with fail
  rw [← HW1.out]
  go_wp2_with fail
  refine HCL.out.mono ?_
  rintro e w2 ⟨v2, rfl, ho2, hb2⟩
  obtain ⟨A2, c2, hv2, -, -⟩ := ho2.form
  rw [HN.out] at hv2
  subst hv2
  have HS := Lib.hid (HST.out A2 c2 w2 ho2 hb2)
  clear ho2 hb2
  go_wp2_with fail
  refine HS.out.mono ?_
  rintro e w3 ⟨rfl, ks', h1, h2, h3, h4⟩
  have HF := Lib.hid (And.intro h1 (And.intro h2 (And.intro h3 h4)))
  clear h1 h2 h3 h4
  go_wp2_with fail
  go_ret
  exact ⟨A2, c2, ks', rfl, HF.out⟩
end Go.Proofs.YtefifkleamiabaaGreatDoor
