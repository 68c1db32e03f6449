/-
  The walks of Mod (as a function), intRow, New.
-/
import Derived.Test.YtlgjkhdpinnccaaTput
namespace Go.Proofs.Ytlgjkhdpinnccaa
open Go.RowKit Go.Sort

/-- What Mod answers. -/
def md (k n : Int) : Nat := ((if k < 0 then -(k + 1) else k) % n).toNat
theorem md_lt {k n : Int} (h : 0 < n) : (md k n : Int) < n := by
  unfold md
  have := Int.emod_lt_of_pos (if k < 0 then -(k + 1) else k) h
  have := Int.emod_nonneg (if k < 0 then -(k + 1) else k) (b := n) (by omega)
  omega

set_option maxRecDepth 100000 in
set_option maxHeartbeats 400000 in
theorem modW (k n : Int) (w : World) (hk : -9223372036854775808 ≤ k ∧ k ≤ 9223372036854775807) (h0 : 0 < n) (hn : n ≤ 9223372036854775807) :
    Calls Try.prog 13 #[.int .i64 k, .int .i64 n] w fun e w' => e = .returned (.int .i64 (md k n)) ∧ w = w' := by
  obtain ⟨hk1, hk2⟩ := hk
  by_cases hneg : k < 0
  · have hp : 0 ≤ -(k + 1) := by omega
    have hlt := Int.emod_lt_of_pos (-(k + 1)) h0
    have hge := Int.emod_nonneg (-(k + 1)) (b := n) (by omega)
    have hm : -(k + 1) % n = ((md k n : Nat) : Int) := by unfold md; rw [if_pos hneg]; omega
    have HM := Lib.hid hm
    clear hm
    generalize md k n = m at *
    go_enter Try.func13, Try.ntmps13
    go_wp2_with fail
    go_ret
    exact ⟨ret_int (by rw [← Int.neg_tmod, Int.tmod_eq_emod_of_nonneg hp]; exact HM.out), rfl⟩
  · have hp : 0 ≤ k := by omega
    have hlt := Int.emod_lt_of_pos k h0
    have hge := Int.emod_nonneg k (b := n) (by omega)
    have hm : k % n = ((md k n : Nat) : Int) := by unfold md; rw [if_neg hneg]; omega
    have HM := Lib.hid hm
    clear hm
    generalize md k n = m at *
    go_enter Try.func13, Try.ntmps13
    go_wp2_with fail
    go_ret
    exact ⟨ret_int HM.out, rfl⟩

/-- The row of an integer. -/
def rowOf (k : Int) : Row := [⟨1, md k 1000, ByteArray.empty⟩]
theorem rowOf_ok (k : Int) : rErr (rowOf k) = 0 := by
  have h := md_lt (k := k) (n := 1000) (by omega)
  unfold rowOf
  generalize md k 1000 = m at *
  have hv : Val.err ⟨1, (m : Int), ByteArray.empty⟩ = 0 := by
    show vErr 1 m ByteArray.empty = 0
    unfold vErr
    rw [if_neg (by omega), if_pos (.inl rfl), if_neg (by decide +kernel), if_neg (by omega)]
  show (if 12 < 1 then (2 : Int) else rErrs [⟨1, (m : Int), ByteArray.empty⟩]) = 0
  rw [if_neg (by omega)]
  unfold rErrs
  rw [if_pos hv]
  rfl

set_option maxRecDepth 100000 in
theorem intRowW (k : Int) (w : World) (hk : -9223372036854775808 ≤ k ∧ k ≤ 9223372036854775807) :
    Calls Try.prog 11 #[.int .i64 k] w fun e w' => ∃ A, e = .returned (.slice A 1 1) ∧ Elems 3 Val.cs w' (· < w'.heap.size) A (rowOf k) ∧ (∀ i, (fun i => i < w'.heap.size) i → i < w'.heap.size) ∧ Below w.heap.size w w' := by
  have HM := Lib.hid (modW k 1000 w hk (by omega) (by omega))
  have HE : Hid (∀ W : World, Elems 3 Val.cs (W.alloc (.cells #[.int .i64 1, .int .i64 (md k 1000), .string ByteArray.empty] 54)) (· < (W.alloc (.cells #[.int .i64 1, .int .i64 (md k 1000), .string ByteArray.empty] 54)).heap.size) (some ⟨W.heap.size, 0, none⟩) (rowOf k)) := Lib.hid fun W _ => ⟨W.heap.size, 0, rfl, by simp, fun i x hx j u hu => by
    have hi : i = 0 := by
      have := (List.getElem?_eq_some_iff.1 hx).1
      simp [rowOf] at this
      exact this
    subst hi
    simp [rowOf] at hx
    subst hx
    rw [cell_of_row _ _ _ _ _ (0, 0) (heap_alloc_new W _)]
    simp [Val.cs] at hu
    rw [← hu]
    simp⟩
  clear hk
  generalize hm : md k 1000 = m at *
  clear hm
  go_enter Try.func11, Try.ntmps11
  go_wp2_with fail
  refine HM.out.mono ?_
  rintro e w' ⟨rfl, rfl⟩
  go_wp2_with fail
  go_ret
  exact ⟨_, rfl, HE.out w, fun _ h => h, (Below.refl _ _).alloc (Nat.le_refl _) _⟩

set_option maxRecDepth 100000 in
theorem newW {m o : Nat} (hO : Order m o) (w : World) :
    Calls Try.prog 27 #[.int .i64 o] w fun e w' => e = .returned (.tuple #[ptr (w.heap.size + 1), .int .i64 0]) ∧ TreeAt w.heap.size m o w' (w.heap.size + 1) [] ∧ Below w.heap.size w w' := by
  have h1 : ¬ ((o : Int) < 3) := by have := hO.lo; omega
  have h2 : ¬ ((16 : Int) < (o : Int)) := by have := hO.hi; omega
  obtain ⟨w1, hw1⟩ : ∃ w1, w1 = (w.alloc (.cells #[.slice none 0 0, .slice none 0 0, .slice none 0 0] 70)).alloc (.cells #[.int .i64 o, ptr w.heap.size, .int .i64 0] 62) := ⟨_, rfl⟩
  have HE : Hid (TreeAt w.heap.size m o w1 (w.heap.size + 1) []) := Lib.hid (by
    have hsz : w1.heap.size = w.heap.size + 2 := by rw [hw1]; simp
    have g0 : w1.heap[w.heap.size]? = some (.cells #[.slice none 0 0, .slice none 0 0, .slice none 0 0] 70 (0, 0)) := by
      rw [hw1, Below.heap_alloc _ _ _ (by simp)]
      exact heap_alloc_new w _
    have g1 : w1.heap[w.heap.size + 1]? = some (.cells #[.int .i64 o, ptr w.heap.size, .int .i64 0] 62 (0, 0)) := by
      rw [hw1]; exact alloc2_at w _ _
    refine ⟨fun k => if k = w.heap.size then some ⟨[], [], []⟩ else none, fun k => if k = w.heap.size then .node else if k = w.heap.size + 1 then .top else if k < w.heap.size then .old else .free, 0, w.heap.size, ([] : List Ent), [w.heap.size], ⟨⟨fun a n ha => ?_, fun k hk => ?_⟩, ?_, fun k hk => ?_, g1, ⟨[], rfl, if_pos rfl, rfl⟩, by simp, List.Pairwise.nil, .inl rfl, Nat.zero_le _, rfl⟩, rfl⟩
    · split at ha
      · rename_i h
        subst h
        injection ha with ha
        subst ha
        exact ⟨fun _ => .slice none 0 0, g0, if_pos rfl, fun i _ => nodeNil _ _, (fun i _ g hg => by cases hg), (fun e he => by cases he), (fun k hk => by cases hk)⟩
      · cases ha
    · show (if _ then _ else _) = _
      rw [if_neg (by omega), if_neg (by omega), if_neg (by omega)]
    · show (if _ then _ else _) = _
      rw [if_neg (by omega), if_pos rfl]
    · show ¬ (if _ then _ else _ : Whose).mine ∧ (if _ then _ else _) ≠ _ ∧ (if _ then _ else _) ≠ _
      rw [if_neg (by omega), if_neg (by omega), if_pos hk]
      exact ⟨fun h => h, by simp, by simp⟩)
  have HB : Hid (Below w.heap.size w w1) := Lib.hid (by rw [hw1]; exact ((Below.refl _ _).alloc (Nat.le_refl _) _).alloc (le_size1 (Nat.le_refl _) _) _)
  rw [hw1] at HE HB
  clear hw1 hO
  go_enter Try.func27, Try.ntmps27
  go_wp2_with fail
  go_ret2
  exact ⟨by simp, HE.out, HB.out⟩
end Go.Proofs.Ytlgjkhdpinnccaa
