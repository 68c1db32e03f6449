/-
  The walk of slices.Reverse over rows.
-/
import Derived.Test.YtakbabkcidioaaaYd1
import Derived.Test.YtakbabkcidioaaaSl
import Derived.BigRegion
namespace Go.Proofs.Ytakbabkcidioaaa
open Go.RowKit Go.Sort

def kz : Key := ⟨none, 0, []⟩
/-- Turned from both ends, i deep. -/
def rvF (xs : List Key) (i k : Nat) : Nat := if k < i ∨ xs.length ≤ k + i then xs.length - 1 - k else k
def rvL (xs : List Key) (i : Nat) : List Key := (List.range xs.length).map fun k => xs.getD (rvF xs i k) kz
theorem rvL_len (xs : List Key) (i : Nat) : (rvL xs i).length = xs.length := by simp [rvL]
theorem rvL_at (xs : List Key) (i : Nat) {k : Nat} (hk : k < xs.length) : (rvL xs i)[k]? = some (xs.getD (rvF xs i k) kz) := by
  unfold rvL
  rw [List.getElem?_map, List.getElem?_range hk]
  rfl
theorem rvL_zero (xs : List Key) : rvL xs 0 = xs := by
  apply List.ext_getElem? fun k => ?_
  rcases Nat.lt_or_ge k xs.length with h | h
  · rw [rvL_at xs 0 h]
    unfold rvF
    rw [if_neg (by omega), List.getD_eq_getElem?_getD, List.getElem?_eq_getElem h]
    rfl
  · rw [List.getElem?_eq_none (by rw [rvL_len]; exact h), List.getElem?_eq_none h]
theorem rvL_end (xs : List Key) {i : Nat} (hi : xs.length ≤ 2 * i + 1) : rvL xs i = xs.reverse := by
  apply List.ext_getElem? fun k => ?_
  rcases Nat.lt_or_ge k xs.length with h | h
  · rw [rvL_at xs i h, List.getElem?_reverse h]
    have e : rvF xs i k = xs.length - 1 - k := by
      unfold rvF
      split
      · rfl
      · omega
    rw [e, List.getD_eq_getElem?_getD, List.getElem?_eq_getElem (by omega)]
    rfl
  · rw [List.getElem?_eq_none (by rw [rvL_len]; exact h), List.getElem?_eq_none (by simpa using h)]
theorem rvL_step (xs : List Key) {i j : Nat} (hj : i + j + 1 = xs.length) (hij : i < j) : rvL xs (i + 1) = ((rvL xs i).set i (xs.getD j kz)).set j (xs.getD i kz) := by
  apply List.ext_getElem? fun k => ?_
  rw [List.getElem?_set, List.getElem?_set, List.length_set, rvL_len]
  rcases Nat.lt_or_ge k xs.length with h | h
  · rw [rvL_at xs (i + 1) h]
    by_cases h1 : j = k
    · subst h1
      rw [if_pos rfl, if_pos h]
      unfold rvF
      rw [if_pos (by omega), show xs.length - 1 - j = i from by omega]
    · rw [if_neg h1]
      by_cases h2 : i = k
      · subst h2
        rw [if_pos rfl, if_pos h]
        unfold rvF
        rw [if_pos (by omega), show xs.length - 1 - i = j from by omega]
      · rw [if_neg h2, rvL_at xs i h]
        unfold rvF
        by_cases h3 : k < i ∨ xs.length ≤ k + i
        · rw [if_pos h3, if_pos (by omega)]
        · rw [if_neg h3, if_neg (by omega)]
  · rw [List.getElem?_eq_none (by rw [rvL_len]; exact h), if_neg (by omega), if_neg (by omega), List.getElem?_eq_none (by rw [rvL_len]; exact h)]

theorem own_setKey {base : Nat} {w : World} {g n c i : Nat} {xs : List Key} (h : Own 1 Key.cs 37 base w (.slice (some ⟨g, 0, none⟩) n c) xs) (hi : i < xs.length) (v : Key) :
    Own 1 Key.cs 37 base (w.setCell ⟨g, i, none⟩ (.slice v.A v.row.length v.c)) (.slice (some ⟨g, 0, none⟩) n c) (xs.set i v) := by
  obtain ⟨g', c', cur, hv, hb, hg, hcl, hcm, hs, ht⟩ := h.open_ (by omega)
  injection hv with hv1 hv2 hv3
  injection hv1 with hv1
  injection hv1 with hv1
  subst hv1 hv3
  refine Own.shut keyLay hb (heap_setCell_at hg _) ?_ (by omega) hcm (by simp [hs]) ?_
  · rw [List.length_set]; exact hv2
  · rw [Array.toList_setIfInBounds, List.take_set, hv2, ht]
    have e : ∀ ys : List Key, ys.flatMap Key.cs = ys.map (fun v => Value.slice v.A v.row.length v.c) := fun ys => by
      induction ys with
      | nil => rfl
      | cons y ys ih => rw [List.flatMap_cons, ih]; rfl
    rw [e, e, List.map_set]

set_option maxRecDepth 100000 in
set_option maxHeartbeats 1000000 in
theorem reverseK (g n c base : Nat) (xs : List Key) (w : World) (ho : Own 1 Key.cs 37 base w (.slice (some ⟨g, 0, none⟩) n c) xs) (hn : n = xs.length) (hl : n ≤ 100000) :
    Calls Try.prog 10 #[.slice (some ⟨g, 0, none⟩) n c] w fun e w' => e = .returned (.tuple #[]) ∧ Own 1 Key.cs 37 base w' (.slice (some ⟨g, 0, none⟩) n c) xs.reverse ∧ Below base w w' ∧ (∀ k, k ≠ g → w'.heap[k]? = w.heap[k]?) ∧ w'.heap.size = w.heap.size := by
  have hgb := (Own.lt ho g rfl).1
  have HO := Lib.hid ho
  have HN := Lib.hid hn
  have hw0 : IntKind.i64.wrap ((n : Int) - 1) = (n : Int) - 1 := by rw [IntKind.wrap_i64]; omega
  clear ho hn
  go_enter Try.func10, Try.ntmps10
  go_wp2_with fail
  go_loopw [2, 3] (fun vi vj wr => ∃ i : Nat, vi = .int .i64 (i : Int) ∧ vj = .int .i64 ((n : Int) - 1 - (i : Int)) ∧ i ≤ n ∧ Own 1 Key.cs 37 base wr (.slice (some ⟨g, 0, none⟩) n c) (rvL xs i) ∧ Below base w wr ∧ (∀ k, k ≠ g → wr.heap[k]? = w.heap[k]?) ∧ wr.heap.size = w.heap.size) (fun vi _ _ => n - (intOf vi).toNat)
  case atStart => exact ⟨0, rfl, by simp, by omega, by rw [rvL_zero]; exact HO.out, Below.refl _ _, fun _ _ => rfl, rfl⟩
  case round =>
    obtain ⟨i, rfl, rfl, hin, hown, hb, hoff, hsz⟩ := hrel
    by_cases hlt : i + i + 1 < n
    · obtain ⟨j, hj⟩ : ∃ j, j = n - 1 - i := ⟨_, rfl⟩
      have hje : (n : Int) - 1 - (i : Int) = (j : Int) := by omega
      have hnx := HN.out
      have hxi : (rvL xs i)[i]? = some (xs.getD i kz) := by
        rw [rvL_at xs i (by omega)]; unfold rvF; rw [if_neg (by omega)]
      have hxj : (rvL xs i)[j]? = some (xs.getD j kz) := by
        rw [rvL_at xs i (by omega)]; unfold rvF; rw [if_neg (by omega)]
      have hli : i < (rvL xs i).length := by rw [rvL_len]; omega
      have hlj : j < (rvL xs i).length := by rw [rvL_len]; omega
      have hel := hown.elems keyLay.len rfl
      obtain ⟨b1, o1, e1, -, ci⟩ := hel.key hli
      obtain ⟨b2, o2, e2, -, cj⟩ := hel.key hlj
      injection e1 with e1
      injection e1 with e1 e1'
      injection e2 with e2
      injection e2 with e2 e2'
      subst e1 e1' e2 e2'
      rw [List.getElem?_eq_getElem hli] at hxi
      rw [List.getElem?_eq_getElem hlj] at hxj
      injection hxi with hxi
      injection hxj with hxj
      rw [hxi, Nat.zero_add] at ci
      rw [hxj, Nat.zero_add] at cj
      obtain ⟨cur, hg⟩ : ∃ cur, wr.heap[g]? = some (.cells cur 37 (0, 0)) := by
        obtain ⟨g', c', cur, hv, -, hg, -, -, -, -⟩ := hown.open_ (by omega)
        injection hv with hv1 _ _
        injection hv1 with hv1
        injection hv1 with hv1
        subst hv1
        exact ⟨cur, hg⟩
      have fi := frozen_of_row wr g i _ _ hg
      have fj := frozen_of_row wr g j _ _ hg
      have hN : Hid (∀ k, Own 1 Key.cs 37 base (((wr.setCell ⟨g, i, none⟩ (.slice (xs.getD j kz).A (xs.getD j kz).row.length (xs.getD j kz).c)).setCell ⟨g, j, none⟩ (.slice (xs.getD i kz).A (xs.getD i kz).row.length (xs.getD i kz).c)).drewN k) (.slice (some ⟨g, 0, none⟩) n c) (rvL xs (i + 1)) ∧ Below base w (((wr.setCell ⟨g, i, none⟩ (.slice (xs.getD j kz).A (xs.getD j kz).row.length (xs.getD j kz).c)).setCell ⟨g, j, none⟩ (.slice (xs.getD i kz).A (xs.getD i kz).row.length (xs.getD i kz).c)).drewN k) ∧ (∀ q, q ≠ g → (((wr.setCell ⟨g, i, none⟩ (.slice (xs.getD j kz).A (xs.getD j kz).row.length (xs.getD j kz).c)).setCell ⟨g, j, none⟩ (.slice (xs.getD i kz).A (xs.getD i kz).row.length (xs.getD i kz).c)).drewN k).heap[q]? = w.heap[q]?) ∧ (((wr.setCell ⟨g, i, none⟩ (.slice (xs.getD j kz).A (xs.getD j kz).row.length (xs.getD j kz).c)).setCell ⟨g, j, none⟩ (.slice (xs.getD i kz).A (xs.getD i kz).row.length (xs.getD i kz).c)).drewN k).heap.size = w.heap.size) := Lib.hid fun k => by
        refine ⟨?_, ((hb.setCell hgb _).setCell hgb _).trans (below_drewN (Below.refl _ _) k), fun q hq => ((heap_setCell_off (p := ⟨g, j, none⟩) hq _).trans (heap_setCell_off (p := ⟨g, i, none⟩) hq _)).trans (hoff q hq), by show (World.setCell _ _ _).heap.size = _; rw [setCell_size, setCell_size]; exact hsz⟩
        rw [rvL_step xs (j := j) (by omega) (by omega)]
        exact ((own_setKey (own_setKey hown hli _) (by rw [List.length_set]; exact hlj) _).drewN k)
      have hii : (i : Int) < (j : Int) := by omega
      have hi0 : (0 : Int) ≤ (i : Int) := by omega
      have hj0 : (0 : Int) ≤ (j : Int) := by omega
      have hin1 : (i : Int) < (n : Int) := by omega
      have hjn1 : (j : Int) < (n : Int) := by omega
      have hne : ¬ i = j := by omega
      have hji : ¬ j = i := by omega
      have hj1 : (j : Int) - 1 = (n : Int) - 1 - ((i : Int) + 1) := by omega
      have hwj : IntKind.i64.wrap ((j : Int) - 1) = (j : Int) - 1 := by rw [IntKind.wrap_i64]; omega
      have HJ1 := Lib.hid hj1
      have HJ := Lib.hid hj
      rw [hje]
      clear hoff hsz hj hje hown hel hg hb hj1 hnx hxi hxj hli hlj
      generalize xs.getD i kz = vi at *
      generalize xs.getD j kz = vj at *
      go_wp2_with fail
      go_region
      go_wp2_with fail
      go_roundw
      case rel => exact ⟨i + 1, by go_num, by rw [HJ1.out]; push_cast; rfl, by omega, (hN.out _).1, (hN.out _).2.1, (hN.out _).2.2.1, (hN.out _).2.2.2⟩
      case measure => simp [intOf]; omega
    · have hge : ¬ (i : Int) < (n : Int) - 1 - (i : Int) := by omega
      have HE : Hid (Own 1 Key.cs 37 base wr (.slice (some ⟨g, 0, none⟩) n c) xs.reverse ∧ Below base w wr ∧ (∀ k, k ≠ g → wr.heap[k]? = w.heap[k]?) ∧ wr.heap.size = w.heap.size) := Lib.hid ⟨by rw [← rvL_end xs (i := i) (by have := HN.out; omega)]; exact hown, hb, hoff, hsz⟩
      clear hown hb hoff hsz
      go_wp2_with fail
      go_end0
      exact ⟨rfl, HE.out.1, HE.out.2.1, HE.out.2.2.1, HE.out.2.2.2⟩
end Go.Proofs.Ytakbabkcidioaaa
