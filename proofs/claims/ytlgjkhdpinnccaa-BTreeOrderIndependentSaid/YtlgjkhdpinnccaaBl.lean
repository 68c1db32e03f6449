/-
  What the laws on trees share: integers appended, the reach.
-/
import Derived.Test.YtlgjkhdpinnccaaTof
import Derived.SizedLaws
import Derived.Deep.Slices
namespace Go.Proofs.Ytlgjkhdpinnccaa
open Go.RowKit Go.Sort

theorem elem_ints : ElemT Try.prog 22 3 1 8 := ⟨Try.underlying22, by
  have h : (Try.prog.info? 3).map (fun i => (i.zero, i.size, i.bytes)) = some (some (.int .i64 0), 1, 8) := by kernel_rfl
  obtain ⟨i0, hi, hz0, hz1, hz2⟩ := info_parts h
  exact ⟨i0, _, hi, hz0, hz1, hz2, rfl⟩, by omega⟩
theorem bytes_int : Try.prog.bytesOf 3 = 8 := by kernel_rfl
/-- The form's reach bounds a slice of integers. -/
theorem sized_ints {H : Type} {enc : TypeId × Value → H} {w : World} {base : Nat} {spare : Nat → Bool} {held : Bool} {fuel : Nat} {t e : TypeId} (ht : Try.prog.underlying t = some (.slice e)) {cs : List Value} {x : DataW H × List MemPlace} (h : DataW.trod enc Try.prog w base spare held fuel t cs = some x)
    {A : Option Addr} {n c : Nat} (hcs : cs = [.slice A n c]) (hs : ∀ elems sp, x.1 = .slice elems sp → (elems.length + sp.length) * 8 ≤ reachBytes) : n * 8 ≤ reachBytes := by
  rcases Go.Deep.open_slice ht h with ⟨h1, _⟩ | ⟨a, len, cap, m, k, D, Pl, h1, _, _, _, _, hx, _⟩
  · rw [h1] at hcs
    injection hcs with hcs _
    injection hcs with _ h2 _
    subst h2
    omega
  · rw [h1] at hcs
    injection hcs with hcs _
    injection hcs with _ h2 _
    subst h2
    have := hs _ _ (by rw [hx])
    rw [List.length_map, List.length_range] at this
    omega


theorem Own.form' {α : Type} {sz : Nat} {cs : α → List Value} {e : TypeId} {base : Nat} {w : World} {v : Value} {xs : List α} (h : Own sz cs e base w v xs) : ∃ A n c, v = .slice A n c ∧ xs.length = n := by
  obtain ⟨A, c, hv, _, _⟩ := h.form
  exact ⟨A, _, c, hv, rfl⟩

theorem one_own (W : World) (k : Int) : Own 1 intCs 3 W.heap.size (W.alloc (.cells #[.int .i64 k] 3)) (.slice (some ⟨W.heap.size, 0, none⟩) 1 1) [k] :=
  World.ownsRow_lit (base := W.heap.size) (e := 3) (size := 1) W #[.int .i64 k] 1 (Nat.le_refl _) (by unfold maxLen; omega) (by simp)
theorem two_own (W : World) (k l : Int) : Own 1 intCs 3 W.heap.size (W.alloc (.cells #[.int .i64 k, .int .i64 l] 3)) (.slice (some ⟨W.heap.size, 0, none⟩) 2 2) [k, l] :=
  World.ownsRow_lit (base := W.heap.size) (e := 3) (size := 1) W #[.int .i64 k, .int .i64 l] 2 (Nat.le_refl _) (by unfold maxLen; omega) (by simp)

theorem getP_insP (p : PE) : ∀ ps : List PE, getP p.1 (insP p ps) = some p.2
  | [] => by
    show (if _ then _ else if _ then _ else _) = _
    rw [if_neg (by rw [cmpR_refl]; omega), if_pos (cmpR_refl _)]
  | x :: xs => by
    unfold insP
    by_cases h1 : cmpR x.1 p.1 < 0
    · rw [if_pos h1]
      show (if _ then _ else _) = _
      rw [if_pos h1]
      exact getP_insP p xs
    · rw [if_neg h1]
      by_cases h2 : cmpR x.1 p.1 = 0
      · rw [if_pos h2]
        show (if _ then _ else if _ then _ else _) = _
        rw [if_neg h1, if_pos h2]
      · rw [if_neg h2]
        show (if _ then _ else if _ then _ else _) = _
        rw [if_neg (by rw [cmpR_refl]; omega), if_pos (cmpR_refl _)]

end Go.Proofs.Ytlgjkhdpinnccaa
