/-
  The form's reach bounds a slice of integers.
-/
import Derived.Test.YtefifkleamiabaaGreatDoorVm01
import Derived.SizedLaws
import Derived.Deep.Slices
namespace Go.Proofs.YtefifkleamiabaaGreatDoor
open Go.RowKit

theorem bytes_int : Tryz.prog.bytesOf 3 = 8 := by kernel_rfl
/-- The form's reach bounds a slice of integers. -/
theorem sized_ints {H : Type} {enc : TypeId × Value → H} {w : World} {base : Nat} {spare : Nat → Bool} {held : Bool} {fuel : Nat} {t e : TypeId} (ht : Tryz.prog.underlying t = some (.slice e)) {cs : List Value} {x : DataW H × List MemPlace} (h : DataW.trod enc Tryz.prog w base spare held fuel t cs = some x)
    {A : Option Addr} {n c : Nat} (hcs : cs = [.slice A n c]) (hs : ∀ elems sp, x.1 = .slice elems sp → (elems.length + sp.length) * 8 ≤ reachBytes) : n * 8 ≤ reachBytes := by
  rcases Go.Deep.open_slice ht h with ⟨h1, _⟩ | ⟨a, len, cap, m, k, D, Pl, h1, _, _, _, _, hx, _⟩
  · rw [h1] at hcs
    injection hcs with hcs _
    injection hcs with _ h2 _
    subst h2
    omega
  · rw [h1] at hcs
    injection hcs with hcs _
    injection hcs with _ h2 _
    subst h2
    have := hs _ _ (by rw [hx])
    rw [List.length_map, List.length_range] at this
    omega
end Go.Proofs.YtefifkleamiabaaGreatDoor
