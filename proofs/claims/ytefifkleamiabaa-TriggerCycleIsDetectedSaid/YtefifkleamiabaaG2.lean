/-
  The walk of schema.ValidName, where the name is valid.
-/
import Derived.Test.YtefifkleamiabaaG1
import Derived.Lib.ConvBytes
namespace Go.Proofs.Ytefifkleamiabaa
open Go.RowKit

/-- A valid name. -/
structure NameV (s : ByteArray) : Prop where
  pos : 1 ≤ s.size
  len : s.size ≤ 12
  fst : ¬ (48 ≤ (s.data.toList.getD 0 0).toNat ∧ (s.data.toList.getD 0 0).toNat ≤ 57)
  chr : ∀ j, j < s.size → (97 ≤ (s.data.toList.getD j 0).toNat ∧ (s.data.toList.getD j 0).toNat ≤ 122) ∨ (48 ≤ (s.data.toList.getD j 0).toNat ∧ (s.data.toList.getD j 0).toNat ≤ 57)

theorem below_bytes (w : World) (e : TypeId) (s : ByteArray) : Below w.heap.size w (Lib.bytesWorld w e s) :=
  ⟨rfl, rfl, rfl, by rw [Lib.bytesWorld_size]; omega, fun k hk => Lib.bytesWorld_at_old w e s k hk⟩

set_option maxRecDepth 100000 in
set_option maxHeartbeats 1000000 in
theorem validNameS (s : ByteArray) (w : World) (h : NameV s) :
    Calls Try.prog 43 #[.string s] w fun e w' => e = .returned (.bool true) ∧ Below w.heap.size w w' := by
  have hp := h.pos
  have hl := h.len
  have hf := h.fst
  have hcv := Lib.run_convert_string_bytes (P := Try.prog) w 9 115 5 s Try.underlying9 Try.underlying115 Try.underlying5
  have HBW := Lib.hid (below_bytes w 5 s)
  have HCL := Lib.hid fun j hj => Lib.bytesWorld_cell w 5 s j hj
  have HCH := Lib.hid h.chr
  have hx : (s[0]'hp).toNat = (s.data.toList.getD 0 0).toNat := by
    rw [List.getD_eq_getElem?_getD, Array.getElem?_toList, Array.getElem?_eq_getElem hp]
    rfl
  rw [← hx] at hf
  generalize Lib.bytesWorld w 5 s = w1 at *
  generalize grownCap w s.size 0 5 = gc at *
  have hl0 : ¬ ((s.size : Int) < 1) := by omega
  have hl1 : (s.size : Int) ≤ 12 := by omega
  clear h hx
  rcases (by omega : (s[0]'hp).toNat < 48 ∨ (48 ≤ (s[0]'hp).toNat ∧ 57 < (s[0]'hp).toNat)) with g | ⟨g, g'⟩
  all_goals
    clear hf
    go_enter Try.func43, Try.ntmps43
    go_wp2_with fail
    go_loopw [26] (fun vi wr => ∃ k : Nat, vi = .int .i64 (k : Int) ∧ k ≤ s.size ∧ w1 = wr) (fun vi _ => s.size - (intOf vi).toNat)
    case atStart => exact ⟨0, rfl, by omega, rfl⟩
    case round =>
      obtain ⟨k, rfl, hk, rfl⟩ := hrel
      by_cases hlt : k < s.size
      · have hlt' : (k : Int) < (s.size : Int) := by omega
        have c0 := HCL.out k hlt
        have hch := HCH.out k hlt
        generalize (s.data.toList.getD k 0).toNat = x at *
        rcases (by omega : (97 ≤ x ∧ x ≤ 122) ∨ (x < 97 ∧ 48 ≤ x ∧ x ≤ 57)) with ⟨e1, e2⟩ | ⟨e1, e2, e3⟩
        all_goals
          clear hch
          go_wp2_with fail
          go_roundw
          case rel => exact ⟨k + 1, by go_num, by omega, by trivial⟩
          case measure => simp [intOf]; omega
      · have hks : k = s.size := by omega
        subst hks
        go_wp2_with fail
        go_ret
        exact ⟨rfl, HBW.out⟩
end Go.Proofs.Ytefifkleamiabaa
