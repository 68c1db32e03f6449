/-
  The walks of RowListsEqual and InstancesEqual, where both sides say the same.
-/
import Derived.Test.YtjgghbmlbheknaaIdec
namespace Go.Proofs.Ytjgghbmlbheknaa
open Go.RowKit

theorem quiet_at {P : Program} {f : FuncId} {args : Array Value} {w : World} {n x : Nat} {v : Value}
    (h : Calls P f args (w.drewN (n + x)) fun e w' => e = .returned v ∧ ∃ m, w' = (w.drewN (n + x)).drewN m) : Calls P f args (w.drewN (n + x)) fun e w'' => e = .returned v ∧ ∃ m, w'' = w.drewN (n + m) :=
  h.mono fun _ _ ⟨he, m, hm⟩ => ⟨he, x + m, by rw [hm, World.drewN_drewN, Nat.add_assoc]⟩
theorem RowsH.same {w w' : World} {S : Nat → Prop} {A : Option Addr} {hs : List Hd} {rs : List (List Val)} (h : RowsH w S A hs rs) (e : w'.heap = w.heap) : RowsH w' S A hs rs := h.keep fun _ _ => by rw [e]

set_option maxRecDepth 100000 in
set_option maxHeartbeats 400000 in
theorem rowListsEqual (A B : Option Addr) (c d : Nat) (hs ht : List Hd) (rs : List (List Val)) (w : World) (S T : Nat → Prop) (hx : RowsH w S A hs rs) (hy : RowsH w T B ht rs) (hl : rs.length ≤ maxLen) :
    Calls Try.prog 32 #[.slice A rs.length c, .slice B rs.length d] w fun e w' => e = .returned (.bool true) ∧ ∃ n, w' = w.drewN n := by
  unfold maxLen at hl
  have HX := Lib.hid hx
  have HY := Lib.hid hy
  clear hx hy
  go_enter Try.func32, Try.ntmps32
  go_wp2_with fail
  go_loopw [13] (fun i wr => ∃ k n : Nat, k ≤ rs.length ∧ i = .int .i64 k ∧ wr = w.drewN n) (fun i _ => rs.length - (intOf i).toNat)
  case atStart => exact ⟨0, 0, by omega, rfl, rfl⟩
  case round =>
    obtain ⟨k, n, hk, rfl, rfl⟩ := hrel
    by_cases hlt : k < rs.length
    · obtain ⟨b, off, h1, rfl, _, c0, r1⟩ := HX.out.at_ hlt
      obtain ⟨b', off', h2, rfl, _, c1, r2⟩ := HY.out.at_ hlt
      have hi1 : (k : Int) < (rs.length : Int) := by omega
      have hi0 : (0 : Int) ≤ (k : Int) := by omega
      have HRE := Lib.hid fun (W : World) (hW : W.heap = w.heap) => rowsEqual h1.A h2.A h1.c h2.c rs[k] rs[k] W S T (r1.el.keep fun _ _ => by rw [hW]) (r2.el.keep fun _ _ => by rw [hW]) r1.le r1.le
      simp only [decide_true] at HRE
      clear r1 r2
      generalize rs[k]'hlt = r at *
      obtain ⟨A1, n1, c1'⟩ := h1
      obtain ⟨A2, n2, c2'⟩ := h2
      simp only at c0 c1 HRE
      go_wp2_with fail
      go_quiet (first | (go_at_call 11; exact quiet_at (HRE.out _ rfl)))
      go_wp2_with fail
      go_roundw
      case rel => exact ⟨k + 1, _, by omega, by go_num, rfl⟩
      case measure => simp [intOf]; omega
    · go_wp2_with fail
      go_ret
      exact ⟨rfl, _, rfl⟩

set_option maxRecDepth 100000 in
set_option maxHeartbeats 400000 in
theorem instancesEqual (A B : Option Addr) (c d : Nat) (ts us : List Th) (is : List Rel) (w : World) (S T : Nat → Prop) (hx : InstH w S A ts is) (hy : InstH w T B us is) (hl : is.length ≤ maxLen) :
    Calls Try.prog 19 #[.slice A is.length c, .slice B is.length d] w fun e w' => e = .returned (.bool true) ∧ ∃ n, w' = w.drewN n := by
  unfold maxLen at hl
  have HX := Lib.hid hx
  have HY := Lib.hid hy
  clear hx hy
  go_enter Try.func19, Try.ntmps19
  go_wp2_with fail
  go_loopw [13] (fun i wr => ∃ k n : Nat, k ≤ is.length ∧ i = .int .i64 k ∧ wr = w.drewN n) (fun i _ => is.length - (intOf i).toNat)
  case atStart => exact ⟨0, 0, by omega, rfl, rfl⟩
  case round =>
    obtain ⟨k, n, hk, rfl, rfl⟩ := hrel
    by_cases hlt : k < is.length
    · obtain ⟨b, off, h1, rfl, _, c0, c1, r1⟩ := HX.out.at_ hlt
      obtain ⟨b', off', h2, rfl, _, d0, d1, r2⟩ := HY.out.at_ hlt
      have hi1 : (k : Int) < (is.length : Int) := by omega
      have hi0 : (0 : Int) ≤ (k : Int) := by omega
      obtain ⟨hs, hr⟩ := r1.rows
      obtain ⟨ht, hq⟩ := r2.rows
      have HRE := Lib.hid fun (W : World) (hW : W.heap = w.heap) => rowListsEqual h1.h.A h2.h.A h1.h.c h2.h.c hs ht is[k].rows W S T (hr.same hW) (hq.same hW) r1.le
      clear r1 r2 hr hq
      generalize is[k]'hlt = x at *
      obtain ⟨nm, rows⟩ := x
      obtain ⟨n1, A1, m1, c1'⟩ := h1
      obtain ⟨n2, A2, m2, c2'⟩ := h2
      simp only at c0 c1 d0 d1 HRE
      have hg : decide (nm = nm) = true := by simp
      go_wp2_with fail
      go_quiet (first | (go_at_call 32; exact quiet_at (HRE.out _ rfl)))
      go_wp2_with fail
      go_roundw
      case rel => exact ⟨k + 1, _, by omega, by go_num, rfl⟩
      case measure => simp [intOf]; omega
    · go_wp2_with fail
      go_ret
      exact ⟨rfl, _, rfl⟩

end Go.Proofs.Ytjgghbmlbheknaa
