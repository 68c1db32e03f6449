/-
  BTreeDeleteInvertsPut: for every input the law answers true, and each argument reads afterwards as it read before. No condition.
-/
import Derived.Test.YtlgjkhdpinnccaaBd
import Derived.Test.YtlgjkhdpinnccaaLaw
namespace Go.Proofs.Ytlgjkhdpinnccaa
open Go.ChangeShapes Go.WideShapes Go.ChangeAt Go.RowKit

set_option maxRecDepth 100000 in
theorem delput_lifted (os : Os) (started : os.Started) (H : Type) (enc : TypeId × Value → H) :
    ReturnsInHanded {} Try.checked os 8 .any (Rows.bTreeDeleteInvertsPutSpec.pre6 enc Try.prog Try.f8 Rows.bTreeDeleteInvertsPutRow.domain false) (Rows.bTreeDeleteInvertsPutSpec.post enc Try.prog Try.f8 false true false false) := by
  refine returnsInHanded_of_change_sized (C := Try.checked) Try.own started (by kernel_rfl) Try.func8
    (ChangeSpec.witness6 (enc := enc) (C := Try.checked) false ⟨#[], #[.int .i64 0, .slice none 0 0, .int .i64 0], []⟩ 8 (by kernel_rfl) (by kernel_rfl) (by kernel_rfl) (by kernel_rfl)) ?_
  intro W base args ds gs before hval0 hW hcnd hsz _
  have hval : ∀ (j : Nat) t v, Try.f8.params[j]? = some t → args[j]? = some v → Value.okWide Try.prog W .any base t v := hval0
  have hW' := hW
  obtain ⟨p, q, hA0, hV, rfl, hfz, hnd⟩ := hW
  have hA : DataW.TrodAll enc Try.prog W 0 (fun _ => true) true Try.f8.params.toList args.toList ds p := hA0
  rw [Try.params8] at hA hval
  obtain ⟨v0, v1, v2, d0, d1, d2, p0, p1, p2, rfl, rfl, rfl, h0, h1, h2⟩ := trodAll_three hA
  obtain ⟨rfl, rfl⟩ := trodVars_none hV
  obtain ⟨x0, rfl, rfl, rfl, wx0⟩ := open_int Try.underlying3 (hval 0 3 v0 rfl rfl) h0
  obtain ⟨a1, l1, k1, rfl⟩ := okWide_slice Try.underlying22 (hval 1 22 v1 rfl rfl)
  obtain ⟨f1, h1⟩ := h1
  obtain ⟨A1, c1, xs1, e1, hc1, hm1, hx1, hok1⟩ := open_ints_ Try.underlying22 h1
  have e1' : Value.slice a1 l1 k1 = .slice A1 xs1.length c1 := by simpa [Value.cells] using e1
  have hz1 : xs1.length * 8 ≤ reachBytes := sized_ints Try.underlying22 h1 e1 fun elems spare e => by
    have h8 := sized_slice hsz (j := 1) (t := 22) (e := 3) (by kernel_rfl) (by rw [show d1 = .slice elems spare from e]; rfl) Try.underlying22
    have h9 : (elems.length + spare.length) * Try.prog.bytesOf 3 ≤ reachBytes := h8
    rwa [bytes_int] at h9
  obtain ⟨x2, rfl, rfl, rfl, wx2⟩ := open_int Try.underlying3 (hval 2 3 v2 rfl rfl) h2
  rw [e1'] at hW' ⊢
  refine (delput_law x0 A1 c1 xs1 x2 W (bounds_i64 wx0) (hx1.more fun k hk => hk.2) hc1 hm1 hok1 hz1 (bounds_i64 wx2)).mono fun e W' ⟨he, hw⟩ => ?_
  subst he
  exact ⟨_, rfl, law_post Try.laidOut (by intro t ht; rw [Try.params8] at ht; simp at ht; rcases ht with rfl | rfl | rfl <;> exact ⟨by kernel_rfl, of_decide_eq_true (by kernel_rfl)⟩) (by kernel_rfl) Try.underlying4 rfl hW' rfl rfl rfl hw⟩

theorem delput_holds : Rows.BTreeDeleteInvertsPutSaid :=
  OpenClaim.holds_of_wide 8 Try.f8 rfl rfl rfl rfl rfl rfl rfl ⟨rfl, rfl, rfl, rfl, rfl⟩ rfl rfl rfl rfl rfl (by kernel_rfl) Try.func8 (by kernel_rfl)
    (of_decide_eq_true (by kernel_rfl)) (by unfold Func.isWrapper; rw [if_neg (by decide +kernel)]; exact ⟨rfl, rfl⟩)
    (fun os started H enc _ => delput_lifted os started H enc)

end Go.Proofs.Ytlgjkhdpinnccaa
