/-
  SecondaryDeleteInvertsInsert: for every input the law answers true, and each argument reads afterwards as it read before. No condition.
-/
import Derived.Test.YtakbabkcidioaaaYw
import Derived.Test.YtakbabkcidioaaaYsz
import Derived.Test.YtakbabkcidioaaaLaw
namespace Go.Proofs.Ytakbabkcidioaaa
open Go.ChangeShapes Go.WideShapes Go.ChangeAt Go.RowKit

set_option maxRecDepth 100000 in
theorem secdel_lifted (os : Os) (started : os.Started) (H : Type) (enc : TypeId × Value → H) :
    ReturnsInHanded {} Try.checked os 6 .any (Rows.secondaryDeleteInvertsInsertSpec.pre6 enc Try.prog Try.f6 Rows.secondaryDeleteInvertsInsertRow.domain false) (Rows.secondaryDeleteInvertsInsertSpec.post enc Try.prog Try.f6 false true false false) := by
  refine returnsInHanded_of_change (C := Try.checked) Try.own started (by kernel_rfl) Try.func6
    (ChangeSpec.witness6 (enc := enc) (C := Try.checked) false ⟨#[], #[.slice none 0 0, .int .i64 0], []⟩ 8 (by kernel_rfl) (by kernel_rfl) (by kernel_rfl) (by kernel_rfl)) ?_
  intro W base args ds gs before hval0 hW hcnd _
  have hval : ∀ (j : Nat) t v, Try.f6.params[j]? = some t → args[j]? = some v → Value.okWide Try.prog W .any base t v := hval0
  have hW' := hW
  obtain ⟨p, q, hA0, hV, rfl, hfz, hnd⟩ := hW
  have hA : DataW.TrodAll enc Try.prog W 0 (fun _ => true) true Try.f6.params.toList args.toList ds p := hA0
  rw [Try.params6] at hA hval
  obtain ⟨v0, v1, d0, d1, p0, p1, rfl, rfl, rfl, h0, h1⟩ := trodAll_two hA
  obtain ⟨rfl, rfl⟩ := trodVars_none hV
  obtain ⟨a0, l0, k0, rfl⟩ := okWide_slice Try.underlying22 (hval 0 22 v0 rfl rfl)
  obtain ⟨f0, h0⟩ := h0
  obtain ⟨A0, c0, xs0, e0, hc0, hm0, hx0, hok0⟩ := open_ints_ Try.underlying22 h0
  have e0' : Value.slice a0 l0 k0 = .slice A0 xs0.length c0 := by simpa [Value.cells] using e0
  obtain ⟨x1, rfl, rfl, rfl, wx1⟩ := open_int Try.underlying3 (hval 1 3 v1 rfl rfl) h1
  rw [e0'] at hW' ⊢
  refine (delins_law A0 c0 xs0 x1 W (hx0.more fun k hk => hk.2) hc0 hm0 hok0 (bounds_i64 wx1)).mono fun e W' ⟨he, hw⟩ => ?_
  subst he
  exact ⟨_, rfl, law_post Try.laidOut (by intro t ht; rw [Try.params6] at ht; simp at ht; rcases ht with rfl | rfl <;> exact ⟨by kernel_rfl, of_decide_eq_true (by kernel_rfl)⟩) (by kernel_rfl) Try.underlying4 rfl hW' rfl rfl rfl hw⟩

theorem secdel_holds : Rows.SecondaryDeleteInvertsInsertSaid :=
  OpenClaim.holds_of_wide 6 Try.f6 rfl rfl rfl rfl rfl rfl rfl ⟨rfl, rfl, rfl, rfl, rfl⟩ rfl rfl rfl rfl rfl (by kernel_rfl) Try.func6 (by kernel_rfl)
    (of_decide_eq_true (by kernel_rfl)) (by unfold Func.isWrapper; rw [if_neg (by decide +kernel)]; exact ⟨rfl, rfl⟩)
    (fun os started H enc _ => secdel_lifted os started H enc)

end Go.Proofs.Ytakbabkcidioaaa
