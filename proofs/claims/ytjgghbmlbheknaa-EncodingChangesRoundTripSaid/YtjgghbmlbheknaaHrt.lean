/-
  EncodingChangesRoundTrip: for every input the law answers true, and each argument reads afterwards as it read before. No condition.
-/
import Derived.Test.YtjgghbmlbheknaaHlaw
import Derived.Test.YtjgghbmlbheknaaLawv
namespace Go.Proofs.Ytjgghbmlbheknaa
open Go.ChangeShapes Go.WideShapes Go.ChangeAt Go.RowKit

set_option maxRecDepth 100000 in
theorem chgrt_lifted (os : Os) (started : os.Started) (H : Type) (enc : TypeId × Value → H) :
    ReturnsInHanded {} Try.checked os 8 .any (Rows.encodingChangesRoundTripSpec.pre6 enc Try.prog Try.f8 Rows.encodingChangesRoundTripRow.domain false) (Rows.encodingChangesRoundTripSpec.post enc Try.prog Try.f8 false true false false) := by
  refine returnsInHanded_of_change (C := Try.checked) Try.own started (by kernel_rfl) Try.func8
    (ChangeSpec.witness6 (enc := enc) (C := Try.checked) false ⟨#[], #[.slice none 0 0], []⟩ 8 (by kernel_rfl) (by kernel_rfl) (by kernel_rfl) (by kernel_rfl)) ?_
  intro W base args ds gs before hval0 hW hcnd _
  have hval : ∀ (j : Nat) t v, Try.f8.params[j]? = some t → args[j]? = some v → Value.okWide Try.prog W .any base t v := hval0
  have hW' := hW
  obtain ⟨p, q, hA0, hV, rfl, hfz, hnd⟩ := hW
  have hA : DataW.TrodAll enc Try.prog W 0 (fun _ => true) true Try.f8.params.toList args.toList ds p := hA0
  rw [Try.params8] at hA hval
  obtain ⟨v0, d0, rfl, rfl, h0⟩ := trodAll_one hA
  obtain ⟨rfl, rfl⟩ := trodVars_none hV
  obtain ⟨a0, l0, k0, rfl⟩ := okWide_slice Try.underlying46 (hval 0 46 v0 rfl rfl)
  obtain ⟨f0, h0⟩ := h0
  obtain ⟨A0, c0, xs0, e0, hc0, hm0, hx0, hok0⟩ := open_changes Try.underlying46 h0
  have e0' : Value.slice a0 l0 k0 = .slice A0 xs0.length c0 := by simpa [Value.cells] using e0
  rw [e0'] at hW' ⊢
  refine (chgrt_law A0 c0 xs0 W (hx0.more fun k hk => hk.2) hc0 hm0).mono fun e W' ⟨he, hw⟩ => ?_
  subst he
  exact ⟨_, rfl, law_post Try.laidOut (by intro t ht; rw [Try.params8] at ht; simp at ht; subst ht; exact ⟨by kernel_rfl, of_decide_eq_true (by kernel_rfl)⟩) (by kernel_rfl) Try.underlying4 rfl hW' rfl rfl rfl hw⟩

theorem chgrt_holds : Rows.EncodingChangesRoundTripSaid :=
  OpenClaim.holds_of_wide 8 Try.f8 rfl rfl rfl rfl rfl rfl rfl ⟨rfl, rfl, rfl, rfl, rfl⟩ rfl rfl rfl rfl rfl (by kernel_rfl) Try.func8 (by kernel_rfl)
    (of_decide_eq_true (by kernel_rfl)) (by unfold Func.isWrapper; rw [if_neg (by decide +kernel)]; exact ⟨rfl, rfl⟩)
    (fun os started H enc _ => chgrt_lifted os started H enc)

end Go.Proofs.Ytjgghbmlbheknaa
