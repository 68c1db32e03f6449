/-
  BTreeOrderIndependent: for every input the law answers true, and each argument reads afterwards as it read before. No condition.
-/
import Derived.Test.YtlgjkhdpinnccaaOm
import Derived.Test.YtlgjkhdpinnccaaLaw
namespace Go.Proofs.Ytlgjkhdpinnccaa
open Go.ChangeShapes Go.WideShapes Go.ChangeAt Go.RowKit

set_option maxRecDepth 100000 in
theorem order_lifted (os : Os) (started : os.Started) (H : Type) (enc : TypeId × Value → H) :
    ReturnsInHanded {} Try.checked os 5 .any (Rows.bTreeOrderIndependentSpec.pre6 enc Try.prog Try.f5 Rows.bTreeOrderIndependentRow.domain false) (Rows.bTreeOrderIndependentSpec.post enc Try.prog Try.f5 false true false false) := by
  refine returnsInHanded_of_change (C := Try.checked) Try.own started (by kernel_rfl) Try.func5
    (ChangeSpec.witness6 (enc := enc) (C := Try.checked) false ⟨#[], #[.int .i64 0, .int .i64 0, .slice none 0 0], []⟩ 8 (by kernel_rfl) (by kernel_rfl) (by kernel_rfl) (by kernel_rfl)) ?_
  intro W base args ds gs before hval0 hW hcnd _
  have hval : ∀ (j : Nat) t v, Try.f5.params[j]? = some t → args[j]? = some v → Value.okWide Try.prog W .any base t v := hval0
  have hW' := hW
  obtain ⟨p, q, hA0, hV, rfl, hfz, hnd⟩ := hW
  have hA : DataW.TrodAll enc Try.prog W 0 (fun _ => true) true Try.f5.params.toList args.toList ds p := hA0
  rw [Try.params5] at hA hval
  obtain ⟨v0, v1, v2, d0, d1, d2, p0, p1, p2, rfl, rfl, rfl, h0, h1, h2⟩ := trodAll_three hA
  obtain ⟨rfl, rfl⟩ := trodVars_none hV
  obtain ⟨x0, rfl, rfl, rfl, wx0⟩ := open_int Try.underlying3 (hval 0 3 v0 rfl rfl) h0
  obtain ⟨x1, rfl, rfl, rfl, wx1⟩ := open_int Try.underlying3 (hval 1 3 v1 rfl rfl) h1
  obtain ⟨a2, l2, k2, rfl⟩ := okWide_slice Try.underlying22 (hval 2 22 v2 rfl rfl)
  obtain ⟨f2, h2⟩ := h2
  obtain ⟨A2, c2, xs2, e2, hc2, hm2, hx2, hok2⟩ := open_ints_ Try.underlying22 h2
  have e2' : Value.slice a2 l2 k2 = .slice A2 xs2.length c2 := by simpa [Value.cells] using e2
  rw [e2'] at hW' ⊢
  refine (order_law x0 x1 A2 c2 xs2 W (bounds_i64 wx0) (bounds_i64 wx1) (hx2.more fun k hk => hk.2) hc2 hm2 hok2).mono fun e W' ⟨he, hw⟩ => ?_
  subst he
  exact ⟨_, rfl, law_post Try.laidOut (by intro t ht; rw [Try.params5] at ht; simp at ht; rcases ht with rfl | rfl | rfl <;> exact ⟨by kernel_rfl, of_decide_eq_true (by kernel_rfl)⟩) (by kernel_rfl) Try.underlying4 rfl hW' rfl rfl rfl hw⟩

theorem order_holds : Rows.BTreeOrderIndependentSaid :=
  OpenClaim.holds_of_wide 5 Try.f5 rfl rfl rfl rfl rfl rfl rfl ⟨rfl, rfl, rfl, rfl, rfl⟩ rfl rfl rfl rfl rfl (by kernel_rfl) Try.func5 (by kernel_rfl)
    (of_decide_eq_true (by kernel_rfl)) (by unfold Func.isWrapper; rw [if_neg (by decide +kernel)]; exact ⟨rfl, rfl⟩)
    (fun os started H enc _ => order_lifted os started H enc)

end Go.Proofs.Ytlgjkhdpinnccaa
