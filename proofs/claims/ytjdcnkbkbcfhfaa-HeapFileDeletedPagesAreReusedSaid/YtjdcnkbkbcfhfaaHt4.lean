/-
  HeapFileDeletedPagesAreReused: for every input the law answers true, and each argument reads afterwards as it read before. No condition.
-/
import Derived.Test.YtjdcnkbkbcfhfaaHl4
import Derived.Test.YtjdcnkbkbcfhfaaHm23
import Derived.Test.YtjdcnkbkbcfhfaaHm14
namespace Go.Proofs.Ytjdcnkbkbcfhfaa
open Go.ChangeShapes Go.WideShapes Go.ChangeAt Go.RowKit

set_option maxRecDepth 100000 in
theorem heapdel_lifted (os : Os) (started : os.Started) (H : Type) (enc : TypeId × Value → H) :
    ReturnsInHanded {} Try.checked os 3 .any (Rows.heapFileDeletedPagesAreReusedSpec.pre6 enc Try.prog Try.f3 Rows.heapFileDeletedPagesAreReusedRow.domain false) (Rows.heapFileDeletedPagesAreReusedSpec.post enc Try.prog Try.f3 false true false false) := by
  refine returnsInHanded_of_change_sized (C := Try.checked) Try.own started (by kernel_rfl) Try.func3
    (ChangeSpec.witness6 (enc := enc) (C := Try.checked) false ⟨#[], #[.slice none 0 0], []⟩ 8 (by kernel_rfl) (by kernel_rfl) (by kernel_rfl) (by kernel_rfl)) ?_
  intro W base args ds gs before hval0 hW hcnd hsz _
  have hval : ∀ (j : Nat) t v, Try.f3.params[j]? = some t → args[j]? = some v → Value.okWide Try.prog W .any base t v := hval0
  have hW' := hW
  obtain ⟨p, q, hA0, hV, rfl, hfz, hnd⟩ := hW
  have hA : DataW.TrodAll enc Try.prog W 0 (fun _ => true) true Try.f3.params.toList args.toList ds p := hA0
  rw [Try.params3] at hA hval
  obtain ⟨v0, d0, rfl, rfl, h0⟩ := trodAll_one hA
  obtain ⟨rfl, rfl⟩ := trodVars_none hV
  obtain ⟨a0, l0, k0, rfl⟩ := okWide_slice Try.underlying22 (hval 0 22 v0 rfl rfl)
  obtain ⟨f0, h0⟩ := h0
  obtain ⟨A0, c0, xs0, e0, hc0, hm0, hx0, hok0⟩ := open_ints_ Try.underlying22 h0
  have e0' : Value.slice a0 l0 k0 = .slice A0 xs0.length c0 := by simpa [Value.cells] using e0
  have hz0 : xs0.length * 8 ≤ reachBytes := sized_ints Try.underlying22 h0 e0 fun elems spare e => by
    have h8 := sized_slice hsz (j := 0) (t := 22) (e := 3) (by kernel_rfl) (by rw [show d0 = .slice elems spare from e]; rfl) Try.underlying22
    have h9 : (elems.length + spare.length) * Try.prog.bytesOf 3 ≤ reachBytes := h8
    rwa [bytes_int] at h9
  rw [e0'] at hW' ⊢
  refine (heapdel_law A0 c0 xs0 W (hx0.more fun k hk => hk.2) hc0 hm0 hok0 hz0).mono fun e W' ⟨he, hw⟩ => ?_
  subst he
  exact ⟨_, rfl, law_post Try.laidOut (by intro t ht; rw [Try.params3] at ht; simp at ht; subst ht; exact ⟨by kernel_rfl, of_decide_eq_true (by kernel_rfl)⟩) (by kernel_rfl) Try.underlying4 rfl hW' rfl rfl rfl hw⟩

theorem heapdel_holds : Rows.HeapFileDeletedPagesAreReusedSaid :=
  OpenClaim.holds_of_wide 3 Try.f3 rfl rfl rfl rfl rfl rfl rfl ⟨rfl, rfl, rfl, rfl, rfl⟩ rfl rfl rfl rfl rfl (by kernel_rfl) Try.func3 (by kernel_rfl)
    (of_decide_eq_true (by kernel_rfl)) (by unfold Func.isWrapper; rw [if_neg (by decide +kernel)]; exact ⟨rfl, rfl⟩)
    (fun os started H enc _ => heapdel_lifted os started H enc)

end Go.Proofs.Ytjdcnkbkbcfhfaa
