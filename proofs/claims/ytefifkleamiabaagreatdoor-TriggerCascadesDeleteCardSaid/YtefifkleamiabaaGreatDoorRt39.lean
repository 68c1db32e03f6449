/-
  TriggerCascadesDelete: for every input the law answers true, and each argument reads afterwards as it read before; the listed variables are tied to the text of the pruned copy of the project. No further condition.
-/
import Derived.Test.YtefifkleamiabaaGreatDoorUm23
import Derived.Test.YtefifkleamiabaaGreatDoorUm01
import Derived.Test.YtefifkleamiabaaGreatDoorCards
import Derived.Test.YtefifkleamiabaaGreatDoorTie
import Derived.LaidMore
import Derived.Lay
import Derived.Stop.Joined
import Derived.SevenTiedAt
namespace Go.Proofs.YtefifkleamiabaaGreatDoor
open Go.ChangeShapes Go.WideShapes Go.ChangeAt Go.RowKit

set_option maxRecDepth 100000 in
theorem tcd_lifted (os : Os) (started : os.Started) (H : Type) (enc : TypeId × Value → H) :
    ReturnsInHanded {} Tryz.checked os 5 .any (fun w args => (Rows.triggerCascadesDeleteSpec.pre enc Tryz.prog Tryz.f5 Rows.triggerCascadesDeleteRow.domain false w args ∧ laidMetH Tryz.prog Rows.triggerCascadesDeleteRow.laid w) ∧ sizedMet enc Tryz.prog Tryz.f5 (OpenSpec.ofChange Rows.triggerCascadesDeleteSpec) false w args) (Rows.triggerCascadesDeleteSpec.post enc Tryz.prog Tryz.f5 false true false false) := by
  refine returnsInHanded_of_change_and (C := Tryz.checked) (X := fun w _ => laidMetH Tryz.prog Rows.triggerCascadesDeleteRow.laid w) (fun _ _ _ hh h => h.of_heap hh) Tryz.own started (by kernel_rfl) Tryz.func5
    (ChangeSpec.witness_shaped (enc := enc) (C := Tryz.checked) (os := os) (X := fun w _ => laidMetH Tryz.prog Rows.triggerCascadesDeleteRow.laid w) false (World.laidAll Tryz.prog os Rows.triggerCascadesDeleteRow.laid) #[.slice none 0 0, .int .i64 0, .int .i64 0, .int .i64 0] 8 (World.laidAll_os _ _ _)
      (World.shaped_of_ZipB (by kernel_rfl) (by kernel_rfl)) (by kernel_rfl) (by kernel_rfl) (by kernel_rfl)
      (by rw [MakeChecks.laidMetH_plain _ _ _ (by kernel_rfl)]; exact laidMet_laidAll _ (by kernel_rfl) (by kernel_rfl))) ?_
  intro W base args ds gs before hval0 hW hcnd hsz _ _
  have hval : ∀ (j : Nat) t v, Tryz.f5.params[j]? = some t → args[j]? = some v → Value.okWide Tryz.prog W .any base t v := hval0
  have hW' := hW
  obtain ⟨p, q, hA0, hV, rfl, hfz, hnd⟩ := hW
  have hA : DataW.TrodAll enc Tryz.prog W 0 (fun _ => true) true Tryz.f5.params.toList args.toList ds p := hA0
  rw [Tryz.params5] at hA hval
  obtain ⟨v0, v1, v2, v3, d0, d1, d2, d3, p0, p1, p2, p3, rfl, rfl, rfl, h0, h1, h2, h3⟩ := trodAll_four hA
  obtain ⟨rfl, rfl⟩ := trodVars_none hV
  obtain ⟨a0, l0, k0, rfl⟩ := okWide_slice Tryz.underlying22 (hval 0 22 v0 rfl rfl)
  obtain ⟨f0, h0⟩ := h0
  obtain ⟨A0, c0, xs0, e0, hc0, hm0, hx0, hok0⟩ := open_ints_ Tryz.underlying22 h0
  have e0' : Value.slice a0 l0 k0 = .slice A0 xs0.length c0 := by simpa [Value.cells] using e0
  have hz0 : xs0.length * 8 ≤ reachBytes := sized_ints Tryz.underlying22 h0 e0 fun elems spare e => by
    have h8 := sized_slice hsz (j := 0) (t := 22) (e := 3) (by kernel_rfl) (by rw [show d0 = .slice elems spare from e]; rfl) Tryz.underlying22
    have h9 : (elems.length + spare.length) * Tryz.prog.bytesOf 3 ≤ reachBytes := h8
    rwa [bytes_int] at h9
  obtain ⟨x1, rfl, rfl, rfl, wx1⟩ := open_int Tryz.underlying3 (hval 1 3 v1 rfl rfl) h1
  obtain ⟨x2, rfl, rfl, rfl, wx2⟩ := open_int Tryz.underlying3 (hval 2 3 v2 rfl rfl) h2
  obtain ⟨x3, rfl, rfl, rfl, wx3⟩ := open_int Tryz.underlying3 (hval 3 3 v3 rfl rfl) h3
  rw [e0'] at hW' ⊢
  refine (tcd_law A0 c0 xs0 x1 x2 x3 W (hx0.more fun k hk => hk.2) hok0 hc0 hz0 (bounds_i64 wx1) (bounds_i64 wx2) (bounds_i64 wx3)).mono fun e W' ⟨he, hw⟩ => ?_
  subst he
  exact ⟨_, rfl, law_post Tryz.laidOut (by intro t ht; rw [Tryz.params5] at ht; simp at ht; rcases ht with rfl | rfl | rfl | rfl <;> exact ⟨by kernel_rfl, of_decide_eq_true (by kernel_rfl)⟩) (by kernel_rfl) Tryz.underlying4 rfl hW' rfl rfl rfl hw⟩

theorem tcd_row_holds : Rows.TriggerCascadesDeleteSaid :=
  OpenClaim.holds_of_wide 5 Tryz.f5 rfl rfl rfl rfl rfl rfl rfl ⟨rfl, rfl, rfl, rfl, rfl⟩ rfl rfl rfl rfl rfl (by kernel_rfl) Tryz.func5 (by kernel_rfl)
    (of_decide_eq_true (by kernel_rfl)) (by unfold Func.isWrapper; rw [if_neg (by decide +kernel)]; exact ⟨rfl, rfl⟩)
    (fun os started H enc _ => tcd_lifted os started H enc)

theorem tcd_holds : Rows.TriggerCascadesDeleteCardSaid :=
  Claim7.holds_tied_plain_at .later [] [.data, .data, .data, .data, .pinned] true (true, "5ffd1bc6e65619b94d44c0cc0ccbfcd830f4bb730520e5924b0a2d812d61fa98") false
    tcd_row_holds (fun _ h => by cases h) (by kernel_rfl) (fun _ h => by cases h) triggerCascadesDelete_row_tie rfl ⟨rfl, rfl⟩ (by kernel_rfl) rfl
    (fun f fn hf hfn => by
      obtain rfl : f = 5 := Option.some.inj ((show Tryz.prog.funcNamed "stemma/stemkeep4.TriggerCascadesDelete" = some 5 by kernel_rfl).symm.trans hf) |>.symm
      obtain rfl : fn = Tryz.f5 := (Option.some.inj (Tryz.func5.symm.trans hfn)).symm
      exact ⟨by kernel_rfl, fun j t ht => by
        rw [Tryz.params5] at ht
        have hm : t ∈ [22, 3, 3, 3] := by simpa using Array.mem_of_getElem? ht
        have hall : ([22, 3, 3, 3].all fun u => !Tryz.prog.wantsStandIn u) = true := by kernel_rfl
        exact (show Tryz.prog.wantsStandIn t = false by simpa using List.all_eq_true.1 hall t hm)⟩)
    (by kernel_rfl)

end Go.Proofs.YtefifkleamiabaaGreatDoor
