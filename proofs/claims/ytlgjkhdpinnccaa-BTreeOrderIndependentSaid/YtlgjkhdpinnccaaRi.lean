/-
  A region that draws its order, by a relation that every operation keeps. No program in sight.
-/
import Derived.Test.YtlgjkhdpinnccaaTp
import Derived.Deep.RegionLaw
namespace Go.Proofs.Ytlgjkhdpinnccaa

section
variable {P : Program} {ops : Array Oper} {Q : Exit → Act → World → Prop} {md : Region.Mode}
/-- How many have not come up. -/
def open_ (listed : Array Bool) : Nat := (listed.toList.filter fun b => !b).length
theorem open_set {listed : Array Bool} {i : Nat} (h : listed.getD i true = false) : open_ (listed.setIfInBounds i true) + 1 = open_ listed := by
  have hi : i < listed.size := by
    rcases Nat.lt_or_ge i listed.size with h' | h'
    · exact h'
    · simp [Array.getElem?_eq_none h'] at h
  have hv : listed.toList[i]? = some false := by
    simp only [Array.getD_eq_getD_getElem?, Array.getElem?_eq_getElem hi, Option.getD_some] at h
    rw [Array.getElem?_toList, Array.getElem?_eq_getElem hi, h]
  unfold open_
  rw [Array.toList_setIfInBounds]
  generalize listed.toList = l at *
  obtain ⟨h1, h2⟩ := List.getElem?_eq_some_iff.1 hv
  rw [List.set_eq_take_append_cons_drop, if_pos h1]
  conv => rhs; rw [← List.take_append_drop i l, List.drop_eq_getElem_cons h1, h2]
  simp [List.filter_append]
  omega

theorem wpAny_inv {I : Array Bool → Act → World → Prop} (hstep : ∀ listed a w, I listed a w → ∀ i ∈ Region.ready md ops listed, wpOp P ops Q i (fun a' w' => I (listed.setIfInBounds i true) a' w') a w) (hend : ∀ listed a w, I listed a w → Q .normal a w) :
    ∀ (fuel : Nat) (listed : Array Bool) (a : Act) (w : World), open_ listed ≤ fuel → I listed a w → wpAny P md ops Q fuel listed a w
  | 0, listed, a, w, hf, hI => by
    refine ⟨?_, hend _ _ _ hI⟩
    cases hr : Region.ready md ops listed with
    | nil => rfl
    | cons i r =>
      have := open_set (mem_ready.1 (by rw [hr]; exact List.mem_cons_self : i ∈ Region.ready md ops listed)).1
      omega
  | fuel + 1, listed, a, w, hf, hI => ⟨fun _ => hend _ _ _ hI, fun i hi => wpOp_mono (fun a' w' h => wpAny_inv hstep hend fuel _ a' w' (by
      have := open_set (mem_ready.1 hi).1
      omega) h) (hstep _ _ _ hI i hi)⟩

theorem wpOp_plain {i : Nat} {o : Oper} {K : Act → World → Prop} {a : Act} {w : World} (hi : ops[i]? = some o) (hg : o.guard = none) (h : ∀ K' : Act → World → Prop, (∀ a w, K a w → K' a w) → o.wp P a w K' Q) : wpOp P ops Q i K a w := by
  unfold wpOp
  simp only [hi]
  have hw : Region.wanted o (yielded ops a.tmps) = true := by simp [Region.wanted, hg]
  rw [if_pos hw]
  exact .inl (h K fun _ _ h => h)
end
end Go.Proofs.Ytlgjkhdpinnccaa
