/-
  The walks of disjoint, Check.
-/
import Derived.Test.YtalgocjhcgmdlaaPw2
import Derived.Deep.Cut
import Derived.Deep.CutRange
namespace Go.Proofs.Ytalgocjhcgmdlaa
open Go.RowKit

/-- The marks of the bytes that are in use. -/
structure Us (w wr : World) (f : Nat → Bool) : Prop where
  below : Below w.heap.size w wr
  row : ∃ Z : Array Value, wr.heap[w.heap.size]? = some (.cells Z 54 (0, 0)) ∧ ∀ k, k < 256 → Z[k]? = some (.bool (f k))

theorem zero256 : ∃ Z : Array Value, (∀ w : World, (zeroValue 54).run Try.prog w = .ok (.agg Z) w) ∧ Z.size = 256 ∧ ∀ k, k < 256 → Z[k]? = some (.bool false) :=
  ⟨Array.replicate 256 (.bool false), fun _ => by kernel_rfl, by simp, fun k hk => by simp [hk]⟩
theorem Us.first (w : World) (Z : Array Value) (h : ∀ k, k < 256 → Z[k]? = some (.bool false)) : Us w (w.alloc (.cells Z 54)) (fun _ => false) :=
  ⟨(Below.refl _ _).alloc (Nat.le_refl _) _, Z, heap_alloc_new _ _, h⟩
theorem Us.lt {w wr : World} {f : Nat → Bool} (h : Us w wr f) : w.heap.size < wr.heap.size := by
  obtain ⟨Z, h1, _⟩ := h.row
  exact (Array.getElem?_eq_some_iff.1 h1).1
theorem Us.keep {w wr w' : World} {f : Nat → Bool} (h : Us w wr f) (hb : Below wr.heap.size wr w') : Us w w' f := by
  obtain ⟨Z, h1, h2⟩ := h.row
  exact ⟨h.below.trans (hb.mono (Nat.le_of_lt h.lt)), Z, (hb.block _ h.lt).trans h1, h2⟩
theorem Us.congr {w wr : World} {f f' : Nat → Bool} (h : Us w wr f) (hf : ∀ k, k < 256 → f' k = f k) : Us w wr f' := by
  obtain ⟨Z, h1, h2⟩ := h.row
  exact ⟨h.below, Z, h1, fun k hk => by rw [hf k hk]; exact h2 k hk⟩
theorem Us.at_ {w wr : World} {f : Nat → Bool} (h : Us w wr f) {k : Nat} (hk : k < 256) : wr.cell? ⟨w.heap.size, k, none⟩ = some (.bool (f k)) ∧ wr.frozen? ⟨w.heap.size, k, none⟩ = false := by
  obtain ⟨Z, h1, h2⟩ := h.row
  exact ⟨(cell_of_row _ _ _ _ _ _ h1).trans (h2 k hk), frozen_of_row _ _ _ _ _ h1⟩
theorem Us.set {w wr : World} {f : Nat → Bool} (h : Us w wr f) {j : Nat} (hj : j < 256) : Us w (wr.setCell ⟨w.heap.size, j, none⟩ (.bool true)) (fun k => f k || decide (k = j)) := by
  obtain ⟨Z, h1, h2⟩ := h.row
  refine ⟨h.below.setCell (p := ⟨w.heap.size, j, none⟩) (Nat.le_refl _) _, _, heap_setCell_same _ _ j _ _ (.bool true) h1, fun k hk => ?_⟩
  rw [Array.getElem?_setIfInBounds]
  have hjz : j < Z.size := by
    have := h2 j hj
    exact (Array.getElem?_eq_some_iff.1 this).1
  by_cases e : j = k
  · subst e
    simp [hjz]
  · rw [if_neg e, h2 k hk]
    have : decide (k = j) = false := decide_eq_false (fun h => e h.symm)
    rw [this, Bool.or_false]

set_option maxRecDepth 100000 in
set_option maxHeartbeats 2000000 in
theorem disjoint {base g c : Nat} {p : List Nat} (w : World) (h : Pg base w g c p) (hw : WF p) :
    Calls Try.prog 27 #[.slice (some ⟨g, 0, none⟩) 256 c] w fun e w' => e = .returned (.bool true) ∧ Below w.heap.size w w' := by
  have c0 := h.at_ (k := 0) (by omega)
  have hn := hw.n_le
  have gl := h.lt.2
  obtain ⟨Z, hz, _, hZ⟩ := zero256
  have HU0 := Lib.hid (Us.first w Z hZ)
  have HW := Lib.hid hw
  have HP := Lib.hid h
  obtain ⟨n, hnn⟩ : ∃ n, n = B p 0 := ⟨_, rfl⟩
  rw [← hnn] at hn c0
  have HN := Lib.hid hnn
  clear h hw hZ hnn
  go_enter Try.func27, Try.ntmps27
  go_wp2_with fail
  go_loopw [12] (fun i wr => ∃ k : Nat, k ≤ n ∧ i = .int .i64 k ∧ Us w wr (cov p k)) (fun i _ => n - (intOf i).toNat)
  case atStart => exact ⟨0, by omega, rfl, HU0.out.congr fun k _ => rfl⟩
  case round =>
    obtain ⟨k, hk, rfl, hu⟩ := hrel
    clear HU0
    by_cases hlt : k < n
    · have HU := Lib.hid hu
      have hul := hu.lt
      have HPW := Lib.hid (HP.out.below hu.below)
      clear hu
      have hkb : k < B p 0 := by rw [← HN.out]; exact hlt
      have hsl := HW.out.slot k hkb
      have HAP := Lib.hid fun j (hj : cov p k j = true) => HW.out.apart hkb hj
      have HCS := Lib.hid (fun j => cov_succ p k j)
      have HSA := Lib.hid fun W (hW : Pg base W g c p) => slotAt W hW k (by omega)
      have HDS := Lib.hid fun W (hW : Pg base W g c p) => dataStart W hW
      have hds := HW.out.ds_le
      have hrm : 2 ≤ dS p := by have := HW.out.room; omega
      generalize so p k = o at *
      generalize sl p k = l at *
      generalize dS p = d at *
      go_wp2_with fail
      refine (HSA.out wr HPW.out).mono ?_
      rintro e w1 ⟨rfl, nd, rfl⟩
      have HPD := Lib.hid (HPW.out.below (below_drewN (Below.refl _ _) nd))
      have HUD := Lib.hid (HU.out.keep (below_drewN (Below.refl _ _) nd))
      rcases hsl with ⟨rfl, rfl⟩ | ⟨h1, h2, h3, h4⟩
      · go_wp2_with fail
        go_roundw
        case rel => exact ⟨k + 1, by omega, by go_num, HUD.out.congr fun j _ => by rw [HCS.out]; simp⟩
        case measure => simp [intOf]; omega
      · have x1 : ((o : Int) == 0) = false := by rw [beq_eq_false_iff_ne]; omega
        have x2 : ((l : Int) == 0) = false := by rw [beq_eq_false_iff_ne]; omega
        have x3 : decide ((l : Int) < 1) = false := decide_eq_false (by omega)
        have x4 : decide ((100 : Int) < (l : Int)) = false := decide_eq_false (by omega)
        have x5 : decide ((o : Int) < (d : Int)) = false := decide_eq_false (by omega)
        have x6 : decide ((256 : Int) < (o : Int) + (l : Int)) = false := decide_eq_false (by omega)
        go_wp2_with fail
        refine (HDS.out _ HPD.out).mono ?_
        rintro e w1 ⟨rfl, rfl⟩
        go_wp2_with fail
        go_loopw [7] (fun i wi => ∃ j : Nat, o ≤ j ∧ j ≤ o + l ∧ i = .int .i64 j ∧ Us w wi (fun x => cov p k x || (decide (o ≤ x) && decide (x < j)))) (fun i _ => o + l - (intOf i).toNat)
        case atStart => exact ⟨o, by omega, by omega, rfl, HUD.out.congr fun x _ => by
          have : (decide (o ≤ x) && decide (x < o)) = false := by
            rw [Bool.and_eq_false_iff, decide_eq_false_iff_not, decide_eq_false_iff_not]
            omega
          rw [this, Bool.or_false]⟩
        case round =>
          obtain ⟨j, hj1, hj2, rfl, hu⟩ := hrel
          clear HUD HPD HU HPW
          by_cases hjl : j < o + l
          · have hfree : (cov p k j || (decide (o ≤ j) && decide (j < j))) = false := by
              have h8 : decide (j < j) = false := decide_eq_false (by omega)
              rw [h8, Bool.and_false, Bool.or_false]
              cases hc : cov p k j with
              | false => rfl
              | true =>
                have := HAP.out j hc
                rw [Bool.and_eq_false_iff, decide_eq_false_iff_not, decide_eq_false_iff_not] at this
                omega
            obtain ⟨p1, p2⟩ := hu.at_ (k := j) (by omega)
            have hfree' : wr.cell? ⟨w.heap.size, j, none⟩ = some (.bool false) := p1.trans (by rw [hfree])
            have HUS := Lib.hid (hu.set (j := j) (by omega))
            have hul2 := hu.lt
            have hj3 : (j : Int) < 256 := by omega
            have hj4 : decide ((j : Int) < (o : Int) + (l : Int)) = true := decide_eq_true (by omega)
            clear hu p1 hfree
            go_wp2_with fail
            go_roundw
            case rel =>
              refine ⟨j + 1, by omega, by omega, by go_num, HUS.out.congr fun x _ => ?_⟩
              cases cov p k x <;> simp
              by_cases e1 : x = j <;> by_cases e2 : o ≤ x <;> by_cases e3 : x < j <;> simp [e1, e2, e3] <;> omega
            case measure => simp [intOf]; omega
          · have hjl2 : j = o + l := by omega
            subst hjl2
            have HUE := Lib.hid hu
            have hj4 : decide (((o + l : Nat) : Int) < (o : Int) + (l : Int)) = false := decide_eq_false (by omega)
            clear hu
            go_wp2_with fail
            go_roundw
            case rel => exact ⟨k + 1, by omega, by go_num, HUE.out.congr fun x _ => by rw [HCS.out]⟩
            case measure => simp [intOf]; omega
    · have hkn : k = n := by omega
      subst hkn
      go_wp2_with fail
      go_ret
      exact ⟨rfl, hu.below⟩

end Go.Proofs.Ytalgocjhcgmdlaa
