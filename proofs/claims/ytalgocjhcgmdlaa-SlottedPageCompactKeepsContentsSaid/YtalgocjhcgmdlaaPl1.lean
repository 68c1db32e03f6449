/-
  The walks of the laws SlottedPageGetAfterInsert, SlottedPageCapacityIsTight.
-/
import Derived.Test.YtalgocjhcgmdlaaPrd
namespace Go.Proofs.Ytalgocjhcgmdlaa
open Go.RowKit

theorem us_full {p : List Nat} (h : ∀ i, i < B p 0 → so p i ≠ 0) : (us p (B p 0)).length = B p 0 := by
  unfold us
  rw [List.filter_eq_self.2 fun i hi => decide_eq_true (h i (List.mem_range.1 hi)), List.length_range]

set_option maxRecDepth 100000 in
set_option maxHeartbeats 2000000 in
theorem getafter_law (A : Option Addr) (c : Nat) (xs : List Int) (w : World) (hx : Elems 1 intCs w (· < w.heap.size) A xs) (hlc : xs.length ≤ c) (hc : c ≤ maxLen) (hok : ∀ n ∈ xs, I64 n) :
    Calls Try.prog 4 #[.slice A xs.length c] w fun e w' => e = .returned (.bool true) ∧ Below w.heap.size w w' := by
  have HF := Lib.hid (filledPage A c xs w hx hlc hc hok)
  clear hx hlc hc hok
  go_enter Try.func4, Try.ntmps4
  go_wp2_with fail
  refine HF.out.mono ?_
  rintro e w1 ⟨p, g, c1, b, rfl, hfi⟩
  have HFI := Lib.hid hfi
  have HRD := Lib.hid (readsPage w1 hfi.pg hfi.wf hfi.mp)
  have huf := us_full hfi.full
  have hpos := hfi.pos
  have HLN := Lib.hid fun W (hW : Below w1.heap.size w1 W) => (hfi.mp.below hW).len
  rw [huf] at HLN
  generalize B p 0 = n at *
  clear hfi huf
  go_wp2_with fail
  refine HRD.out.mono ?_
  rintro e w2 ⟨rfl, hb2⟩
  have hln := HLN.out w2 hb2
  have HB2 := Lib.hid (HFI.out.below.trans (hb2.mono HFI.out.below.size))
  clear hb2 HRD HFI HLN
  by_cases h0 : xs.length = 0
  · rw [h0]
    clear hpos
    go_wp2_with fail
    go_ret
    exact ⟨rfl, HB2.out⟩
  · have x1 : ((xs.length : Int) == 0) = false := by rw [beq_eq_false_iff_ne]; omega
    have x2 : (0 : Nat) < n := hpos (by omega)
    have x3 : decide ((0 : Int) < (n : Int)) = true := decide_eq_true (by omega)
    go_wp2_with fail
    go_ret
    exact ⟨rfl, HB2.out⟩

set_option maxRecDepth 100000 in
set_option maxHeartbeats 2000000 in
theorem tight_law (A : Option Addr) (c : Nat) (xs : List Int) (w : World) (hx : Elems 1 intCs w (· < w.heap.size) A xs) (hlc : xs.length ≤ c) (hc : c ≤ maxLen) (hok : ∀ n ∈ xs, I64 n) :
    Calls Try.prog 3 #[.slice A xs.length c] w fun e w' => e = .returned (.bool true) ∧ Below w.heap.size w w' := by
  have HF := Lib.hid (filledPage A c xs w hx hlc hc hok)
  clear hx hlc hc hok
  go_enter Try.func3, Try.ntmps3
  go_wp2_with fail
  refine HF.out.mono ?_
  rintro e w1 ⟨p, g, c1, b, rfl, hfi⟩
  have HFI := Lib.hid hfi
  have HCP := Lib.hid (capacityOut w1 hfi.pg hfi.wf)
  have hcap : cap p ≤ 100 := by unfold cap; omega
  obtain ⟨n, hn⟩ : ∃ n, n = cap p := ⟨_, rfl⟩
  obtain ⟨Z1, hmk1, hmo1⟩ := make_bytes n (by omega)
  obtain ⟨n1, hn1⟩ : ∃ n1, n1 = n + 1 := ⟨_, rfl⟩
  obtain ⟨Z2, hmk2, hmo2⟩ := make_bytes n1 (by omega)
  have HM1 := Lib.hid hmo1
  have HM2 := Lib.hid hmo2
  have HIN := Lib.hid fun (r : List Nat) (gr cr : Nat) (hb : ∀ t, r.getD t 0 < 256) W (hW : Below w1.heap.size w1 W) (hr : Rec W gr cr r) => insertPage W (hfi.pg.below hW) hfi.wf hr hb
  unfold InsPost at HIN
  rw [← hn] at HCP hcap HIN
  have y1 : (n : Int) + 1 = (n1 : Int) := by omega
  have y2 : ¬ ((n : Int) < 0) := by omega
  have y3 : ¬ ((100 : Int) < (n : Int)) := by omega
  clear hfi hmo1 hmo2 hn
  have HB1 := Lib.hid HFI.out.below
  clear HFI HF
  go_wp2_with fail
  refine HCP.out.mono ?_
  rintro e w2 ⟨rfl, hb2⟩
  have HR1 : Hid (∀ W : World, Rec (W.alloc (.cells Z1 5)) W.heap.size n (List.replicate n 0)) := Lib.hid fun W =>
    (Rw.toRec (base := W.heap.size) ⟨by rw [List.length_replicate]; exact HM1.out W _ (Nat.le_refl _)⟩)
  have HR2 : Hid (∀ W : World, Rec (W.alloc (.cells Z2 5)) W.heap.size n1 (List.replicate n1 0)) := Lib.hid fun W =>
    (Rw.toRec (base := W.heap.size) ⟨by rw [List.length_replicate]; exact HM2.out W _ (Nat.le_refl _)⟩)
  have HB2 := Lib.hid hb2
  clear hb2 HCP HM1 HM2
  go_wp2_with fail
  have hi1 := HIN.out (List.replicate n 0) _ n (byte_rep n) _ (HB2.out.alloc HB2.out.size _) (HR1.out w2)
  rw [List.length_replicate] at hi1
  refine hi1.mono ?_
  rintro e w3 ⟨hb3, hcase⟩
  have hb3' := (HB2.out.alloc HB2.out.size (.cells Z1 5)).trans (hb3.mono (HB2.out.alloc HB2.out.size _).size)
  have HB3 := Lib.hid hb3'
  clear hi1 hb3 hb3'
  have hi2 := HIN.out (List.replicate n1 0) w3.heap.size n1 (byte_rep n1) (w3.alloc (.cells Z2 5)) (HB3.out.alloc HB3.out.size _) (HR2.out w3)
  rw [List.length_replicate] at hi2
  have HI2 := Lib.hid hi2
  have HBE : Hid (∀ w', Below (w3.alloc (.cells Z2 5)).heap.size (w3.alloc (.cells Z2 5)) w' → Below w.heap.size w w') := Lib.hid fun w' hw' =>
    (HB1.out.trans ((HB3.out.alloc HB3.out.size (.cells Z2 5)).mono HB1.out.size)).trans (hw'.mono (HB1.out.trans ((HB3.out.alloc HB3.out.size (.cells Z2 5)).mono HB1.out.size)).size)
  clear hi2 HB3 HB2 HIN
  have HN1 := Lib.hid hn1
  clear hn1
  by_cases h0 : n = 0
  · have HN0 := Lib.hid h0
    rw [if_pos (.inl (by omega))] at hcase
    subst hcase
    have z2 : decide ((0 : Int) < (n : Int)) = false := decide_eq_false (by omega)
    have z1 : ¬ ((0 : Int) < (n : Int)) := by omega
    have z3 : ¬ (0 < n) := by omega
    clear h0
    go_wp2_with fail
    refine HI2.out.mono ?_
    rintro e w4 ⟨hb4, hcase⟩
    have hn0 := HN0.out
    have hn1 := HN1.out
    rw [if_neg (by omega), if_pos (by omega)] at hcase
    subst hcase
    have HB4 := Lib.hid (HBE.out w4 hb4)
    clear hb4 hn0 hn1
    go_wp2_with fail
    go_ret
    exact ⟨rfl, HB4.out⟩
  · rw [if_neg (by omega), if_neg (by omega)] at hcase
    obtain ⟨g4, c4, rfl, _⟩ := hcase
    have z1 : (0 : Int) < (n : Int) := by omega
    have z2 : decide ((0 : Int) < (n : Int)) = true := decide_eq_true z1
    have z3 : 0 < n := by omega
    clear h0
    go_wp2_with fail
    refine HI2.out.mono ?_
    rintro e w4 ⟨hb4, hcase⟩
    have HB4 := Lib.hid (HBE.out w4 hb4)
    have hn1 := HN1.out
    by_cases h100 : 100 < n1
    · rw [if_pos (.inr h100)] at hcase
      subst hcase
      clear hb4 hn1
      go_wp2_with fail
      go_ret
      exact ⟨rfl, HB4.out⟩
    · rw [if_neg (by omega), if_pos (by omega)] at hcase
      subst hcase
      clear hb4 hn1
      go_wp2_with fail
      go_ret
      exact ⟨rfl, HB4.out⟩

end Go.Proofs.Ytalgocjhcgmdlaa
