/-
  The walks of Slots, firstFree.
-/
import Derived.Test.YtalgocjhcgmdlaaPw4
namespace Go.Proofs.Ytalgocjhcgmdlaa
open Go.RowKit

theorem elem_ints : ElemT Try.prog 22 3 1 8 := ⟨Try.underlying22, by
  have h : (Try.prog.info? 3).map (fun i => (i.zero, i.size, i.bytes)) = some (some (.int .i64 0), 1, 8) := by kernel_rfl
  obtain ⟨i0, hi, hz0, hz1, hz2⟩ := info_parts h
  exact ⟨i0, _, hi, hz0, hz1, hz2, rfl⟩, by omega⟩
def natCs (n : Nat) : List Value := [.int .i64 (n : Int)]
theorem natLay : Lay 1 natCs := ⟨fun _ => rfl, fun x c hc => by simp [natCs] at hc; subst hc; rfl⟩
abbrev Nats (base : Nat) (w : World) (v : Value) (xs : List Nat) : Prop := Own 1 natCs 3 base w v xs
theorem Elems.nat {w : World} {S : Nat → Prop} {A : Option Addr} {xs : List Nat} {k : Nat} (h : Elems 1 natCs w S A xs) (hk : k < xs.length) :
    ∃ b off, A = some ⟨b, off, none⟩ ∧ S b ∧ w.cell? ⟨b, off + k, none⟩ = some (.int .i64 (xs[k] : Int)) := by
  obtain ⟨b, off, e, hb, hc⟩ := h.at_ hk
  exact ⟨b, off, e, hb, by simpa using hc 0 _ rfl⟩
theorem Own.form' {α : Type} {sz : Nat} {cs : α → List Value} {e : TypeId} {base : Nat} {w : World} {v : Value} {xs : List α} (h : Own sz cs e base w v xs) : ∃ A n c, v = .slice A n c ∧ xs.length = n := by
  obtain ⟨A, c, hv, _, _⟩ := h.form
  exact ⟨A, _, c, hv, rfl⟩

/-- What Slots leaves. -/
def SlotsPost (w : World) (xs : List Nat) (e : Ending) (w' : World) : Prop := ∃ v, e = .returned (.tuple #[v, .int .i64 0]) ∧ Nats w.heap.size w' v xs ∧ Below w.heap.size w w'

set_option maxRecDepth 100000 in
set_option maxHeartbeats 1000000 in
theorem slotsPage {base g c : Nat} {p : List Nat} (w : World) (h : Pg base w g c p) (hw : WF p) :
    Calls Try.prog 21 #[.slice (some ⟨g, 0, none⟩) 256 c] w (SlotsPost w (us p (B p 0))) := by
  have hn := hw.n_le
  have HC0 := Lib.hid fun W (hW : Pg base W g c p) => hW.at_ (k := 0) (by omega)
  have HCH := Lib.hid (checkPage w h hw)
  have HP := Lib.hid fun W (hW : Below w.heap.size w W) => h.below hW
  obtain ⟨n, hnn⟩ : ∃ n, n = B p 0 := ⟨_, rfl⟩
  rw [← hnn] at hn HC0 ⊢
  have y2 : (n : Int) < 256 := by omega
  clear h hw hnn
  go_enter Try.func21, Try.ntmps21
  go_wp2_with fail
  refine HCH.out.mono ?_
  rintro e w1 ⟨rfl, hb1⟩
  have z0 := HC0.out w1 (HP.out w1 hb1)
  have HB := Lib.hid hb1
  clear hb1
  go_wp2_with fail
  go_loopw [5, 18] (fun v i wr => ∃ k : Nat, k ≤ n ∧ i = .int .i64 k ∧ Nats w.heap.size wr v (us p k) ∧ Below w.heap.size w wr) (fun _ i _ => n - (intOf i).toNat)
  case atStart => exact ⟨0, by omega, rfl, Own.nil _, HB.out⟩
  case round =>
    clear HB
    obtain ⟨k, hk, rfl, hok, hbk⟩ := hrel
    by_cases hlt : k < n
    · have HS := Lib.hid (slotAt wr (HP.out wr hbk) k (by omega))
      have HU := Lib.hid (us_succ p k)
      have hul := us_len p k
      have HOK := Lib.hid hok
      have HBK := Lib.hid hbk
      have hsz := hbk.size
      have H1 : Hid (((us p k).length + 1) * 8 ≤ 140737488355328) := Lib.hid (by omega)
      have H2 : Hid ((us p k).length + 1 ≤ maxLen) := Lib.hid (by unfold maxLen; omega)
      clear hok hbk hul
      generalize us p k = d at *
      by_cases hu : so p k = 0
      · rw [hu] at HS
        rw [if_pos hu] at HU
        clear hu
        generalize sl p k = l at *
        go_wp2_with fail
        refine HS.out.mono ?_
        rintro e w2 ⟨rfl, nd, rfl⟩
        go_wp2_with fail
        go_roundw
        case rel => exact ⟨k + 1, by omega, by go_num, by rw [HU.out]; exact HOK.out.drewN nd, below_drewN HBK.out nd⟩
        case measure => simp [intOf]; omega
      · rw [if_neg hu] at HU
        have hup : decide ((0 : Int) < (so p k : Int)) = true := decide_eq_true (by omega)
        have hup2 : (0 : Nat) < so p k := by omega
        clear hu
        generalize so p k = o at *
        generalize sl p k = l at *
        go_wp2_with fail
        refine HS.out.mono ?_
        rintro e w2 ⟨rfl, nd, rfl⟩
        have HO2 := Lib.hid (HOK.out.drewN nd)
        have HB2 := Lib.hid (below_drewN HBK.out nd)
        have hsz2 : w.heap.size ≤ (wr.drewN nd).heap.size := HB2.out.size
        go_wp2_with (at_builtin; refine wpList_app rfl (.tmp 29) (.tmp 31) _ _ rfl rfl rfl (run_push elem_ints natLay _ _ u5 d k _ HO2.out rfl H1.out H2.out hsz2 rfl) ?_; rintro v1 w3 ⟨ho1, hx1⟩)
        go_roundw
        case rel =>
          have hne : ∀ b, u5.ownBlock = some b → w.heap.size ≤ b := fun b hb => (HO2.out.lt b hb).1
          exact ⟨k + 1, by omega, by go_num, by rw [HU.out]; exact ho1, HB2.out.trans (hx1.below (base := w.heap.size) hsz2 hne)⟩
        case measure => simp [intOf]; omega
    · have hkn : k = n := by omega
      subst hkn
      have HOK := Lib.hid hok
      clear hok
      go_wp2_with fail
      go_ret2
      exact ⟨_, rfl, HOK.out, hbk⟩

set_option maxRecDepth 100000 in
set_option maxHeartbeats 1000000 in
theorem firstFree {base g c : Nat} {p : List Nat} (w : World) (h : Pg base w g c p) (hn : B p 0 ≤ 127) :
    Calls Try.prog 19 #[.slice (some ⟨g, 0, none⟩) 256 c] w fun e w' => e = .returned (.int .i64 (ffree p : Nat)) ∧ ∃ m, w' = w.drewN m := by
  have c0 := h.at_ (k := 0) (by omega)
  have HP := Lib.hid h
  have HF : Hid (∀ i, FF p i → ffree p = i) := Lib.hid fun i hi => (ffree_spec p).uniq hi
  have HFF : Hid (∀ i, FF p i ↔ (i ≤ B p 0 ∧ (∀ j, j < i → so p j ≠ 0) ∧ (i < B p 0 → so p i = 0))) := Lib.hid fun _ => Iff.rfl
  generalize ffree p = f at *
  obtain ⟨n, hnn⟩ : ∃ n, n = B p 0 := ⟨_, rfl⟩
  rw [← hnn] at hn c0 HFF
  have y2 : (n : Int) < 256 := by omega
  clear h hnn
  go_enter Try.func19, Try.ntmps19
  go_wp2_with fail
  go_loopw [10] (fun i wr => ∃ k : Nat, k ≤ n ∧ i = .int .i64 k ∧ (∀ j, j < k → so p j ≠ 0) ∧ ∃ m, wr = w.drewN m) (fun i _ => n - (intOf i).toNat)
  case atStart => exact ⟨0, by omega, rfl, fun j hj => absurd hj (Nat.not_lt_zero _), 0, rfl⟩
  case round =>
    obtain ⟨k, hk, rfl, hall, m, rfl⟩ := hrel
    have HA := Lib.hid hall
    have HPM := Lib.hid (HP.out.below (below_drewN (Below.refl _ _) m))
    clear hall
    by_cases hlt : k < n
    · have HS := Lib.hid (slotAt _ HPM.out k (by omega))
      by_cases hu : so p k = 0
      · have HR := Lib.hid (HF.out k ((HFF.out k).2 ⟨hk, HA.out, fun _ => hu⟩))
        rw [hu] at HS
        generalize sl p k = l at *
        clear hu
        go_wp2_with fail
        refine HS.out.mono ?_
        rintro e w2 ⟨rfl, nd, rfl⟩
        go_wp2_with fail
        go_ret
        exact ⟨by rw [HR.out]; rfl, _, rfl⟩
      · have HNU := Lib.hid hu
        have y3 : ((so p k : Int) == 0) = false := by rw [beq_eq_false_iff_ne]; omega
        clear hu
        generalize ho : so p k = o at *
        have HO := Lib.hid ho
        clear ho
        generalize sl p k = l at *
        go_wp2_with fail
        refine HS.out.mono ?_
        rintro e w2 ⟨rfl, nd, rfl⟩
        go_wp2_with fail
        go_roundw
        case rel =>
          refine ⟨k + 1, by omega, by go_num, fun j hj => ?_, _, rfl⟩
          by_cases e : j = k
          · rw [e, HO.out]; exact HNU.out
          · exact HA.out j (by omega)
        case measure => simp [intOf]; omega
    · have hkn : k = n := by omega
      subst hkn
      have HR := Lib.hid (HF.out k ((HFF.out k).2 ⟨hk, HA.out, fun hlt => absurd hlt (Nat.lt_irrefl _)⟩))
      have c0' : (w.drewN m).cell? ⟨g, 0, none⟩ = some (.int .u8 (k : Int)) := c0
      go_wp2_with fail
      go_ret
      exact ⟨by rw [HR.out]; rfl, m, rfl⟩

end Go.Proofs.Ytalgocjhcgmdlaa
