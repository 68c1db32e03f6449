/-
  The walk of bitmap.expand.
-/
import Derived.Test.YthobibjbpbnhnaaDoorComp
import Derived.Deep.QuietTactic
import Derived.BigQuiet
namespace Go.Proofs.YthobibjbpbnhnaaDoor
open Go.RowKit

theorem quiet_same {P : Program} {f : FuncId} {args : Array Value} {w : World} {n : Nat} {v : Value}
    (h : Calls P f args (w.drewN n) fun e w' => e = .returned v ∧ w.drewN n = w') : Calls P f args (w.drewN n) fun e w'' => e = .returned v ∧ ∃ m, w'' = w.drewN m :=
  h.mono fun _ _ ⟨he, hm⟩ => ⟨he, n, hm.symm⟩

theorem nat_toList {x : Int} (h : 0 ≤ x) : (#[Value.int .i64 x] : Array Value).toList = natCs x.toNat := by
  unfold natCs
  rw [Int.toNat_of_nonneg h]

/-- What expand leaves. -/
def ExpPost (w : World) (gs : List Nat) (e : Ending) (w' : World) : Prop := ∃ v, e = .returned (.tuple #[v, .bool true]) ∧ Nats w.heap.size w' v gs ∧ Below w.heap.size w w'

/-- The state between two words. -/
structure EInv (w : World) (n : Nat) (s : Value) (wr : World) (v : Value) (gs : List Nat) : Prop where
  own : Nats (w.heap.size + 1) wr v gs
  below : Below w.heap.size w wr
  b : wr.heap[w.heap.size]? = some (.cells #[.int .i64 n, s] 25 (0, 0))

section
variable {w wr w1 : World} {n : Nat} {v v1 s : Value} {gs gs1 : List Nat}
theorem EInv.lb (h : EInv w n s wr v gs) : w.heap.size + 1 ≤ wr.heap.size := (Array.getElem?_eq_some_iff.1 h.b).1
theorem EInv.c0 (h : EInv w n s wr v gs) : wr.cell? ⟨w.heap.size, 0, none⟩ = some (.int .i64 n) := cell_of_row _ _ 0 _ _ _ h.b
theorem EInv.c1 (h : EInv w n s wr v gs) : wr.cell? ⟨w.heap.size, 1, none⟩ = some s := cell_of_row _ _ 1 _ _ _ h.b
theorem EInv.push (h : EInv w n s wr v gs) (hx : Ext wr v w1 v1) (ho : Nats (w.heap.size + 1) w1 v1 gs1) : EInv w n s w1 v1 gs1 :=
  ⟨ho, h.below.trans (hx.below h.below.size (fun g hg => by have := (h.own.lt g hg).1; omega)), (hx.grown.block _ (by have := h.lb; omega) (fun e => by have := (h.own.lt _ e.symm).1; omega)).trans h.b⟩
end

set_option maxRecDepth 100000 in
set_option maxHeartbeats 1000000 in
theorem expand (n : Nat) (A : Option Addr) (c : Nat) (gs : List Nat) (w : World) (hx : Elems 1 intCs w (· < w.heap.size) A (comp gs)) (hG : Good n gs) (hn : n ≤ 100000) (hn1 : 1 ≤ n) :
    Calls Tryd.prog 11 #[.agg #[.int .i64 n, .slice A (comp gs).length c]] w (ExpPost w gs) := by
  have hwc := wc_comp hG.le
  have hec := exp_comp hG.le
  have hgl := hG.len
  have hgc := gc_le hn
  have hwl := ws_len hwc
  rw [hec] at hwl
  generalize comp gs = ws at *
  have HG := Lib.hid hG
  have HW := Lib.hid hwc
  have HE := Lib.hid hec
  have HGC := Lib.hid fun W => groupCount n W hn
  have HLM := Lib.hid fun W => lastMask n W hn
  clear hG hwc hec
  go_enter Tryd.func11, Tryd.ntmps11
  go_wp2_with fail
  go_loopw [2, 13] (fun v i wr => ∃ k : Nat, k ≤ ws.length ∧ i = .int .i64 k ∧ EInv w n (.slice A ws.length c) wr v (exp (ws.take k))) (fun _ i _ => ws.length - (intOf i).toNat)
  case atStart => exact ⟨0, by omega, rfl, Own.nil _, (Below.refl _ _).alloc (Nat.le_refl _) _, heap_alloc_new _ _⟩
  case round =>
    obtain ⟨k, hk, rfl, HI0⟩ := hrel
    have HI := Lib.hid HI0
    have hb := HI0.below
    have d0 := HI0.c0
    have d1 := HI0.c1
    have hlb := HI0.lb
    obtain ⟨A1, m1, c1, rfl, hm1⟩ := HI0.own.form'
    by_cases hlt : k < ws.length
    · obtain ⟨b, off, rfl, hbs, c0⟩ := (hx.keep (Keeps.of_below hb fun _ h => h)).int hlt
      have HT := Lib.hid (exp_take hlt)
      have hel := exp_take_le ws (k + 1)
      rw [exp_take hlt, HE.out, List.length_append] at hel
      have hlit := HW.out.lit _ (List.getElem_mem hlt)
      have hfil := HW.out.fill _ (List.getElem_mem hlt)
      have hwle := word_le hlt
      rw [HE.out] at hwle
      have hap := fun (h0 : 0 < k) => HW.out.apart (k - 1) (ws[k - 1]'(by omega)) ws[k] (List.getElem?_eq_getElem (by omega)) (by rw [show k - 1 + 1 = k by omega]; exact List.getElem?_eq_getElem hlt)
      have HPC := Lib.hid fun (h0 : 0 < k) => (hx.keep (Keeps.of_below hb fun _ h => h)).int (k := k - 1) (by omega)
      have HPL := Lib.hid fun (h0 : 0 < k) => word_le (ws := ws) (k := k - 1) (by omega)
      by_cases hpos : 0 ≤ ws[k]
      · have he : expW ws[k] = [ws[k].toNat] := if_pos hpos
        rw [he] at HT
        obtain ⟨hx1, hx2⟩ := hlit hpos
        have hnat := nat_toList hpos
        have hx3 : (ws[k] == 0) = false := by rw [beq_eq_false_iff_ne]; omega
        have hx4 : ¬ (2147483647 ≤ ws[k]) := by omega
        have H1 : Hid (((exp (ws.take k)).length + 1) * 8 ≤ 140737488355328) := Lib.hid (by rw [he] at hel; simp at hel; omega)
        have H2 : Hid ((exp (ws.take k)).length + 1 ≤ maxLen) := Lib.hid (by rw [he] at hel; simp at hel; unfold maxLen; omega)
        clear hlit hfil hwle hap he hel HI0 HPC HPL
        generalize ws[k] = x at *
        generalize exp (ws.take k) = d at *
        go_wp2_with (at_builtin; refine wpList_app rfl (.tmp 26) (.tmp 28) _ _ rfl rfl rfl (run_push elem_ints natLay _ wr _ d x.toNat _ HI.out.own hnat H1.out H2.out hlb rfl) ?_; rintro v1 w1 ⟨ho1, hx1⟩)
        go_roundw
        case rel => exact ⟨k + 1, by omega, by go_num, by rw [HT.out]; exact HI.out.push hx1 ho1⟩
        case measure => simp [intOf]; omega
      · have hneg : ws[k] < 0 := by omega
        have he : expW ws[k] = List.replicate (fillN ws[k]) (fillP ws[k]) := if_neg hpos
        rw [he] at HT hel
        rw [List.length_replicate] at hel
        have hf1 := hfil hneg
        have hl1 : -1000000 ≤ ws[k] := by rcases fill_of hneg with ⟨h, _⟩ | ⟨h, _⟩ <;> omega
        have HD := Lib.hid fun W => decodeFill ws[k] W hneg hl1
        have hnn : decide (0 ≤ ws[k]) = false := by rw [decide_eq_false_iff_not]; exact hpos
        have HNL : Hid ((exp (ws.take k)).length + fillN ws[k] ≤ 4000) := Lib.hid (by omega)
        have hm2 : ¬ ((fillN ws[k] : Int) < 1) := by omega
        have hm3 : ¬ ((gc n : Int) - (m1 : Int) < (fillN ws[k] : Int)) := by omega
        have hm4 : m1 ≤ 4000 := by omega
        have HYU : Hid ((#[Value.int .i64 ((fillP ws[k] : Nat) : Int)] : Array Value).toList = natCs (fillP ws[k])) := Lib.hid rfl
        have hi1 : (k : Int) - 1 < (ws.length : Int) := by omega
        by_cases hk0 : k = 0
        · have hd0' : decide ((0 : Int) < (k : Int)) = false := by rw [decide_eq_false_iff_not]; omega
          have hd1' : decide (0 < k) = false := by rw [decide_eq_false_iff_not]; omega
          have HK := Lib.hid hk0
          have HNEG := Lib.hid hneg
          clear hk0 hlit hfil hwle hap he hel HI0 HPC HPL hpos hf1 hneg hl1
          generalize ws[k] = x at *
          generalize exp (ws.take k) = d at *
          generalize fillN x = m at *
          generalize fillP x = p at *
          generalize ((p : Nat) : Int) = y at *
          go_wp2_with fail
          refine (HD.out _).mono ?_
          rintro e w1 ⟨rfl, rfl⟩
          go_wp2_with fail
          refine (HGC.out _).mono ?_
          rintro e w1 ⟨rfl, rfl⟩
          go_wp2_with fail
          go_loopw [2, 72] (fun v i wi => ∃ j : Nat, j ≤ m ∧ i = .int .i64 j ∧ EInv w n (.slice (some ⟨b, off, none⟩) ws.length c) wi v (d ++ List.replicate j p)) (fun _ i _ => m - (intOf i).toNat)
          case atStart => exact ⟨0, by omega, rfl, by simpa using HI.out⟩
          case round =>
            obtain ⟨j, hj, rfl, HJ0⟩ := hrel
            have HJ := Lib.hid HJ0
            have hlj := HJ0.lb
            clear HJ0
            by_cases hjm : j < m
            · have H1 : Hid (((d ++ List.replicate j p).length + 1) * 8 ≤ 140737488355328) := Lib.hid (by have := HNL.out; simp; omega)
              have H2 : Hid ((d ++ List.replicate j p).length + 1 ≤ maxLen) := Lib.hid (by have := HNL.out; unfold maxLen; simp; omega)
              go_wp2_with (at_builtin; refine wpList_app rfl (.tmp 74) (.tmp 76) _ _ rfl rfl rfl (run_push elem_ints natLay _ _ u2 (d ++ List.replicate j p) p _ HJ.out.own HYU.out H1.out H2.out hlj rfl) ?_; rintro v1 w1 ⟨ho1, hx1⟩)
              go_roundw
              case rel => exact ⟨j + 1, by omega, by go_num, by rw [List.replicate_succ', ← List.append_assoc]; exact HJ.out.push hx1 ho1⟩
              case measure => simp [intOf]; omega
            · have hjm' : j = m := by omega
              subst hjm'
              go_wp2_with fail
              go_roundw
              case rel => exact ⟨k + 1, by omega, by go_num, by rw [HT.out]; exact HJ.out⟩
              case measure => simp [intOf]; omega
        · have hd0' : decide ((0 : Int) < (k : Int)) = true := by rw [decide_eq_true_iff]; omega
          have hd1' : decide (0 < k) = true := by rw [decide_eq_true_iff]; omega
          have hi0 : (0 : Int) ≤ (k : Int) - 1 := by omega
          have hi2 : (1 : Int) ≤ (k : Int) := by omega
          obtain ⟨b', off', e', hbs', p0⟩ := HPC.out (by omega)
          injection e' with e'
          injection e' with e1 e2
          subst e1 e2
          by_cases hpn : (ws[k - 1]'(by omega)) < 0
          · have hap' := hap (by omega) hpn hneg
            have hpw := HPL.out (by omega) hpn
            rw [HE.out] at hpw
            have hl2 : -1000000 ≤ (ws[k - 1]'(by omega)) := by rcases fill_of hpn with ⟨h, _⟩ | ⟨h, _⟩ <;> omega
            have HD2 := Lib.hid fun W => decodeFill (ws[k - 1]'(by omega)) W hpn hl2
            have hpd : decide ((ws[k - 1]'(by omega)) < 0) = true := by rw [decide_eq_true_iff]; exact hpn
            have hcmp : (((fillP (ws[k - 1]'(by omega)) : Nat) : Int) == ((fillP ws[k] : Nat) : Int)) = false := by rw [beq_eq_false_iff_ne]; omega
            have HK := Lib.hid hk0
            have HNEG := Lib.hid hneg
            clear hk0 hlit hfil hwle hap he hel HI0 HPC HPL hpos hf1 hneg hl1 hap' hpw hl2 hpn
            generalize ws[k] = x at *
            generalize (ws[k - 1]'(by omega)) = z at *
            generalize exp (ws.take k) = d at *
            generalize fillN x = m at *
            generalize fillP x = p at *
            generalize ((p : Nat) : Int) = y at *
            generalize ((fillP z : Nat) : Int) = yz at *
            generalize fillN z = mz at *
            go_wp2_with fail
            refine (HD.out _).mono ?_
            rintro e w1 ⟨rfl, rfl⟩
            go_wp2_with fail
            refine (HGC.out _).mono ?_
            rintro e w1 ⟨rfl, rfl⟩
            go_wp2_with fail
            refine (HD2.out _).mono ?_
            rintro e w1 ⟨rfl, rfl⟩
            go_wp2_with fail
            go_loopw [2, 72] (fun v i wi => ∃ j : Nat, j ≤ m ∧ i = .int .i64 j ∧ EInv w n (.slice (some ⟨b, off, none⟩) ws.length c) wi v (d ++ List.replicate j p)) (fun _ i _ => m - (intOf i).toNat)
            case atStart => exact ⟨0, by omega, rfl, by simpa using HI.out⟩
            case round =>
              obtain ⟨j, hj, rfl, HJ0⟩ := hrel
              have HJ := Lib.hid HJ0
              have hlj := HJ0.lb
              clear HJ0
              by_cases hjm : j < m
              · have H1 : Hid (((d ++ List.replicate j p).length + 1) * 8 ≤ 140737488355328) := Lib.hid (by have := HNL.out; simp; omega)
                have H2 : Hid ((d ++ List.replicate j p).length + 1 ≤ maxLen) := Lib.hid (by have := HNL.out; unfold maxLen; simp; omega)
                go_wp2_with (at_builtin; refine wpList_app rfl (.tmp 74) (.tmp 76) _ _ rfl rfl rfl (run_push elem_ints natLay _ _ u2 (d ++ List.replicate j p) p _ HJ.out.own HYU.out H1.out H2.out hlj rfl) ?_; rintro v1 w1 ⟨ho1, hx1⟩)
                go_roundw
                case rel => exact ⟨j + 1, by omega, by go_num, by rw [List.replicate_succ', ← List.append_assoc]; exact HJ.out.push hx1 ho1⟩
                case measure => simp [intOf]; omega
              · have hjm' : j = m := by omega
                subst hjm'
                go_wp2_with fail
                go_roundw
                case rel => exact ⟨k + 1, by omega, by go_num, by rw [HT.out]; exact HJ.out⟩
                case measure => simp [intOf]; omega
          · have hpd : decide ((ws[k - 1]'(by omega)) < 0) = false := by rw [decide_eq_false_iff_not]; exact hpn
            have HK := Lib.hid hk0
            have HNEG := Lib.hid hneg
            clear hk0 hlit hfil hwle hap he hel HI0 HPC HPL hpos hf1 hneg hl1 hpn
            generalize ws[k] = x at *
            generalize (ws[k - 1]'(by omega)) = z at *
            generalize exp (ws.take k) = d at *
            generalize fillN x = m at *
            generalize fillP x = p at *
            generalize ((p : Nat) : Int) = y at *
            go_wp2_with fail
            refine (HD.out _).mono ?_
            rintro e w1 ⟨rfl, rfl⟩
            go_wp2_with fail
            refine (HGC.out _).mono ?_
            rintro e w1 ⟨rfl, rfl⟩
            go_wp2_with fail
            go_loopw [2, 72] (fun v i wi => ∃ j : Nat, j ≤ m ∧ i = .int .i64 j ∧ EInv w n (.slice (some ⟨b, off, none⟩) ws.length c) wi v (d ++ List.replicate j p)) (fun _ i _ => m - (intOf i).toNat)
            case atStart => exact ⟨0, by omega, rfl, by simpa using HI.out⟩
            case round =>
              obtain ⟨j, hj, rfl, HJ0⟩ := hrel
              have HJ := Lib.hid HJ0
              have hlj := HJ0.lb
              clear HJ0
              by_cases hjm : j < m
              · have H1 : Hid (((d ++ List.replicate j p).length + 1) * 8 ≤ 140737488355328) := Lib.hid (by have := HNL.out; simp; omega)
                have H2 : Hid ((d ++ List.replicate j p).length + 1 ≤ maxLen) := Lib.hid (by have := HNL.out; unfold maxLen; simp; omega)
                go_wp2_with (at_builtin; refine wpList_app rfl (.tmp 74) (.tmp 76) _ _ rfl rfl rfl (run_push elem_ints natLay _ _ u2 (d ++ List.replicate j p) p _ HJ.out.own HYU.out H1.out H2.out hlj rfl) ?_; rintro v1 w1 ⟨ho1, hx1⟩)
                go_roundw
                case rel => exact ⟨j + 1, by omega, by go_num, by rw [List.replicate_succ', ← List.append_assoc]; exact HJ.out.push hx1 ho1⟩
                case measure => simp [intOf]; omega
              · have hjm' : j = m := by omega
                subst hjm'
                go_wp2_with fail
                go_roundw
                case rel => exact ⟨k + 1, by omega, by go_num, by rw [HT.out]; exact HJ.out⟩
                case measure => simp [intOf]; omega
    · have hkl : k = ws.length := by omega
      subst hkl
      rw [List.take_of_length_le (Nat.le_refl _), HE.out] at HI hm1
      subst hm1
      have hpos : 1 ≤ gs.length := by rw [hgl]; unfold gc; omega
      have he := (HI0.own.elems natLay.len rfl)
      rw [List.take_of_length_le (Nat.le_refl _), HE.out] at he
      obtain ⟨b, off, rfl, hbs, p0⟩ := he.nat (k := gs.length - 1) (by omega)
      have hlast := HG.out.last (g := gs[gs.length - 1]'(by omega)) (List.getElem?_eq_getElem _)
      have hgle := HG.out.le _ (List.getElem_mem (l := gs) (n := gs.length - 1) (by omega))
      have hand := bits_andn (b := mask n) hgle
      rw [hlast] at hand
      have hne : ((gs.length : Int) != (gc n : Int)) = false := by rw [hgl]; simp
      have hgt : decide ((0 : Int) < (gs.length : Int)) = true := by rw [decide_eq_true_iff]; omega
      have hgt2 : decide (0 < gs.length) = true := by rw [decide_eq_true_iff]; omega
      have hi0 : (0 : Int) ≤ (gs.length : Int) - 1 := by omega
      have hi1 : (gs.length : Int) - 1 < (gs.length : Int) := by omega
      have hi2 : (1 : Int) ≤ (gs.length : Int) := by omega
      have hl4 : gs.length ≤ 4000 := by omega
      clear HI0 hlast hgle he
      generalize ((mask n : Nat) : Int) = mk at *
      generalize ((gs[gs.length - 1]'(by omega) : Nat) : Int) = x at *
      clear hgl
      go_wp2_with fail
      go_quiet (first | (go_at_call 13; exact quiet_same (HGC.out _)) | (go_at_call 17; exact quiet_same (HLM.out _)))
      go_wp2_with fail
      go_ret2
      exact ⟨_, rfl, (HI.out.own.drewN _).mono (by omega), below_drewN HI.out.below _⟩

end Go.Proofs.YthobibjbpbnhnaaDoor
