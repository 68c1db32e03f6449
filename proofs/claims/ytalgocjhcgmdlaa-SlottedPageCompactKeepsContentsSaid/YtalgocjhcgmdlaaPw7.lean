/-
  The walks of capacity, Capacity, Compact, remove, Delete.
-/
import Derived.Test.YtalgocjhcgmdlaaPw6
namespace Go.Proofs.Ytalgocjhcgmdlaa
open Go.RowKit

set_option maxRecDepth 100000 in
set_option maxHeartbeats 1000000 in
theorem capacityPage {base g c : Nat} {p : List Nat} (w : World) (h : Pg base w g c p) (hw : WF p) :
    Calls Try.prog 18 #[.slice (some ⟨g, 0, none⟩) 256 c] w fun e w' => e = .returned (.int .i64 (cap p : Nat)) ∧ Below w.heap.size w w' := by
  have c0 := h.at_ (k := 0) (by omega)
  have hn := hw.n_le
  have HFR := Lib.hid fun W (hW : Pg base W g c p) => firstFree W hW hn
  have HP := Lib.hid fun W (hW : Below w.heap.size w W) => h.below hW
  have HCO := Lib.hid fun W (hW : Pg base W g c p) => compactPage W hW hw
  have HDS := Lib.hid fun W (b' g' c' : Nat) (hW : Pg b' W g' c' (compactL p)) => dataStart W hW
  have hd := (compact_spec hw).2.2.1
  have hff := (ffree_spec p).1
  obtain ⟨n, hnn⟩ : ∃ n, n = B p 0 := ⟨_, rfl⟩
  have hcap : cap p = min 100 (256 - S p n - 2 - 2 * max n (ffree p + 1)) := by rw [hnn]; rfl
  rw [← hnn] at hn c0 hd hff
  generalize cap p = cp at *
  generalize S p n = sm at *
  generalize dS (compactL p) = d at *
  generalize ffree p = f at *
  have HC := Lib.hid c0
  have y3 : IntKind.i64.wrap (n : Int) = (n : Int) := by rw [IntKind.wrap_i64]; omega
  obtain ⟨f1, hf1⟩ : ∃ f1, f1 = f + 1 := ⟨_, rfl⟩
  have y4 : IntKind.i64.wrap ((f : Int) + 1) = (f1 : Int) := by rw [IntKind.wrap_i64]; omega
  obtain ⟨m, hm⟩ : ∃ m, m = max n f1 := ⟨_, rfl⟩
  have HCAP : Hid (cp = min 100 (256 - sm - 2 - 2 * m) ∧ d + sm = 256 ∧ m ≤ 128) := Lib.hid (by subst hm hf1; exact ⟨hcap, hd, by omega⟩)
  have hmb : m ≤ 128 := HCAP.out.2.2
  have hdb : d ≤ 256 := by omega
  clear hcap hd h hw hnn
  by_cases hlt : n < f1
  · have hme : m = f1 := by omega
    subst hme
    have y5 : (n : Int) < (m : Int) := by omega
    clear hf1 hff hm
    go_enter Try.func18, Try.ntmps18
    go_wp2_with fail
    go_quiet (first | (go_at_call 19; exact Calls.quiet_of (HFR.out _ (HP.out _ (below_drewN (Below.refl _ _) _)))))
    go_wp2_with fail
    refine (HCO.out _ (HP.out _ (below_drewN (Below.refl _ _) _))).mono ?_
    rintro e w1 ⟨rfl, hp1, hb1⟩
    have HB1 := Lib.hid ((below_drewN (Below.refl w.heap.size w) _).trans hb1)
    go_wp2_with fail
    refine (HDS.out _ _ _ _ hp1).mono ?_
    rintro e w2 ⟨rfl, rfl⟩
    clear hp1 hb1
    go_wp2_with fail
    all_goals
      go_ret
      exact ⟨ret_int (by have := HCAP.out; omega), HB1.out⟩
  · have hme : m = n := by omega
    subst hme
    have y5 : ¬ ((m : Int) < (f1 : Int)) := by omega
    clear hf1 hff hm
    go_enter Try.func18, Try.ntmps18
    go_wp2_with fail
    go_quiet (first | (go_at_call 19; exact Calls.quiet_of (HFR.out _ (HP.out _ (below_drewN (Below.refl _ _) _)))))
    go_wp2_with fail
    refine (HCO.out _ (HP.out _ (below_drewN (Below.refl _ _) _))).mono ?_
    rintro e w1 ⟨rfl, hp1, hb1⟩
    have HB1 := Lib.hid ((below_drewN (Below.refl w.heap.size w) _).trans hb1)
    go_wp2_with fail
    refine (HDS.out _ _ _ _ hp1).mono ?_
    rintro e w2 ⟨rfl, rfl⟩
    clear hp1 hb1
    go_wp2_with fail
    all_goals
      go_ret
      exact ⟨ret_int (by have := HCAP.out; omega), HB1.out⟩

set_option maxRecDepth 100000 in
set_option maxHeartbeats 400000 in
theorem capacityOut {base g c : Nat} {p : List Nat} (w : World) (h : Pg base w g c p) (hw : WF p) :
    Calls Try.prog 9 #[.slice (some ⟨g, 0, none⟩) 256 c] w fun e w' => e = .returned (.tuple #[.int .i64 (cap p : Nat), .int .i64 0]) ∧ Below w.heap.size w w' := by
  have HCH := Lib.hid (checkPage w h hw)
  have HCP := Lib.hid fun W (hW : Below w.heap.size w W) => capacityPage W (h.below hW) hw
  generalize cap p = n at *
  clear h hw
  go_enter Try.func9, Try.ntmps9
  go_wp2_with fail
  refine HCH.out.mono ?_
  rintro e w1 ⟨rfl, hb1⟩
  go_wp2_with fail
  refine (HCP.out w1 hb1).mono ?_
  rintro e w2 ⟨rfl, hb2⟩
  go_wp2_with fail
  go_ret2
  exact ⟨rfl, hb1.trans (hb2.mono hb1.size)⟩

set_option maxRecDepth 100000 in
set_option maxHeartbeats 400000 in
theorem compactOut {base g c : Nat} {p : List Nat} (w : World) (h : Pg base w g c p) (hw : WF p) :
    Calls Try.prog 15 #[.slice (some ⟨g, 0, none⟩) 256 c] w fun e w' => ∃ g' c', e = .returned (.tuple #[.slice (some ⟨g', 0, none⟩) 256 c', .int .i64 0]) ∧ Pg w.heap.size w' g' c' (compactL p) ∧ Below w.heap.size w w' := by
  have HCH := Lib.hid (checkPage w h hw)
  have HCP := Lib.hid fun W (hW : Below w.heap.size w W) => compactPage W (h.below hW) hw
  generalize compactL p = n at *
  clear h hw
  go_enter Try.func15, Try.ntmps15
  go_wp2_with fail
  refine HCH.out.mono ?_
  rintro e w1 ⟨rfl, hb1⟩
  go_wp2_with fail
  refine (HCP.out w1 hb1).mono ?_
  rintro e w2 ⟨rfl, hp2, hb2⟩
  have HP2 := Lib.hid hp2
  clear hp2
  go_wp2_with fail
  go_ret2
  exact ⟨_, _, rfl, HP2.out.mono hb1.size, hb1.trans (hb2.mono hb1.size)⟩

/-- The number in a cell. -/
def cellNat (o : Option Value) : Nat := match o with | some (.int _ k) => k.toNat | _ => 0
theorem so_set0 (q : List Nat) (m i : Nat) (h : 0 < q.length) : so (q.set 0 m) i = so q i := by
  unfold so
  rw [B_set _ h, if_neg (by omega)]

set_option maxRecDepth 100000 in
set_option maxHeartbeats 1000000 in
theorem removePage {base g c : Nat} {p : List Nat} (w : World) (h : Pg base w g c p) (hn : B p 0 ≤ 127) (i : Nat) (hi : i < B p 0) :
    Calls Try.prog 23 #[.slice (some ⟨g, 0, none⟩) 256 c, .int .i64 i] w fun e w' => ∃ g' c', e = .returned (.slice (some ⟨g', 0, none⟩) 256 c') ∧ Pg w.heap.size w' g' c' (rem p i) ∧ Below w.heap.size w w' := by
  have HCL := Lib.hid (clonePage w h)
  have HST := Lib.hid fun W (g' c' : Nat) (hW : Pg w.heap.size W g' c' p) => setSlot W hW i 0 0 (by omega) (by omega) (by omega)
  have HR : Hid (rem p i = (setS p i 0 0).set 0 (lastU (setS p i 0 0) (B p 0))) := Lib.hid rfl
  have hq0 : B (setS p i 0 0) 0 = B p 0 := by rw [B_setS 0 (by rw [h.2.1]; omega), if_neg (by omega), if_neg (by omega)]
  have hql : (setS p i 0 0).length = 256 := by rw [setS_len, h.2.1]
  generalize rem p i = rm at *
  generalize setS p i 0 0 = q at *
  obtain ⟨n, hnn⟩ : ∃ n, n = B p 0 := ⟨_, rfl⟩
  rw [← hnn] at hn HR hq0
  have HQL := Lib.hid hql
  have HQ0 : Hid (q.set 0 n = q) := Lib.hid (by
    have h0 : 0 < q.length := by omega
    rw [← hq0, B_get h0]
    exact List.set_getElem_self h0)
  clear h hnn hi hq0 hql
  go_enter Try.func23, Try.ntmps23
  go_wp2_with fail
  refine HCL.out.mono ?_
  rintro e w1 ⟨g1, c1, rfl, hp1, hb1⟩
  have HB1 := Lib.hid hb1
  have HT := Lib.hid (HST.out w1 g1 c1 hp1)
  clear hp1 hb1
  go_wp2_with fail
  refine HT.out.mono ?_
  rintro e w2 ⟨rfl, hp2, hb2⟩
  have HP2 := Lib.hid hp2
  have HB2 := Lib.hid (HB1.out.trans hb2)
  clear hp2 hb2 HT HB1
  go_wp2_with fail
  go_loopw [13] (fun _ wr => ∃ k : Nat, k ≤ n ∧ Pg w.heap.size wr g1 c1 (q.set 0 k) ∧ lastU q k = lastU q n ∧ Below w.heap.size w wr) (fun _ wr => cellNat (wr.cell? ⟨g1, 0, none⟩))
  case atStart => exact ⟨n, Nat.le_refl _, by rw [HQ0.out]; exact HP2.out, rfl, HB2.out⟩
  case round =>
    obtain ⟨k, hk, hpg, hlu, hbk⟩ := hrel
    clear HP2 HB2
    have z0 := hpg.at_ (k := 0) (by omega)
    have f0 := hpg.fz (k := 0) (by omega)
    have hB0 : B (q.set 0 k) 0 = k := by rw [B_set 0 (by rw [HQL.out]; omega), if_pos rfl]
    rw [hB0] at z0
    have HLU := Lib.hid hlu
    have HPG := Lib.hid hpg
    have HBK := Lib.hid hbk
    have k256 : (k : Int) < 256 := by omega
    cases k with
    | zero =>
      clear hpg hlu hbk hB0
      go_wp2_with fail
      go_ret
      exact ⟨_, _, rfl, by rw [HR.out, ← HLU.out]; exact HPG.out, HBK.out⟩
    | succ j =>
      have HS := Lib.hid (slotAt wr hpg j (by omega))
      have hso := so_set0 q (j + 1) j (by rw [HQL.out]; omega)
      rw [hso] at HS
      have hst := hpg.set (k := 0) (m := j) (by omega) (by omega)
      rw [List.set_set] at hst
      have HPS := Lib.hid hst
      have HBS := Lib.hid (hbk.setCell (p := ⟨g1, 0, none⟩) hpg.lt.1 (.int .u8 (j : Int)))
      have hl1 : lastU q (j + 1) = if so q j = 0 then lastU q j else j + 1 := rfl
      have HMZ : Hid (cellNat (some (Value.int .u8 ((j + 1 : Nat) : Int))) = j + 1) := Lib.hid rfl
      have HZ0 := Lib.hid z0
      have x1 : ((j + 1 : Nat) : Int) - 1 = (j : Int) := by omega
      have x2 : (j : Int) + 1 - 1 = (j : Int) := by omega
      have x3 : (j : Int) % 256 = (j : Int) := by omega
      have x4 : (0 : Int) < (j : Int) + 1 := by omega
      have x5 : decide ((0 : Int) < (j : Int) + 1) = true := decide_eq_true x4
      have x6 : (j : Int) + 1 < 256 := by omega
      have x7 : IntKind.u8.wrap (j : Int) = (j : Int) := by rw [IntKind.wrap_u8]; omega
      clear hpg hbk hst hB0 hso
      by_cases hu : so q j = 0
      · rw [if_pos hu] at hl1
        have HL1 := Lib.hid (hl1.symm.trans hlu)
        rw [hu] at HS
        clear hu hl1 hlu
        generalize sl (q.set 0 (j + 1)) j = l at *
        go_wp2_with fail
        refine HS.out.mono ?_
        rintro e w3 ⟨rfl, nd, rfl⟩
        have z1 : (wr.drewN nd).cell? ⟨g1, 0, none⟩ = some (.int .u8 ((j : Int) + 1)) := z0
        have f1 : (wr.drewN nd).frozen? ⟨g1, 0, none⟩ = false := f0
        go_wp2_with fail
        have hp3 := HPG.out.below (below_drewN (Below.refl wr.heap.size wr) nd)
        have hps := hp3.set (k := 0) (m := j) (by omega) (by omega)
        rw [List.set_set] at hps
        refine ⟨⟨j, by omega, hps, HL1.out, (below_drewN HBK.out nd).setCell (p := ⟨g1, 0, none⟩) hp3.lt.1 (.int .u8 (j : Int))⟩, ?_⟩
        have h8 : B (q.set 0 j) 0 = j := by rw [B_set 0 (by rw [HQL.out]; omega), if_pos rfl]
        rw [hps.at_ (k := 0) (by omega), HZ0.out, h8]
        show j < j + 1
        omega
      · rw [if_neg hu] at hl1
        have HL1 := Lib.hid (hl1.symm.trans hlu)
        have hup : decide ((0 : Int) < (so q j : Int)) = true := decide_eq_true (by omega)
        have hup2 : (0 : Nat) < so q j := by omega
        clear hu hl1 hlu
        generalize so q j = o at *
        generalize sl (q.set 0 (j + 1)) j = l at *
        go_wp2_with fail
        refine HS.out.mono ?_
        rintro e w3 ⟨rfl, nd, rfl⟩
        go_wp2_with fail
        go_ret
        exact ⟨_, _, rfl, by rw [HR.out, ← HL1.out]; exact HPG.out.below (below_drewN (Below.refl _ _) nd), below_drewN HBK.out nd⟩

/-- What Delete leaves. -/
def DelPost (w : World) (p : List Nat) (i : Nat) (e : Ending) (w' : World) : Prop :=
  Below w.heap.size w w' ∧ if (cont p i).isSome then ∃ g' c', e = .returned (.tuple #[.slice (some ⟨g', 0, none⟩) 256 c', .int .i64 0]) ∧ Pg w.heap.size w' g' c' (rem p i)
    else e = .returned (.tuple #[.slice none 0 0, .int .i64 4])

set_option maxRecDepth 100000 in
set_option maxHeartbeats 1000000 in
theorem deletePage {base g c : Nat} {p : List Nat} (w : World) (h : Pg base w g c p) (hw : WF p) (i : Nat) (hi : i ≤ 1000) :
    Calls Try.prog 13 #[.slice (some ⟨g, 0, none⟩) 256 c, .int .i64 i] w (DelPost w p i) := by
  have HG := Lib.hid (getPage w h hw i hi)
  unfold DelPost
  cases hc : cont p i with
  | none =>
    rw [hc] at HG
    clear h hw hc
    go_enter Try.func13, Try.ntmps13
    go_wp2_with fail
    refine HG.out.mono ?_
    rintro e w1 ⟨hb1, he⟩
    simp only at he
    subst he
    go_wp2_with fail
    go_ret2
    exact ⟨hb1, rfl⟩
  | some r =>
    rw [hc] at HG
    have hic := (cont_of hc).1
    have HRM := Lib.hid fun W (hW : Below w.heap.size w W) => removePage W (h.below hW) hw.n_le i hic
    generalize rem p i = q at *
    clear h hw hc hic
    go_enter Try.func13, Try.ntmps13
    go_wp2_with fail
    refine HG.out.mono ?_
    rintro e w1 ⟨hb1, v, he, hv⟩
    subst he
    clear hv
    go_wp2_with fail
    refine (HRM.out w1 hb1).mono ?_
    rintro e w2 ⟨g2, c2, rfl, hp2, hb2⟩
    have HP2 := Lib.hid hp2
    clear hp2
    go_wp2_with fail
    go_ret2
    exact ⟨hb1.trans (hb2.mono hb1.size), g2, c2, rfl, HP2.out.mono hb1.size⟩

end Go.Proofs.Ytalgocjhcgmdlaa
