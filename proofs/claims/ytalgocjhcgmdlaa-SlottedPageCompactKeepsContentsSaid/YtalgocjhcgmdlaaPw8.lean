/-
  The walk of place.
-/
import Derived.Test.YtalgocjhcgmdlaaPw7
import Derived.Deep.Cut
import Derived.Deep.CutRange
namespace Go.Proofs.Ytalgocjhcgmdlaa
open Go.RowKit

/-- A record in memory. -/
structure Rec (w : World) (g c : Nat) (r : List Nat) : Prop where
  el : Elems 1 nbCs w (· < w.heap.size) (some ⟨g, 0, none⟩) r
  cap : r.length ≤ c
theorem Rec.below {w w' : World} {g c : Nat} {r : List Nat} (h : Rec w g c r) (hb : Below w.heap.size w w') : Rec w' g c r :=
  ⟨(h.el.keep (Keeps.of_below hb fun _ h => h)).more fun k (hk : k < w.heap.size) => Nat.lt_of_lt_of_le hk hb.size, h.cap⟩

theorem Pg.wld {base g c : Nat} {p : List Nat} {w : World} (_ : Pg base w g c p) : ∃ wx, wx = w := ⟨_, rfl⟩

set_option maxRecDepth 100000 in
set_option maxHeartbeats 4000000 in
theorem placePage {base g c gr cr : Nat} {p r : List Nat} (w : World) (h : Pg base w g c p) (hw : WF p) (hrec : Rec w gr cr r) (i : Nat) (hr1 : 1 ≤ r.length) (hr2 : r.length ≤ 100) (hrb : ∀ t, r.getD t 0 < 256)
    (hfit : r.length + 2 + 2 * max (B p 0) (i + 1) + S p (B p 0) ≤ 256) :
    Calls Try.prog 20 #[.slice (some ⟨g, 0, none⟩) 256 c, .int .i64 i, .slice (some ⟨gr, 0, none⟩) r.length cr] w fun e w' => ∃ g' c', e = .returned (.slice (some ⟨g', 0, none⟩) 256 c') ∧ Pg w.heap.size w' g' c' (place p i r) ∧ Below w.heap.size w w' := by
  have c0 := h.at_ (k := 0) (by omega)
  have hn := hw.n_le
  have hcs := compact_spec hw
  have HCL := Lib.hid (clonePage w h)
  have HP := Lib.hid fun W (hW : Below w.heap.size w W) => h.below hW
  have HRE := Lib.hid fun W (hW : Below w.heap.size w W) => hrec.below hW
  have HDP := Lib.hid fun W (hW : Pg base W g c p) => dataStart W hW
  have HCO := Lib.hid fun W (hW : Pg base W g c p) => compactPage W hW hw
  have HDZ := Lib.hid fun W (g' c' : Nat) (hW : Pg w.heap.size W g' c' (pl1 p i r)) => dataStart W hW
  obtain ⟨n, hnn⟩ : ∃ n, n = B p 0 := ⟨_, rfl⟩
  obtain ⟨m, hm⟩ : ∃ m, m = max n (i + 1) := ⟨_, rfl⟩
  have hpl0 : pl0 p i r = if dS p < r.length + 2 + 2 * m then compactL p else p := by rw [hm, hnn]; rfl
  have hpl1 : pl1 p i r = clr (pl0 p i r) n (i - n) := by rw [hnn]; rfl
  have hplace : place p i r = setS (blit (((pl1 p i r).set 0 m).set 1 (plo p i r)) (plo p i r) r) i (plo p i r) r.length := by rw [hm, hnn]; rfl
  have hplo : plo p i r = dS (pl0 p i r) - r.length := rfl
  -- what the page that is written to leaves
  have hz : B (pl0 p i r) 0 = n ∧ r.length + 2 + 2 * m ≤ dS (pl0 p i r) ∧ dS (pl0 p i r) ≤ 256 ∧ (pl0 p i r).length = 256 := by
    rw [hpl0]
    rw [← hnn] at hcs
    rw [hm]
    split
    · have := hcs.1.ds_le
      rw [← hnn, ← hm] at hfit
      refine ⟨hcs.2.1, ?_, this, hcs.1.len⟩
      have := hcs.2.2.1
      omega
    · next hh => exact ⟨hnn.symm, by omega, hw.ds_le, hw.len⟩
  obtain ⟨hz0, hzr, hzd, hzl⟩ := hz
  have hd1 : dS (pl1 p i r) = dS (pl0 p i r) := by
    have e1 : B (pl1 p i r) 1 = B (pl0 p i r) 1 := by
      rw [hpl1, B_clr 1 _ (by rw [hzl]; omega), if_neg (by omega)]
    unfold dS
    rw [e1]
  rw [← hnn] at hn c0
  rw [hd1] at HDZ
  generalize place p i r = q at *
  generalize plo p i r = o at *
  have HDC : Hid (dS p < r.length + 2 + 2 * m → pl0 p i r = compactL p) := Lib.hid fun hh => by rw [hpl0, if_pos hh]
  have HDN : Hid (¬ dS p < r.length + 2 + 2 * m → pl0 p i r = p) := Lib.hid fun hh => by rw [hpl0, if_neg hh]
  have hdp := hw.ds_le
  generalize pl1 p i r = z1 at *
  generalize pl0 p i r = z at *
  generalize dS z = dz at *
  generalize dS p = dp at *
  generalize compactL p = cl at *
  have HPL1 := Lib.hid hpl1
  have HPL := Lib.hid hplace
  have HRB := Lib.hid hrb
  have HZ0 := Lib.hid hz0
  have hi125 : i ≤ 125 := by omega
  obtain ⟨l, hl⟩ : ∃ l, l = r.length := ⟨_, rfl⟩
  have HL := Lib.hid hl
  rw [← hl] at hr1 hr2 hzr hplo HDC HDN ⊢
  have ho1 : 2 + 2 * m ≤ o := by omega
  have ho2 : o + l = dz := by omega
  have hm128 : m ≤ 127 := by omega
  have y3 : IntKind.i64.wrap (n : Int) = (n : Int) := by rw [IntKind.wrap_i64]; omega
  have hmi : i < m := by omega
  have hmn : n ≤ m := by omega
  obtain ⟨f1, hf1⟩ : ∃ f1, f1 = i + 1 := ⟨_, rfl⟩
  have y6 : (i : Int) + 1 = (f1 : Int) := by omega
  have hmx : (n < f1 ∧ m = f1) ∨ (f1 ≤ n ∧ m = n) := by omega
  have HFIT := Lib.hid hfit
  have hni : m = f1 ∨ i < n := by omega
  clear hpl0 hpl1 hplace hplo hcs hfit hd1 h hw hrec hrb hz0 hl hnn hm
  rcases hmx with ⟨y5, rfl⟩ | ⟨y5, rfl⟩
  · have y7 : (n : Int) < (m : Int) := by omega
    clear hf1
    go_enter Try.func20, Try.ntmps20
    go_wp2_with fail
    refine HCL.out.mono ?_
    rintro e w1 ⟨g1, c1, rfl, hp1, hb1⟩
    have HP1 := Lib.hid hp1
    have HB1 := Lib.hid hb1
    clear hp1 hb1
    go_wp2_with fail
    refine (HDP.out w1 (HP.out w1 HB1.out)).mono ?_
    rintro e w2 ⟨rfl, rfl⟩
    go_upto_if 28 with fail
    go_cut [8] from 28 to 31 (fun v wx => ∃ g2 c2, v = .slice (some ⟨g2, 0, none⟩) 256 c2 ∧ Pg w.heap.size wx g2 c2 z ∧ Below w.heap.size w wx)
    case first =>
      by_cases hcond : dp < l + 2 + 2 * m
      · have hzc := HDC.out hcond
        have q1 : (dp : Int) - 2 - 2 * (m : Int) < (l : Int) := by omega
        have q2 : decide ((dp : Int) - 2 - 2 * (m : Int) < (l : Int)) = true := decide_eq_true q1
        have HZC := Lib.hid hzc
        clear hzc hcond
        go_wp2_with fail
        refine (HCO.out w1 (HP.out w1 HB1.out)).mono ?_
        rintro e w2 ⟨rfl, hp2, hb2⟩
        have HP2 := Lib.hid hp2
        clear hp2
        go_wp2_with fail
        go_meet
        exact ⟨_, _, rfl, by rw [HZC.out]; exact HP2.out.mono HB1.out.size, HB1.out.trans (hb2.mono HB1.out.size)⟩
      · have hzc := HDN.out hcond
        have q1 : ¬ ((dp : Int) - 2 - 2 * (m : Int) < (l : Int)) := by omega
        have q2 : decide ((dp : Int) - 2 - 2 * (m : Int) < (l : Int)) = false := decide_eq_false q1
        have HZC := Lib.hid hzc
        clear hzc hcond
        go_wp2_with fail
        go_meet
        exact ⟨_, _, rfl, by rw [HZC.out]; exact HP1.out, HB1.out⟩
    case rest =>
      obtain ⟨g2, c2, rfl, hp2, hb2⟩ := hcut
      obtain ⟨w2, rfl⟩ := hp2.wld
      clear HP1 HB1
      have z0 := hp2.at_ (k := 0) (by omega)
      rw [HZ0.out] at z0
      have HP2 := Lib.hid hp2
      have HB2 := Lib.hid hb2
      clear hp2 hb2
      go_wp2_with fail
      go_loopw [9] (fun t wr => ∃ k : Nat, n ≤ k ∧ (k ≤ i ∨ k = n) ∧ t = .int .i64 k ∧ Pg w.heap.size wr g2 c2 (clr z n (k - n)) ∧ Below w.heap.size w wr) (fun t _ => i - (intOf t).toNat)
      case atStart => exact ⟨n, Nat.le_refl _, .inr rfl, rfl, by rw [Nat.sub_self]; exact HP2.out, HB2.out⟩
      case round =>
        clear HP2 HB2 z0
        obtain ⟨k, h1, h2, rfl, hpg, hbk⟩ := hrel
        by_cases hki : k < i
        · have HSS := Lib.hid (setSlot wr hpg k 0 0 (by omega) (by omega) (by omega))
          have hck : clr z n (k + 1 - n) = setS (clr z n (k - n)) k 0 0 := by
            rw [show k + 1 - n = (k - n) + 1 by omega]
            show setS (clr z n (k - n)) (n + (k - n)) 0 0 = _
            rw [show n + (k - n) = k by omega]
          have HCK := Lib.hid hck
          have HBK := Lib.hid hbk
          clear hpg hbk hck
          generalize clr z n (k - n) = x at *
          go_wp2_with fail
          refine HSS.out.mono ?_
          rintro e w3 ⟨rfl, hp3, hb3⟩
          have HP3 := Lib.hid hp3
          clear hp3
          go_wp2_with fail
          go_roundw
          case rel => exact ⟨k + 1, by omega, by omega, by go_num, by rw [HCK.out]; exact HP3.out, HBK.out.trans hb3⟩
          case measure => simp [intOf]; omega
        · have hkn : k - n = i - n := by omega
          rw [hkn] at hpg
          rw [← HPL1.out] at hpg
          have hge := hpg.lt.1
          have hc2 := hpg.cap.1
          have HDD := Lib.hid (HDZ.out wr g2 c2 hpg)
          have x0 := hpg.at_ (k := 0) (by omega)
          have x1 := hpg.at_ (k := 1) (by omega)
          have f0 := hpg.fz (k := 0) (by omega)
          have f1' := hpg.fz (k := 1) (by omega)
          have hps := (hpg.set (k := 0) (m := m) (by omega) (by omega)).set (k := 1) (m := o) (by omega) (by omega)
          have hbs := (hbk.setCell (p := ⟨g2, 0, none⟩) hge (.int .u8 (m : Int))).setCell (p := ⟨g2, 1, none⟩) hge (.int .u8 (o : Int))
          obtain ⟨cur, hr1, hr2, hr3⟩ := hps.row
          have HSRC := Lib.hid (elems_src (HRE.out _ hbs).el)
          have HCAP := Lib.hid (HRE.out _ hbs).cap
          have HR1 := Lib.hid hr1
          have HR2 := Lib.hid hr2
          have HR3 := Lib.hid hr3
          have HPS := Lib.hid hps
          have HBS := Lib.hid hbs
          have hol : o + r.length ≤ 256 := by rw [← HL.out]; omega
          have HOL := Lib.hid hol
          have HMIN : Hid ((r.flatMap nbCs).length = Nat.min l (256 - o)) := Lib.hid (by rw [nb_flat_len, ← HL.out]; exact (Nat.min_eq_left (by omega)).symm)
          have HCF : Hid (o + (r.flatMap nbCs).length ≤ cur.length) := Lib.hid (by rw [nb_flat_len, hr2]; omega)
          have HNB := Lib.hid (nb_one r)
          have v1 : (dz : Int) - (l : Int) = (o : Int) := by omega
          have v2 : (m : Int) < 256 := by omega
          have v3 : (o : Int) < 256 := by omega
          have v4 : IntKind.u8.wrap (m : Int) = (m : Int) := by rw [IntKind.wrap_u8]; omega
          have v5 : IntKind.u8.wrap (o : Int) = (o : Int) := by rw [IntKind.wrap_u8]; omega
          have v6 : ¬ c2 = o := by omega
          have v7 : o ≤ 256 := by omega
          have v8 : (o : Int) ≤ 256 := by omega
          have v9 : (256 : Int) ≤ (c2 : Int) := by omega
          have hkd : decide ((k : Int) < (i : Int)) = false := decide_eq_false (by omega)
          have ho256 : o < 256 := by omega
          have hl256 : l < 256 := by omega
          have hi126 : i ≤ 126 := by omega
          clear hpg hbk hkn hps hbs hr1 hr2 hr3 hol ho1 ho2 hzr hzd hdp
          generalize B z1 0 = b0 at *
          generalize B z1 1 = b1 at *
          go_wp2_with fail
          refine HDD.out.mono ?_
          rintro e w3 ⟨rfl, rfl⟩
          go_wp2_with (refine wpList_copy_splice rfl (.tmp 58) (.tmp 59) 23 23 rfl 5 Try.underlying23 info_u8 (some ⟨g2, o, none⟩) (some ⟨gr, 0, none⟩) (256 - o) (c2 - o) l cr rfl rfl g2 o cur 5 HR1.out (r.flatMap nbCs) HMIN.out (fun _ => ⟨rfl, _, rfl, HSRC.out⟩) HCF.out HNB.out w.heap.size w HBS.out hge ?_; intro w5 hg5 hb5)
          have HPQ := HPS.out.blit (w' := w5) (cur := cur.toArray) (o := o) (r := r) (by simpa using HR2.out) (by simpa using HR3.out) HOL.out HRB.out hg5.out
          have HSET0 := setSlot w5 HPQ i o l hi126 ho256 hl256
          rw [HL.out, ← HPL.out] at HSET0
          rw [← HL.out] at HSET0
          have HSET := Lib.hid HSET0
          have HB5 := Lib.hid hb5
          clear HPQ HSET0 hg5 hb5 HPS HR1 HR2 HR3 HSRC HCF HNB HMIN HBS
          go_wp2_with fail
          refine HSET.out.mono ?_
          rintro e w6 ⟨rfl, hp6, hb6⟩
          have HP6 := Lib.hid hp6
          clear hp6
          go_wp2_with fail
          go_ret
          exact ⟨g2, c2, rfl, HP6.out, HB5.out.trans hb6⟩
  · have y7 : ¬ ((m : Int) < (f1 : Int)) := by omega
    clear hf1
    go_enter Try.func20, Try.ntmps20
    go_wp2_with fail
    refine HCL.out.mono ?_
    rintro e w1 ⟨g1, c1, rfl, hp1, hb1⟩
    have HP1 := Lib.hid hp1
    have HB1 := Lib.hid hb1
    clear hp1 hb1
    go_wp2_with fail
    refine (HDP.out w1 (HP.out w1 HB1.out)).mono ?_
    rintro e w2 ⟨rfl, rfl⟩
    go_upto_if 28 with fail
    go_cut [8] from 28 to 31 (fun v wx => ∃ g2 c2, v = .slice (some ⟨g2, 0, none⟩) 256 c2 ∧ Pg w.heap.size wx g2 c2 z ∧ Below w.heap.size w wx)
    case first =>
      by_cases hcond : dp < l + 2 + 2 * m
      · have hzc := HDC.out hcond
        have q1 : (dp : Int) - 2 - 2 * (m : Int) < (l : Int) := by omega
        have q2 : decide ((dp : Int) - 2 - 2 * (m : Int) < (l : Int)) = true := decide_eq_true q1
        have HZC := Lib.hid hzc
        clear hzc hcond
        go_wp2_with fail
        refine (HCO.out w1 (HP.out w1 HB1.out)).mono ?_
        rintro e w2 ⟨rfl, hp2, hb2⟩
        have HP2 := Lib.hid hp2
        clear hp2
        go_wp2_with fail
        go_meet
        exact ⟨_, _, rfl, by rw [HZC.out]; exact HP2.out.mono HB1.out.size, HB1.out.trans (hb2.mono HB1.out.size)⟩
      · have hzc := HDN.out hcond
        have q1 : ¬ ((dp : Int) - 2 - 2 * (m : Int) < (l : Int)) := by omega
        have q2 : decide ((dp : Int) - 2 - 2 * (m : Int) < (l : Int)) = false := decide_eq_false q1
        have HZC := Lib.hid hzc
        clear hzc hcond
        go_wp2_with fail
        go_meet
        exact ⟨_, _, rfl, by rw [HZC.out]; exact HP1.out, HB1.out⟩
    case rest =>
      obtain ⟨g2, c2, rfl, hp2, hb2⟩ := hcut
      obtain ⟨w2, rfl⟩ := hp2.wld
      clear HP1 HB1
      have z0 := hp2.at_ (k := 0) (by omega)
      rw [HZ0.out] at z0
      have HP2 := Lib.hid hp2
      have HB2 := Lib.hid hb2
      clear hp2 hb2
      go_wp2_with fail
      go_loopw [9] (fun t wr => ∃ k : Nat, m ≤ k ∧ (k ≤ i ∨ k = m) ∧ t = .int .i64 k ∧ Pg w.heap.size wr g2 c2 (clr z m (k - m)) ∧ Below w.heap.size w wr) (fun t _ => i - (intOf t).toNat)
      case atStart => exact ⟨m, Nat.le_refl _, .inr rfl, rfl, by rw [Nat.sub_self]; exact HP2.out, HB2.out⟩
      case round =>
        clear HP2 HB2 z0
        obtain ⟨k, h1, h2, rfl, hpg, hbk⟩ := hrel
        by_cases hki : k < i
        · have HSS := Lib.hid (setSlot wr hpg k 0 0 (by omega) (by omega) (by omega))
          have hck : clr z m (k + 1 - m) = setS (clr z m (k - m)) k 0 0 := by
            rw [show k + 1 - m = (k - m) + 1 by omega]
            show setS (clr z m (k - m)) (m + (k - m)) 0 0 = _
            rw [show m + (k - m) = k by omega]
          have HCK := Lib.hid hck
          have HBK := Lib.hid hbk
          clear hpg hbk hck
          generalize clr z m (k - m) = x at *
          go_wp2_with fail
          refine HSS.out.mono ?_
          rintro e w3 ⟨rfl, hp3, hb3⟩
          have HP3 := Lib.hid hp3
          clear hp3
          go_wp2_with fail
          go_roundw
          case rel => exact ⟨k + 1, by omega, by omega, by go_num, by rw [HCK.out]; exact HP3.out, HBK.out.trans hb3⟩
          case measure => simp [intOf]; omega
        · have hkn : k - m = i - m := by omega
          rw [hkn] at hpg
          rw [← HPL1.out] at hpg
          have hge := hpg.lt.1
          have hc2 := hpg.cap.1
          have HDD := Lib.hid (HDZ.out wr g2 c2 hpg)
          have x0 := hpg.at_ (k := 0) (by omega)
          have x1 := hpg.at_ (k := 1) (by omega)
          have f0 := hpg.fz (k := 0) (by omega)
          have f1' := hpg.fz (k := 1) (by omega)
          have hps := (hpg.set (k := 0) (m := m) (by omega) (by omega)).set (k := 1) (m := o) (by omega) (by omega)
          have hbs := (hbk.setCell (p := ⟨g2, 0, none⟩) hge (.int .u8 (m : Int))).setCell (p := ⟨g2, 1, none⟩) hge (.int .u8 (o : Int))
          obtain ⟨cur, hr1, hr2, hr3⟩ := hps.row
          have HSRC := Lib.hid (elems_src (HRE.out _ hbs).el)
          have HCAP := Lib.hid (HRE.out _ hbs).cap
          have HR1 := Lib.hid hr1
          have HR2 := Lib.hid hr2
          have HR3 := Lib.hid hr3
          have HPS := Lib.hid hps
          have HBS := Lib.hid hbs
          have hol : o + r.length ≤ 256 := by rw [← HL.out]; omega
          have HOL := Lib.hid hol
          have HMIN : Hid ((r.flatMap nbCs).length = Nat.min l (256 - o)) := Lib.hid (by rw [nb_flat_len, ← HL.out]; exact (Nat.min_eq_left (by omega)).symm)
          have HCF : Hid (o + (r.flatMap nbCs).length ≤ cur.length) := Lib.hid (by rw [nb_flat_len, hr2]; omega)
          have HNB := Lib.hid (nb_one r)
          have v1 : (dz : Int) - (l : Int) = (o : Int) := by omega
          have v2 : (m : Int) < 256 := by omega
          have v3 : (o : Int) < 256 := by omega
          have v4 : IntKind.u8.wrap (m : Int) = (m : Int) := by rw [IntKind.wrap_u8]; omega
          have v5 : IntKind.u8.wrap (o : Int) = (o : Int) := by rw [IntKind.wrap_u8]; omega
          have v6 : ¬ c2 = o := by omega
          have v7 : o ≤ 256 := by omega
          have v8 : (o : Int) ≤ 256 := by omega
          have v9 : (256 : Int) ≤ (c2 : Int) := by omega
          have hkd : decide ((k : Int) < (i : Int)) = false := decide_eq_false (by omega)
          have ho256 : o < 256 := by omega
          have hl256 : l < 256 := by omega
          have hi126 : i ≤ 126 := by omega
          clear hpg hbk hkn hps hbs hr1 hr2 hr3 hol ho1 ho2 hzr hzd hdp
          generalize B z1 0 = b0 at *
          generalize B z1 1 = b1 at *
          go_wp2_with fail
          refine HDD.out.mono ?_
          rintro e w3 ⟨rfl, rfl⟩
          go_wp2_with (refine wpList_copy_splice rfl (.tmp 58) (.tmp 59) 23 23 rfl 5 Try.underlying23 info_u8 (some ⟨g2, o, none⟩) (some ⟨gr, 0, none⟩) (256 - o) (c2 - o) l cr rfl rfl g2 o cur 5 HR1.out (r.flatMap nbCs) HMIN.out (fun _ => ⟨rfl, _, rfl, HSRC.out⟩) HCF.out HNB.out w.heap.size w HBS.out hge ?_; intro w5 hg5 hb5)
          have HPQ := HPS.out.blit (w' := w5) (cur := cur.toArray) (o := o) (r := r) (by simpa using HR2.out) (by simpa using HR3.out) HOL.out HRB.out hg5.out
          have HSET0 := setSlot w5 HPQ i o l hi126 ho256 hl256
          rw [HL.out, ← HPL.out] at HSET0
          rw [← HL.out] at HSET0
          have HSET := Lib.hid HSET0
          have HB5 := Lib.hid hb5
          clear HPQ HSET0 hg5 hb5 HPS HR1 HR2 HR3 HSRC HCF HNB HMIN HBS
          go_wp2_with fail
          refine HSET.out.mono ?_
          rintro e w6 ⟨rfl, hp6, hb6⟩
          have HP6 := Lib.hid hp6
          clear hp6
          go_wp2_with fail
          go_ret
          exact ⟨g2, c2, rfl, HP6.out, HB5.out.trans hb6⟩

end Go.Proofs.Ytalgocjhcgmdlaa
