/-
  The walk of secondary.Check, where all is well.
-/
import Derived.Test.YtakbabkcidioaaaYd2
import Derived.Test.YtakbabkcidioaaaYs
namespace Go.Proofs.Ytakbabkcidioaaa
open Go.RowKit Go.Sort

def allK (es : List EntM) : List Key := es.flatMap EntM.keys
theorem allK_take {es : List EntM} {k : Nat} (hk : k < es.length) : allK (es.take (k + 1)) = allK (es.take k) ++ es[k].keys := by
  unfold allK
  rw [List.take_succ_eq_append_getElem hk, List.flatMap_append]
  simp
theorem allK_rows (es : List EntM) : (allK es).map Key.row = (es.map EntM.xe).flatMap Prod.snd := by
  induction es with
  | nil => rfl
  | cons e es ih =>
    unfold allK at ih ⊢
    rw [List.flatMap_cons, List.map_append, ih, List.map_cons, List.flatMap_cons]
    rfl
theorem allK_len (es : List EntM) : (allK es).length = (flatX (es.map EntM.xe)).length := by
  induction es with
  | nil => rfl
  | cons e es ih =>
    unfold allK at ih ⊢
    rw [List.flatMap_cons, List.length_append, ih, List.map_cons, flatX_cons, List.length_append]
    simp [EntM.xe]
/-- All that Check asks. -/
structure XVal (x : Ix) : Prop where
  tab : TabOk x.t
  cols : ColsOk x.t x.cols
  xcap : x.cols.length ≤ x.xc
  sz : ISz x
  srt : SrtX x.xd
  inj : KInj x.xd
  vals : ∀ e ∈ x.ents, VOk x.t x.cols e.vals.row
  keys : ∀ e ∈ x.ents, ∀ k ∈ e.keys, VOk x.t x.t.pk k.row
  tot : (flatX x.xd).length ≤ 1000

set_option maxRecDepth 100000 in
set_option maxHeartbeats 4000000 in
theorem checkW (x : Ix) (w : World) (hx : IOk (· < w.heap.size) w x) (hv : XVal x) :
    Calls Try.prog 23 #[x.val] w fun e w' => e = .returned (.int .i64 0) ∧ Below w.heap.size w w' := by
  obtain ⟨W1, hW1⟩ : ∃ W1, W1 = w.alloc (.cells x.cells 30) := ⟨_, rfl⟩
  have hb1 : Below w.heap.size w W1 := by rw [hW1]; exact (Below.refl _ _).alloc (Nat.le_refl _) _
  have hg0 : W1.heap[w.heap.size]? = some (.cells x.cells 30 (0, 0)) := by rw [hW1]; exact heap_alloc_new w _
  have hsz : w.heap.size < W1.heap.size := by rw [hW1]; simp
  have hx1 := hx.on hb1
  have HBX : Hid (∀ W, Below W1.heap.size W1 W → W.cell? ⟨w.heap.size, 0, none⟩ = some (.string x.t.name) ∧ W.cell? ⟨w.heap.size, 1, none⟩ = some (.slice x.t.CA x.t.cols.length x.t.cc) ∧ W.cell? ⟨w.heap.size, 2, none⟩ = some (.slice x.t.PA x.t.pk.length x.t.pc) ∧ W.cell? ⟨w.heap.size, 3, none⟩ = some (.slice x.XA x.cols.length x.xc) ∧ W.cell? ⟨w.heap.size, 4, none⟩ = some (.slice x.EA x.ents.length x.ec)) := Lib.hid fun W hW => Ix.box (w' := W) hg0 (hW.block _ (by omega))
  have HCT := Lib.hid (checkTable x.t x.XA x.xc x.cols W1 hx1.t hx1.cols hv.xcap hv.tab hv.cols)
  have HMT := Lib.hid fun (W : World) (e : EntM) (hW : Below W1.heap.size W1 W) (he : e ∈ x.ents) => matchesW x.t x.XA x.xc x.cols e.vals.A e.vals.c e.vals.row W (hx1.on hW).t (hx1.on hW).cols ((hx1.on hW).ent e he).vals.el hv.cols.pos.2 hv.cols.rng (hv.vals e he)
  have HSK := Lib.hid fun (W : World) (e : EntM) (hW : Below W1.heap.size W1 W) (he : e ∈ x.ents) => sortedKeysW x.t e.KA e.kc e.keys W (hx1.on hW).t hv.tab ((hx1.on hW).ent e he).keys ((hx1.on hW).ent e he).key (by have := hv.sz.keys e he; omega) (hv.keys e he) (hv.srt.keys _ (List.mem_map_of_mem he)).2
  have HX1 := Lib.hid hx1
  have HV := Lib.hid hv
  have HW1 := Lib.hid hW1
  have HB1 := Lib.hid (And.intro hb1 hsz)
  clear hx hv hW1 hb1 hg0 hsz hx1
  obtain ⟨⟨name, CA, cc, tc, PA, pc, pk⟩, XA, xc, cols, EA, ec, ents⟩ := x
  unfold Ix.val
  unfold Ix.cells at HW1 ⊢
  simp only [Tbl.val] at HBX HCT HMT HSK HW1 ⊢
  go_enter Try.func23, Try.ntmps23
  go_upto_region 1 with fail
  rw [← HW1.out]
  obtain ⟨x0, x1, x2, x3, x4⟩ := HBX.out W1 (Below.refl _ _)
  go_wp2_with fail
  refine HCT.out.mono ?_
  rintro e w2 ⟨rfl, hb2⟩
  clear x0 x1 x2 x3 x4 HCT
  obtain ⟨x0, x1, x2, x3, x4⟩ := HBX.out w2 hb2
  obtain ⟨n, hn⟩ : ∃ n, ents.length = n := ⟨_, rfl⟩
  rw [hn] at x4
  have hn100 : n ≤ 100 := by rw [← hn]; exact HV.out.sz.ents
  have HN := Lib.hid hn
  have HB2 := Lib.hid hb2
  clear hn hb2
  go_wp2_with fail
  go_loopw [4, 20] (fun v4 vi wr => ∃ k : Nat, vi = .int .i64 (k : Int) ∧ k ≤ n ∧ Own 1 Key.cs 37 W1.heap.size wr v4 (allK (ents.take k)) ∧ Below W1.heap.size W1 wr) (fun _ vi _ => n - (intOf vi).toNat)
  case atStart => exact ⟨0, rfl, by omega, Own.nil _, HB2.out⟩
  case round =>
    obtain ⟨k, rfl, hkn, ho, hb⟩ := hrel
    obtain ⟨wo, rfl⟩ : ∃ wo, wo = wr := ⟨_, rfl⟩
    by_cases hlt : k < n
    · have hki : k < ents.length := by have := HN.out; omega
      have hmem : ents[k] ∈ ents := List.getElem_mem hki
      have hxo := HX1.out.on hb
      obtain ⟨b, off, rfl, hbs, e0c, e1c⟩ := hxo.ents.entM hki
      have hkn' : (k : Int) < (n : Int) := by omega
      have HKT := Lib.hid (allK_take hki)
      have HTOT : Hid ((allK (ents.take k)).length + ents[k].keys.length ≤ 1000) := Lib.hid (by
        have h := HV.out.tot
        have h2 := allK_len ents
        have h3 : (allK (ents.take (k + 1))).length ≤ (allK ents).length := by
          conv => rhs; rw [← List.take_append_drop (k + 1) ents]
          unfold allK
          rw [List.flatMap_append, List.length_append]
          omega
        rw [allK_take hki, List.length_append] at h3
        have h' : (flatX (ents.map EntM.xe)).length ≤ 1000 := h
        omega)
      have hkpos : 0 < ents[k].keys.length := by
        have := (HV.out.srt.keys _ (List.mem_map_of_mem hmem)).1
        rcases Nat.eq_zero_or_pos ents[k].keys.length with h | h
        · have h0 := List.eq_nil_of_length_eq_zero h
          exact absurd (by show List.map Key.row ents[k].keys = []; rw [h0]; rfl) this
        · exact h
      have HMEM := Lib.hid hmem
      have HO := Lib.hid ho
      have HB := Lib.hid hb
      obtain ⟨W7, hW7⟩ : ∃ W7, W7 = wo.alloc (.cells #[.slice ents[k].vals.A ents[k].vals.row.length ents[k].vals.c, .slice ents[k].KA ents[k].keys.length ents[k].kc] 59) := ⟨_, rfl⟩
      have hb7 : Below wo.heap.size wo W7 := by rw [hW7]; exact (Below.refl _ _).alloc (Nat.le_refl _) _
      have hbk7 : W7.heap[wo.heap.size]? = some (.cells #[.slice ents[k].vals.A ents[k].vals.row.length ents[k].vals.c, .slice ents[k].KA ents[k].keys.length ents[k].kc] 59 (0, 0)) := by rw [hW7]; exact heap_alloc_new wo _
      have hwo7 : wo.heap.size < W7.heap.size := by rw [hW7]; simp
      have HFX : Hid (∀ W, Below W7.heap.size W7 W → Below W1.heap.size W1 W ∧ W.cell? ⟨wo.heap.size, 0, none⟩ = some (.slice ents[k].vals.A ents[k].vals.row.length ents[k].vals.c) ∧ W.cell? ⟨wo.heap.size, 1, none⟩ = some (.slice ents[k].KA ents[k].keys.length ents[k].kc)) := Lib.hid fun W hW => by
        have hbk := (hW.block _ hwo7).trans hbk7
        exact ⟨hb.trans ((hb7.trans (hW.mono hb7.size)).mono hb.size), by rw [cell_of_row _ _ _ _ _ _ hbk]; rfl, by rw [cell_of_row _ _ _ _ _ _ hbk]; rfl⟩
      have HO7 : Hid (∀ W, Below W7.heap.size W7 W → Own 1 Key.cs 37 W1.heap.size W u4 (allK (ents.take k))) := Lib.hid fun W hW => (ho.below hb7).below hW
      have HPREV : Hid (∀ j, j + 1 = k → ∃ e, e ∈ ents ∧ (∀ W, Below W1.heap.size W1 W → W.cell? ⟨b, off + j * 2, none⟩ = some (.slice e.vals.A e.vals.row.length e.vals.c)) ∧ cmpR e.vals.row ents[k].vals.row < 0) := Lib.hid fun j hj => by
        have hji : j < ents.length := by omega
        refine ⟨ents[j], List.getElem_mem hji, fun W hW => ?_, ?_⟩
        · obtain ⟨b', off', e', -, h, -⟩ := (HX1.out.on hW).ents.entM hji
          simp only at e'
          injection e' with e'
          injection e' with e1 e2
          subst e1 e2
          exact h
        · have h := HV.out.srt.vals
          have h2 := List.pairwise_map.1 h
          exact List.pairwise_iff_getElem.1 h2 j k hji hki (by omega)
      have HW7 := Lib.hid hW7
      clear ho hb hbs hxo hmem hW7 hb7 hbk7
      generalize ents[k] = e0 at *
      obtain ⟨⟨VA, vc, vr⟩, KA, kc, ks⟩ := e0
      simp only at HKT HTOT hkpos HFX HPREV e0c e1c HW7
      obtain ⟨m, hm⟩ : ∃ m, ks.length = m := ⟨_, rfl⟩
      rw [hm] at HFX e1c HW7 hkpos
      have hm0 : ((m : Int) == 0) = false := by simp; omega
      have HM := Lib.hid hm
      clear hm
      go_upto_region 8 with fail
      rw [← HW7.out]
      obtain ⟨hw7, t0, t1⟩ := HFX.out W7 (Below.refl _ _)
      obtain ⟨x0, x1, x2, x3, x4⟩ := HBX.out W7 hw7
      have HMK := Lib.hid (HMT.out W7 _ hw7 HMEM.out)
      have HBW7 := Lib.hid hw7
      clear hw7
      go_wp2_with fail
      refine HMK.out.mono ?_
      rintro e w8 ⟨rfl, hb8⟩
      clear x0 x1 x2 x3 x4 t0 t1 HMK
      obtain ⟨hw8, t0, t1⟩ := HFX.out w8 hb8
      obtain ⟨x0, x1, x2, x3, x4⟩ := HBX.out w8 hw8
      have HB8 := Lib.hid hb8
      clear hw8 hb8
      go_upto_region 10 with fail
      go_cut [53] from 39 to 53 (fun v53 wx => v53 = .bool false ∧ Below W7.heap.size W7 wx)
      case first =>
        by_cases hk0 : k = 0
        · have hk1 : ¬ (0 : Int) < (k : Int) := by omega
          have hk2 : decide ((0 : Int) < (k : Int)) = false := by simp; omega
          have hk3 : decide (0 < k) = false := by simp; omega
          have HF : Hid (∀ q, Below W7.heap.size W7 (w8.drewN q)) := Lib.hid fun q => below_drewN HB8.out q
          clear hk0
          go_quiet (fail)
          go_wp2_with fail
          go_meet
          exact ⟨rfl, HF.out _⟩
        · obtain ⟨j, hj⟩ : ∃ j, j + 1 = k := ⟨k - 1, by omega⟩
          obtain ⟨ep, hep, hcp, hlt2⟩ := HPREV.out j hj
          have hpos : (0 : Int) < (k : Int) := by omega
          have hsub : (k : Int) - 1 = (j : Int) := by omega
          have hl1 : (j : Int) < (n : Int) := by omega
          have hg1 : (0 : Int) ≤ (j : Int) := by omega
          have hw1 : IntKind.i64.wrap (j : Int) = (j : Int) := by rw [IntKind.wrap_i64]; omega
          have hdec : decide ((0 : Int) < (k : Int)) = true := by rw [decide_eq_true_iff]; exact hpos
          have hdec2 : decide (0 < k) = true := by rw [decide_eq_true_iff]; omega
          have HG : Hid (∀ q os, Below W7.heap.size W7 (Go.Sort.grow (w8.drewN q) os)) := Lib.hid fun q os => HB8.out.trans ((below_grow w8 q os).mono HB8.out.size)
          have y1 := fun q os => (HBX.out _ (HFX.out _ (HG.out q os)).1).2.2.2.2
          have y2 := fun q os => (HFX.out _ (HG.out q os)).2.1
          have y3 := fun q os => hcp _ (HFX.out _ (HG.out q os)).1
          have HC : Hid (∀ q os, Calls Try.prog 26 #[.slice ep.vals.A ep.vals.row.length ep.vals.c, .slice VA vr.length vc] (Go.Sort.grow (w8.drewN q) os) fun e w' => e = .returned (.int .i64 (cmpR ep.vals.row vr)) ∧ ∃ p : GrownBy, w' = Go.Sort.grow (w8.drewN p.n) p.os) := Lib.hid fun q os => by
            have hxq := HX1.out.on (HFX.out _ (HG.out q os)).1
            have ha := (hxq.ent _ hep).vals
            have hb := (hxq.ent _ HMEM.out).vals
            exact Calls.grown_of ((cmpRows ep.vals.A VA ep.vals.c vc ep.vals.row vr _ _ _ ha.el hb.el (fun _ h => h) (fun _ h => h) (by have := ha.len; omega)).mono fun _ _ ⟨h1, p, h2⟩ => ⟨h1, p.n, p.os, h2⟩)
          have mixed := mixed
          generalize hcv : cmpR ep.vals.row vr = cv at *
          have hge : ¬ (0 : Int) ≤ cv := by omega
          have hge2 : decide ((0 : Int) ≤ cv) = false := by simp; omega
          have y1' : ∀ q os, (Go.Sort.grow (w8.drewN q) os).cell? ⟨w.heap.size, 4, none⟩ = some (.slice (some ⟨b, off, none⟩) n ec) := fun q os => by rw [y1, HN.out]
          clear y1
          obtain ⟨⟨EA', ecp, er⟩, eKA, ekc, eks⟩ := ep
          simp only at y3 HC
          clear hcv hcp hep hk0 hj x4 t0
          go_quiet_grown (first | (go_at_call 26; exact HC.out _ _))
          have HF := HG.out (GrownBy.n ⟨nq, osq⟩) (GrownBy.os ⟨nq, osq⟩)
          have HFF := Lib.hid HF
          clear HF y1' y2 y3 HC
          go_wp2_with fail
          go_meet
          exact ⟨rfl, HFF.out⟩
      case rest =>
        obtain ⟨rfl, hb10⟩ := hcut
        clear x0 x1 x2 x3 x4 t0 t1
        obtain ⟨hwc, t0, t1⟩ := HFX.out wc hb10
        obtain ⟨x0, x1, x2, x3, x4⟩ := HBX.out wc hwc
        have HSW0 := HSK.out wc _ hwc HMEM.out
        rw [HM.out] at HSW0
        have HSW := Lib.hid HSW0
        have HB10 := Lib.hid hb10
        clear hwc hb10 HSW0
        go_wp2_with fail
        refine HSW.out.mono ?_
        rintro e w12 ⟨rfl, hb12⟩
        clear x0 x1 x2 x3 x4 t0 t1 HSW
        have hb7 := HB10.out.trans (hb12.mono HB10.out.size)
        obtain ⟨hw12, -, t1⟩ := HFX.out w12 hb7
        have HAP := Lib.hid (fun ty => run_pushs elem_keys keyLay ty w12 u4 (allK (ents.take k)) (c := kc) (HO7.out w12 hb7) ((HX1.out.on hw12).ent _ HMEM.out).keys HM.out.symm (by have := HTOT.out; show (_ + ks.length) * 24 ≤ _; omega) (by have := HTOT.out; unfold maxLen; show _ + ks.length ≤ _; omega) hw12.size)
        have HFR : Hid (∀ v w', Ext w12 u4 w' v → Below W1.heap.size W1 w') := Lib.hid fun v w' h => hw12.trans (h.below hw12.size fun g hg => (Own.lt (HO7.out w12 hb7) g hg).1)
        simp only at HAP
        clear hb12 hb7 hw12
        go_wp2_with (at_builtin; refine wpList_app rfl (.tmp 62) (.tmp 64) _ _ rfl rfl rfl (HAP.out _) ?_; rintro v2 w13 ⟨ho2, hx2⟩)
        have HF : Hid (Own 1 Key.cs 37 W1.heap.size w13 v2 (allK (ents.take (k + 1))) ∧ Below W1.heap.size W1 w13) := Lib.hid ⟨by rw [HKT.out]; exact ho2, HFR.out _ _ hx2⟩
        clear ho2 hx2
        go_wp2_with fail
        go_roundw
        case rel => exact ⟨k + 1, by go_num, by omega, HF.out.1, HF.out.2⟩
        case measure => simp [intOf]; omega
    · have hkn' : k = n := by omega
      subst hkn'
      have hal : (allK ents).length ≤ 1000 := by rw [allK_len]; exact HV.out.tot
      rw [List.take_of_length_le (by have := HN.out; omega)] at ho
      have hnd : ((allK ents).map Key.row).Nodup := by rw [allK_rows]; exact allKeys_nodup HV.out.srt HV.out.inj
      obtain ⟨Ag, cg, rfl, hcg1, hcg2⟩ := ho.form
      have hkey : ∀ kk ∈ allK ents, KOk (fun g => g < wo.heap.size ∧ (Value.slice Ag (allK ents).length cg).ownBlock ≠ some g) wo kk := fun kk hkk => by
        obtain ⟨e, he, hke⟩ := List.mem_flatMap.1 hkk
        refine ((HX1.out.ent e he).key kk hke).of fun g hg => ⟨hb.block g hg, Nat.lt_of_lt_of_le hg hb.size, fun e2 => ?_⟩
        have := (Own.lt ho g e2).1
        omega
      have HSO := Lib.hid (sortAllW ho hb.size (by omega) hkey)
      have HB := Lib.hid hb
      have HND := Lib.hid hnd
      have HAL := Lib.hid hal
      generalize allK ents = ks at *
      obtain ⟨N, hN⟩ : ∃ N, ks.length = N := ⟨_, rfl⟩
      have hN1 : N ≤ 1000 := by omega
      have HNN := Lib.hid hN
      rw [hN] at HSO
      simp only [hN]
      clear ho hb hnd hal hkey hcg1 hcg2 hN
      go_wp2_with fail
      refine HSO.out.mono ?_
      rintro e wk ⟨rfl, ks', hperm, hel, hkk, hbk⟩
      have hl' : ks'.length = N := by rw [hperm.length_eq]; exact HNN.out
      have hnd' : (ks'.map Key.row).Nodup := (hperm.map Key.row).nodup_iff.2 HND.out
      have HEL := Lib.hid hel
      have HKK := Lib.hid hkk
      have HBK := Lib.hid (HB.out.trans (hbk.mono (Nat.le_refl _)))
      have HL := Lib.hid hl'
      have HND2 := Lib.hid hnd'
      clear hperm hel hkk hbk hl' hnd' HSO
      go_wp2_with fail
      go_loopw [71] (fun vi wr => ∃ i : Nat, vi = .int .i64 (i : Int) ∧ i ≤ N ∧ Below wk.heap.size wk wr) (fun vi _ => N - (intOf vi).toNat)
      case atStart => exact ⟨0, rfl, by omega, Below.refl _ _⟩
      case round =>
        obtain ⟨i, rfl, hiN, hbw⟩ := hrel
        by_cases hlt2 : i < N
        · have hiN' : (i : Int) < (N : Int) := by omega
          by_cases hi0 : i = 0
          · have hk1 : ¬ (0 : Int) < (i : Int) := by omega
            have hk2 : decide ((0 : Int) < (i : Int)) = false := by simp; omega
            have hk3 : decide (0 < i) = false := by simp; omega
            have HF : Hid (∀ q, Below wk.heap.size wk (wr.drewN q)) := Lib.hid fun q => below_drewN hbw q
            clear hi0 hbw
            go_wp2_with fail
            go_quiet (fail)
            go_wp2_with fail
            go_roundw
            case rel => exact ⟨i + 1, by go_num, by omega, HF.out _⟩
            case measure => simp [intOf]; omega
          · obtain ⟨j, hj⟩ : ∃ j, j + 1 = i := ⟨i - 1, by omega⟩
            have hil : i < ks'.length := by have := HL.out; omega
            have hjl : j < ks'.length := by have := HL.out; omega
            have hpos : (0 : Int) < (i : Int) := by omega
            have hsub : (i : Int) - 1 = (j : Int) := by omega
            have hl1 : (j : Int) < (N : Int) := by omega
            have hg1 : (0 : Int) ≤ (j : Int) := by omega
            have hw1 : IntKind.i64.wrap (j : Int) = (j : Int) := by rw [IntKind.wrap_i64]; omega
            have hdec : decide ((0 : Int) < (i : Int)) = true := by rw [decide_eq_true_iff]; exact hpos
            have hdec2 : decide (0 < i) = true := by rw [decide_eq_true_iff]; omega
            have HG : Hid (∀ q os, Below wk.heap.size wk (Go.Sort.grow (wr.drewN q) os)) := Lib.hid fun q os => hbw.trans ((below_grow wr q os).mono hbw.size)
            obtain ⟨g, off, rfl, hgs, -⟩ := HEL.out.key hil
            have y1 : ∀ q os, (Go.Sort.grow (wr.drewN q) os).cell? ⟨g, off + i, none⟩ = some (.slice ks'[i].A ks'[i].row.length ks'[i].c) := fun q os => by
              obtain ⟨g', off', e', -, h⟩ := (HEL.out.on (HG.out q os)).key hil
              injection e' with e'
              injection e' with e1 e2
              subst e1 e2
              exact h
            have y2 : ∀ q os, (Go.Sort.grow (wr.drewN q) os).cell? ⟨g, off + j, none⟩ = some (.slice ks'[j].A ks'[j].row.length ks'[j].c) := fun q os => by
              obtain ⟨g', off', e', -, h⟩ := (HEL.out.on (HG.out q os)).key hjl
              injection e' with e'
              injection e' with e1 e2
              subst e1 e2
              exact h
            have HC : Hid (∀ q os, Calls Try.prog 26 #[.slice ks'[j].A ks'[j].row.length ks'[j].c, .slice ks'[i].A ks'[i].row.length ks'[i].c] (Go.Sort.grow (wr.drewN q) os) fun e w' => e = .returned (.int .i64 (cmpR ks'[j].row ks'[i].row)) ∧ ∃ p : GrownBy, w' = Go.Sort.grow (wr.drewN p.n) p.os) := Lib.hid fun q os => by
              have ha := (HKK.out _ (List.getElem_mem hjl)).on (HG.out q os)
              have hb := (HKK.out _ (List.getElem_mem hil)).on (HG.out q os)
              exact Calls.grown_of ((cmpRows _ _ _ _ _ _ _ _ _ ha.el hb.el (fun _ h => h) (fun _ h => h) (by have := ha.len; omega)).mono fun _ _ ⟨h1, p, h2⟩ => ⟨h1, p.n, p.os, h2⟩)
            have hne : (cmpR ks'[j].row ks'[i].row == 0) = false := by
              rw [beq_eq_false_iff_ne]
              intro h0
              have h := List.pairwise_iff_getElem.1 (List.nodup_iff_pairwise_ne.1 HND2.out) j i (by simpa using hjl) (by simpa using hil) (by omega)
              exact h (by simpa using cmpR_zero h0)
            have mixed := mixed
            generalize ks'[j] = kj at *
            generalize ks'[i] = ki at *
            generalize cmpR kj.row ki.row = cv at *
            clear hi0 hj hbw
            go_wp2_with fail
            go_quiet_grown (first | (go_at_call 26; exact HC.out _ _))
            have HFF := Lib.hid (HG.out (GrownBy.n ⟨nq, osq⟩) (GrownBy.os ⟨nq, osq⟩))
            clear y1 y2 HC
            go_wp2_with fail
            go_roundw
            case rel => exact ⟨i + 1, by go_num, by omega, HFF.out⟩
            case measure => simp [intOf]; omega
        · have hiN' : i = N := by omega
          subst hiN'
          have HF : Hid (Below w.heap.size w wr) := Lib.hid (HB1.out.1.trans ((HBK.out.trans (hbw.mono HBK.out.size)).mono HB1.out.1.size))
          clear hbw
          go_wp2_with fail
          go_ret
          exact ⟨rfl, HF.out⟩
end Go.Proofs.Ytakbabkcidioaaa
