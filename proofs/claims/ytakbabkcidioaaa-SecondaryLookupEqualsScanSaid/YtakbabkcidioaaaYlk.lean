/-
  The walk of secondary.LookupRange, where all is well.
-/
import Derived.Test.YtakbabkcidioaaaYe
import Derived.Test.YtakbabkcidioaaaYg
import Derived.Test.YtakbabkcidioaaaYd2
namespace Go.Proofs.Ytakbabkcidioaaa
open Go.RowKit Go.Sort

/-- What a range finds. -/
def inR (lo hi v : Row) : Bool := decide (0 ≤ cmpR v lo) && decide (cmpR v hi ≤ 0)
def lkX (lo hi : Row) (d : XD) : List Row := d.flatMap fun e => if inR lo hi e.1 then e.2 else []
def lkE (lo hi : Row) (es : List EntM) : List Key := es.flatMap fun e => if inR lo hi e.vals.row then e.keys else []
theorem lkE_take {lo hi : Row} {es : List EntM} {k : Nat} (hk : k < es.length) : lkE lo hi (es.take (k + 1)) = lkE lo hi (es.take k) ++ (if inR lo hi es[k].vals.row then es[k].keys else []) := by
  unfold lkE
  rw [List.take_succ_eq_append_getElem hk, List.flatMap_append]
  simp
theorem lkE_rows (lo hi : Row) (es : List EntM) : (lkE lo hi es).map Key.row = lkX lo hi (es.map EntM.xe) := by
  unfold lkE lkX
  induction es with
  | nil => rfl
  | cons e es ih =>
    rw [List.flatMap_cons, List.map_append, List.map_cons, List.flatMap_cons, ih]
    congr 1
    show List.map Key.row (if inR lo hi e.vals.row then e.keys else []) = if inR lo hi e.vals.row then e.keys.map Key.row else []
    split <;> rfl
theorem lkE_len (lo hi : Row) (es : List EntM) (k : Nat) : (lkE lo hi (es.take k)).length ≤ (allK es).length := by
  have h1 : ∀ es : List EntM, (lkE lo hi es).length ≤ (allK es).length := fun es => by
    induction es with
    | nil => exact Nat.le_refl _
    | cons e es ih =>
      have h2 : lkE lo hi (e :: es) = (if inR lo hi e.vals.row then e.keys else []) ++ lkE lo hi es := List.flatMap_cons
      have h3 : allK (e :: es) = e.keys ++ allK es := List.flatMap_cons
      rw [h2, h3, List.length_append, List.length_append]
      split
      · omega
      · show 0 + _ ≤ _; omega
  refine Nat.le_trans (h1 _) ?_
  conv => rhs; rw [← List.take_append_drop k es]
  unfold allK
  rw [List.flatMap_append, List.length_append]
  omega
theorem lkE_mem {lo hi : Row} {es : List EntM} {k : Key} (h : k ∈ lkE lo hi es) : ∃ e ∈ es, k ∈ e.keys := by
  obtain ⟨e, he, h⟩ := List.mem_flatMap.1 h
  split at h
  · exact ⟨e, he, h⟩
  · cases h
/-- What LookupRange leaves. -/
def LkPost (w : World) (lo hi : Row) (d : XD) (e : Ending) (w' : World) : Prop := ∃ v ks, e = .returned (.tuple #[v, .int .i64 0]) ∧ Own 1 Key.cs 37 w.heap.size w' v ks ∧ ks.map Key.row = lkX lo hi d ∧ (∀ k ∈ ks, KOk (· < w'.heap.size) w' k) ∧ Below w.heap.size w w'

set_option maxRecDepth 100000 in
set_option maxHeartbeats 4000000 in
theorem lookupRangeW (x : Ix) (A1 : Option Addr) (c1 : Nat) (lo : Row) (A2 : Option Addr) (c2 : Nat) (hi : Row) (w : World) (hx : IOk (· < w.heap.size) w x) (hv : XVal x) (h1 : Elems 3 Val.cs w (· < w.heap.size) A1 lo) (h2 : Elems 3 Val.cs w (· < w.heap.size) A2 hi) (hlo : VOk x.t x.cols lo) (hhi : VOk x.t x.cols hi) (hcl : x.cols.length ≤ 12) :
    Calls Try.prog 16 #[x.val, .slice A1 lo.length c1, .slice A2 hi.length c2] w (LkPost w lo hi x.xd) := by
  obtain ⟨W1, hW1⟩ : ∃ W1, W1 = w.alloc (.cells x.cells 30) := ⟨_, rfl⟩
  have hb1 : Below w.heap.size w W1 := by rw [hW1]; exact (Below.refl _ _).alloc (Nat.le_refl _) _
  have hg0 : W1.heap[w.heap.size]? = some (.cells x.cells 30 (0, 0)) := by rw [hW1]; exact heap_alloc_new w _
  have hsz : w.heap.size < W1.heap.size := by rw [hW1]; simp
  have hx1 := hx.on hb1
  have HBX : Hid (∀ W, Below W1.heap.size W1 W → W.cell? ⟨w.heap.size, 0, none⟩ = some (.string x.t.name) ∧ W.cell? ⟨w.heap.size, 1, none⟩ = some (.slice x.t.CA x.t.cols.length x.t.cc) ∧ W.cell? ⟨w.heap.size, 2, none⟩ = some (.slice x.t.PA x.t.pk.length x.t.pc) ∧ W.cell? ⟨w.heap.size, 3, none⟩ = some (.slice x.XA x.cols.length x.xc) ∧ W.cell? ⟨w.heap.size, 4, none⟩ = some (.slice x.EA x.ents.length x.ec)) := Lib.hid fun W hW => Ix.box (w' := W) hg0 (hW.block _ (by omega))
  have HCK := Lib.hid (checkW x W1 hx1 hv)
  have HM1 := Lib.hid fun (W : World) (hW : Below W1.heap.size W1 W) => matchesW x.t x.XA x.xc x.cols A1 c1 lo W (hx1.on hW).t (hx1.on hW).cols ((h1.on hb1).on hW) hv.cols.pos.2 hv.cols.rng hlo
  have HM2 := Lib.hid fun (W : World) (hW : Below W1.heap.size W1 W) => matchesW x.t x.XA x.xc x.cols A2 c2 hi W (hx1.on hW).t (hx1.on hW).cols ((h2.on hb1).on hW) hv.cols.pos.2 hv.cols.rng hhi
  have HCN := Lib.hid fun (W : World) (hW : Below W1.heap.size W1 W) => cloneIx x W (hx1.on hW) hv.sz
  have HLH := Lib.hid (And.intro (h1.on hb1) (And.intro (h2.on hb1) (And.intro (show lo.length ≤ 12 from by rw [hlo.len]; exact hcl) (show hi.length ≤ 12 from by rw [hhi.len]; exact hcl))))
  have HV := Lib.hid hv
  have HW1 := Lib.hid hW1
  have HB1 := Lib.hid (And.intro hb1 hsz)
  obtain ⟨nl, hnl⟩ : ∃ nl, lo.length = nl := ⟨_, rfl⟩
  obtain ⟨nh, hnh⟩ : ∃ nh, hi.length = nh := ⟨_, rfl⟩
  rw [hnl] at HM1 ⊢
  rw [hnh] at HM2 ⊢
  have HNN := Lib.hid (And.intro hnl hnh)
  have hi0 : ∀ W, (Instr.index 62 (.agg #[.slice A1 nl c1, .slice A2 nh c2]) (.int .i64 0)).run Try.prog W = .ok (.slice A1 nl c1) W := fun W => by kernel_rfl
  have hi1 : ∀ W, (Instr.index 62 (.agg #[.slice A1 nl c1, .slice A2 nh c2]) (.int .i64 1)).run Try.prog W = .ok (.slice A2 nh c2) W := fun W => by kernel_rfl
  have HI0 := Lib.hid hi0
  have HI1 := Lib.hid hi1
  clear hx hv h1 h2 hlo hhi hcl hW1 hb1 hg0 hsz hx1 hnl hnh hi0 hi1
  obtain ⟨D, hD⟩ : ∃ D, D = x.xd := ⟨_, rfl⟩
  rw [← hD]
  have HD := Lib.hid hD
  clear hD
  obtain ⟨⟨name, CA, cc, tc, PA, pc, pk⟩, XA, xc, cols, EA, ec, ents⟩ := x
  unfold Ix.val
  unfold Ix.cells at HW1 ⊢
  simp only [Tbl.val, Ix.val, Ix.cells] at HBX HCK HM1 HM2 HCN HW1 ⊢
  go_enter Try.func16, Try.ntmps16
  go_upto_region 1 with fail
  rw [← HW1.out]
  obtain ⟨x0, x1, x2, x3, x4⟩ := HBX.out W1 (Below.refl _ _)
  go_wp2_with fail
  refine HCK.out.mono ?_
  rintro e w2 ⟨rfl, hb2⟩
  clear x0 x1 x2 x3 x4 HCK
  have HB2 := Lib.hid hb2
  clear hb2
  go_upto_region 5 with fail
  go_wp2_with fail
  go_loopw [22] (fun vk wr => ∃ k : Nat, vk = .int .i64 (k : Int) ∧ k ≤ 2 ∧ Below W1.heap.size W1 wr) (fun vk _ => 2 - (intOf vk).toNat)
  case atStart => exact ⟨0, rfl, by omega, HB2.out⟩
  case round =>
    obtain ⟨k, rfl, hk2, hb⟩ := hrel
    rcases k with _ | _ | k
    · have hi0 := HI0.out
      obtain ⟨x0, x1, x2, x3, x4⟩ := HBX.out wr hb
      have HM := Lib.hid (HM1.out wr hb)
      have HB := Lib.hid hb
      clear hb
      go_wp2_with fail
      refine HM.out.mono ?_
      rintro e w3 ⟨rfl, hb3⟩
      have HB3 := Lib.hid (HB.out.trans (hb3.mono HB.out.size))
      clear hb3 x0 x1 x2 x3 x4
      go_wp2_with fail
      go_roundw
      case rel => exact ⟨1, rfl, by omega, HB3.out⟩
      case measure => simp [intOf]
    · have hi1 := HI1.out
      obtain ⟨x0, x1, x2, x3, x4⟩ := HBX.out wr hb
      have HM := Lib.hid (HM2.out wr hb)
      have HB := Lib.hid hb
      clear hb
      go_wp2_with fail
      refine HM.out.mono ?_
      rintro e w3 ⟨rfl, hb3⟩
      have HB3 := Lib.hid (HB.out.trans (hb3.mono HB.out.size))
      clear hb3 x0 x1 x2 x3 x4
      go_wp2_with fail
      go_roundw
      case rel => exact ⟨2, rfl, by omega, HB3.out⟩
      case measure => simp [intOf]
    · have hk0 : k = 0 := by omega
      subst hk0
      obtain ⟨x0, x1, x2, x3, x4⟩ := HBX.out wr hb
      have HC := Lib.hid (HCN.out wr hb)
      have HB := Lib.hid hb
      clear hb
      go_wp2_with fail
      refine HC.out.mono ?_
      rintro e w4 ⟨y, R, rfl, hown, hlo4, hlike, hb4⟩
      have hok4 := hown.ok
      have HOK4 := Lib.hid hok4
      have HB4 := Lib.hid (HB.out.trans (hb4.mono HB.out.size))
      have HLK := Lib.hid hlike
      have htot : (allK y.ents).length ≤ 1000 := by
        rw [allK_len]
        have h1 : (flatX y.xd).length ≤ 1000 := by rw [hlike.xd]; exact HV.out.tot
        exact h1
      have HTOT := Lib.hid htot
      obtain ⟨n, hn⟩ : ∃ n, y.ents.length = n := ⟨_, rfl⟩
      have hn100 : n ≤ 100 := by
        have h1 := HV.out.sz.ents
        have h2 := congrArg List.length hlike.xd
        unfold Ix.xd at h2
        rw [List.length_map, List.length_map] at h2
        simp only at h1 h2
        omega
      have HN := Lib.hid hn
      clear hown hlo4 hlike hb4 hok4 htot x0 x1 x2 x3 x4 HC
      have hfld : (Instr.field 30 y.val 2).run Try.prog w4 = .ok (.slice y.EA n y.ec) w4 := by rw [← hn]; kernel_rfl
      clear hn
      obtain ⟨⟨n9, CA9, cc9, tc9, PA9, pc9, pk9⟩, XA9, xc9, cols9, EA9, ec9, ents9⟩ := y
      unfold Ix.val at hfld
      unfold Ix.val
      unfold Ix.cells at hfld ⊢
      simp only at HOK4 HLK HTOT HN hfld ⊢
      go_wp2_with fail
      go_loopw [11, 37] (fun v vk wr => ∃ k : Nat, vk = .int .i64 (k : Int) ∧ k ≤ n ∧ Own 1 Key.cs 37 w4.heap.size wr v (lkE lo hi (ents9.take k)) ∧ Below w4.heap.size w4 wr) (fun _ vk _ => n - (intOf vk).toNat)
      case atStart => exact ⟨0, rfl, by omega, Own.nil _, Below.refl _ _⟩
      case round =>
        obtain ⟨k, rfl, hkn, ho, hb⟩ := hrel
        obtain ⟨wo, rfl⟩ : ∃ wo, wo = wr := ⟨_, rfl⟩
        by_cases hlt : k < n
        · have hki : k < ents9.length := by have := HN.out; omega
          obtain ⟨b, off, rfl, hbs, e0c, e1c⟩ := (HOK4.out.on hb).ents.entM hki
          have hkn' : (k : Int) < (n : Int) := by omega
          have HKT := Lib.hid (lkE_take (lo := lo) (hi := hi) hki)
          have HLN : Hid ((lkE lo hi (ents9.take k)).length + ents9[k].keys.length ≤ 2000) := Lib.hid (by
            have h1 := lkE_len lo hi ents9 k
            have h2 := HTOT.out
            have h3 : ents9[k].keys.length ≤ (allK ents9).length := by
              have h4 := List.getElem_mem hki
              obtain ⟨s, t, hst⟩ := List.append_of_mem h4
              have h5 : (allK ents9).length = (allK (s ++ ents9[k] :: t)).length := by rw [← hst]
              rw [h5]
              unfold allK
              rw [List.flatMap_append, List.flatMap_cons, List.length_append, List.length_append]
              omega
            omega)
          have HEW : Hid (∀ W, Below w4.heap.size w4 W → EOk (· < W.heap.size) W ents9[k]) := Lib.hid fun W hW => (HOK4.out.on hW).ent _ (List.getElem_mem hki)
          obtain ⟨W13, hW13⟩ : ∃ W13, W13 = wo.alloc (.cells #[.slice ents9[k].vals.A ents9[k].vals.row.length ents9[k].vals.c, .slice ents9[k].KA ents9[k].keys.length ents9[k].kc] 59) := ⟨_, rfl⟩
          have hb13 : Below wo.heap.size wo W13 := by rw [hW13]; exact (Below.refl _ _).alloc (Nat.le_refl _) _
          have hbk : W13.heap[wo.heap.size]? = some (.cells #[.slice ents9[k].vals.A ents9[k].vals.row.length ents9[k].vals.c, .slice ents9[k].KA ents9[k].keys.length ents9[k].kc] 59 (0, 0)) := by rw [hW13]; exact heap_alloc_new wo _
          have hwo : wo.heap.size < W13.heap.size := by rw [hW13]; simp
          have HFX : Hid (∀ W, Below W13.heap.size W13 W → Below w4.heap.size w4 W ∧ W.cell? ⟨wo.heap.size, 0, none⟩ = some (.slice ents9[k].vals.A ents9[k].vals.row.length ents9[k].vals.c) ∧ W.cell? ⟨wo.heap.size, 1, none⟩ = some (.slice ents9[k].KA ents9[k].keys.length ents9[k].kc)) := Lib.hid fun W hW => by
            have h := (hW.block _ hwo).trans hbk
            exact ⟨hb.trans ((hb13.trans (hW.mono hb13.size)).mono hb.size), by rw [cell_of_row _ _ _ _ _ _ h]; rfl, by rw [cell_of_row _ _ _ _ _ _ h]; rfl⟩
          have HOX : Hid (∀ W, Below W13.heap.size W13 W → Own 1 Key.cs 37 w4.heap.size W u11 (lkE lo hi (ents9.take k))) := Lib.hid fun W hW => (ho.below hb13).below hW
          have HLX : Hid (∀ W, Below w4.heap.size w4 W → Elems 3 Val.cs W (· < W.heap.size) A1 lo ∧ Elems 3 Val.cs W (· < W.heap.size) A2 hi) := Lib.hid fun W hW => ⟨(HLH.out.1.on HB4.out).on hW, (HLH.out.2.1.on HB4.out).on hW⟩
          have HW13 := Lib.hid hW13
          clear ho hb hbs hW13 hb13 hbk hwo
          generalize ents9[k] = e0 at *
          obtain ⟨⟨VA, vc, vr⟩, KA, kc, ks⟩ := e0
          simp only at HKT HLN HEW HFX e0c e1c HW13
          obtain ⟨m, hm⟩ : ∃ m, ks.length = m := ⟨_, rfl⟩
          rw [hm] at HFX e1c HW13
          have HM := Lib.hid hm
          clear hm
          go_upto_region 14 with fail
          rw [← HW13.out]
          have hC1 : Hid (Calls Try.prog 26 #[.slice VA vr.length vc, .slice A1 nl c1] W13 fun e w' => e = .returned (.int .i64 (cmpR vr lo)) ∧ Below W13.heap.size W13 w') := Lib.hid (by
            have h4 := (HFX.out _ (Below.refl _ _)).1
            have ha := (HEW.out _ h4).vals
            have hl := (HLX.out _ h4).1
            have h := cmpRows VA A1 vc c1 vr lo _ _ _ ha.el hl (fun _ h => h) (fun _ h => h) (by have := ha.len; simp only at this; omega)
            rw [HNN.out.1] at h
            exact h.mono fun _ _ ⟨h1, p, h2⟩ => ⟨h1, by rw [h2]; exact below_grow W13 p.n p.os⟩)
          have hC2 : Hid (∀ W, Below W13.heap.size W13 W → Calls Try.prog 26 #[.slice VA vr.length vc, .slice A2 nh c2] W fun e w' => e = .returned (.int .i64 (cmpR vr hi)) ∧ Below W13.heap.size W13 w') := Lib.hid fun W hW => by
            have h4 := (HFX.out _ hW).1
            have ha := (HEW.out _ h4).vals
            have hl := (HLX.out _ h4).2
            have h := cmpRows VA A2 vc c2 vr hi _ _ _ ha.el hl (fun _ h => h) (fun _ h => h) (by have := ha.len; simp only at this; omega)
            rw [HNN.out.2] at h
            exact h.mono fun _ _ ⟨h1, p, h2⟩ => ⟨h1, by rw [h2]; exact hW.trans ((below_grow W p.n p.os).mono hW.size)⟩
          obtain ⟨-, y0, y1⟩ := HFX.out W13 (Below.refl _ _)
          go_cut [52] from 41 to 52 (fun v52 wx => v52 = .bool (inR lo hi vr) ∧ Below W13.heap.size W13 wx)
          case first =>
            have HIN : Hid (inR lo hi vr = (decide (0 ≤ cmpR vr lo) && decide (cmpR vr hi ≤ 0))) := Lib.hid rfl
            generalize inR lo hi vr = rr at *
            generalize cmpR vr lo = v1 at *
            generalize cmpR vr hi = v2 at *
            by_cases hv1 : (0 : Int) ≤ v1
            · have hd1 : decide ((0 : Int) ≤ v1) = true := by simp; exact hv1
              have HF : Hid (.bool (decide (v2 ≤ 0)) = Value.bool rr) := Lib.hid (by rw [HIN.out, hd1, Bool.true_and])
              go_wp2_with fail
              refine hC1.out.mono ?_
              rintro e wa ⟨rfl, hba⟩
              have HC := Lib.hid (hC2.out wa hba)
              obtain ⟨-, t0, t1⟩ := HFX.out wa hba
              clear hba y0 y1
              go_wp2_with fail
              refine HC.out.mono ?_
              rintro e wb ⟨rfl, hbb⟩
              have HFF := Lib.hid hbb
              clear hbb t0 t1
              go_wp2_with fail
              go_meet
              exact ⟨HF.out, HFF.out⟩
            · have hd1 : decide ((0 : Int) ≤ v1) = false := by simp; omega
              have HF : Hid (.bool false = Value.bool rr) := Lib.hid (by rw [HIN.out, hd1, Bool.false_and])
              go_wp2_with fail
              refine hC1.out.mono ?_
              rintro e wa ⟨rfl, hba⟩
              have HFF := Lib.hid hba
              clear hba y0 y1
              go_wp2_with fail
              go_meet
              exact ⟨HF.out, HFF.out⟩
          case rest =>
            obtain ⟨rfl, hbc⟩ := hcut
            have HBC := Lib.hid hbc
            obtain ⟨hwc, t0, t1⟩ := HFX.out wc hbc
            have HWC := Lib.hid hwc
            clear y0 y1 hC1 hC2 hbc hwc
            cases hr : inR lo hi vr with
            | true =>
              have HAP := Lib.hid (fun ty => run_pushs elem_keys keyLay ty wc u11 (lkE lo hi (ents9.take k)) (c := kc) (HOX.out wc HBC.out) (HEW.out _ HWC.out).keys HM.out.symm (by have := HLN.out; show (_ + ks.length) * 24 ≤ _; omega) (by have := HLN.out; unfold maxLen; show _ + ks.length ≤ _; omega) HWC.out.size)
              simp only at HAP
              have HRR := Lib.hid hr
              clear hr
              go_wp2_with (at_builtin; refine wpList_app rfl (.tmp 53) (.tmp 55) _ _ rfl rfl rfl (HAP.out _) ?_; rintro v2 w13 ⟨ho2, hx2⟩)
              have HF : Hid (Own 1 Key.cs 37 w4.heap.size w13 v2 (lkE lo hi (ents9.take (k + 1))) ∧ Below w4.heap.size w4 w13) := Lib.hid ⟨by rw [HKT.out, HRR.out, if_pos rfl]; exact ho2, HWC.out.trans (hx2.below HWC.out.size fun g hg => (Own.lt (HOX.out wc HBC.out) g hg).1)⟩
              clear ho2 hx2
              go_wp2_with fail
              go_roundw
              case rel => exact ⟨v2, _, .int .i64 ((k : Int) + 1), ⟨k + 1, by go_num, by omega, HF.out.1, HF.out.2⟩, rfl, rfl, rfl⟩
              case measure => simp [intOf]; omega
            | false =>
              have HF : Hid (Own 1 Key.cs 37 w4.heap.size wc u11 (lkE lo hi (ents9.take (k + 1))) ∧ Below w4.heap.size w4 wc) := Lib.hid ⟨by rw [HKT.out, hr]; simpa using HOX.out wc HBC.out, HWC.out⟩
              clear hr
              go_wp2_with fail
              go_roundw
              case rel => exact ⟨k + 1, by go_num, by omega, HF.out.1, HF.out.2⟩
              case measure => simp [intOf]; omega
        · have hkn' : k = n := by omega
          subst hkn'
          have HF : Hid (LkPost w lo hi D (.returned (.tuple #[u11, .int .i64 0])) wo) := Lib.hid (by
            rw [List.take_of_length_le (by have := HN.out; omega)] at ho
            have hsz4 : w.heap.size ≤ w4.heap.size := by have := HB4.out.size; have := HB1.out.2; omega
            refine ⟨u11, _, rfl, ho.mono hsz4, ?_, fun q hq => ?_, HB1.out.1.trans ((HB4.out.trans (hb.mono HB4.out.size)).mono HB1.out.1.size)⟩
            · rw [lkE_rows, HD.out]
              have h := HLK.out.xd
              unfold Ix.xd at h ⊢
              simp only at h ⊢
              rw [h]
            · obtain ⟨e, he, hq'⟩ := lkE_mem hq
              exact (((HOK4.out.on hb).ent e he).key q hq'))
          clear ho hb
          go_wp2_with fail
          go_ret2
          exact HF.out
end Go.Proofs.Ytakbabkcidioaaa
