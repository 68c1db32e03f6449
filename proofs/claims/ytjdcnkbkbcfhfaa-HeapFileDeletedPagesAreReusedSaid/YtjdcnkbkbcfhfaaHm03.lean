/-
  The walk of compact.
  The walks of capacity, Capacity, Compact, remove, Delete.
  The walk of place.
  The walks of Insert, Update.
-/
import Derived.Test.YtjdcnkbkbcfhfaaHm02
import Derived.Deep.RegionLaw
import Derived.Deep.Cut
import Derived.Deep.CutRange
namespace Go.Proofs.Ytjdcnkbkbcfhfaa
open Go.RowKit

theorem Pg.blit {base g c o : Nat} {p r : List Nat} {w w' : World} (h : Pg base w g c p) {cur : Array Value} (hs : cur.size = c) (ht : cur.toList.take 256 = p.flatMap nbCs) (hr : o + r.length ≤ 256) (hrb : ∀ t, r.getD t 0 < 256)
    (h1 : w'.heap[g]? = some (.cells (splice cur.toList o (r.flatMap nbCs)).toArray 5 (0, 0))) : Pg base w' g c (Go.Proofs.Ytjdcnkbkbcfhfaa.blit p o r) := by
  have hr' : o + r.length ≤ p.length := by rw [h.2.1]; exact hr
  refine ⟨h.1.blit hs (by rw [h.2.1]; exact ht) o r hr' h1, by rw [blit_len hr', h.2.1], fun k => ?_⟩
  rw [B_blit k hr']
  have := h.2.2 k
  have := hrb (k - o)
  split <;> omega
theorem Pg.row {base g c : Nat} {p : List Nat} {w : World} (h : Pg base w g c p) : ∃ cur : List Value, w.heap[g]? = some (.cells cur.toArray 5 (0, 0)) ∧ cur.length = c ∧ cur.take 256 = p.flatMap nbCs := by
  obtain ⟨cur, h1, h2, h3⟩ := h.1.row
  exact ⟨cur.toList, h1, by simpa using h2, by rw [← h.2.1]; exact h3⟩
theorem nb_one (r : List Nat) : ∀ v ∈ r.flatMap nbCs, v.oneCell' = true := fun v hv => by
  obtain ⟨x, _, hx⟩ := List.mem_flatMap.1 hv
  exact nbLay.one x v hx
theorem pgInfoU8 : (Try.prog.info? 5).map (·.size) = some 1 := by kernel_rfl
theorem elems_src {w : World} {S : Nat → Prop} {b off : Nat} {r : List Nat} (h : Elems 1 nbCs w S (some ⟨b, off, none⟩) r) : ∀ j v, (r.flatMap nbCs)[j]? = some v → w.cell? ((⟨b, off, none⟩ : Addr).add j) = some v := fun j v hj => by
  rw [Addr.add_lit]
  have hjl : j < r.length := by
    have := (List.getElem?_eq_some_iff.1 hj).1
    rwa [nb_flat_len] at this
  obtain ⟨b', off', e, _, hc⟩ := h.nb hjl
  injection e with e
  injection e with e1 e2
  subst e1 e2
  rw [hc]
  rw [nb_flat_get, List.getElem?_eq_getElem hjl, Option.map_some] at hj
  exact hj

set_option maxRecDepth 100000 in
set_option maxHeartbeats 2000000 in
theorem compactPage {base g c : Nat} {p : List Nat} (w : World) (h : Pg base w g c p) (hw : WF p) :
    Calls Try.prog 48 #[.slice (some ⟨g, 0, none⟩) 256 c] w fun e w' => e = .returned (.slice (some ⟨w.heap.size, 0, none⟩) 256 256) ∧ Pg w.heap.size w' w.heap.size 256 (compactL p) ∧ Below w.heap.size w w' := by
  have hn := hw.n_le
  have hgc := h.cap.1
  have gl := h.lt.2
  have HP := Lib.hid fun W (hW : Below w.heap.size w W) => h.below hW
  have HC0 := Lib.hid fun W (hW : Pg base W g c p) => hW.at_ (k := 0) (by omega)
  have HNW := Lib.hid (newPage w)
  have HW := Lib.hid hw
  have HB0 := Lib.hid (hw.byte 0)
  obtain ⟨n, hnn⟩ : ∃ n, n = B p 0 := ⟨_, rfl⟩
  have HCL : Hid (compactL p = if (cst p n).2 < 256 then (cst p n).1.set 1 (cst p n).2 else (cst p n).1) := Lib.hid (by rw [hnn]; rfl)
  have HC1 : Hid (cst p 0 = (zeros.set 0 n, 256)) := Lib.hid (by rw [hnn]; rfl)
  have HCI : Hid (∀ k, k ≤ n → CI p k (cst p k).1 (cst p k).2) := Lib.hid fun k hk => hw.ci k (by omega)
  have HSL : Hid (∀ k, k < n → (so p k = 0 ∧ sl p k = 0) ∨ (1 ≤ sl p k ∧ sl p k ≤ 100 ∧ dS p ≤ so p k ∧ so p k + sl p k ≤ 256)) := Lib.hid fun k hk => hw.slot k (by omega)
  have HSU : Hid (∀ k, k ≤ n → dS p + S p k ≤ 256) := Lib.hid fun k hk => hw.sum (by omega)
  have hrm := hw.room
  rw [← hnn] at hn HC0 HB0 hrm
  generalize compactL p = cl at *
  have y2 : (n : Int) < 256 := by omega
  have y3 : IntKind.u8.wrap (n : Int) = (n : Int) := by rw [IntKind.wrap_u8]; omega
  clear h hw hnn
  go_enter Try.func48, Try.ntmps48
  go_wp2_with fail
  refine HNW.out.mono ?_
  rintro e w1 ⟨rfl, hz1, hb1⟩
  have z0 := HC0.out w1 (HP.out w1 hb1)
  have z1 := hz1.at_ (k := 0) (by omega)
  have f1 := hz1.fz (k := 0) (by omega)
  have HP1 := Lib.hid (hz1.set (k := 0) (m := n) (by omega) (by omega))
  have HB1 := Lib.hid (hb1.setCell (p := ⟨w.heap.size, 0, none⟩) (Nat.le_refl _) (.int .u8 (n : Int)))
  have hgne : g ≠ w.heap.size := by omega
  clear hz1 hb1
  go_wp2_with fail
  have z0' := HC0.out _ (HP.out _ HB1.out)
  go_wp2_with fail
  go_loopw [4, 18] (fun t i wr => ∃ k : Nat, k ≤ n ∧ i = .int .i64 k ∧ t = .int .i64 ((cst p k).2 : Nat) ∧ Pg w.heap.size wr w.heap.size 256 (cst p k).1 ∧ Below w.heap.size w wr) (fun _ i _ => n - (intOf i).toNat)
  case atStart => exact ⟨0, by omega, rfl, by rw [HC1.out]; rfl, by rw [HC1.out]; exact HP1.out, HB1.out⟩
  case round =>
    clear HP1 HB1 z0 z0' z1 f1
    obtain ⟨k, hk, rfl, rfl, hpg, hbk⟩ := hrel
    by_cases hlt : k < n
    · have HS := Lib.hid (slotAt wr (HP.out wr hbk) k (by omega))
      have HCS : Hid (cst p (k + 1) = if so p k = 0 then cst p k else (setS (blit (cst p k).1 ((cst p k).2 - sl p k) (rc p k)) k ((cst p k).2 - sl p k) (sl p k), (cst p k).2 - sl p k)) := Lib.hid rfl
      have hsl := HSL.out k hlt
      have hci := HCI.out k hk
      have hsum := hci.sum
      have hsu := HSU.out (k + 1) hlt
      have hss : S p (k + 1) = S p k + sl p k := rfl
      have HPG := Lib.hid hpg
      have HBK := Lib.hid hbk
      by_cases hu : so p k = 0
      · rw [if_pos hu] at HCS
        rw [hu] at HS
        clear hu hpg hbk hci hsum hsu hss hsl
        generalize sl p k = l at *
        generalize cst p k = s at *
        obtain ⟨q, en⟩ := s
        go_wp2_with fail
        refine HS.out.mono ?_
        rintro e w2 ⟨rfl, nd, rfl⟩
        go_wp2_with fail
        go_roundw
        case rel => exact ⟨k + 1, by omega, by go_num, by rw [HCS.out], by rw [HCS.out]; exact HPG.out.below (below_drewN (Below.refl _ _) nd), below_drewN HBK.out nd⟩
        case measure => simp [intOf]; omega
      · rw [if_neg hu] at HCS
        rcases hsl with hsl | hsl
        · exact absurd hsl.1 hu
        have HCUT := Lib.hid fun W (hW : Pg base W g c p) => hW.cut (o := so p k) (l := sl p k) (by omega) (by omega)
        have hrc := rc_cut (p := p) (i := k) (by have := HW.out.len; omega)
        rw [hrc] at HCUT
        have hrl := rc_len p k
        have HRB := Lib.hid (rc_byte HW.out.byte k)
        clear hu hpg hbk hci hrc
        generalize rc p k = r at *
        generalize so p k = o at *
        generalize sl p k = l at *
        generalize dS p = d at *
        generalize cst p k = s at *
        obtain ⟨q, en⟩ := s
        obtain ⟨ee, hee⟩ : ∃ ee, ee = en - l := ⟨_, rfl⟩
        simp only at HCS HPG hsum ⊢
        rw [← hee] at HCS
        have x1 : (en : Int) - (l : Int) = (ee : Int) := by omega
        obtain ⟨s2, hs2⟩ : ∃ s2, s2 = o + l := ⟨_, rfl⟩
        have x2 : (o : Int) + (l : Int) = (s2 : Int) := by omega
        have x2' : IntKind.i64.wrap ((s2 : Nat) : Int) = (s2 : Int) := by rw [IntKind.wrap_i64]; omega
        have x3 : (0 : Nat) < o := by omega
        have x4 : ¬ c = o := by omega
        have x5 : s2 ≤ c := by omega
        have x6 : o ≤ s2 := by omega
        have x7 : s2 - o = l := by omega
        have x8 : (s2 : Int) ≤ (c : Int) := by omega
        have x9 : ¬ 256 = ee := by omega
        have x10 : ee ≤ 256 := by omega
        have x11 : (ee : Int) ≤ 256 := by omega
        have x12 : (o : Int) ≤ (s2 : Int) := by omega
        have x13 : (0 : Int) ≤ (o : Int) := by omega
        have x14 : (0 : Int) ≤ (ee : Int) := by omega
        have HMIN : Hid ((r.flatMap nbCs).length = Nat.min l (256 - ee)) := Lib.hid (by rw [nb_flat_len, hrl]; exact (Nat.min_eq_left (by omega)).symm)
        have HFIT : Hid (ee + r.length ≤ 256) := Lib.hid (by omega)
        have HRL := Lib.hid hrl
        have hl256 : l < 256 := by omega
        have he256 : ee < 256 := by omega
        have hk126 : k ≤ 126 := by omega
        clear hsum hsu hss hee hs2 hrl hsl
        go_wp2_with fail
        refine HS.out.mono ?_
        rintro e w2 ⟨rfl, nd, rfl⟩
        have HPG2 := Lib.hid (HPG.out.below (below_drewN (Below.refl _ _) (nd + 1)))
        have HB2 := Lib.hid (below_drewN HBK.out (nd + 1))
        obtain ⟨cur, hr1, hr2, hr3⟩ := HPG2.out.row
        have HR3 := Lib.hid hr3
        have HSRC := Lib.hid (elems_src (HCUT.out _ (HP.out _ HB2.out)))
        have HNB := Lib.hid (nb_one r)
        have HCF : Hid (ee + (r.flatMap nbCs).length ≤ cur.length) := Lib.hid (by rw [nb_flat_len, hr2]; exact HFIT.out)
        have HR1 := Lib.hid hr1
        have HR2 := Lib.hid hr2
        clear hr3 hr1 hr2
        go_wp2_with fail
        go_region_law (refine step_copy_splice rfl (.tmp 34) (.tmp 40) 64 64 rfl 5 Try.underlying64 pgInfoU8 (some ⟨w.heap.size, ee, none⟩) (some ⟨g, o, none⟩) (256 - ee) (256 - ee) l (c - o) (by simp [Act.eval, Act.put]) (by simp [Act.eval, Act.put]) w.heap.size ee cur 5 HR1.out (r.flatMap nbCs) HMIN.out (fun _ => ⟨rfl, _, rfl, HSRC.out⟩) HCF.out HNB.out w.heap.size w HB2.out (Nat.le_refl _) ?_; intro w4 hg4 hb4)
        have HPQ := HPG2.out.blit (w' := w4) (cur := cur.toArray) (o := ee) (r := r) (by simpa using HR2.out) (by simpa using HR3.out) HFIT.out HRB.out hg4.out
        have HSET := Lib.hid (setSlot w4 HPQ k ee l hk126 he256 hl256)
        have HB4 := Lib.hid hb4
        clear HPQ hg4 hb4 HPG2 HR3 HSRC HNB HCF HR1 HR2 HB2
        generalize blit q ee r = q2 at *
        go_wp2_with fail
        refine HSET.out.mono ?_
        rintro e w5 ⟨rfl, hp5, hb5⟩
        go_wp2_with fail
        go_roundw
        case rel => exact ⟨k + 1, by omega, by go_num, by rw [HCS.out], by rw [HCS.out]; exact hp5, HB4.out.trans hb5⟩
        case measure => simp [intOf]; omega
    · have hkn : k = n := by omega
      subst hkn
      have hci := HCI.out k hk
      have hsum := hci.sum
      have hsu := HSU.out k (Nat.le_refl _)
      have HPG := Lib.hid hpg
      have HBK := Lib.hid hbk
      clear hpg hbk
      by_cases he : (cst p k).2 < 256
      · have hst := HPG.out.set (k := 1) (m := (cst p k).2) (by omega) he
        have z1 := HPG.out.at_ (k := 1) (by omega)
        have f1 := HPG.out.fz (k := 1) (by omega)
        rw [if_pos he] at HCL
        rw [← HCL.out] at hst
        have HST := Lib.hid hst
        have HBS := Lib.hid (HBK.out.setCell (p := ⟨w.heap.size, 1, none⟩) (Nat.le_refl _) (.int .u8 ((cst p k).2 : Int)))
        clear hst hci hsum hsu HCL HPG HBK
        generalize (cst p k).2 = en at *
        generalize B (cst p k).1 1 = z at *
        have x1 : (en : Int) < 256 := by omega
        have x2 : (en : Int) % 256 = (en : Int) := by omega
        go_wp2_with fail
        go_ret
        exact ⟨rfl, HST.out, HBS.out⟩
      · rw [if_neg he] at HCL
        have hpg := HPG.out
        rw [← HCL.out] at hpg
        have HST := Lib.hid hpg
        have he2 : (cst p k).2 = 256 := by omega
        rw [he2]
        clear hpg hci hsum hsu HCL HPG he he2
        go_wp2_with fail
        go_ret
        exact ⟨rfl, HST.out, HBK.out⟩

end Go.Proofs.Ytjdcnkbkbcfhfaa

namespace Go.Proofs.Ytjdcnkbkbcfhfaa
open Go.RowKit

set_option maxRecDepth 100000 in
set_option maxHeartbeats 1000000 in
theorem capacityPage {base g c : Nat} {p : List Nat} (w : World) (h : Pg base w g c p) (hw : WF p) :
    Calls Try.prog 70 #[.slice (some ⟨g, 0, none⟩) 256 c] w fun e w' => e = .returned (.int .i64 (cap p : Nat)) ∧ Below w.heap.size w w' := by
  have c0 := h.at_ (k := 0) (by omega)
  have hn := hw.n_le
  have HFR := Lib.hid fun W (hW : Pg base W g c p) => firstFree W hW hn
  have HP := Lib.hid fun W (hW : Below w.heap.size w W) => h.below hW
  have HCO := Lib.hid fun W (hW : Pg base W g c p) => compactPage W hW hw
  have HDS := Lib.hid fun W (b' g' c' : Nat) (hW : Pg b' W g' c' (compactL p)) => dataStart W hW
  have hd := (compact_spec hw).2.2.1
  have hff := (ffree_spec p).1
  obtain ⟨n, hnn⟩ : ∃ n, n = B p 0 := ⟨_, rfl⟩
  have hcap : cap p = min 100 (256 - S p n - 2 - 2 * max n (ffree p + 1)) := by rw [hnn]; rfl
  rw [← hnn] at hn c0 hd hff
  generalize cap p = cp at *
  generalize S p n = sm at *
  generalize dS (compactL p) = d at *
  generalize ffree p = f at *
  have HC := Lib.hid c0
  have y3 : IntKind.i64.wrap (n : Int) = (n : Int) := by rw [IntKind.wrap_i64]; omega
  obtain ⟨f1, hf1⟩ : ∃ f1, f1 = f + 1 := ⟨_, rfl⟩
  have y4 : IntKind.i64.wrap ((f : Int) + 1) = (f1 : Int) := by rw [IntKind.wrap_i64]; omega
  obtain ⟨m, hm⟩ : ∃ m, m = max n f1 := ⟨_, rfl⟩
  have HCAP : Hid (cp = min 100 (256 - sm - 2 - 2 * m) ∧ d + sm = 256 ∧ m ≤ 128) := Lib.hid (by subst hm hf1; exact ⟨hcap, hd, by omega⟩)
  have hmb : m ≤ 128 := HCAP.out.2.2
  have hdb : d ≤ 256 := by omega
  clear hcap hd h hw hnn
  by_cases hlt : n < f1
  · have hme : m = f1 := by omega
    subst hme
    have y5 : (n : Int) < (m : Int) := by omega
    clear hf1 hff hm
    go_enter Try.func70, Try.ntmps70
    go_wp2_with fail
    go_quiet (first | (go_at_call 71; exact Calls.quiet_of (HFR.out _ (HP.out _ (below_drewN (Below.refl _ _) _)))))
    go_wp2_with fail
    refine (HCO.out _ (HP.out _ (below_drewN (Below.refl _ _) _))).mono ?_
    rintro e w1 ⟨rfl, hp1, hb1⟩
    have HB1 := Lib.hid ((below_drewN (Below.refl w.heap.size w) _).trans hb1)
    go_wp2_with fail
    refine (HDS.out _ _ _ _ hp1).mono ?_
    rintro e w2 ⟨rfl, rfl⟩
    clear hp1 hb1
    go_wp2_with fail
    all_goals
      go_ret
      exact ⟨ret_int (by have := HCAP.out; omega), HB1.out⟩
  · have hme : m = n := by omega
    subst hme
    have y5 : ¬ ((m : Int) < (f1 : Int)) := by omega
    clear hf1 hff hm
    go_enter Try.func70, Try.ntmps70
    go_wp2_with fail
    go_quiet (first | (go_at_call 71; exact Calls.quiet_of (HFR.out _ (HP.out _ (below_drewN (Below.refl _ _) _)))))
    go_wp2_with fail
    refine (HCO.out _ (HP.out _ (below_drewN (Below.refl _ _) _))).mono ?_
    rintro e w1 ⟨rfl, hp1, hb1⟩
    have HB1 := Lib.hid ((below_drewN (Below.refl w.heap.size w) _).trans hb1)
    go_wp2_with fail
    refine (HDS.out _ _ _ _ hp1).mono ?_
    rintro e w2 ⟨rfl, rfl⟩
    clear hp1 hb1
    go_wp2_with fail
    all_goals
      go_ret
      exact ⟨ret_int (by have := HCAP.out; omega), HB1.out⟩

/-- The number in a cell. -/
def cellNat (o : Option Value) : Nat := match o with | some (.int _ k) => k.toNat | _ => 0
theorem so_set0 (q : List Nat) (m i : Nat) (h : 0 < q.length) : so (q.set 0 m) i = so q i := by
  unfold so
  rw [B_set _ h, if_neg (by omega)]

set_option maxRecDepth 100000 in
set_option maxHeartbeats 1000000 in
theorem removePage {base g c : Nat} {p : List Nat} (w : World) (h : Pg base w g c p) (hn : B p 0 ≤ 127) (i : Nat) (hi : i < B p 0) :
    Calls Try.prog 46 #[.slice (some ⟨g, 0, none⟩) 256 c, .int .i64 i] w fun e w' => ∃ g' c', e = .returned (.slice (some ⟨g', 0, none⟩) 256 c') ∧ Pg w.heap.size w' g' c' (rem p i) ∧ Below w.heap.size w w' := by
  have HCL := Lib.hid (clonePage w h)
  have HST := Lib.hid fun W (g' c' : Nat) (hW : Pg w.heap.size W g' c' p) => setSlot W hW i 0 0 (by omega) (by omega) (by omega)
  have HR : Hid (rem p i = (setS p i 0 0).set 0 (lastU (setS p i 0 0) (B p 0))) := Lib.hid rfl
  have hq0 : B (setS p i 0 0) 0 = B p 0 := by rw [B_setS 0 (by rw [h.2.1]; omega), if_neg (by omega), if_neg (by omega)]
  have hql : (setS p i 0 0).length = 256 := by rw [setS_len, h.2.1]
  generalize rem p i = rm at *
  generalize setS p i 0 0 = q at *
  obtain ⟨n, hnn⟩ : ∃ n, n = B p 0 := ⟨_, rfl⟩
  rw [← hnn] at hn HR hq0
  have HQL := Lib.hid hql
  have HQ0 : Hid (q.set 0 n = q) := Lib.hid (by
    have h0 : 0 < q.length := by omega
    rw [← hq0, B_get h0]
    exact List.set_getElem_self h0)
  clear h hnn hi hq0 hql
  go_enter Try.func46, Try.ntmps46
  go_wp2_with fail
  refine HCL.out.mono ?_
  rintro e w1 ⟨g1, c1, rfl, hp1, hb1⟩
  have HB1 := Lib.hid hb1
  have HT := Lib.hid (HST.out w1 g1 c1 hp1)
  clear hp1 hb1
  go_wp2_with fail
  refine HT.out.mono ?_
  rintro e w2 ⟨rfl, hp2, hb2⟩
  have HP2 := Lib.hid hp2
  have HB2 := Lib.hid (HB1.out.trans hb2)
  clear hp2 hb2 HT HB1
  go_wp2_with fail
  go_loopw [13] (fun _ wr => ∃ k : Nat, k ≤ n ∧ Pg w.heap.size wr g1 c1 (q.set 0 k) ∧ lastU q k = lastU q n ∧ Below w.heap.size w wr) (fun _ wr => cellNat (wr.cell? ⟨g1, 0, none⟩))
  case atStart => exact ⟨n, Nat.le_refl _, by rw [HQ0.out]; exact HP2.out, rfl, HB2.out⟩
  case round =>
    obtain ⟨k, hk, hpg, hlu, hbk⟩ := hrel
    clear HP2 HB2
    have z0 := hpg.at_ (k := 0) (by omega)
    have f0 := hpg.fz (k := 0) (by omega)
    have hB0 : B (q.set 0 k) 0 = k := by rw [B_set 0 (by rw [HQL.out]; omega), if_pos rfl]
    rw [hB0] at z0
    have HLU := Lib.hid hlu
    have HPG := Lib.hid hpg
    have HBK := Lib.hid hbk
    have k256 : (k : Int) < 256 := by omega
    cases k with
    | zero =>
      clear hpg hlu hbk hB0
      go_wp2_with fail
      go_ret
      exact ⟨_, _, rfl, by rw [HR.out, ← HLU.out]; exact HPG.out, HBK.out⟩
    | succ j =>
      have HS := Lib.hid (slotAt wr hpg j (by omega))
      have hso := so_set0 q (j + 1) j (by rw [HQL.out]; omega)
      rw [hso] at HS
      have hst := hpg.set (k := 0) (m := j) (by omega) (by omega)
      rw [List.set_set] at hst
      have HPS := Lib.hid hst
      have HBS := Lib.hid (hbk.setCell (p := ⟨g1, 0, none⟩) hpg.lt.1 (.int .u8 (j : Int)))
      have hl1 : lastU q (j + 1) = if so q j = 0 then lastU q j else j + 1 := rfl
      have HMZ : Hid (cellNat (some (Value.int .u8 ((j + 1 : Nat) : Int))) = j + 1) := Lib.hid rfl
      have HZ0 := Lib.hid z0
      have x1 : ((j + 1 : Nat) : Int) - 1 = (j : Int) := by omega
      have x2 : (j : Int) + 1 - 1 = (j : Int) := by omega
      have x3 : (j : Int) % 256 = (j : Int) := by omega
      have x4 : (0 : Int) < (j : Int) + 1 := by omega
      have x5 : decide ((0 : Int) < (j : Int) + 1) = true := decide_eq_true x4
      have x6 : (j : Int) + 1 < 256 := by omega
      have x7 : IntKind.u8.wrap (j : Int) = (j : Int) := by rw [IntKind.wrap_u8]; omega
      clear hpg hbk hst hB0 hso
      by_cases hu : so q j = 0
      · rw [if_pos hu] at hl1
        have HL1 := Lib.hid (hl1.symm.trans hlu)
        rw [hu] at HS
        clear hu hl1 hlu
        generalize sl (q.set 0 (j + 1)) j = l at *
        go_wp2_with fail
        refine HS.out.mono ?_
        rintro e w3 ⟨rfl, nd, rfl⟩
        have z1 : (wr.drewN nd).cell? ⟨g1, 0, none⟩ = some (.int .u8 ((j : Int) + 1)) := z0
        have f1 : (wr.drewN nd).frozen? ⟨g1, 0, none⟩ = false := f0
        go_wp2_with fail
        have hp3 := HPG.out.below (below_drewN (Below.refl wr.heap.size wr) nd)
        have hps := hp3.set (k := 0) (m := j) (by omega) (by omega)
        rw [List.set_set] at hps
        refine ⟨⟨j, by omega, hps, HL1.out, (below_drewN HBK.out nd).setCell (p := ⟨g1, 0, none⟩) hp3.lt.1 (.int .u8 (j : Int))⟩, ?_⟩
        have h8 : B (q.set 0 j) 0 = j := by rw [B_set 0 (by rw [HQL.out]; omega), if_pos rfl]
        rw [hps.at_ (k := 0) (by omega), HZ0.out, h8]
        show j < j + 1
        omega
      · rw [if_neg hu] at hl1
        have HL1 := Lib.hid (hl1.symm.trans hlu)
        have hup : decide ((0 : Int) < (so q j : Int)) = true := decide_eq_true (by omega)
        have hup2 : (0 : Nat) < so q j := by omega
        clear hu hl1 hlu
        generalize so q j = o at *
        generalize sl (q.set 0 (j + 1)) j = l at *
        go_wp2_with fail
        refine HS.out.mono ?_
        rintro e w3 ⟨rfl, nd, rfl⟩
        go_wp2_with fail
        go_ret
        exact ⟨_, _, rfl, by rw [HR.out, ← HL1.out]; exact HPG.out.below (below_drewN (Below.refl _ _) nd), below_drewN HBK.out nd⟩

/-- What Delete leaves. -/
def PgDel (w : World) (p : List Nat) (i : Nat) (e : Ending) (w' : World) : Prop :=
  Below w.heap.size w w' ∧ if (cont p i).isSome then ∃ g' c', e = .returned (.tuple #[.slice (some ⟨g', 0, none⟩) 256 c', .int .i64 0]) ∧ Pg w.heap.size w' g' c' (rem p i)
    else e = .returned (.tuple #[.slice none 0 0, .int .i64 4])

set_option maxRecDepth 100000 in
set_option maxHeartbeats 1000000 in
theorem deletePage {base g c : Nat} {p : List Nat} (w : World) (h : Pg base w g c p) (hw : WF p) (i : Nat) (hi : i ≤ 1000) :
    Calls Try.prog 50 #[.slice (some ⟨g, 0, none⟩) 256 c, .int .i64 i] w (PgDel w p i) := by
  have HG := Lib.hid (getPage w h hw i hi)
  unfold PgDel
  cases hc : cont p i with
  | none =>
    rw [hc] at HG
    clear h hw hc
    go_enter Try.func50, Try.ntmps50
    go_wp2_with fail
    refine HG.out.mono ?_
    rintro e w1 ⟨hb1, he⟩
    simp only at he
    subst he
    go_wp2_with fail
    go_ret2
    exact ⟨hb1, rfl⟩
  | some r =>
    rw [hc] at HG
    have hic := (cont_of hc).1
    have HRM := Lib.hid fun W (hW : Below w.heap.size w W) => removePage W (h.below hW) hw.n_le i hic
    generalize rem p i = q at *
    clear h hw hc hic
    go_enter Try.func50, Try.ntmps50
    go_wp2_with fail
    refine HG.out.mono ?_
    rintro e w1 ⟨hb1, v, he, hv⟩
    subst he
    clear hv
    go_wp2_with fail
    refine (HRM.out w1 hb1).mono ?_
    rintro e w2 ⟨g2, c2, rfl, hp2, hb2⟩
    have HP2 := Lib.hid hp2
    clear hp2
    go_wp2_with fail
    go_ret2
    exact ⟨hb1.trans (hb2.mono hb1.size), g2, c2, rfl, HP2.out.mono hb1.size⟩

end Go.Proofs.Ytjdcnkbkbcfhfaa

namespace Go.Proofs.Ytjdcnkbkbcfhfaa
open Go.RowKit

/-- A record in memory. -/
structure Rec (w : World) (g c : Nat) (r : List Nat) : Prop where
  el : Elems 1 nbCs w (· < w.heap.size) (some ⟨g, 0, none⟩) r
  cap : r.length ≤ c
theorem Rec.below {w w' : World} {g c : Nat} {r : List Nat} (h : Rec w g c r) (hb : Below w.heap.size w w') : Rec w' g c r :=
  ⟨(h.el.keep (Keeps.of_below hb fun _ h => h)).more fun k (hk : k < w.heap.size) => Nat.lt_of_lt_of_le hk hb.size, h.cap⟩

theorem Pg.wld {base g c : Nat} {p : List Nat} {w : World} (_ : Pg base w g c p) : ∃ wx, wx = w := ⟨_, rfl⟩

set_option maxRecDepth 100000 in
set_option maxHeartbeats 4000000 in
theorem placePage {base g c gr cr : Nat} {p r : List Nat} (w : World) (h : Pg base w g c p) (hw : WF p) (hrec : Rec w gr cr r) (i : Nat) (hr1 : 1 ≤ r.length) (hr2 : r.length ≤ 100) (hrb : ∀ t, r.getD t 0 < 256)
    (hfit : r.length + 2 + 2 * max (B p 0) (i + 1) + S p (B p 0) ≤ 256) :
    Calls Try.prog 49 #[.slice (some ⟨g, 0, none⟩) 256 c, .int .i64 i, .slice (some ⟨gr, 0, none⟩) r.length cr] w fun e w' => ∃ g' c', e = .returned (.slice (some ⟨g', 0, none⟩) 256 c') ∧ Pg w.heap.size w' g' c' (place p i r) ∧ Below w.heap.size w w' := by
  have c0 := h.at_ (k := 0) (by omega)
  have hn := hw.n_le
  have hcs := compact_spec hw
  have HCL := Lib.hid (clonePage w h)
  have HP := Lib.hid fun W (hW : Below w.heap.size w W) => h.below hW
  have HRE := Lib.hid fun W (hW : Below w.heap.size w W) => hrec.below hW
  have HDP := Lib.hid fun W (hW : Pg base W g c p) => dataStart W hW
  have HCO := Lib.hid fun W (hW : Pg base W g c p) => compactPage W hW hw
  have HDZ := Lib.hid fun W (g' c' : Nat) (hW : Pg w.heap.size W g' c' (pl1 p i r)) => dataStart W hW
  obtain ⟨n, hnn⟩ : ∃ n, n = B p 0 := ⟨_, rfl⟩
  obtain ⟨m, hm⟩ : ∃ m, m = max n (i + 1) := ⟨_, rfl⟩
  have hpl0 : pl0 p i r = if dS p < r.length + 2 + 2 * m then compactL p else p := by rw [hm, hnn]; rfl
  have hpl1 : pl1 p i r = clr (pl0 p i r) n (i - n) := by rw [hnn]; rfl
  have hplace : place p i r = setS (blit (((pl1 p i r).set 0 m).set 1 (plo p i r)) (plo p i r) r) i (plo p i r) r.length := by rw [hm, hnn]; rfl
  have hplo : plo p i r = dS (pl0 p i r) - r.length := rfl
  -- what the page that is written to leaves
  have hz : B (pl0 p i r) 0 = n ∧ r.length + 2 + 2 * m ≤ dS (pl0 p i r) ∧ dS (pl0 p i r) ≤ 256 ∧ (pl0 p i r).length = 256 := by
    rw [hpl0]
    rw [← hnn] at hcs
    rw [hm]
    split
    · have := hcs.1.ds_le
      rw [← hnn, ← hm] at hfit
      refine ⟨hcs.2.1, ?_, this, hcs.1.len⟩
      have := hcs.2.2.1
      omega
    · next hh => exact ⟨hnn.symm, by omega, hw.ds_le, hw.len⟩
  obtain ⟨hz0, hzr, hzd, hzl⟩ := hz
  have hd1 : dS (pl1 p i r) = dS (pl0 p i r) := by
    have e1 : B (pl1 p i r) 1 = B (pl0 p i r) 1 := by
      rw [hpl1, B_clr 1 _ (by rw [hzl]; omega), if_neg (by omega)]
    unfold dS
    rw [e1]
  rw [← hnn] at hn c0
  rw [hd1] at HDZ
  generalize place p i r = q at *
  generalize plo p i r = o at *
  have HDC : Hid (dS p < r.length + 2 + 2 * m → pl0 p i r = compactL p) := Lib.hid fun hh => by rw [hpl0, if_pos hh]
  have HDN : Hid (¬ dS p < r.length + 2 + 2 * m → pl0 p i r = p) := Lib.hid fun hh => by rw [hpl0, if_neg hh]
  have hdp := hw.ds_le
  generalize pl1 p i r = z1 at *
  generalize pl0 p i r = z at *
  generalize dS z = dz at *
  generalize dS p = dp at *
  generalize compactL p = cl at *
  have HPL1 := Lib.hid hpl1
  have HPL := Lib.hid hplace
  have HRB := Lib.hid hrb
  have HZ0 := Lib.hid hz0
  have hi125 : i ≤ 125 := by omega
  obtain ⟨l, hl⟩ : ∃ l, l = r.length := ⟨_, rfl⟩
  have HL := Lib.hid hl
  rw [← hl] at hr1 hr2 hzr hplo HDC HDN ⊢
  have ho1 : 2 + 2 * m ≤ o := by omega
  have ho2 : o + l = dz := by omega
  have hm128 : m ≤ 127 := by omega
  have y3 : IntKind.i64.wrap (n : Int) = (n : Int) := by rw [IntKind.wrap_i64]; omega
  have hmi : i < m := by omega
  have hmn : n ≤ m := by omega
  obtain ⟨f1, hf1⟩ : ∃ f1, f1 = i + 1 := ⟨_, rfl⟩
  have y6 : (i : Int) + 1 = (f1 : Int) := by omega
  have hmx : (n < f1 ∧ m = f1) ∨ (f1 ≤ n ∧ m = n) := by omega
  have HFIT := Lib.hid hfit
  have hni : m = f1 ∨ i < n := by omega
  clear hpl0 hpl1 hplace hplo hcs hfit hd1 h hw hrec hrb hz0 hl hnn hm
  rcases hmx with ⟨y5, rfl⟩ | ⟨y5, rfl⟩
  · have y7 : (n : Int) < (m : Int) := by omega
    clear hf1
    go_enter Try.func49, Try.ntmps49
    go_wp2_with fail
    refine HCL.out.mono ?_
    rintro e w1 ⟨g1, c1, rfl, hp1, hb1⟩
    have HP1 := Lib.hid hp1
    have HB1 := Lib.hid hb1
    clear hp1 hb1
    go_wp2_with fail
    refine (HDP.out w1 (HP.out w1 HB1.out)).mono ?_
    rintro e w2 ⟨rfl, rfl⟩
    go_upto_if 28 with fail
    go_cut [8] from 28 to 31 (fun v wx => ∃ g2 c2, v = .slice (some ⟨g2, 0, none⟩) 256 c2 ∧ Pg w.heap.size wx g2 c2 z ∧ Below w.heap.size w wx)
    case first =>
      by_cases hcond : dp < l + 2 + 2 * m
      · have hzc := HDC.out hcond
        have q1 : (dp : Int) - 2 - 2 * (m : Int) < (l : Int) := by omega
        have q2 : decide ((dp : Int) - 2 - 2 * (m : Int) < (l : Int)) = true := decide_eq_true q1
        have HZC := Lib.hid hzc
        clear hzc hcond
        go_wp2_with fail
        refine (HCO.out w1 (HP.out w1 HB1.out)).mono ?_
        rintro e w2 ⟨rfl, hp2, hb2⟩
        have HP2 := Lib.hid hp2
        clear hp2
        go_wp2_with fail
        go_meet
        exact ⟨_, _, rfl, by rw [HZC.out]; exact HP2.out.mono HB1.out.size, HB1.out.trans (hb2.mono HB1.out.size)⟩
      · have hzc := HDN.out hcond
        have q1 : ¬ ((dp : Int) - 2 - 2 * (m : Int) < (l : Int)) := by omega
        have q2 : decide ((dp : Int) - 2 - 2 * (m : Int) < (l : Int)) = false := decide_eq_false q1
        have HZC := Lib.hid hzc
        clear hzc hcond
        go_wp2_with fail
        go_meet
        exact ⟨_, _, rfl, by rw [HZC.out]; exact HP1.out, HB1.out⟩
    case rest =>
      obtain ⟨g2, c2, rfl, hp2, hb2⟩ := hcut
      obtain ⟨w2, rfl⟩ := hp2.wld
      clear HP1 HB1
      have z0 := hp2.at_ (k := 0) (by omega)
      rw [HZ0.out] at z0
      have HP2 := Lib.hid hp2
      have HB2 := Lib.hid hb2
      clear hp2 hb2
      go_wp2_with fail
      go_loopw [9] (fun t wr => ∃ k : Nat, n ≤ k ∧ (k ≤ i ∨ k = n) ∧ t = .int .i64 k ∧ Pg w.heap.size wr g2 c2 (clr z n (k - n)) ∧ Below w.heap.size w wr) (fun t _ => i - (intOf t).toNat)
      case atStart => exact ⟨n, Nat.le_refl _, .inr rfl, rfl, by rw [Nat.sub_self]; exact HP2.out, HB2.out⟩
      case round =>
        clear HP2 HB2 z0
        obtain ⟨k, h1, h2, rfl, hpg, hbk⟩ := hrel
        by_cases hki : k < i
        · have HSS := Lib.hid (setSlot wr hpg k 0 0 (by omega) (by omega) (by omega))
          have hck : clr z n (k + 1 - n) = setS (clr z n (k - n)) k 0 0 := by
            rw [show k + 1 - n = (k - n) + 1 by omega]
            show setS (clr z n (k - n)) (n + (k - n)) 0 0 = _
            rw [show n + (k - n) = k by omega]
          have HCK := Lib.hid hck
          have HBK := Lib.hid hbk
          clear hpg hbk hck
          generalize clr z n (k - n) = x at *
          go_wp2_with fail
          refine HSS.out.mono ?_
          rintro e w3 ⟨rfl, hp3, hb3⟩
          have HP3 := Lib.hid hp3
          clear hp3
          go_wp2_with fail
          go_roundw
          case rel => exact ⟨k + 1, by omega, by omega, by go_num, by rw [HCK.out]; exact HP3.out, HBK.out.trans hb3⟩
          case measure => simp [intOf]; omega
        · have hkn : k - n = i - n := by omega
          rw [hkn] at hpg
          rw [← HPL1.out] at hpg
          have hge := hpg.lt.1
          have hc2 := hpg.cap.1
          have HDD := Lib.hid (HDZ.out wr g2 c2 hpg)
          have x0 := hpg.at_ (k := 0) (by omega)
          have x1 := hpg.at_ (k := 1) (by omega)
          have f0 := hpg.fz (k := 0) (by omega)
          have f1' := hpg.fz (k := 1) (by omega)
          have hps := (hpg.set (k := 0) (m := m) (by omega) (by omega)).set (k := 1) (m := o) (by omega) (by omega)
          have hbs := (hbk.setCell (p := ⟨g2, 0, none⟩) hge (.int .u8 (m : Int))).setCell (p := ⟨g2, 1, none⟩) hge (.int .u8 (o : Int))
          obtain ⟨cur, hr1, hr2, hr3⟩ := hps.row
          have HSRC := Lib.hid (elems_src (HRE.out _ hbs).el)
          have HCAP := Lib.hid (HRE.out _ hbs).cap
          have HR1 := Lib.hid hr1
          have HR2 := Lib.hid hr2
          have HR3 := Lib.hid hr3
          have HPS := Lib.hid hps
          have HBS := Lib.hid hbs
          have hol : o + r.length ≤ 256 := by rw [← HL.out]; omega
          have HOL := Lib.hid hol
          have HMIN : Hid ((r.flatMap nbCs).length = Nat.min l (256 - o)) := Lib.hid (by rw [nb_flat_len, ← HL.out]; exact (Nat.min_eq_left (by omega)).symm)
          have HCF : Hid (o + (r.flatMap nbCs).length ≤ cur.length) := Lib.hid (by rw [nb_flat_len, hr2]; omega)
          have HNB := Lib.hid (nb_one r)
          have v1 : (dz : Int) - (l : Int) = (o : Int) := by omega
          have v2 : (m : Int) < 256 := by omega
          have v3 : (o : Int) < 256 := by omega
          have v4 : IntKind.u8.wrap (m : Int) = (m : Int) := by rw [IntKind.wrap_u8]; omega
          have v5 : IntKind.u8.wrap (o : Int) = (o : Int) := by rw [IntKind.wrap_u8]; omega
          have v6 : ¬ c2 = o := by omega
          have v7 : o ≤ 256 := by omega
          have v8 : (o : Int) ≤ 256 := by omega
          have v9 : (256 : Int) ≤ (c2 : Int) := by omega
          have hkd : decide ((k : Int) < (i : Int)) = false := decide_eq_false (by omega)
          have ho256 : o < 256 := by omega
          have hl256 : l < 256 := by omega
          have hi126 : i ≤ 126 := by omega
          clear hpg hbk hkn hps hbs hr1 hr2 hr3 hol ho1 ho2 hzr hzd hdp
          generalize B z1 0 = b0 at *
          generalize B z1 1 = b1 at *
          go_wp2_with fail
          refine HDD.out.mono ?_
          rintro e w3 ⟨rfl, rfl⟩
          go_wp2_with (refine wpList_copy_splice rfl (.tmp 58) (.tmp 59) 64 64 rfl 5 Try.underlying64 pgInfoU8 (some ⟨g2, o, none⟩) (some ⟨gr, 0, none⟩) (256 - o) (c2 - o) l cr rfl rfl g2 o cur 5 HR1.out (r.flatMap nbCs) HMIN.out (fun _ => ⟨rfl, _, rfl, HSRC.out⟩) HCF.out HNB.out w.heap.size w HBS.out hge ?_; intro w5 hg5 hb5)
          have HPQ := HPS.out.blit (w' := w5) (cur := cur.toArray) (o := o) (r := r) (by simpa using HR2.out) (by simpa using HR3.out) HOL.out HRB.out hg5.out
          have HSET0 := setSlot w5 HPQ i o l hi126 ho256 hl256
          rw [HL.out, ← HPL.out] at HSET0
          rw [← HL.out] at HSET0
          have HSET := Lib.hid HSET0
          have HB5 := Lib.hid hb5
          clear HPQ HSET0 hg5 hb5 HPS HR1 HR2 HR3 HSRC HCF HNB HMIN HBS
          go_wp2_with fail
          refine HSET.out.mono ?_
          rintro e w6 ⟨rfl, hp6, hb6⟩
          have HP6 := Lib.hid hp6
          clear hp6
          go_wp2_with fail
          go_ret
          exact ⟨g2, c2, rfl, HP6.out, HB5.out.trans hb6⟩
  · have y7 : ¬ ((m : Int) < (f1 : Int)) := by omega
    clear hf1
    go_enter Try.func49, Try.ntmps49
    go_wp2_with fail
    refine HCL.out.mono ?_
    rintro e w1 ⟨g1, c1, rfl, hp1, hb1⟩
    have HP1 := Lib.hid hp1
    have HB1 := Lib.hid hb1
    clear hp1 hb1
    go_wp2_with fail
    refine (HDP.out w1 (HP.out w1 HB1.out)).mono ?_
    rintro e w2 ⟨rfl, rfl⟩
    go_upto_if 28 with fail
    go_cut [8] from 28 to 31 (fun v wx => ∃ g2 c2, v = .slice (some ⟨g2, 0, none⟩) 256 c2 ∧ Pg w.heap.size wx g2 c2 z ∧ Below w.heap.size w wx)
    case first =>
      by_cases hcond : dp < l + 2 + 2 * m
      · have hzc := HDC.out hcond
        have q1 : (dp : Int) - 2 - 2 * (m : Int) < (l : Int) := by omega
        have q2 : decide ((dp : Int) - 2 - 2 * (m : Int) < (l : Int)) = true := decide_eq_true q1
        have HZC := Lib.hid hzc
        clear hzc hcond
        go_wp2_with fail
        refine (HCO.out w1 (HP.out w1 HB1.out)).mono ?_
        rintro e w2 ⟨rfl, hp2, hb2⟩
        have HP2 := Lib.hid hp2
        clear hp2
        go_wp2_with fail
        go_meet
        exact ⟨_, _, rfl, by rw [HZC.out]; exact HP2.out.mono HB1.out.size, HB1.out.trans (hb2.mono HB1.out.size)⟩
      · have hzc := HDN.out hcond
        have q1 : ¬ ((dp : Int) - 2 - 2 * (m : Int) < (l : Int)) := by omega
        have q2 : decide ((dp : Int) - 2 - 2 * (m : Int) < (l : Int)) = false := decide_eq_false q1
        have HZC := Lib.hid hzc
        clear hzc hcond
        go_wp2_with fail
        go_meet
        exact ⟨_, _, rfl, by rw [HZC.out]; exact HP1.out, HB1.out⟩
    case rest =>
      obtain ⟨g2, c2, rfl, hp2, hb2⟩ := hcut
      obtain ⟨w2, rfl⟩ := hp2.wld
      clear HP1 HB1
      have z0 := hp2.at_ (k := 0) (by omega)
      rw [HZ0.out] at z0
      have HP2 := Lib.hid hp2
      have HB2 := Lib.hid hb2
      clear hp2 hb2
      go_wp2_with fail
      go_loopw [9] (fun t wr => ∃ k : Nat, m ≤ k ∧ (k ≤ i ∨ k = m) ∧ t = .int .i64 k ∧ Pg w.heap.size wr g2 c2 (clr z m (k - m)) ∧ Below w.heap.size w wr) (fun t _ => i - (intOf t).toNat)
      case atStart => exact ⟨m, Nat.le_refl _, .inr rfl, rfl, by rw [Nat.sub_self]; exact HP2.out, HB2.out⟩
      case round =>
        clear HP2 HB2 z0
        obtain ⟨k, h1, h2, rfl, hpg, hbk⟩ := hrel
        by_cases hki : k < i
        · have HSS := Lib.hid (setSlot wr hpg k 0 0 (by omega) (by omega) (by omega))
          have hck : clr z m (k + 1 - m) = setS (clr z m (k - m)) k 0 0 := by
            rw [show k + 1 - m = (k - m) + 1 by omega]
            show setS (clr z m (k - m)) (m + (k - m)) 0 0 = _
            rw [show m + (k - m) = k by omega]
          have HCK := Lib.hid hck
          have HBK := Lib.hid hbk
          clear hpg hbk hck
          generalize clr z m (k - m) = x at *
          go_wp2_with fail
          refine HSS.out.mono ?_
          rintro e w3 ⟨rfl, hp3, hb3⟩
          have HP3 := Lib.hid hp3
          clear hp3
          go_wp2_with fail
          go_roundw
          case rel => exact ⟨k + 1, by omega, by omega, by go_num, by rw [HCK.out]; exact HP3.out, HBK.out.trans hb3⟩
          case measure => simp [intOf]; omega
        · have hkn : k - m = i - m := by omega
          rw [hkn] at hpg
          rw [← HPL1.out] at hpg
          have hge := hpg.lt.1
          have hc2 := hpg.cap.1
          have HDD := Lib.hid (HDZ.out wr g2 c2 hpg)
          have x0 := hpg.at_ (k := 0) (by omega)
          have x1 := hpg.at_ (k := 1) (by omega)
          have f0 := hpg.fz (k := 0) (by omega)
          have f1' := hpg.fz (k := 1) (by omega)
          have hps := (hpg.set (k := 0) (m := m) (by omega) (by omega)).set (k := 1) (m := o) (by omega) (by omega)
          have hbs := (hbk.setCell (p := ⟨g2, 0, none⟩) hge (.int .u8 (m : Int))).setCell (p := ⟨g2, 1, none⟩) hge (.int .u8 (o : Int))
          obtain ⟨cur, hr1, hr2, hr3⟩ := hps.row
          have HSRC := Lib.hid (elems_src (HRE.out _ hbs).el)
          have HCAP := Lib.hid (HRE.out _ hbs).cap
          have HR1 := Lib.hid hr1
          have HR2 := Lib.hid hr2
          have HR3 := Lib.hid hr3
          have HPS := Lib.hid hps
          have HBS := Lib.hid hbs
          have hol : o + r.length ≤ 256 := by rw [← HL.out]; omega
          have HOL := Lib.hid hol
          have HMIN : Hid ((r.flatMap nbCs).length = Nat.min l (256 - o)) := Lib.hid (by rw [nb_flat_len, ← HL.out]; exact (Nat.min_eq_left (by omega)).symm)
          have HCF : Hid (o + (r.flatMap nbCs).length ≤ cur.length) := Lib.hid (by rw [nb_flat_len, hr2]; omega)
          have HNB := Lib.hid (nb_one r)
          have v1 : (dz : Int) - (l : Int) = (o : Int) := by omega
          have v2 : (m : Int) < 256 := by omega
          have v3 : (o : Int) < 256 := by omega
          have v4 : IntKind.u8.wrap (m : Int) = (m : Int) := by rw [IntKind.wrap_u8]; omega
          have v5 : IntKind.u8.wrap (o : Int) = (o : Int) := by rw [IntKind.wrap_u8]; omega
          have v6 : ¬ c2 = o := by omega
          have v7 : o ≤ 256 := by omega
          have v8 : (o : Int) ≤ 256 := by omega
          have v9 : (256 : Int) ≤ (c2 : Int) := by omega
          have hkd : decide ((k : Int) < (i : Int)) = false := decide_eq_false (by omega)
          have ho256 : o < 256 := by omega
          have hl256 : l < 256 := by omega
          have hi126 : i ≤ 126 := by omega
          clear hpg hbk hkn hps hbs hr1 hr2 hr3 hol ho1 ho2 hzr hzd hdp
          generalize B z1 0 = b0 at *
          generalize B z1 1 = b1 at *
          go_wp2_with fail
          refine HDD.out.mono ?_
          rintro e w3 ⟨rfl, rfl⟩
          go_wp2_with (refine wpList_copy_splice rfl (.tmp 58) (.tmp 59) 64 64 rfl 5 Try.underlying64 pgInfoU8 (some ⟨g2, o, none⟩) (some ⟨gr, 0, none⟩) (256 - o) (c2 - o) l cr rfl rfl g2 o cur 5 HR1.out (r.flatMap nbCs) HMIN.out (fun _ => ⟨rfl, _, rfl, HSRC.out⟩) HCF.out HNB.out w.heap.size w HBS.out hge ?_; intro w5 hg5 hb5)
          have HPQ := HPS.out.blit (w' := w5) (cur := cur.toArray) (o := o) (r := r) (by simpa using HR2.out) (by simpa using HR3.out) HOL.out HRB.out hg5.out
          have HSET0 := setSlot w5 HPQ i o l hi126 ho256 hl256
          rw [HL.out, ← HPL.out] at HSET0
          rw [← HL.out] at HSET0
          have HSET := Lib.hid HSET0
          have HB5 := Lib.hid hb5
          clear HPQ HSET0 hg5 hb5 HPS HR1 HR2 HR3 HSRC HCF HNB HMIN HBS
          go_wp2_with fail
          refine HSET.out.mono ?_
          rintro e w6 ⟨rfl, hp6, hb6⟩
          have HP6 := Lib.hid hp6
          clear hp6
          go_wp2_with fail
          go_ret
          exact ⟨g2, c2, rfl, HP6.out, HB5.out.trans hb6⟩

end Go.Proofs.Ytjdcnkbkbcfhfaa

namespace Go.Proofs.Ytjdcnkbkbcfhfaa
open Go.RowKit

/-- What Insert leaves. -/
def PgIns (w : World) (p r : List Nat) (e : Ending) (w' : World) : Prop :=
  Below w.heap.size w w' ∧
    if r.length < 1 ∨ 100 < r.length then e = .returned (.tuple #[.slice none 0 0, .int .i64 0, .int .i64 1])
    else if cap p < r.length then e = .returned (.tuple #[.slice none 0 0, .int .i64 0, .int .i64 18])
    else ∃ g' c', e = .returned (.tuple #[.slice (some ⟨g', 0, none⟩) 256 c', .int .i64 (ffree p : Nat), .int .i64 0]) ∧ Pg w.heap.size w' g' c' (place p (ffree p) r)

theorem cap_fit {p r : List Nat} (h : WF p) (hc : ¬ cap p < r.length) (h1 : 1 ≤ r.length) : r.length + 2 + 2 * max (B p 0) (ffree p + 1) + S p (B p 0) ≤ 256 := by
  have := h.sum (Nat.le_refl _)
  unfold cap at hc
  omega

set_option maxRecDepth 100000 in
set_option maxHeartbeats 1000000 in
theorem insertPage {base g c gr cr : Nat} {p r : List Nat} (w : World) (h : Pg base w g c p) (hw : WF p) (hrec : Rec w gr cr r) (hrb : ∀ t, r.getD t 0 < 256) :
    Calls Try.prog 43 #[.slice (some ⟨g, 0, none⟩) 256 c, .slice (some ⟨gr, 0, none⟩) r.length cr] w (PgIns w p r) := by
  have HCH := Lib.hid (checkPage w h hw)
  have HCP := Lib.hid fun W (hW : Below w.heap.size w W) => capacityPage W (h.below hW) hw
  have HFF := Lib.hid fun W (hW : Below w.heap.size w W) => firstFree W (h.below hW) hw.n_le
  have HPL := Lib.hid fun W (hW : Below w.heap.size w W) (h1 : 1 ≤ r.length) (h2 : r.length ≤ 100) (hc : ¬ cap p < r.length) => placePage W (h.below hW) hw (hrec.below hW) (ffree p) h1 h2 hrb (cap_fit hw hc h1)
  unfold PgIns
  have hcap : cap p ≤ 100 := by unfold cap; omega
  generalize place p (ffree p) r = q at *
  generalize ffree p = f at *
  generalize cap p = cp at *
  clear h hrec hw hrb
  by_cases hbad : r.length < 1 ∨ 100 < r.length
  · simp only [if_pos hbad]
    clear HPL
    obtain ⟨l, hl⟩ : ∃ l, l = r.length := ⟨_, rfl⟩
    rw [← hl] at hbad ⊢
    clear hl
    rcases hbad with hb | hb
    · have x1 : decide ((l : Int) < 1) = true := decide_eq_true (by omega)
      have x2 : (l : Int) < 1 := by omega
      go_enter Try.func43, Try.ntmps43
      go_wp2_with fail
      refine HCH.out.mono ?_
      rintro e w1 ⟨rfl, hb1⟩
      go_wp2_with fail
      go_ret3
      exact ⟨hb1, rfl⟩
    · have x1 : decide ((l : Int) < 1) = false := decide_eq_false (by omega)
      have x2 : (100 : Int) < (l : Int) := by omega
      go_enter Try.func43, Try.ntmps43
      go_wp2_with fail
      refine HCH.out.mono ?_
      rintro e w1 ⟨rfl, hb1⟩
      go_wp2_with fail
      go_ret3
      exact ⟨hb1, rfl⟩
  · simp only [if_neg hbad]
    by_cases hfull : cp < r.length
    · simp only [if_pos hfull]
      clear HPL
      obtain ⟨l, hl⟩ : ∃ l, l = r.length := ⟨_, rfl⟩
      rw [← hl] at hbad hfull ⊢
      clear hl
      have x1 : decide ((l : Int) < 1) = false := decide_eq_false (by omega)
      have x2 : decide ((100 : Int) < (l : Int)) = false := decide_eq_false (by omega)
      have x3 : decide ((cp : Int) < (l : Int)) = true := decide_eq_true (by omega)
      go_enter Try.func43, Try.ntmps43
      go_wp2_with fail
      refine HCH.out.mono ?_
      rintro e w1 ⟨rfl, hb1⟩
      go_wp2_with fail
      refine (HCP.out w1 hb1).mono ?_
      rintro e w2 ⟨rfl, hb2⟩
      go_wp2_with fail
      go_ret3
      exact ⟨hb1.trans (hb2.mono hb1.size), rfl⟩
    · simp only [if_neg hfull]
      have HPL2 := Lib.hid fun W (hW : Below w.heap.size w W) => HPL.out W hW (by omega) (by omega) hfull
      clear HPL
      obtain ⟨l, hl⟩ : ∃ l, l = r.length := ⟨_, rfl⟩
      rw [← hl] at hbad hfull HPL2 ⊢
      clear hl
      have x1 : decide ((l : Int) < 1) = false := decide_eq_false (by omega)
      have x2 : decide ((100 : Int) < (l : Int)) = false := decide_eq_false (by omega)
      have x3 : decide ((cp : Int) < (l : Int)) = false := decide_eq_false (by omega)
      go_enter Try.func43, Try.ntmps43
      go_wp2_with fail
      refine HCH.out.mono ?_
      rintro e w1 ⟨rfl, hb1⟩
      go_wp2_with fail
      refine (HCP.out w1 hb1).mono ?_
      rintro e w2 ⟨rfl, hb2⟩
      have HB2 := Lib.hid (hb1.trans (hb2.mono hb1.size))
      clear hb2 hb1
      go_wp2_with fail
      refine (HFF.out w2 HB2.out).mono ?_
      rintro e w3 ⟨rfl, nd, rfl⟩
      have HB3 := Lib.hid (below_drewN HB2.out nd)
      go_wp2_with fail
      refine (HPL2.out _ HB3.out).mono ?_
      rintro e w4 ⟨g4, c4, rfl, hp4, hb4⟩
      have HP4 := Lib.hid hp4
      clear hp4
      go_wp2_with fail
      go_ret3
      exact ⟨HB3.out.trans (hb4.mono HB3.out.size), g4, c4, rfl, HP4.out.mono HB3.out.size⟩

/-- A record as long as the old one is always taken. -/
theorem upd_fit {p r : List Nat} {i : Nat} (h : WF p) (hi : i < B p 0) (hl : r.length = sl p i) : r.length + 2 + 2 * max (B (rem p i) 0) (i + 1) + S (rem p i) (B (rem p i) 0) ≤ 256 := by
  obtain ⟨hw, h0, h2, h3, hs⟩ := rem_spec h hi
  have hroom := h.room
  have hsum := h.sum (Nat.le_refl _)
  have key : ∀ n, n ≤ B p 0 → S p n = (if i < n then S (rem p i) n + sl p i else S (rem p i) n) ∧ (i < B (rem p i) 0 → sl (rem p i) i = 0) := by
    have hri : sl (rem p i) i = 0 := by
      unfold sl rem
      rw [B_set _ (by rw [setS_len, h.len]; omega), if_neg (by omega), B_setS _ (by rw [h.len]; omega), if_pos rfl]
    intro n
    induction n with
    | zero => exact fun _ => ⟨by rw [if_neg (by omega)]; rfl, fun _ => hri⟩
    | succ n ih =>
      intro hn
      obtain ⟨ih1, ih2⟩ := ih (by omega)
      refine ⟨?_, ih2⟩
      simp only [S]
      by_cases e : n = i
      · subst e
        rw [ih1, if_neg (by omega), if_pos (by omega), hri]
        omega
      · rw [(hs n (by omega) e).2.1, ih1]
        by_cases hin : i < n
        · rw [if_pos hin, if_pos (by omega)]
          omega
        · rw [if_neg hin, if_neg (by omega)]
  have hS := (key (B p 0) (Nat.le_refl _)).1
  rw [if_pos hi] at hS
  have hmono : ∀ n m, n ≤ m → S (rem p i) n ≤ S (rem p i) m := by
    intro n m hnm
    induction m with
    | zero => have : n = 0 := by omega
              rw [this]; exact Nat.le_refl _
    | succ m ih =>
      by_cases e : n = m + 1
      · rw [e]; exact Nat.le_refl _
      · have := ih (by omega)
        simp only [S]
        omega
  have := hmono _ _ h0
  omega

/-- What Update leaves, with a record as long as the old one. -/
def UpdPost (w : World) (p : List Nat) (i : Nat) (r : List Nat) (e : Ending) (w' : World) : Prop :=
  Below w.heap.size w w' ∧ ∃ g' c', e = .returned (.tuple #[.slice (some ⟨g', 0, none⟩) 256 c', .int .i64 0]) ∧ Pg w.heap.size w' g' c' (place (rem p i) i r)

set_option maxRecDepth 100000 in
set_option maxHeartbeats 1000000 in
theorem updatePage {base g c gr cr : Nat} {p r : List Nat} (w : World) (h : Pg base w g c p) (hw : WF p) (hrec : Rec w gr cr r) (hrb : ∀ t, r.getD t 0 < 256) (i : Nat) {r0 : List Nat} (hc : cont p i = some r0) (hl : r.length = r0.length) :
    Calls Try.prog 27 #[.slice (some ⟨g, 0, none⟩) 256 c, .int .i64 i, .slice (some ⟨gr, 0, none⟩) r.length cr] w (UpdPost w p i r) := by
  obtain ⟨hi, hu, hr0⟩ := cont_of hc
  have hlen := cont_len hw hc
  have hn := hw.n_le
  have HG := Lib.hid (getPage w h hw i (by omega))
  rw [hc] at HG
  have HRM := Lib.hid fun W (hW : Below w.heap.size w W) => removePage W (h.below hW) hn i hi
  have hls : r.length = sl p i := by rw [hl, hr0, rc_len]
  have hfit := upd_fit hw hi hls
  obtain ⟨hrw, hr0n, _, hri, _⟩ := rem_spec hw hi
  have HB0 := Lib.hid fun W (g' c' : Nat) (hW : Pg w.heap.size W g' c' (rem p i)) => hW.at_ (k := 0) (by omega)
  have HCO := Lib.hid fun W (b' g' c' : Nat) (hW : Pg b' W g' c' (rem p i)) => compactPage W hW hrw
  have HDS := Lib.hid fun W (b' g' c' : Nat) (hW : Pg b' W g' c' (compactL (rem p i))) => dataStart W hW
  have HPL := Lib.hid fun W (b' g' c' : Nat) (hb : Below w.heap.size w W) (hW : Pg b' W g' c' (rem p i)) => placePage W hW hrw (hrec.below hb) i (by omega) (by omega) hrb hfit
  have hcd := (compact_spec hrw).2.2.1
  have hrn := hrw.n_le
  have hd256 := (compact_spec hrw).1.ds_le
  unfold UpdPost
  generalize place (rem p i) i r = q at *
  generalize dS (compactL (rem p i)) = d at *
  generalize compactL (rem p i) = cq at *
  generalize S (rem p i) (B (rem p i) 0) = sm at *
  generalize B (rem p i) 0 = n at *
  generalize rem p i = rp at *
  obtain ⟨l, hl2⟩ : ∃ l, l = r.length := ⟨_, rfl⟩
  rw [← hl2] at hfit HPL hl ⊢
  obtain ⟨f1, hf1⟩ : ∃ f1, f1 = i + 1 := ⟨_, rfl⟩
  have y6 : (i : Int) + 1 = (f1 : Int) := by omega
  have hmx : (n < f1 ∧ d - 2 - 2 * f1 ≥ l ∧ 2 + 2 * f1 ≤ d) ∨ (f1 ≤ n ∧ d - 2 - 2 * n ≥ l ∧ 2 + 2 * n ≤ d) := by omega
  have x1 : decide ((l : Int) < 1) = false := decide_eq_false (by omega)
  have x2 : decide ((100 : Int) < (l : Int)) = false := decide_eq_false (by omega)
  have n256 : n < 256 := by omega
  clear h hrec hw hrb hls hl2 hc hr0 hri hfit hrw hcd hlen hl
  rcases hmx with ⟨hm, hm1, hm2⟩ | ⟨hm, hm1, hm2⟩
  · have y7 : (n : Int) < (f1 : Int) := by omega
    have x3 : decide ((d : Int) - 2 - 2 * (f1 : Int) < (l : Int)) = false := decide_eq_false (by omega)
    have x4 : ¬ ((d : Int) - 2 - 2 * (f1 : Int) < (l : Int)) := by omega
    clear hm hm1 hm2 hf1
    go_enter Try.func27, Try.ntmps27
    go_wp2_with fail
    refine HG.out.mono ?_
    rintro e w1 ⟨hb1, v, he, hv⟩
    subst he
    clear hv
    go_wp2_with fail
    refine (HRM.out w1 hb1).mono ?_
    rintro e w2 ⟨g2, c2, rfl, hp2, hb2⟩
    have hp2' := hp2.mono hb1.size
    have z0 := HB0.out w2 g2 c2 hp2'
    have HP2 := Lib.hid hp2'
    have HB2 := Lib.hid (hb1.trans (hb2.mono hb1.size))
    clear hp2 hb2 hb1 hp2'
    go_wp2_with fail
    refine (HCO.out w2 _ g2 c2 HP2.out).mono ?_
    rintro e w3 ⟨rfl, hp3, hb3⟩
    have HB3 := Lib.hid hb3
    go_wp2_with fail
    refine (HDS.out w3 _ _ _ hp3).mono ?_
    rintro e w4 ⟨rfl, rfl⟩
    clear hp3 hb3
    go_wp2_with fail
    refine (HPL.out w3 _ g2 c2 (HB2.out.trans (HB3.out.mono HB2.out.size)) (HP2.out.below HB3.out)).mono ?_
    rintro e w5 ⟨g5, c5, rfl, hp5, hb5⟩
    have HP5 := Lib.hid hp5
    clear hp5
    go_wp2_with fail
    go_ret2
    have hs3 := (HB2.out.trans (HB3.out.mono HB2.out.size)).size
    exact ⟨(HB2.out.trans (HB3.out.mono HB2.out.size)).trans (hb5.mono hs3), g5, c5, rfl, HP5.out.mono hs3⟩
  · have y7 : ¬ ((n : Int) < (f1 : Int)) := by omega
    have x3 : decide ((d : Int) - 2 - 2 * (n : Int) < (l : Int)) = false := decide_eq_false (by omega)
    have x4 : ¬ ((d : Int) - 2 - 2 * (n : Int) < (l : Int)) := by omega
    clear hm hm1 hm2 hf1
    go_enter Try.func27, Try.ntmps27
    go_wp2_with fail
    refine HG.out.mono ?_
    rintro e w1 ⟨hb1, v, he, hv⟩
    subst he
    clear hv
    go_wp2_with fail
    refine (HRM.out w1 hb1).mono ?_
    rintro e w2 ⟨g2, c2, rfl, hp2, hb2⟩
    have hp2' := hp2.mono hb1.size
    have z0 := HB0.out w2 g2 c2 hp2'
    have HP2 := Lib.hid hp2'
    have HB2 := Lib.hid (hb1.trans (hb2.mono hb1.size))
    clear hp2 hb2 hb1 hp2'
    go_wp2_with fail
    refine (HCO.out w2 _ g2 c2 HP2.out).mono ?_
    rintro e w3 ⟨rfl, hp3, hb3⟩
    have HB3 := Lib.hid hb3
    go_wp2_with fail
    refine (HDS.out w3 _ _ _ hp3).mono ?_
    rintro e w4 ⟨rfl, rfl⟩
    clear hp3 hb3
    go_wp2_with fail
    refine (HPL.out w3 _ g2 c2 (HB2.out.trans (HB3.out.mono HB2.out.size)) (HP2.out.below HB3.out)).mono ?_
    rintro e w5 ⟨g5, c5, rfl, hp5, hb5⟩
    have HP5 := Lib.hid hp5
    clear hp5
    go_wp2_with fail
    go_ret2
    have hs3 := (HB2.out.trans (HB3.out.mono HB2.out.size)).size
    exact ⟨(HB2.out.trans (HB3.out.mono HB2.out.size)).trans (hb5.mono hs3), g5, c5, rfl, HP5.out.mono hs3⟩

end Go.Proofs.Ytjdcnkbkbcfhfaa
