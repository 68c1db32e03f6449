/-
  The walk of compact.
-/
import Derived.Test.YtalgocjhcgmdlaaPw5
import Derived.Deep.RegionLaw
namespace Go.Proofs.Ytalgocjhcgmdlaa
open Go.RowKit

theorem Pg.blit {base g c o : Nat} {p r : List Nat} {w w' : World} (h : Pg base w g c p) {cur : Array Value} (hs : cur.size = c) (ht : cur.toList.take 256 = p.flatMap nbCs) (hr : o + r.length ≤ 256) (hrb : ∀ t, r.getD t 0 < 256)
    (h1 : w'.heap[g]? = some (.cells (splice cur.toList o (r.flatMap nbCs)).toArray 5 (0, 0))) : Pg base w' g c (Go.Proofs.Ytalgocjhcgmdlaa.blit p o r) := by
  have hr' : o + r.length ≤ p.length := by rw [h.2.1]; exact hr
  refine ⟨h.1.blit hs (by rw [h.2.1]; exact ht) o r hr' h1, by rw [blit_len hr', h.2.1], fun k => ?_⟩
  rw [B_blit k hr']
  have := h.2.2 k
  have := hrb (k - o)
  split <;> omega
theorem Pg.row {base g c : Nat} {p : List Nat} {w : World} (h : Pg base w g c p) : ∃ cur : List Value, w.heap[g]? = some (.cells cur.toArray 5 (0, 0)) ∧ cur.length = c ∧ cur.take 256 = p.flatMap nbCs := by
  obtain ⟨cur, h1, h2, h3⟩ := h.1.row
  exact ⟨cur.toList, h1, by simpa using h2, by rw [← h.2.1]; exact h3⟩
theorem nb_one (r : List Nat) : ∀ v ∈ r.flatMap nbCs, v.oneCell' = true := fun v hv => by
  obtain ⟨x, _, hx⟩ := List.mem_flatMap.1 hv
  exact nbLay.one x v hx
theorem info_u8 : (Try.prog.info? 5).map (·.size) = some 1 := by kernel_rfl
theorem elems_src {w : World} {S : Nat → Prop} {b off : Nat} {r : List Nat} (h : Elems 1 nbCs w S (some ⟨b, off, none⟩) r) : ∀ j v, (r.flatMap nbCs)[j]? = some v → w.cell? ((⟨b, off, none⟩ : Addr).add j) = some v := fun j v hj => by
  rw [Addr.add_lit]
  have hjl : j < r.length := by
    have := (List.getElem?_eq_some_iff.1 hj).1
    rwa [nb_flat_len] at this
  obtain ⟨b', off', e, _, hc⟩ := h.nb hjl
  injection e with e
  injection e with e1 e2
  subst e1 e2
  rw [hc]
  rw [nb_flat_get, List.getElem?_eq_getElem hjl, Option.map_some] at hj
  exact hj

set_option maxRecDepth 100000 in
set_option maxHeartbeats 2000000 in
theorem compactPage {base g c : Nat} {p : List Nat} (w : World) (h : Pg base w g c p) (hw : WF p) :
    Calls Try.prog 25 #[.slice (some ⟨g, 0, none⟩) 256 c] w fun e w' => e = .returned (.slice (some ⟨w.heap.size, 0, none⟩) 256 256) ∧ Pg w.heap.size w' w.heap.size 256 (compactL p) ∧ Below w.heap.size w w' := by
  have hn := hw.n_le
  have hgc := h.cap.1
  have gl := h.lt.2
  have HP := Lib.hid fun W (hW : Below w.heap.size w W) => h.below hW
  have HC0 := Lib.hid fun W (hW : Pg base W g c p) => hW.at_ (k := 0) (by omega)
  have HNW := Lib.hid (newPage w)
  have HW := Lib.hid hw
  have HB0 := Lib.hid (hw.byte 0)
  obtain ⟨n, hnn⟩ : ∃ n, n = B p 0 := ⟨_, rfl⟩
  have HCL : Hid (compactL p = if (cst p n).2 < 256 then (cst p n).1.set 1 (cst p n).2 else (cst p n).1) := Lib.hid (by rw [hnn]; rfl)
  have HC1 : Hid (cst p 0 = (zeros.set 0 n, 256)) := Lib.hid (by rw [hnn]; rfl)
  have HCI : Hid (∀ k, k ≤ n → CI p k (cst p k).1 (cst p k).2) := Lib.hid fun k hk => hw.ci k (by omega)
  have HSL : Hid (∀ k, k < n → (so p k = 0 ∧ sl p k = 0) ∨ (1 ≤ sl p k ∧ sl p k ≤ 100 ∧ dS p ≤ so p k ∧ so p k + sl p k ≤ 256)) := Lib.hid fun k hk => hw.slot k (by omega)
  have HSU : Hid (∀ k, k ≤ n → dS p + S p k ≤ 256) := Lib.hid fun k hk => hw.sum (by omega)
  have hrm := hw.room
  rw [← hnn] at hn HC0 HB0 hrm
  generalize compactL p = cl at *
  have y2 : (n : Int) < 256 := by omega
  have y3 : IntKind.u8.wrap (n : Int) = (n : Int) := by rw [IntKind.wrap_u8]; omega
  clear h hw hnn
  go_enter Try.func25, Try.ntmps25
  go_wp2_with fail
  refine HNW.out.mono ?_
  rintro e w1 ⟨rfl, hz1, hb1⟩
  have z0 := HC0.out w1 (HP.out w1 hb1)
  have z1 := hz1.at_ (k := 0) (by omega)
  have f1 := hz1.fz (k := 0) (by omega)
  have HP1 := Lib.hid (hz1.set (k := 0) (m := n) (by omega) (by omega))
  have HB1 := Lib.hid (hb1.setCell (p := ⟨w.heap.size, 0, none⟩) (Nat.le_refl _) (.int .u8 (n : Int)))
  have hgne : g ≠ w.heap.size := by omega
  clear hz1 hb1
  go_wp2_with fail
  have z0' := HC0.out _ (HP.out _ HB1.out)
  go_wp2_with fail
  go_loopw [4, 18] (fun t i wr => ∃ k : Nat, k ≤ n ∧ i = .int .i64 k ∧ t = .int .i64 ((cst p k).2 : Nat) ∧ Pg w.heap.size wr w.heap.size 256 (cst p k).1 ∧ Below w.heap.size w wr) (fun _ i _ => n - (intOf i).toNat)
  case atStart => exact ⟨0, by omega, rfl, by rw [HC1.out]; rfl, by rw [HC1.out]; exact HP1.out, HB1.out⟩
  case round =>
    clear HP1 HB1 z0 z0' z1 f1
    obtain ⟨k, hk, rfl, rfl, hpg, hbk⟩ := hrel
    by_cases hlt : k < n
    · have HS := Lib.hid (slotAt wr (HP.out wr hbk) k (by omega))
      have HCS : Hid (cst p (k + 1) = if so p k = 0 then cst p k else (setS (blit (cst p k).1 ((cst p k).2 - sl p k) (rc p k)) k ((cst p k).2 - sl p k) (sl p k), (cst p k).2 - sl p k)) := Lib.hid rfl
      have hsl := HSL.out k hlt
      have hci := HCI.out k hk
      have hsum := hci.sum
      have hsu := HSU.out (k + 1) hlt
      have hss : S p (k + 1) = S p k + sl p k := rfl
      have HPG := Lib.hid hpg
      have HBK := Lib.hid hbk
      by_cases hu : so p k = 0
      · rw [if_pos hu] at HCS
        rw [hu] at HS
        clear hu hpg hbk hci hsum hsu hss hsl
        generalize sl p k = l at *
        generalize cst p k = s at *
        obtain ⟨q, en⟩ := s
        go_wp2_with fail
        refine HS.out.mono ?_
        rintro e w2 ⟨rfl, nd, rfl⟩
        go_wp2_with fail
        go_roundw
        case rel => exact ⟨k + 1, by omega, by go_num, by rw [HCS.out], by rw [HCS.out]; exact HPG.out.below (below_drewN (Below.refl _ _) nd), below_drewN HBK.out nd⟩
        case measure => simp [intOf]; omega
      · rw [if_neg hu] at HCS
        rcases hsl with hsl | hsl
        · exact absurd hsl.1 hu
        have HCUT := Lib.hid fun W (hW : Pg base W g c p) => hW.cut (o := so p k) (l := sl p k) (by omega) (by omega)
        have hrc := rc_cut (p := p) (i := k) (by have := HW.out.len; omega)
        rw [hrc] at HCUT
        have hrl := rc_len p k
        have HRB := Lib.hid (rc_byte HW.out.byte k)
        clear hu hpg hbk hci hrc
        generalize rc p k = r at *
        generalize so p k = o at *
        generalize sl p k = l at *
        generalize dS p = d at *
        generalize cst p k = s at *
        obtain ⟨q, en⟩ := s
        obtain ⟨ee, hee⟩ : ∃ ee, ee = en - l := ⟨_, rfl⟩
        simp only at HCS HPG hsum ⊢
        rw [← hee] at HCS
        have x1 : (en : Int) - (l : Int) = (ee : Int) := by omega
        obtain ⟨s2, hs2⟩ : ∃ s2, s2 = o + l := ⟨_, rfl⟩
        have x2 : (o : Int) + (l : Int) = (s2 : Int) := by omega
        have x2' : IntKind.i64.wrap ((s2 : Nat) : Int) = (s2 : Int) := by rw [IntKind.wrap_i64]; omega
        have x3 : (0 : Nat) < o := by omega
        have x4 : ¬ c = o := by omega
        have x5 : s2 ≤ c := by omega
        have x6 : o ≤ s2 := by omega
        have x7 : s2 - o = l := by omega
        have x8 : (s2 : Int) ≤ (c : Int) := by omega
        have x9 : ¬ 256 = ee := by omega
        have x10 : ee ≤ 256 := by omega
        have x11 : (ee : Int) ≤ 256 := by omega
        have x12 : (o : Int) ≤ (s2 : Int) := by omega
        have x13 : (0 : Int) ≤ (o : Int) := by omega
        have x14 : (0 : Int) ≤ (ee : Int) := by omega
        have HMIN : Hid ((r.flatMap nbCs).length = Nat.min l (256 - ee)) := Lib.hid (by rw [nb_flat_len, hrl]; exact (Nat.min_eq_left (by omega)).symm)
        have HFIT : Hid (ee + r.length ≤ 256) := Lib.hid (by omega)
        have HRL := Lib.hid hrl
        have hl256 : l < 256 := by omega
        have he256 : ee < 256 := by omega
        have hk126 : k ≤ 126 := by omega
        clear hsum hsu hss hee hs2 hrl hsl
        go_wp2_with fail
        refine HS.out.mono ?_
        rintro e w2 ⟨rfl, nd, rfl⟩
        have HPG2 := Lib.hid (HPG.out.below (below_drewN (Below.refl _ _) (nd + 1)))
        have HB2 := Lib.hid (below_drewN HBK.out (nd + 1))
        obtain ⟨cur, hr1, hr2, hr3⟩ := HPG2.out.row
        have HR3 := Lib.hid hr3
        have HSRC := Lib.hid (elems_src (HCUT.out _ (HP.out _ HB2.out)))
        have HNB := Lib.hid (nb_one r)
        have HCF : Hid (ee + (r.flatMap nbCs).length ≤ cur.length) := Lib.hid (by rw [nb_flat_len, hr2]; exact HFIT.out)
        have HR1 := Lib.hid hr1
        have HR2 := Lib.hid hr2
        clear hr3 hr1 hr2
        go_wp2_with fail
        go_region_law (refine step_copy_splice rfl (.tmp 34) (.tmp 40) 23 23 rfl 5 Try.underlying23 info_u8 (some ⟨w.heap.size, ee, none⟩) (some ⟨g, o, none⟩) (256 - ee) (256 - ee) l (c - o) (by simp [Act.eval, Act.put]) (by simp [Act.eval, Act.put]) w.heap.size ee cur 5 HR1.out (r.flatMap nbCs) HMIN.out (fun _ => ⟨rfl, _, rfl, HSRC.out⟩) HCF.out HNB.out w.heap.size w HB2.out (Nat.le_refl _) ?_; intro w4 hg4 hb4)
        have HPQ := HPG2.out.blit (w' := w4) (cur := cur.toArray) (o := ee) (r := r) (by simpa using HR2.out) (by simpa using HR3.out) HFIT.out HRB.out hg4.out
        have HSET := Lib.hid (setSlot w4 HPQ k ee l hk126 he256 hl256)
        have HB4 := Lib.hid hb4
        clear HPQ hg4 hb4 HPG2 HR3 HSRC HNB HCF HR1 HR2 HB2
        generalize blit q ee r = q2 at *
        go_wp2_with fail
        refine HSET.out.mono ?_
        rintro e w5 ⟨rfl, hp5, hb5⟩
        go_wp2_with fail
        go_roundw
        case rel => exact ⟨k + 1, by omega, by go_num, by rw [HCS.out], by rw [HCS.out]; exact hp5, HB4.out.trans hb5⟩
        case measure => simp [intOf]; omega
    · have hkn : k = n := by omega
      subst hkn
      have hci := HCI.out k hk
      have hsum := hci.sum
      have hsu := HSU.out k (Nat.le_refl _)
      have HPG := Lib.hid hpg
      have HBK := Lib.hid hbk
      clear hpg hbk
      by_cases he : (cst p k).2 < 256
      · have hst := HPG.out.set (k := 1) (m := (cst p k).2) (by omega) he
        have z1 := HPG.out.at_ (k := 1) (by omega)
        have f1 := HPG.out.fz (k := 1) (by omega)
        rw [if_pos he] at HCL
        rw [← HCL.out] at hst
        have HST := Lib.hid hst
        have HBS := Lib.hid (HBK.out.setCell (p := ⟨w.heap.size, 1, none⟩) (Nat.le_refl _) (.int .u8 ((cst p k).2 : Int)))
        clear hst hci hsum hsu HCL HPG HBK
        generalize (cst p k).2 = en at *
        generalize B (cst p k).1 1 = z at *
        have x1 : (en : Int) < 256 := by omega
        have x2 : (en : Int) % 256 = (en : Int) := by omega
        go_wp2_with fail
        go_ret
        exact ⟨rfl, HST.out, HBS.out⟩
      · rw [if_neg he] at HCL
        have hpg := HPG.out
        rw [← HCL.out] at hpg
        have HST := Lib.hid hpg
        have he2 : (cst p k).2 = 256 := by omega
        rw [he2]
        clear hpg hci hsum hsu HCL HPG he he2
        go_wp2_with fail
        go_ret
        exact ⟨rfl, HST.out, HBK.out⟩

end Go.Proofs.Ytalgocjhcgmdlaa
