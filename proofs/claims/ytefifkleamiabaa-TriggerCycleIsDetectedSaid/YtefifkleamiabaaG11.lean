/-
  The walk of instance.Conforms, where the instance fits.
-/
import Derived.Test.YtefifkleamiabaaG10
namespace Go.Proofs.Ytefifkleamiabaa
open Go.RowKit Go.Sort

/-- The rows of a table: they fit, they are sorted by their keys. -/
structure RelC (t : Tbl) (ks : List Key) : Prop where
  len : ks.length ≤ 24
  row : ∀ k ∈ ks, RowC t.cols k.row
  ord : (ks.map fun k => keyOf t.pk k.row).Pairwise fun a b => cmpR a b < 0
structure InC (tabs : List Tbl) (rs : List RelM) : Prop where
  len : rs.length = tabs.length
  max : tabs.length ≤ 6
  tab : ∀ t ∈ tabs, t.cols.length ≤ 6 ∧ t.pk.length ≤ 12
  name : ∀ (i : Nat) (h : i < rs.length) (h' : i < tabs.length), rs[i].name = tabs[i].name
  rel : ∀ (i : Nat) (h : i < rs.length) (h' : i < tabs.length), RelC tabs[i] rs[i].rows

/-- Behind the first Key: the second, and the comparison. -/
def CfK (w3 : World) (tv : Value) (rowv : Value) (kl : Nat) (cv : Int) (e : Ending) (w4 : World) : Prop :=
  ∃ A c, e = .returned (.slice A kl c) ∧ Below w3.heap.size w3 w4
    ∧ Hid (Calls Try.prog 19 #[tv, rowv] w4 fun e w5 => ∃ A2 c2, e = .returned (.slice A2 kl c2) ∧ Below w3.heap.size w3 w5
      ∧ Hid (Calls Try.prog 18 #[.slice A kl c, .slice A2 kl c2] w5 fun e w6 => e = .returned (.int .i64 cv) ∧ Below w3.heap.size w3 w6))

theorem cfk {t : Tbl} {w3 : World} (ht : TOk (· < w3.heap.size) w3 t) (hp : t.pk.length ≤ 12) {q r : Key} (hq : KOk (· < w3.heap.size) w3 q) (hr : KOk (· < w3.heap.size) w3 r) (m : Nat) :
    Calls Try.prog 19 #[t.val, .slice q.A q.row.length q.c] (w3.drewN m) (CfK w3 t.val (.slice r.A r.row.length r.c) t.pk.length (cmpR (keyOf t.pk q.row) (keyOf t.pk r.row))) := by
  have hd : Below w3.heap.size w3 (w3.drewN m) := below_drewN (Below.refl _ _) m
  have hkl : ∀ x : Row, (keyOf t.pk x).length = t.pk.length := fun x => by unfold keyOf; rw [List.length_map]
  refine (relKey t q.A q.c q.row (w3.drewN m) (ht.on hd) ((hq.on hd).el) (by omega)).mono ?_
  rintro e w4 ⟨v4, rfl, ho4, hb4⟩
  obtain ⟨A4, c4, rfl, -, -⟩ := ho4.form
  have hb34 := hd.trans hb4
  rw [hkl]
  refine ⟨A4, c4, rfl, hb34, Lib.hid ?_⟩
  refine (relKey t r.A r.c r.row w4 (ht.on hb34) ((hr.on hb34).el) (by omega)).mono ?_
  rintro e w5 ⟨v5, rfl, ho5, hb5⟩
  obtain ⟨A5, c5, rfl, -, -⟩ := ho5.form
  have hb35 := hb34.trans (hb5.mono hb34.size)
  rw [hkl]
  refine ⟨A5, c5, rfl, hb35, Lib.hid ?_⟩
  have h := cmpKeys ⟨A4, c4, keyOf t.pk q.row⟩ ⟨A5, c5, keyOf t.pk r.row⟩ w5 ⟨((ho4.below hb5).elems valLay.len rfl).more fun g hg => (Own.lt (ho4.below hb5) g hg).2, by show (keyOf t.pk q.row).length ≤ 12; rw [hkl]; exact hp⟩ ⟨(ho5.elems valLay.len rfl).more fun g hg => (Own.lt ho5 g hg).2, by show (keyOf t.pk r.row).length ≤ 12; rw [hkl]; exact hp⟩
  simp only [hkl] at h
  exact h.mono fun e w' hh => ⟨hh.1, hb35.trans (hh.2.mono hb35.size)⟩

set_option maxRecDepth 100000 in
set_option maxHeartbeats 4000000 in
theorem conforms (s : Sc) (A : Option Addr) (c : Nat) (rs : List RelM) (w : World) (hs : ScOk (· < w.heap.size) w s) (hi : InOk (· < w.heap.size) w A rs) (hc : InC s.tabs rs) :
    Calls Try.prog 10 #[s.v, .slice A rs.length c] w fun e w' => e = .returned (.int .i64 0) ∧ Below w.heap.size w w' := by
  have HS := Lib.hid hs
  have HI := Lib.hid hi
  have HC := Lib.hid hc
  obtain ⟨w1, hw1⟩ : ∃ w1, w1 = w.alloc (.cells s.cells 39) := ⟨_, rfl⟩
  have hb1 : Below w.heap.size w w1 := by rw [hw1]; exact (Below.refl _ _).alloc (Nat.le_refl _) _
  have hg0 : w1.heap[w.heap.size]? = some (.cells s.cells 39 (0, 0)) := by rw [hw1]; exact heap_alloc_new w _
  have hs1 : w.heap.size < w1.heap.size := by rw [hw1]; simp
  obtain ⟨n, hn⟩ : ∃ n, s.tabs.length = n := ⟨_, rfl⟩
  have hrn : rs.length = n := by rw [hc.len, hn]
  have HBK : Hid (∀ W, Below w1.heap.size w1 W → W.cell? ⟨w.heap.size, 0, none⟩ = some (.slice s.TA n s.tc)) := Lib.hid fun W hW => by
    have h0 := (hW.block w.heap.size hs1).trans hg0
    unfold Sc.cells at h0
    rw [hn] at h0
    rw [cell_of_row _ _ _ _ _ _ h0]
    rfl
  have HB1 := Lib.hid hb1
  have HW1 := Lib.hid hw1
  have HN := Lib.hid (And.intro hn hrn)
  have hn6 : n ≤ 6 := by rw [← hn]; exact hc.max
  have c0 := HBK.out w1 (Below.refl _ _)
  unfold Sc.cells at HW1
  unfold Sc.v Sc.cells
  rw [hn] at HW1
  rw [hn, hrn]
  clear hs hi hc hw1 hb1 hg0 hs1 hn hrn
  obtain ⟨TA, tc, tabs, FA, fc, fks, NA, ncc, cns⟩ := s
  simp only at *
  go_enter Try.func10, Try.ntmps10
  go_upto_region 1 with fail
  rw [← HW1.out]
  go_wp2_with fail
  go_loopw [20] (fun vi wr => ∃ k : Nat, vi = .int .i64 (k : Int) ∧ k ≤ n ∧ Below w1.heap.size w1 wr) (fun vi _ => n - (intOf vi).toNat)
  case atStart => exact ⟨0, rfl, by omega, Below.refl _ _⟩
  case round =>
    obtain ⟨k, rfl, hkn, hb⟩ := hrel
    obtain ⟨wo, rfl⟩ : ∃ wo, wo = wr := ⟨_, rfl⟩
    have hbw : Below w.heap.size w wo := HB1.out.trans (hb.mono HB1.out.size)
    by_cases hlt : k < n
    · have hkt : k < tabs.length := by have := HN.out.1; omega
      have hkr : k < rs.length := by have := HN.out.2; omega
      obtain ⟨b, off, hA, hbl, e0, e1, e2⟩ := (HS.out.on hbw).tabs.tbl hkt
      have hA : TA = some ⟨b, off, none⟩ := hA
      obtain ⟨b2, off2, hA2, hbl2, p0, p1⟩ := (HI.out.on hbw).el.rel hkr
      have hnm := HC.out.name k hkr hkt
      have hrl := HC.out.rel k hkr hkt
      have htb := HC.out.tab _ (List.getElem_mem hkt)
      have HTK : Hid (∀ W, Below wo.heap.size wo W → TOk (· < W.heap.size) W tabs[k]) := Lib.hid fun W hW => ((HS.out.on hbw).tab _ (List.getElem_mem hkt)).on hW
      have HRK : Hid (∀ W, Below wo.heap.size wo W → RsOk (· < W.heap.size) W rs[k].A rs[k].rows) := Lib.hid fun W hW => ((HI.out.on hbw).rel _ (List.getElem_mem hkr)).on hW
      have f0 := HBK.out wo hb
      have hba : ∀ o, Below wo.heap.size wo (wo.alloc o) := fun o => (Below.refl _ _).alloc (Nat.le_refl _) o
      have f0a := fun o => HBK.out (wo.alloc o) (hb.trans ((hba o).mono hb.size))
      have e0a := fun o => ((hba o).cell (p := ⟨b, off + k * 3, none⟩) hbl).trans e0
      have e1a := fun o => ((hba o).cell (p := ⟨b, off + k * 3 + 1, none⟩) hbl).trans e1
      have e2a := fun o => ((hba o).cell (p := ⟨b, off + k * 3 + 2, none⟩) hbl).trans e2
      have hlt' : (k : Int) < (n : Int) := by omega
      have HBO := Lib.hid (And.intro hb hbw)
      rw [hA] at f0 f0a ⊢
      rw [hA2]
      rw [hnm] at p0
      clear hb hbw hba hbl hbl2 hA hA2 hnm
      generalize tabs[k] = t at *
      generalize rs[k] = rel at *
      obtain ⟨rn, rA, rc, ks⟩ := rel
      simp only at *
      obtain ⟨m, hm⟩ : ∃ m, ks.length = m := ⟨_, rfl⟩
      have hm24 : m ≤ 24 := by rw [← hm]; exact hrl.len
      have hm24' : (m : Int) ≤ 24 := by omega
      rw [hm] at p1
      have HM := Lib.hid hm
      have HRL := Lib.hid hrl
      have HTB := Lib.hid htb
      obtain ⟨w5, hw5⟩ : ∃ w5, w5 = (wo.alloc (.cells #[.string t.name, .slice rA m rc] 73)).alloc (.cells #[.string t.name, .slice t.CA t.cols.length t.cc, .slice t.PA t.pk.length t.pc] 58) := ⟨_, rfl⟩
      have hb5 : Below wo.heap.size wo w5 := by rw [hw5]; exact ((Below.refl _ _).alloc (Nat.le_refl _) _).alloc (le_size1 (Nat.le_refl _) _) _
      have hg6 : w5.heap[wo.heap.size]? = some (.cells #[.string t.name, .slice rA m rc] 73 (0, 0)) := by
        rw [hw5, Below.heap_alloc _ _ _ (by simp)]
        exact heap_alloc_new wo _
      have hg7 : w5.heap[wo.heap.size + 1]? = some (.cells #[.string t.name, .slice t.CA t.cols.length t.cc, .slice t.PA t.pk.length t.pc] 58 (0, 0)) := by rw [hw5]; exact alloc2_at wo _ _
      have hs5 : w5.heap.size = wo.heap.size + 2 := by rw [hw5]; simp
      have HB67 : Hid (∀ W, Below w5.heap.size w5 W → W.cell? ⟨wo.heap.size, 0, none⟩ = some (.string t.name) ∧ W.cell? ⟨wo.heap.size, 1, none⟩ = some (.slice rA m rc) ∧ W.cell? ⟨wo.heap.size + 1, 0, none⟩ = some (.string t.name) ∧ W.cell? ⟨wo.heap.size + 1, 1, none⟩ = some (.slice t.CA t.cols.length t.cc) ∧ W.cell? ⟨wo.heap.size + 1, 2, none⟩ = some (.slice t.PA t.pk.length t.pc)) := Lib.hid fun W hW => by
        have h6 := (hW.block wo.heap.size (by omega)).trans hg6
        have h7 := (hW.block (wo.heap.size + 1) (by omega)).trans hg7
        exact ⟨by rw [cell_of_row _ _ _ _ _ _ h6]; rfl, by rw [cell_of_row _ _ _ _ _ _ h6]; rfl, by rw [cell_of_row _ _ _ _ _ _ h7]; rfl, by rw [cell_of_row _ _ _ _ _ _ h7]; rfl, by rw [cell_of_row _ _ _ _ _ _ h7]; rfl⟩
      have HB5 := Lib.hid hb5
      have HW5 := Lib.hid hw5
      clear hm hrl htb hw5 hb5 hg6 hg7 hs5
      go_wp2_with fail
      rw [← HW5.out]
      go_loopw [42] (fun vi wr => ∃ j : Nat, vi = .int .i64 (j : Int) ∧ j ≤ m ∧ Below w5.heap.size w5 wr) (fun vi _ => m - (intOf vi).toNat)
      case atStart => exact ⟨0, rfl, by omega, Below.refl _ _⟩
      case round =>
        obtain ⟨j, rfl, hjm, hb⟩ := hrel
        obtain ⟨wi, rfl⟩ : ∃ wi, wi = wr := ⟨_, rfl⟩
        have hbi : Below wo.heap.size wo wi := HB5.out.trans (hb.mono HB5.out.size)
        by_cases hlt2 : j < m
        · have hjk : j < ks.length := by have := HM.out; omega
          have hrs := HRK.out wi hbi
          obtain ⟨b3, off3, hA3, hbl3, q0⟩ := hrs.el.key hjk
          have hkok := hrs.row _ (List.getElem_mem hjk)
          have htk := HTK.out wi hbi
          have hrc := HRL.out.row _ (List.getElem_mem hjk)
          have HCR := Lib.hid (conformsRow t ks[j].A ks[j].c ks[j].row wi htk hkok.el (by have := HTB.out.1; omega) hrc)
          obtain ⟨g0, g1, g2, g3, g4⟩ := HB67.out wi hb
          have hlt2' : (j : Int) < (m : Int) := by omega
          have HBI := Lib.hid (And.intro hb hbi)
          by_cases hj0 : j = 0
          · subst hj0
            rw [hA3]
            rw [Nat.add_zero] at q0
            clear hb hbi hrs hbl3 hkok htk hrc hA3
            generalize ks[0] = q at *
            obtain ⟨qA, qc, qr⟩ := q
            unfold Tbl.val at HCR
            simp only at *
            go_wp2_with fail
            refine HCR.out.mono ?_
            rintro e w6 ⟨rfl, hb6⟩
            have HB6 := Lib.hid (HBI.out.1.trans (hb6.mono HBI.out.1.size))
            clear hb6
            go_wp2_with fail
            go_roundw
            case rel => exact ⟨1, by go_num, by omega, HB6.out⟩
            case measure => simp [intOf]; omega
          · obtain ⟨i, rfl⟩ : ∃ i, j = i + 1 := ⟨j - 1, by omega⟩
            have hik : i < ks.length := by omega
            have hor := List.pairwise_iff_getElem.1 HRL.out.ord i (i + 1) (by rw [List.length_map]; exact hik) (by rw [List.length_map]; exact hjk) (by omega)
            rw [List.getElem_map, List.getElem_map] at hor
            have HPV : Hid (∀ W, Below wi.heap.size wi W → W.cell? ⟨b3, off3 + i, none⟩ = some (.slice ks[i].A ks[i].row.length ks[i].c) ∧ ∀ m, Calls Try.prog 19 #[t.val, .slice ks[i].A ks[i].row.length ks[i].c] (W.drewN m) (CfK W t.val (.slice ks[i + 1].A ks[i + 1].row.length ks[i + 1].c) t.pk.length (cmpR (keyOf t.pk ks[i].row) (keyOf t.pk ks[i + 1].row)))) := Lib.hid fun W hW => by
              have hrsW := hrs.on hW
              obtain ⟨b4, off4, hA4, -, y0⟩ := hrsW.el.key hik
              rw [hA3] at hA4
              injection hA4 with hA4
              injection hA4 with h1 h2
              subst h1 h2
              exact ⟨y0, cfk (htk.on hW) HTB.out.2 (hrsW.row _ (List.getElem_mem hik)) (hrsW.row _ (List.getElem_mem hjk))⟩
            have hj1 : (((i + 1 : Nat) : Int) == 0) = false := by simp; omega
            have hj2 : ((i + 1 : Nat) : Int) - 1 = (i : Int) := by omega
            have hj3 : (i : Int) < (m : Int) := by omega
            have hwi : IntKind.i64.wrap (i : Int) = (i : Int) := by rw [IntKind.wrap_i64]; omega
            have HA3 := Lib.hid hA3
            rw [hA3]
            clear hb hbi hrs hbl3 hkok htk hrc hA3
            generalize cmpR (keyOf t.pk ks[i].row) (keyOf t.pk ks[i + 1].row) = cv at *
            generalize ks[i + 1] = q at *
            generalize ks[i] = p at *
            obtain ⟨qA, qc, qr⟩ := q
            obtain ⟨pA, pc, pr⟩ := p
            unfold Tbl.val at HCR HPV
            simp only at *
            have hcv0 : (cv == 0) = false := by simp; omega
            have hcv1 : ¬ 0 < cv := by omega
            go_wp2_with fail
            refine HCR.out.mono ?_
            rintro e w6 ⟨rfl, hb6⟩
            obtain ⟨v0, hpv⟩ := HPV.out w6 hb6
            have HK := Lib.hid hpv
            have hb56 := HBI.out.1.trans (hb6.mono HBI.out.1.size)
            obtain ⟨x0, x1, x2, x3, x4⟩ := HB67.out w6 hb56
            rw [HA3.out] at x1
            have HB6 := Lib.hid hb56
            have HSF : Hid (∀ W, Below w6.heap.size w6 W → W.cell? ⟨wo.heap.size, 1, none⟩ = some (.slice (some ⟨b3, off3, none⟩) m rc) ∧ W.cell? ⟨wo.heap.size + 1, 0, none⟩ = some (.string t.name) ∧ W.cell? ⟨wo.heap.size + 1, 1, none⟩ = some (.slice t.CA t.cols.length t.cc) ∧ W.cell? ⟨wo.heap.size + 1, 2, none⟩ = some (.slice t.PA t.pk.length t.pc) ∧ W.cell? ⟨b3, off3 + i, none⟩ = some (.slice pA pr.length pc)) := Lib.hid fun W hW => by
              obtain ⟨-, y1, y2, y3, y4⟩ := HB67.out W (hb56.trans (hW.mono hb56.size))
              rw [HA3.out] at y1
              exact ⟨y1, y2, y3, y4, (HPV.out W (hb6.trans (hW.mono hb6.size))).1⟩
            clear hb6 hpv hb56 x0 g0 g1 g2 g3 g4 q0
            go_upto_region 18 with fail
            go_cut [11] from 55 to 66 (fun v11 wx => v11 = .int .i64 cv ∧ Below w6.heap.size w6 wx)
            case first =>
              go_region_held3 (fun w' => w'.cell? ⟨wo.heap.size, 1, none⟩ = some (.slice (some ⟨b3, off3, none⟩) m rc) ∧ w'.cell? ⟨wo.heap.size + 1, 0, none⟩ = some (.string t.name) ∧ w'.cell? ⟨wo.heap.size + 1, 1, none⟩ = some (.slice t.CA t.cols.length t.cc) ∧ w'.cell? ⟨wo.heap.size + 1, 2, none⟩ = some (.slice t.PA t.pk.length t.pc) ∧ w'.cell? ⟨b3, off3 + i, none⟩ = some (.slice pA pr.length pc)) (first | exact ⟨x1, x2, x3, x4, v0⟩ | exact ⟨z0'', z1'', z2'', z3'', z4''⟩ | exact ⟨z0', z1', z2', z3', z4'⟩ | exact ⟨z0, z1, z2, z3, z4⟩)
                (first
                | (go_at_call 18; refine HCM.out.mono ?_; rintro e w9 ⟨rfl, hb9⟩; obtain ⟨z0'', z1'', z2'', z3'', z4''⟩ := HSF.out _ hb9)
                | (go_at_call 19; refine HK2.out.mono ?_; rintro e w8 ⟨A8, c8, rfl, hb8, HCM⟩; obtain ⟨z0', z1', z2', z3', z4'⟩ := HSF.out _ hb8)
                | (go_at_call 19; refine (HK.out 1).mono ?_; rintro e w7 ⟨A7, c7, rfl, hb7, HK2⟩; obtain ⟨z0, z1, z2, z3, z4⟩ := HSF.out _ hb7))
              all_goals
                have HB9 := Lib.hid hb9
                clear hb9
                go_wp2_with fail
                go_meet
                exact ⟨rfl, HB9.out⟩
            case rest =>
              obtain ⟨rfl, hbc⟩ := hcut
              have HBC := Lib.hid (HB6.out.trans (hbc.mono HB6.out.size))
              clear hbc
              go_wp2_with fail
              go_roundw
              case rel => exact ⟨i + 1 + 1, by go_num, by omega, HBC.out⟩
              case measure => simp [intOf]; omega
        · have hjm' : j = m := by omega
          subst hjm'
          have HE := Lib.hid (HBO.out.1.trans (hbi.mono HBO.out.1.size))
          clear hb hbi
          go_wp2_with fail
          go_roundw
          case rel => exact ⟨k + 1, by go_num, by omega, HE.out⟩
          case measure => simp [intOf]; omega
    · have hkn' : k = n := by omega
      subst hkn'
      have HE := Lib.hid hbw
      clear hb hbw
      go_wp2_with fail
      go_ret
      exact ⟨rfl, HE.out⟩
end Go.Proofs.Ytefifkleamiabaa
