/-
  The walk of schema.Validate, where the schema is valid (at most one foreign key, one constraint).
-/
import Derived.Test.YtefifkleamiabaaG5
namespace Go.Proofs.Ytefifkleamiabaa
open Go.RowKit

set_option maxRecDepth 100000 in
theorem indexFk0 (A : Option Addr) (c : Nat) (v : Value) (w : World) :
    Calls Try.prog 45 #[.slice A 0 c, v] w fun e w' => e = .returned (.int .i64 (-1)) ∧ w = w' := by
  go_enter Try.func45, Try.ntmps45
  go_wp2_with fail
  go_loopw [8] (fun vi wr => vi = .int .i64 0 ∧ w = wr) (fun _ _ => 0)
  case atStart => exact ⟨rfl, rfl⟩
  case round =>
    obtain ⟨rfl, rfl⟩ := hrel
    go_wp2_with fail
    go_ret
    exact ⟨rfl, rfl⟩
set_option maxRecDepth 100000 in
theorem containsFk0 (A : Option Addr) (c : Nat) (v : Value) (w : World) :
    Calls Try.prog 28 #[.slice A 0 c, v] w fun e w' => e = .returned (.bool false) ∧ w = w' := by
  have HI := Lib.hid (indexFk0 A c v w)
  go_enter Try.func28, Try.ntmps28
  go_wp2_with fail
  refine HI.out.mono ?_
  rintro e w' ⟨rfl, rfl⟩
  go_wp2_with fail
  go_ret
  exact ⟨rfl, rfl⟩
set_option maxRecDepth 100000 in
theorem indexCn0 (A : Option Addr) (c : Nat) (v : Cn) (w : World) :
    Calls Try.prog 48 #[.slice A 0 c, .agg v.cells] w fun e w' => e = .returned (.int .i64 (-1)) ∧ Below w.heap.size w w' := by
  have HB : Hid (∀ o, Below w.heap.size w (w.alloc o)) := Lib.hid fun o => (Below.refl _ _).alloc (Nat.le_refl _) o
  unfold Cn.cells
  go_enter Try.func48, Try.ntmps48
  go_wp2_with fail
  go_loopw [8] (fun vi wr => vi = .int .i64 0 ∧ Below w.heap.size w wr) (fun _ _ => 0)
  case atStart => exact ⟨rfl, HB.out _⟩
  case round =>
    obtain ⟨rfl, hb⟩ := hrel
    have HBR := Lib.hid hb
    clear hb
    go_wp2_with fail
    go_ret
    exact ⟨rfl, HBR.out⟩
set_option maxRecDepth 100000 in
theorem containsCn0 (A : Option Addr) (c : Nat) (v : Cn) (w : World) :
    Calls Try.prog 32 #[.slice A 0 c, .agg v.cells] w fun e w' => e = .returned (.bool false) ∧ Below w.heap.size w w' := by
  have HI := Lib.hid fun W => indexCn0 A c v W
  have HB : Hid (∀ o, Below w.heap.size w (w.alloc o)) := Lib.hid fun o => (Below.refl _ _).alloc (Nat.le_refl _) o
  unfold Cn.cells at HI ⊢
  go_enter Try.func32, Try.ntmps32
  go_wp2_with fail
  refine (HI.out _).mono ?_
  rintro e w' ⟨rfl, hb⟩
  have HBR := Lib.hid ((HB.out _).trans (hb.mono (HB.out _).size))
  clear hb
  go_wp2_with fail
  go_ret
  exact ⟨rfl, HBR.out⟩

/-- A valid schema. -/
structure SchV (s : Sc) : Prop where
  ntab : s.tabs.length ≤ 6
  tab : ∀ t ∈ s.tabs, TabV t
  ord : ∀ (i : Nat) (h : i + 1 < s.tabs.length), Op.bytesLess s.tabs[i + 1].name.toList s.tabs[i].name.toList = false ∧ (s.tabs[i + 1].name.toList == s.tabs[i].name.toList) = false
  nfk : s.fks.length ≤ 1
  fk : ∀ f ∈ s.fks, f.cols.length ≤ 1000 ∧ ∃ i k, FkV s f i k
  ncn : s.cns.length ≤ 1
  cn : ∀ c ∈ s.cns, ∃ i l, CnV s c i l

set_option maxRecDepth 100000 in
set_option maxHeartbeats 4000000 in
theorem schemaValidate (s : Sc) (w : World) (hs : ScOk (· < w.heap.size) w s) (hv : SchV s) :
    Calls Try.prog 14 #[s.v] w fun e w' => e = .returned (.int .i64 0) ∧ Below w.heap.size w w' := by
  have HS := Lib.hid hs
  have HV := Lib.hid hv
  have HVF := Lib.hid fun W (hW : Below w.heap.size w W) f (hf : f ∈ s.fks) => validateFk s f _ _ W (hs.on hW) ((hs.on hW).fk f hf) (hv.fk f hf).2.choose_spec.choose_spec (by have := hv.ntab; omega) (hv.fk f hf).1
  have HVC := Lib.hid fun W (hW : Below w.heap.size w W) c (hc : c ∈ s.cns) => validateCn s c _ _ W (hs.on hW) (hv.cn c hc).choose_spec.choose_spec (by have := hv.ntab; omega)
  obtain ⟨w1, hw1⟩ : ∃ w1, w1 = w.alloc (.cells s.cells 39) := ⟨_, rfl⟩
  have hb1 : Below w.heap.size w w1 := by rw [hw1]; exact (Below.refl _ _).alloc (Nat.le_refl _) _
  have hg0 : w1.heap[w.heap.size]? = some (.cells s.cells 39 (0, 0)) := by rw [hw1]; exact heap_alloc_new w _
  have hs1 : w.heap.size < w1.heap.size := by rw [hw1]; simp
  obtain ⟨n, hn⟩ : ∃ n, s.tabs.length = n := ⟨_, rfl⟩
  obtain ⟨nf, hnf⟩ : ∃ n, s.fks.length = n := ⟨_, rfl⟩
  obtain ⟨nc, hnc⟩ : ∃ n, s.cns.length = n := ⟨_, rfl⟩
  have HBK : Hid (∀ W, Below w1.heap.size w1 W → W.cell? ⟨w.heap.size, 0, none⟩ = some (.slice s.TA n s.tc) ∧ W.cell? ⟨w.heap.size, 1, none⟩ = some (.slice s.FA nf s.fc) ∧ W.cell? ⟨w.heap.size, 2, none⟩ = some (.slice s.NA nc s.nc)) := Lib.hid fun W hW => by
    have h0 := (hW.block w.heap.size hs1).trans hg0
    unfold Sc.cells at h0
    rw [hn, hnf, hnc] at h0
    exact ⟨by rw [cell_of_row _ _ _ _ _ _ h0]; rfl, by rw [cell_of_row _ _ _ _ _ _ h0]; rfl, by rw [cell_of_row _ _ _ _ _ _ h0]; rfl⟩
  have HB1 := Lib.hid hb1
  have HW1 := Lib.hid hw1
  have HSZ := Lib.hid hs1
  have HN := Lib.hid (And.intro hn (And.intro hnf hnc))
  have hn6 : n ≤ 6 := by rw [← hn]; exact hv.ntab
  have hnf1 : nf ≤ 1 := by rw [← hnf]; exact hv.nfk
  have hnc1 : nc ≤ 1 := by rw [← hnc]; exact hv.ncn
  obtain ⟨c0, c1, c2⟩ := HBK.out w1 (Below.refl _ _)
  unfold Sc.cells at HW1
  unfold Sc.v Sc.cells at HVF HVC ⊢
  rw [hn, hnf, hnc] at HVF HVC HW1 ⊢
  clear hs hv hw1 hb1 hg0 hs1 hn hnf hnc
  obtain ⟨TA, tc, tabs, FA, fc, fks, NA, ncc, cns⟩ := s
  simp only at *
  have hn6' : (n : Int) ≤ 6 := by omega
  have hnf8 : (nf : Int) ≤ 8 := by omega
  have hnc8 : (nc : Int) ≤ 8 := by omega
  go_enter Try.func14, Try.ntmps14
  go_upto_region 1 with fail
  rw [← HW1.out]
  go_wp2_with fail
  go_loopw [31] (fun vi wr => ∃ k : Nat, vi = .int .i64 (k : Int) ∧ k ≤ n ∧ Below w1.heap.size w1 wr) (fun vi _ => n - (intOf vi).toNat)
  case atStart => exact ⟨0, rfl, by omega, Below.refl _ _⟩
  case round =>
    obtain ⟨k, rfl, hkn, hb⟩ := hrel
    obtain ⟨wo, rfl⟩ : ∃ wo, wo = wr := ⟨_, rfl⟩
    have hbw : Below w.heap.size w wo := HB1.out.trans (hb.mono HB1.out.size)
    by_cases hlt : k < n
    · have hki : k < tabs.length := by have := HN.out.1; omega
      have htb := (HS.out.on hbw).tabs
      obtain ⟨b, off, hA, hbl, e0, e1, e2⟩ := htb.tbl hki
      have hA : TA = some ⟨b, off, none⟩ := hA
      have hvt := HV.out.tab _ (List.getElem_mem hki)
      have htok := (HS.out.on hbw).tab _ (List.getElem_mem hki)
      have hba : ∀ o, Below wo.heap.size wo (wo.alloc o) := fun o => (Below.refl _ _).alloc (Nat.le_refl _) o
      have HVT := Lib.hid fun o => validateTable tabs[k] (wo.alloc o) (htok.on (hba o)) hvt
      obtain ⟨f0, f1, f2⟩ := HBK.out wo hb
      have HBO := Lib.hid (And.intro hb hbw)
      have HBA := Lib.hid hba
      have hlt' : (k : Int) < (n : Int) := by omega
      rw [hA] at f0 ⊢
      clear hvt htok hba hb hbw hbl
      by_cases hk0 : k = 0
      · subst hk0
        generalize tabs[0] = t at *
        obtain ⟨tn, tCA, tcc, tcols, tPA, tpc, tpk⟩ := t
        unfold Tbl.val at HVT
        simp only at *
        rw [Nat.zero_mul, Nat.add_zero] at e0 e1 e2
        clear htb
        go_wp2_with fail
        refine (HVT.out _).mono ?_
        rintro e w3 ⟨rfl, hb3⟩
        have hbo : Below wo.heap.size wo w3 := (HBA.out _).trans (hb3.mono (HBA.out _).size)
        have HB3 := Lib.hid (HBO.out.1.trans (hbo.mono HBO.out.1.size))
        clear hb3 hbo
        go_wp2_with fail
        go_quiet (fail)
        go_wp2_with fail
        go_roundw
        case rel => exact ⟨1, by go_num, by omega, below_drewN HB3.out _⟩
        case measure => simp [intOf]; omega
      · obtain ⟨i, rfl⟩ : ∃ i, k = i + 1 := ⟨k - 1, by omega⟩
        have hii : i < tabs.length := by omega
        obtain ⟨b', off', hA', -, z0, -, -⟩ := htb.tbl hii
        rw [hA] at hA'
        injection hA' with hA'
        injection hA' with h1 h2
        subst h1 h2
        obtain ⟨hor1, hor2⟩ := HV.out.ord i hki
        simp only at hor1 hor2
        have HPV : Hid (∀ W, Below wo.heap.size wo W → W.cell? ⟨b, off + i * 3, none⟩ = some (.string tabs[i].name)) := Lib.hid fun W hW => by
          obtain ⟨b'', off'', hA'', -, y0, -, -⟩ := ((HS.out.on (HBO.out.2.trans (hW.mono HBO.out.2.size))).tabs).tbl hii
          have hA'' : TA = some ⟨b'', off'', none⟩ := hA''
          rw [hA] at hA''
          injection hA'' with hA''
          injection hA'' with h1 h2
          subst h1 h2
          exact y0
        have HBKA : Hid (∀ W, Below wo.heap.size wo W → W.cell? ⟨w.heap.size, 0, none⟩ = some (.slice (some ⟨b, off, none⟩) n tc)) := Lib.hid fun W hW => by
          have h := (HBK.out W (HBO.out.1.trans (hW.mono HBO.out.1.size))).1
          rwa [hA] at h
        clear htb z0
        generalize tabs[i].name = pn at *
        generalize tabs[i + 1] = t at *
        obtain ⟨tn, tCA, tcc, tcols, tPA, tpc, tpk⟩ := t
        unfold Tbl.val at HVT
        simp only at *
        have hj1 : (0 : Int) < ((i + 1 : Nat) : Int) := by omega
        have hj2 : ((i + 1 : Nat) : Int) - 1 = (i : Int) := by omega
        have hj3 : (i : Int) < (n : Int) := by omega
        go_wp2_with fail
        refine (HVT.out _).mono ?_
        rintro e w3 ⟨rfl, hb3⟩
        have hbo : Below wo.heap.size wo w3 := (HBA.out _).trans (hb3.mono (HBA.out _).size)
        have hcv : w3.heap[wo.heap.size]? = some (.cells #[.string tn, .slice tCA tcols.length tcc, .slice tPA tpk.length tpc] 58 (0, 0)) := (hb3.block wo.heap.size (by simp)).trans (heap_alloc_new wo _)
        have v0 : w3.cell? ⟨wo.heap.size, 0, none⟩ = some (.string tn) := by rw [cell_of_row _ _ _ _ _ _ hcv]; rfl
        have v1 := HPV.out w3 hbo
        have v2 := HBKA.out w3 hbo
        have HB3 := Lib.hid (HBO.out.1.trans (hbo.mono HBO.out.1.size))
        clear hb3 hbo hcv
        go_wp2_with fail
        go_quiet (fail)
        go_wp2_with fail
        go_roundw
        case rel => exact ⟨i + 1 + 1, by go_num, by omega, below_drewN HB3.out _⟩
        case measure => simp [intOf]; omega
    · have hkn' : k = n := by omega
      subst hkn'
      obtain ⟨f0, f1, f2⟩ := HBK.out wo hb
      have HBO := Lib.hid hb
      clear hb hbw
      go_wp2_with fail
      go_loopw [59] (fun vi wr => ∃ j : Nat, vi = .int .i64 (j : Int) ∧ j ≤ nf ∧ Below w1.heap.size w1 wr) (fun vi _ => nf - (intOf vi).toNat)
      case atStart => exact ⟨0, rfl, by omega, HBO.out⟩
      case round =>
        obtain ⟨j, rfl, hjn, hb⟩ := hrel
        obtain ⟨wi, rfl⟩ : ∃ wi, wi = wr := ⟨_, rfl⟩
        have hbw : Below w.heap.size w wi := HB1.out.trans (hb.mono HB1.out.size)
        by_cases hlt : j < nf
        · have hj0 : j = 0 := by omega
          subst hj0
          have hji : 0 < fks.length := by have := HN.out.2.1; omega
          obtain ⟨b, off, hA, hbl, e0, e1, e2⟩ := (HS.out.on hbw).fks.fkm hji
          have hA : FA = some ⟨b, off, none⟩ := hA
          have hba : ∀ o, Below wi.heap.size wi (wi.alloc o) := fun o => (Below.refl _ _).alloc (Nat.le_refl _) o
          have HVT := Lib.hid fun o => HVF.out (wi.alloc o) (hbw.trans ((hba o).mono hbw.size)) fks[0] (List.getElem_mem hji)
          obtain ⟨g0, g1, g2⟩ := HBK.out wi hb
          have g0a := fun o => (HBK.out (wi.alloc o) (hb.trans ((hba o).mono hb.size))).1
          have g1a := fun o => (HBK.out (wi.alloc o) (hb.trans ((hba o).mono hb.size))).2.1
          have g2a := fun o => (HBK.out (wi.alloc o) (hb.trans ((hba o).mono hb.size))).2.2
          have HBI := Lib.hid (And.intro hb hbw)
          have HBA := Lib.hid hba
          have hlt' : (0 : Int) < (nf : Int) := by omega
          have hcapf : (0 : Int) ≤ (fc : Int) := by omega
          clear hb hbw hba hbl
          generalize fks[0] = f at *
          obtain ⟨fn, fA, fcc, fcols, fr⟩ := f
          unfold FkM.val at HVT
          simp only at *
          rw [Nat.zero_mul, Nat.add_zero] at e0 e1 e2
          rw [hA] at g1 HVT g1a ⊢
          clear hA
          go_wp2_with fail
          refine (HVT.out _).mono ?_
          rintro e w3 ⟨rfl, hb3⟩
          have hbo : Below wi.heap.size wi w3 := (HBA.out _).trans (hb3.mono (HBA.out _).size)
          have hb13 := HBI.out.1.trans (hbo.mono HBI.out.1.size)
          obtain ⟨y0, y1, y2⟩ := HBK.out w3 hb13
          have HB3 := Lib.hid hb13
          clear hb3 hbo hb13
          go_wp2_with fail
          refine (containsFk0 _ _ _ _).mono ?_
          rintro e w4 ⟨rfl, rfl⟩
          go_wp2_with fail
          go_roundw
          case rel => exact ⟨1, by go_num, by omega, HB3.out⟩
          case measure => simp [intOf]; omega
        · have hjn' : j = nf := by omega
          subst hjn'
          obtain ⟨g0, g1, g2⟩ := HBK.out wi hb
          have HBI := Lib.hid hb
          clear hb hbw
          go_wp2_with fail
          go_loopw [80] (fun vi wr => ∃ i : Nat, vi = .int .i64 (i : Int) ∧ i ≤ nc ∧ Below w1.heap.size w1 wr) (fun vi _ => nc - (intOf vi).toNat)
          case atStart => exact ⟨0, rfl, by omega, HBI.out⟩
          case round =>
            obtain ⟨i, rfl, hin, hb⟩ := hrel
            obtain ⟨wj, rfl⟩ : ∃ wj, wj = wr := ⟨_, rfl⟩
            have hbw : Below w.heap.size w wj := HB1.out.trans (hb.mono HB1.out.size)
            by_cases hlt3 : i < nc
            · have hi0 : i = 0 := by omega
              subst hi0
              have hji : 0 < cns.length := by have := HN.out.2.2; omega
              obtain ⟨b, off, hA, hbl, e0, e1, e2, e3, e4, e5, e6⟩ := (HS.out.on hbw).cns.cn hji
              have hA : NA = some ⟨b, off, none⟩ := hA
              have hba : ∀ o, Below wj.heap.size wj (wj.alloc o) := fun o => (Below.refl _ _).alloc (Nat.le_refl _) o
              have HVT := Lib.hid fun o => HVC.out (wj.alloc o) (hbw.trans ((hba o).mono hbw.size)) cns[0] (List.getElem_mem hji)
              obtain ⟨k0, k1, k2⟩ := HBK.out wj hb
              have k0a := fun o => (HBK.out (wj.alloc o) (hb.trans ((hba o).mono hb.size))).1
              have k1a := fun o => (HBK.out (wj.alloc o) (hb.trans ((hba o).mono hb.size))).2.1
              have k2a := fun o => (HBK.out (wj.alloc o) (hb.trans ((hba o).mono hb.size))).2.2
              have HBJ := Lib.hid (And.intro hb hbw)
              have HBA := Lib.hid hba
              have hlt' : (0 : Int) < (nc : Int) := by omega
              clear hb hbw hba hbl
              have HCC := Lib.hid fun W => containsCn0 NA ncc cns[0] W
              generalize cns[0] = cn at *
              obtain ⟨cnm, cl, cop, cr, cvk, cvi, cvt⟩ := cn
              unfold Cn.cells at HVT HCC
              simp only at *
              rw [Nat.zero_mul, Nat.add_zero] at e0 e1 e2 e3 e4 e5 e6
              rw [hA] at k2 HVT k2a HCC ⊢
              clear hA
              go_wp2_with fail
              refine (HVT.out _).mono ?_
              rintro e w3 ⟨rfl, hb3⟩
              have hbo : Below wj.heap.size wj w3 := (HBA.out _).trans (hb3.mono (HBA.out _).size)
              have hb13 := HBJ.out.1.trans (hbo.mono HBJ.out.1.size)
              obtain ⟨y0, y1, y2⟩ := HBK.out w3 hb13
              have hcv : w3.heap[wj.heap.size]? = some (.cells #[.string cnm, .int .i64 cl, .string cop, .int .i64 cr, .int .i64 cvk, .int .i64 cvi, .string cvt] 62 (0, 0)) := (hb3.block wj.heap.size (by simp)).trans (heap_alloc_new wj _)
              have v0 : w3.cell? ⟨wj.heap.size, 0, none⟩ = some (.string cnm) := by rw [cell_of_row _ _ _ _ _ _ hcv]; rfl
              have v1 : w3.cell? ⟨wj.heap.size, 1, none⟩ = some (.int .i64 cl) := by rw [cell_of_row _ _ _ _ _ _ hcv]; rfl
              have v2 : w3.cell? ⟨wj.heap.size, 2, none⟩ = some (.string cop) := by rw [cell_of_row _ _ _ _ _ _ hcv]; rfl
              have v3 : w3.cell? ⟨wj.heap.size, 3, none⟩ = some (.int .i64 cr) := by rw [cell_of_row _ _ _ _ _ _ hcv]; rfl
              have v4 : w3.cell? ⟨wj.heap.size, 4, none⟩ = some (.int .i64 cvk) := by rw [cell_of_row _ _ _ _ _ _ hcv]; rfl
              have v5 : w3.cell? ⟨wj.heap.size, 5, none⟩ = some (.int .i64 cvi) := by rw [cell_of_row _ _ _ _ _ _ hcv]; rfl
              have v6 : w3.cell? ⟨wj.heap.size, 6, none⟩ = some (.string cvt) := by rw [cell_of_row _ _ _ _ _ _ hcv]; rfl
              have HB3 := Lib.hid hb13
              clear hb3 hbo hb13 hcv
              go_upto_region 27 with fail
              go_region_law (first
                | (go_simp; go_at_call 32; refine (HCC.out (w3.drewN 1)).mono ?_; rintro e w4 ⟨rfl, hb4⟩))
              all_goals
                have HB4 := Lib.hid ((below_drewN HB3.out 1).trans (hb4.mono (below_drewN HB3.out 1).size))
                clear hb4
                go_wp2_with fail
                go_roundw
                case rel => exact ⟨1, by go_num, by omega, HB4.out⟩
                case measure => simp [intOf]; omega
            · have hin' : i = nc := by omega
              subst hin'
              have HBE := Lib.hid hbw
              clear hb hbw
              go_wp2_with fail
              go_ret
              exact ⟨rfl, HBE.out⟩
end Go.Proofs.Ytefifkleamiabaa
