/-
  The walk of schema.Validate at a schema with up to eight constraints.
  The walk of the reference's ValidateSchema at a schema with up to eight constraints.
  The base schema with a second constraint: both validations accept it.
-/
import Derived.Test.YtefifkleamiabaaGreatDoorVm17
namespace Go.Proofs.YtefifkleamiabaaGreatDoor
open Go.RowKit Go.Sort

/-- A valid schema, with up to eight constraints. -/
structure SchG (s : Sc) : Prop where
  ntab : s.tabs.length ≤ 6
  tab : ∀ t ∈ s.tabs, TabV t
  ord : ∀ (i : Nat) (h : i + 1 < s.tabs.length), Op.bytesLess s.tabs[i + 1].name.toList s.tabs[i].name.toList = false ∧ (s.tabs[i + 1].name.toList == s.tabs[i].name.toList) = false
  nfk : s.fks.length ≤ 1
  fk : ∀ f ∈ s.fks, f.cols.length ≤ 1000 ∧ ∃ i k, FkV s f i k
  ncn : s.cns.length ≤ 8
  cap : s.cns.length ≤ s.nc
  cn : ∀ c ∈ s.cns, ∃ i l, CnV s c i l

set_option maxRecDepth 100000 in
set_option maxHeartbeats 4000000 in
theorem schemaValidateG (s : Sc) (w : World) (hs : ScOk (· < w.heap.size) w s) (hv : SchG s)
    (hcc : ∀ (i : Nat) (h : i < s.cns.length) (W : World), Below w.heap.size w W → Calls Tryz.prog 83 #[.slice s.NA i s.nc, .agg (s.cns[i]'h).cells] W fun e w' => e = .returned (.bool false) ∧ Below W.heap.size W w') :
    Calls Tryz.prog 44 #[s.v] w fun e w' => e = .returned (.int .i64 0) ∧ Below w.heap.size w w' := by
  have HS := Lib.hid hs
  have HV := Lib.hid hv
  have HCX := Lib.hid hcc
  have HVF := Lib.hid fun W (hW : Below w.heap.size w W) f (hf : f ∈ s.fks) => validateFk s f _ _ W (hs.on hW) ((hs.on hW).fk f hf) (hv.fk f hf).2.choose_spec.choose_spec (by have := hv.ntab; omega) (hv.fk f hf).1
  have HVC := Lib.hid fun W (hW : Below w.heap.size w W) c (hc : c ∈ s.cns) => validateCn s c _ _ W (hs.on hW) (hv.cn c hc).choose_spec.choose_spec (by have := hv.ntab; omega)
  obtain ⟨w1, hw1⟩ : ∃ w1, w1 = w.alloc (.cells s.cells 27) := ⟨_, rfl⟩
  have hb1 : Below w.heap.size w w1 := by rw [hw1]; exact (Below.refl _ _).alloc (Nat.le_refl _) _
  have hg0 : w1.heap[w.heap.size]? = some (.cells s.cells 27 (0, 0)) := by rw [hw1]; exact heap_alloc_new w _
  have hs1 : w.heap.size < w1.heap.size := by rw [hw1]; simp
  obtain ⟨n, hn⟩ : ∃ n, s.tabs.length = n := ⟨_, rfl⟩
  obtain ⟨nf, hnf⟩ : ∃ n, s.fks.length = n := ⟨_, rfl⟩
  obtain ⟨nc, hnc⟩ : ∃ n, s.cns.length = n := ⟨_, rfl⟩
  have HBK : Hid (∀ W, Below w1.heap.size w1 W → W.cell? ⟨w.heap.size, 0, none⟩ = some (.slice s.TA n s.tc) ∧ W.cell? ⟨w.heap.size, 1, none⟩ = some (.slice s.FA nf s.fc) ∧ W.cell? ⟨w.heap.size, 2, none⟩ = some (.slice s.NA nc s.nc)) := Lib.hid fun W hW => by
    have h0 := (hW.block w.heap.size hs1).trans hg0
    unfold Sc.cells at h0
    rw [hn, hnf, hnc] at h0
    exact ⟨by rw [cell_of_row _ _ _ _ _ _ h0]; rfl, by rw [cell_of_row _ _ _ _ _ _ h0]; rfl, by rw [cell_of_row _ _ _ _ _ _ h0]; rfl⟩
  have HB1 := Lib.hid hb1
  have HW1 := Lib.hid hw1
  have HSZ := Lib.hid hs1
  have HN := Lib.hid (And.intro hn (And.intro hnf hnc))
  have hn6 : n ≤ 6 := by rw [← hn]; exact hv.ntab
  have hnf1 : nf ≤ 1 := by rw [← hnf]; exact hv.nfk
  have hnc1 : nc ≤ 8 := by rw [← hnc]; exact hv.ncn
  have hcap : nc ≤ s.nc := by rw [← hnc]; exact hv.cap
  obtain ⟨c0, c1, c2⟩ := HBK.out w1 (Below.refl _ _)
  unfold Sc.cells at HW1
  unfold Sc.v Sc.cells at HVF HVC ⊢
  rw [hn, hnf, hnc] at HVF HVC HW1 ⊢
  clear hs hv hcc hw1 hb1 hg0 hs1 hn hnf hnc
  obtain ⟨TA, tc, tabs, FA, fc, fks, NA, ncc, cns⟩ := s
  simp only at *
  have hn6' : (n : Int) ≤ 6 := by omega
  have hnf8 : (nf : Int) ≤ 8 := by omega
  have hnc8 : (nc : Int) ≤ 8 := by omega
  go_enter Tryz.func44, Tryz.ntmps44
  go_upto_region 1 with fail
  rw [← HW1.out]
  go_wp2_with fail
  go_loopw [31] (fun vi wr => ∃ k : Nat, vi = .int .i64 (k : Int) ∧ k ≤ n ∧ Below w1.heap.size w1 wr) (fun vi _ => n - (intOf vi).toNat)
  case atStart => exact ⟨0, rfl, by omega, Below.refl _ _⟩
  case round =>
    obtain ⟨k, rfl, hkn, hb⟩ := hrel
    obtain ⟨wo, rfl⟩ : ∃ wo, wo = wr := ⟨_, rfl⟩
    have hbw : Below w.heap.size w wo := HB1.out.trans (hb.mono HB1.out.size)
    by_cases hlt : k < n
    · have hki : k < tabs.length := by have := HN.out.1; omega
      have htb := (HS.out.on hbw).tabs
      obtain ⟨b, off, hA, hbl, e0, e1, e2⟩ := htb.tbl hki
      have hA : TA = some ⟨b, off, none⟩ := hA
      have hvt := HV.out.tab _ (List.getElem_mem hki)
      have htok := (HS.out.on hbw).tab _ (List.getElem_mem hki)
      have hba : ∀ o, Below wo.heap.size wo (wo.alloc o) := fun o => (Below.refl _ _).alloc (Nat.le_refl _) o
      have HVT := Lib.hid fun o => validateTable tabs[k] (wo.alloc o) (htok.on (hba o)) hvt
      obtain ⟨f0, f1, f2⟩ := HBK.out wo hb
      have HBO := Lib.hid (And.intro hb hbw)
      have HBA := Lib.hid hba
      have hlt' : (k : Int) < (n : Int) := by omega
      rw [hA] at f0 ⊢
      clear hvt htok hba hb hbw hbl
      by_cases hk0 : k = 0
      · subst hk0
        generalize tabs[0] = t at *
        obtain ⟨tn, tCA, tcc, tcols, tPA, tpc, tpk⟩ := t
        unfold Tbl.val at HVT
        simp only at *
        rw [Nat.zero_mul, Nat.add_zero] at e0 e1 e2
        clear htb
        go_wp2_with fail
        refine (HVT.out _).mono ?_
        rintro e w3 ⟨rfl, hb3⟩
        have hbo : Below wo.heap.size wo w3 := (HBA.out _).trans (hb3.mono (HBA.out _).size)
        have HB3 := Lib.hid (HBO.out.1.trans (hbo.mono HBO.out.1.size))
        clear hb3 hbo
        go_wp2_with fail
        go_quiet (fail)
        go_wp2_with fail
        go_roundw
        case rel => exact ⟨1, by go_num, by omega, below_drewN HB3.out _⟩
        case measure => simp [intOf]; omega
      · obtain ⟨i, rfl⟩ : ∃ i, k = i + 1 := ⟨k - 1, by omega⟩
        have hii : i < tabs.length := by omega
        obtain ⟨b', off', hA', -, z0, -, -⟩ := htb.tbl hii
        rw [hA] at hA'
        injection hA' with hA'
        injection hA' with h1 h2
        subst h1 h2
        obtain ⟨hor1, hor2⟩ := HV.out.ord i hki
        simp only at hor1 hor2
        have HPV : Hid (∀ W, Below wo.heap.size wo W → W.cell? ⟨b, off + i * 3, none⟩ = some (.string tabs[i].name)) := Lib.hid fun W hW => by
          obtain ⟨b'', off'', hA'', -, y0, -, -⟩ := ((HS.out.on (HBO.out.2.trans (hW.mono HBO.out.2.size))).tabs).tbl hii
          have hA'' : TA = some ⟨b'', off'', none⟩ := hA''
          rw [hA] at hA''
          injection hA'' with hA''
          injection hA'' with h1 h2
          subst h1 h2
          exact y0
        have HBKA : Hid (∀ W, Below wo.heap.size wo W → W.cell? ⟨w.heap.size, 0, none⟩ = some (.slice (some ⟨b, off, none⟩) n tc)) := Lib.hid fun W hW => by
          have h := (HBK.out W (HBO.out.1.trans (hW.mono HBO.out.1.size))).1
          rwa [hA] at h
        clear htb z0
        generalize tabs[i].name = pn at *
        generalize tabs[i + 1] = t at *
        obtain ⟨tn, tCA, tcc, tcols, tPA, tpc, tpk⟩ := t
        unfold Tbl.val at HVT
        simp only at *
        have hj1 : (0 : Int) < ((i + 1 : Nat) : Int) := by omega
        have hj2 : ((i + 1 : Nat) : Int) - 1 = (i : Int) := by omega
        have hj3 : (i : Int) < (n : Int) := by omega
        go_wp2_with fail
        refine (HVT.out _).mono ?_
        rintro e w3 ⟨rfl, hb3⟩
        have hbo : Below wo.heap.size wo w3 := (HBA.out _).trans (hb3.mono (HBA.out _).size)
        have hcv : w3.heap[wo.heap.size]? = some (.cells #[.string tn, .slice tCA tcols.length tcc, .slice tPA tpk.length tpc] 71 (0, 0)) := (hb3.block wo.heap.size (by simp)).trans (heap_alloc_new wo _)
        have v0 : w3.cell? ⟨wo.heap.size, 0, none⟩ = some (.string tn) := by rw [cell_of_row _ _ _ _ _ _ hcv]; rfl
        have v1 := HPV.out w3 hbo
        have v2 := HBKA.out w3 hbo
        have HB3 := Lib.hid (HBO.out.1.trans (hbo.mono HBO.out.1.size))
        clear hb3 hbo hcv
        go_wp2_with fail
        go_quiet (fail)
        go_wp2_with fail
        go_roundw
        case rel => exact ⟨i + 1 + 1, by go_num, by omega, below_drewN HB3.out _⟩
        case measure => simp [intOf]; omega
    · have hkn' : k = n := by omega
      subst hkn'
      obtain ⟨f0, f1, f2⟩ := HBK.out wo hb
      have HBO := Lib.hid hb
      clear hb hbw
      go_wp2_with fail
      go_loopw [59] (fun vi wr => ∃ j : Nat, vi = .int .i64 (j : Int) ∧ j ≤ nf ∧ Below w1.heap.size w1 wr) (fun vi _ => nf - (intOf vi).toNat)
      case atStart => exact ⟨0, rfl, by omega, HBO.out⟩
      case round =>
        obtain ⟨j, rfl, hjn, hb⟩ := hrel
        obtain ⟨wi, rfl⟩ : ∃ wi, wi = wr := ⟨_, rfl⟩
        have hbw : Below w.heap.size w wi := HB1.out.trans (hb.mono HB1.out.size)
        by_cases hlt : j < nf
        · have hj0 : j = 0 := by omega
          subst hj0
          have hji : 0 < fks.length := by have := HN.out.2.1; omega
          obtain ⟨b, off, hA, hbl, e0, e1, e2⟩ := (HS.out.on hbw).fks.fkm hji
          have hA : FA = some ⟨b, off, none⟩ := hA
          have hba : ∀ o, Below wi.heap.size wi (wi.alloc o) := fun o => (Below.refl _ _).alloc (Nat.le_refl _) o
          have HVT := Lib.hid fun o => HVF.out (wi.alloc o) (hbw.trans ((hba o).mono hbw.size)) fks[0] (List.getElem_mem hji)
          obtain ⟨g0, g1, g2⟩ := HBK.out wi hb
          have g0a := fun o => (HBK.out (wi.alloc o) (hb.trans ((hba o).mono hb.size))).1
          have g1a := fun o => (HBK.out (wi.alloc o) (hb.trans ((hba o).mono hb.size))).2.1
          have g2a := fun o => (HBK.out (wi.alloc o) (hb.trans ((hba o).mono hb.size))).2.2
          have HBI := Lib.hid (And.intro hb hbw)
          have HBA := Lib.hid hba
          have hlt' : (0 : Int) < (nf : Int) := by omega
          have hcapf : (0 : Int) ≤ (fc : Int) := by omega
          clear hb hbw hba hbl
          generalize fks[0] = f at *
          obtain ⟨fn, fA, fcc, fcols, fr⟩ := f
          unfold FkM.val at HVT
          simp only at *
          rw [Nat.zero_mul, Nat.add_zero] at e0 e1 e2
          rw [hA] at g1 HVT g1a ⊢
          clear hA
          go_wp2_with fail
          refine (HVT.out _).mono ?_
          rintro e w3 ⟨rfl, hb3⟩
          have hbo : Below wi.heap.size wi w3 := (HBA.out _).trans (hb3.mono (HBA.out _).size)
          have hb13 := HBI.out.1.trans (hbo.mono HBI.out.1.size)
          obtain ⟨y0, y1, y2⟩ := HBK.out w3 hb13
          have HB3 := Lib.hid hb13
          clear hb3 hbo hb13
          go_wp2_with fail
          refine (containsFk0 _ _ _ _).mono ?_
          rintro e w4 ⟨rfl, rfl⟩
          go_wp2_with fail
          go_roundw
          case rel => exact ⟨1, by go_num, by omega, HB3.out⟩
          case measure => simp [intOf]; omega
        · have hjn' : j = nf := by omega
          subst hjn'
          obtain ⟨g0, g1, g2⟩ := HBK.out wi hb
          have HBI := Lib.hid hb
          clear hb hbw
          go_wp2_with fail
          go_loopw [80] (fun vi wr => ∃ i : Nat, vi = .int .i64 (i : Int) ∧ i ≤ nc ∧ Below w1.heap.size w1 wr) (fun vi _ => nc - (intOf vi).toNat)
          case atStart => exact ⟨0, rfl, by omega, HBI.out⟩
          case round =>
            obtain ⟨i, rfl, hin, hb⟩ := hrel
            obtain ⟨wj, rfl⟩ : ∃ wj, wj = wr := ⟨_, rfl⟩
            have hbw : Below w.heap.size w wj := HB1.out.trans (hb.mono HB1.out.size)
            by_cases hlt3 : i < nc
            · have hji : i < cns.length := by have := HN.out.2.2; omega
              have hcapi : (i : Int) ≤ (ncc : Int) := by omega
              obtain ⟨b, off, hA, hbl, e0, e1, e2, e3, e4, e5, e6⟩ := (HS.out.on hbw).cns.cn hji
              have hA : NA = some ⟨b, off, none⟩ := hA
              have hba : ∀ o, Below wj.heap.size wj (wj.alloc o) := fun o => (Below.refl _ _).alloc (Nat.le_refl _) o
              have HVT := Lib.hid fun o => HVC.out (wj.alloc o) (hbw.trans ((hba o).mono hbw.size)) cns[i] (List.getElem_mem hji)
              obtain ⟨k0, k1, k2⟩ := HBK.out wj hb
              have k0a := fun o => (HBK.out (wj.alloc o) (hb.trans ((hba o).mono hb.size))).1
              have k1a := fun o => (HBK.out (wj.alloc o) (hb.trans ((hba o).mono hb.size))).2.1
              have k2a := fun o => (HBK.out (wj.alloc o) (hb.trans ((hba o).mono hb.size))).2.2
              have HBJ := Lib.hid (And.intro hb hbw)
              have HBA := Lib.hid hba
              have hlt' : (i : Int) < (nc : Int) := by omega
              clear hb hbw hba hbl
              have HCC := Lib.hid fun W (hW : Below w.heap.size w W) => HCX.out i hji W hW
              generalize cns[i] = cn at *
              obtain ⟨cnm, cl, cop, cr, cvk, cvi, cvt⟩ := cn
              unfold Cn.cells at HVT HCC
              simp only at *
              rw [hA] at k2 HVT k2a HCC ⊢
              clear hA
              go_wp2_with fail
              refine (HVT.out _).mono ?_
              rintro e w3 ⟨rfl, hb3⟩
              have hbo : Below wj.heap.size wj w3 := (HBA.out _).trans (hb3.mono (HBA.out _).size)
              have hb13 := HBJ.out.1.trans (hbo.mono HBJ.out.1.size)
              obtain ⟨y0, y1, y2⟩ := HBK.out w3 hb13
              have hcv : w3.heap[wj.heap.size]? = some (.cells #[.string cnm, .int .i64 cl, .string cop, .int .i64 cr, .int .i64 cvk, .int .i64 cvi, .string cvt] 62 (0, 0)) := (hb3.block wj.heap.size (by simp)).trans (heap_alloc_new wj _)
              have v0 : w3.cell? ⟨wj.heap.size, 0, none⟩ = some (.string cnm) := by rw [cell_of_row _ _ _ _ _ _ hcv]; rfl
              have v1 : w3.cell? ⟨wj.heap.size, 1, none⟩ = some (.int .i64 cl) := by rw [cell_of_row _ _ _ _ _ _ hcv]; rfl
              have v2 : w3.cell? ⟨wj.heap.size, 2, none⟩ = some (.string cop) := by rw [cell_of_row _ _ _ _ _ _ hcv]; rfl
              have v3 : w3.cell? ⟨wj.heap.size, 3, none⟩ = some (.int .i64 cr) := by rw [cell_of_row _ _ _ _ _ _ hcv]; rfl
              have v4 : w3.cell? ⟨wj.heap.size, 4, none⟩ = some (.int .i64 cvk) := by rw [cell_of_row _ _ _ _ _ _ hcv]; rfl
              have v5 : w3.cell? ⟨wj.heap.size, 5, none⟩ = some (.int .i64 cvi) := by rw [cell_of_row _ _ _ _ _ _ hcv]; rfl
              have v6 : w3.cell? ⟨wj.heap.size, 6, none⟩ = some (.string cvt) := by rw [cell_of_row _ _ _ _ _ _ hcv]; rfl
              have HB3 := Lib.hid hb13
              have HBW3 := Lib.hid (below_drewN (HBJ.out.2.trans (hbo.mono HBJ.out.2.size)) 1)
              clear hb3 hbo hb13 hcv
              go_upto_region 27 with fail
              go_region_law (first
                | (go_simp; go_at_call 83; refine (HCC.out (w3.drewN 1) HBW3.out).mono ?_; rintro e w4 ⟨rfl, hb4⟩))
              all_goals
                have HB4 := Lib.hid ((below_drewN HB3.out 1).trans (hb4.mono (below_drewN HB3.out 1).size))
                clear hb4
                go_wp2_with fail
                go_roundw
                case rel => exact ⟨i + 1, by go_num, by omega, HB4.out⟩
                case measure => simp [intOf]; omega
            · have hin' : i = nc := by omega
              subst hin'
              have HBE := Lib.hid hbw
              clear hb hbw
              go_wp2_with fail
              go_ret
              exact ⟨rfl, HBE.out⟩
end Go.Proofs.YtefifkleamiabaaGreatDoor

namespace Go.Proofs.YtefifkleamiabaaGreatDoor
open Go.RowKit Go.Sort

/-- A schema that the reference takes for valid by this walk. -/
structure RefG (s : Sc) : Prop where
  val : SchG s
  one : s.fks.length = 1
  pk : ∀ t ∈ s.tabs, t.pk = [0]
  nd : ∀ t ∈ s.tabs, (t.cols.map Col.name).Nodup
  less : ∀ (i : Nat) (h : i + 1 < s.tabs.length), Op.bytesLess s.tabs[i].name.toList s.tabs[i + 1].name.toList = true
  fk : ∀ f ∈ s.fks, f.name.size < 10 ∧ f.ref.size < 10 ∧ f.cols.length ≤ 6 ∧ ∀ c ∈ f.cols, 0 ≤ c ∧ c < 10
  ne : ∀ (i j : Nat) (hi : i < s.cns.length) (hj : j < s.cns.length), j < i → ∀ W, (binOp .eql 62 (.agg s.cns[j].cells) (.agg s.cns[i].cells)).run Tryz.prog W = .ok (.bool false) W

set_option maxRecDepth 100000 in
set_option maxHeartbeats 8000000 in
theorem rValidateSchemaG (s : Sc) (w : World) (hs : ScOk (· < w.heap.size) w s) (hr : RefG s) :
    Calls Tryz.prog 27 #[s.v] w fun e w' => e = .returned (.int .i64 0) ∧ Below w.heap.size w w' := by
  obtain ⟨n, hn⟩ : ∃ n, s.tabs.length = n := ⟨_, rfl⟩
  obtain ⟨n2, hn2⟩ : ∃ n2, s.fks.length = n2 := ⟨_, rfl⟩
  obtain ⟨n3, hn3⟩ : ∃ n3, s.cns.length = n3 := ⟨_, rfl⟩
  have hn6 : n ≤ 6 := by rw [← hn]; exact hr.val.ntab
  obtain rfl : n2 = 1 := by rw [← hn2]; exact hr.one
  have hn31 : n3 ≤ 8 := by rw [← hn3]; exact hr.val.ncn
  have hcap : n3 ≤ s.nc := by rw [← hn3]; exact hr.val.cap
  obtain ⟨w1, hw1⟩ : ∃ w1, w1 = w.alloc (.cells #[.slice s.TA n s.tc, .slice s.FA 1 s.fc, .slice s.NA n3 s.nc] 27) := ⟨_, rfl⟩
  have hb1 : Below w.heap.size w w1 := by rw [hw1]; exact (Below.refl _ _).alloc (Nat.le_refl _) _
  have hg1 : w1.heap[w.heap.size]? = some (.cells #[.slice s.TA n s.tc, .slice s.FA 1 s.fc, .slice s.NA n3 s.nc] 27 (0, 0)) := by rw [hw1]; exact heap_alloc_new w _
  have hs1 : w.heap.size < w1.heap.size := by rw [hw1]; simp
  have HBK : Hid (∀ W, Below w1.heap.size w1 W → W.cell? ⟨w.heap.size, 0, none⟩ = some (.slice s.TA n s.tc) ∧ W.cell? ⟨w.heap.size, 1, none⟩ = some (.slice s.FA 1 s.fc) ∧ W.cell? ⟨w.heap.size, 2, none⟩ = some (.slice s.NA n3 s.nc)) := Lib.hid fun W hW => by
    have h := (hW.block w.heap.size hs1).trans hg1
    exact ⟨cell_of_row _ _ 0 _ _ _ h, cell_of_row _ _ 1 _ _ _ h, cell_of_row _ _ 2 _ _ _ h⟩
  have HTV := Lib.hid fun W (hW : Below w.heap.size w W) t (ht : t ∈ s.tabs) => rValidateTable t W ((hs.on hW).tab t ht) (hr.val.tab t ht) (hr.nd t ht) (hr.pk t ht)
  have HFV := Lib.hid fun W (hW : Below w.heap.size w W) f (hf : f ∈ s.fks) => rValidateFk s f _ _ W (hs.on hW) ((hs.on hW).fk f hf) (hr.val.fk f hf).2.choose_spec.choose_spec (by omega) (hr.val.fk f hf).1
  have HFI := Lib.hid fun W (hW : Below w.heap.size w W) f (hf : f ∈ s.fks) => foreignKeyIDW f W ((hs.on hW).fk f hf) (hr.fk f hf).1 (hr.fk f hf).2.1 (hr.fk f hf).2.2.1 (hr.fk f hf).2.2.2
  have HCV := Lib.hid fun W (hW : Below w.heap.size w W) c (hc : c ∈ s.cns) => rValidateCn s c _ _ W (hs.on hW) (hr.val.cn c hc).choose_spec.choose_spec (by omega)
  have HSC := Lib.hid hs
  have HR := Lib.hid hr
  have HN := Lib.hid (And.intro hn (And.intro hn2 hn3))
  have HB1 := Lib.hid hb1
  have HW1 := Lib.hid hw1
  have hmm := @run_makeMap Tryz.prog
  obtain ⟨c0, c1, c2⟩ := HBK.out w1 (Below.refl _ _)
  unfold Sc.v Sc.cells at HFV HCV ⊢
  rw [hn, hn2, hn3] at HFV HCV ⊢
  clear hs hr hn hn2 hn3 hw1 hb1 hg1 hs1
  go_enter Tryz.func27, Tryz.ntmps27
  go_upto_region 1 with fail
  rw [← HW1.out]
  go_wp2_with fail
  go_loopw [35] (fun vi wr => ∃ k : Nat, vi = .int .i64 (k : Int) ∧ k ≤ n ∧ Below w1.heap.size w1 wr) (fun vi _ => n - (intOf vi).toNat)
  case atStart => exact ⟨0, rfl, by omega, Below.refl _ _⟩
  case round =>
    obtain ⟨k, rfl, hkn, hb⟩ := hrel
    obtain ⟨wo, rfl⟩ : ∃ wo, wo = wr := ⟨_, rfl⟩
    have hbw := HB1.out.trans (hb.mono HB1.out.size)
    by_cases hlt : k < n
    · have hkt : k < s.tabs.length := by have := HN.out.1; omega
      obtain ⟨tb, toff, hTA, -, p0, p1, p2⟩ := (HSC.out.on hbw).tabs.tbl hkt
      obtain ⟨w5, hw5⟩ : ∃ w5, w5 = wo.alloc (.cells #[.string s.tabs[k].name, .slice s.tabs[k].CA s.tabs[k].cols.length s.tabs[k].cc, .slice s.tabs[k].PA s.tabs[k].pk.length s.tabs[k].pc] 71) := ⟨_, rfl⟩
      have hb5 : Below wo.heap.size wo w5 := by rw [hw5]; exact (Below.refl _ _).alloc (Nat.le_refl _) _
      have hg5 : w5.heap[wo.heap.size]? = some (.cells #[.string s.tabs[k].name, .slice s.tabs[k].CA s.tabs[k].cols.length s.tabs[k].cc, .slice s.tabs[k].PA s.tabs[k].pk.length s.tabs[k].pc] 71 (0, 0)) := by rw [hw5]; exact heap_alloc_new wo _
      have hs5 : wo.heap.size < w5.heap.size := by rw [hw5]; simp
      have HTB : Hid (∀ W, Below w5.heap.size w5 W → W.cell? ⟨wo.heap.size, 0, none⟩ = some (.string s.tabs[k].name) ∧ W.cell? ⟨wo.heap.size, 1, none⟩ = some (.slice s.tabs[k].CA s.tabs[k].cols.length s.tabs[k].cc) ∧ W.cell? ⟨wo.heap.size, 2, none⟩ = some (.slice s.tabs[k].PA s.tabs[k].pk.length s.tabs[k].pc)) := Lib.hid fun W hW => by
        have h := (hW.block wo.heap.size hs5).trans hg5
        exact ⟨cell_of_row _ _ 0 _ _ _ h, cell_of_row _ _ 1 _ _ _ h, cell_of_row _ _ 2 _ _ _ h⟩
      obtain ⟨y0, y1, y2⟩ := HTB.out w5 (Below.refl _ _)
      have HB5 := Lib.hid (And.intro (hb.trans (hb5.mono hb.size)) (hbw.trans (hb5.mono hbw.size)))
      have HVT := Lib.hid (HTV.out w5 HB5.out.2 _ (List.getElem_mem hkt))
      unfold Tbl.val at HVT
      have HW5 := Lib.hid hw5
      have hlt' : (k : Int) < (n : Int) := by omega
      have HTA := Lib.hid hTA
      rw [hTA]
      clear hb hbw hw5 hb5 hg5 hs5 hTA
      go_upto_region 6 with fail
      rw [← HW5.out]
      go_wp2_with fail
      refine HVT.out.mono ?_
      rintro e w6 ⟨rfl, hb6⟩
      have HB6 := Lib.hid (And.intro (HB5.out.1.trans (hb6.mono HB5.out.1.size)) (HB5.out.2.trans (hb6.mono HB5.out.2.size)))
      clear y0 y1 y2 c0 c1 c2 p0 p1 p2
      obtain ⟨y0, y1, y2⟩ := HTB.out w6 hb6
      clear hb6
      obtain ⟨c0, c1, c2⟩ := HBK.out w6 HB6.out.1
      rw [HTA.out] at c0
      by_cases hk0 : k = 0
      · have hk1 : ¬ (0 : Int) < (k : Int) := by omega
        go_upto_region 9 with fail
        go_quiet (fail)
        go_wp2_with fail
        go_roundw
        case rel => exact ⟨k + 1, by go_num, by omega, below_drewN HB6.out.1 _⟩
        case measure => simp [intOf]; omega
      · obtain ⟨j, rfl⟩ : ∃ j, k = j + 1 := ⟨k - 1, by omega⟩
        have hjt : j < s.tabs.length := by omega
        obtain ⟨tb', toff', e, -, q0, -, -⟩ := (HSC.out.on HB6.out.2).tabs.tbl hjt
        rw [HTA.out] at e
        injection e with e
        injection e with e1 e2
        subst e1 e2
        have hless := HR.out.less j hkt
        have hk1 : (0 : Int) < ((j + 1 : Nat) : Int) := by omega
        have hj2 : ((j + 1 : Nat) : Int) - 1 = (j : Int) := by omega
        have hjn : (j : Int) < (n : Int) := by omega
        generalize s.tabs[j].name = nmj at *
        generalize s.tabs[j + 1].name = nmk at *
        go_upto_region 9 with fail
        go_quiet (fail)
        go_wp2_with fail
        go_roundw
        case rel => exact ⟨j + 1 + 1, by go_num, by omega, below_drewN HB6.out.1 _⟩
        case measure => simp [intOf]; omega
    · have hkn' : k = n := by omega
      subst hkn'
      have hbw2 := hbw
      clear c0 c1 c2
      obtain ⟨c0, c1, c2⟩ := HBK.out wo hb
      obtain ⟨w3, hw3⟩ : ∃ w3, w3 = wo.alloc (.map #[] 0) := ⟨_, rfl⟩
      have hb3 : Below wo.heap.size wo w3 := by rw [hw3]; exact (Below.refl _ _).alloc (Nat.le_refl _) _
      have HM0 : Hid (SMap w3 wo.heap.size []) := Lib.hid (by rw [hw3]; exact SMap.made wo)
      have HW3 := Lib.hid hw3
      have HB3 := Lib.hid (And.intro (hb.trans (hb3.mono hb.size)) (hbw.trans (hb3.mono hbw.size)))
      have HMB : Hid (w1.heap.size ≤ wo.heap.size) := Lib.hid hb.size
      clear hw3 hb3 hb hbw hbw2
      go_upto_region 13 with fail
      rw [← HW3.out]
      obtain ⟨mb, hmb⟩ : ∃ mb, mb = wo.heap.size := ⟨_, rfl⟩
      rw [← hmb] at HM0 HMB ⊢
      clear hmb c0 c1 c2 hmm
      obtain ⟨c0, c1, c2⟩ := HBK.out w3 HB3.out.1
      go_wp2_with fail
      go_loopw [64] (fun vi wr => (vi = .int .i64 0 ∧ w3 = wr) ∨ (vi = .int .i64 1 ∧ Below w1.heap.size w1 wr)) (fun vi _ => 1 - (intOf vi).toNat)
      case atStart => exact .inl ⟨rfl, rfl⟩
      case round =>
        rcases hrel with ⟨rfl, rfl⟩ | ⟨rfl, hcut⟩
        · have hft : 0 < s.fks.length := by have := HN.out.2.1; omega
          obtain ⟨fb, fo, hFA, -, p0, p1, p2⟩ := (HSC.out.on HB3.out.2).fks.fkm hft
          rw [Nat.zero_mul, Nat.add_zero] at p0 p1 p2
          obtain ⟨w5, hw5⟩ : ∃ w5, w5 = w3.alloc (.cells #[.string s.fks[0].name, .slice s.fks[0].A s.fks[0].cols.length s.fks[0].c, .string s.fks[0].ref] 73) := ⟨_, rfl⟩
          have hb5 : Below w3.heap.size w3 w5 := by rw [hw5]; exact (Below.refl _ _).alloc (Nat.le_refl _) _
          have hg5 : w5.heap[w3.heap.size]? = some (.cells #[.string s.fks[0].name, .slice s.fks[0].A s.fks[0].cols.length s.fks[0].c, .string s.fks[0].ref] 73 (0, 0)) := by rw [hw5]; exact heap_alloc_new w3 _
          have hs5 : w3.heap.size < w5.heap.size := by rw [hw5]; simp
          have HFB : Hid (∀ W, Below w5.heap.size w5 W → W.cell? ⟨w3.heap.size, 0, none⟩ = some (.string s.fks[0].name) ∧ W.cell? ⟨w3.heap.size, 1, none⟩ = some (.slice s.fks[0].A s.fks[0].cols.length s.fks[0].c) ∧ W.cell? ⟨w3.heap.size, 2, none⟩ = some (.string s.fks[0].ref)) := Lib.hid fun W hW => by
            have h := (hW.block w3.heap.size hs5).trans hg5
            exact ⟨cell_of_row _ _ 0 _ _ _ h, cell_of_row _ _ 1 _ _ _ h, cell_of_row _ _ 2 _ _ _ h⟩
          have HB5 := Lib.hid (And.intro (HB3.out.1.trans (hb5.mono HB3.out.1.size)) (HB3.out.2.trans (hb5.mono HB3.out.2.size)))
          have HM5 := Lib.hid (HM0.out.below hb5)
          have HV5 := Lib.hid (HFV.out w5 HB5.out.2 _ (List.getElem_mem hft))
          have HI5 := Lib.hid fun W (hW : Below w.heap.size w W) => HFI.out W hW _ (List.getElem_mem hft)
          unfold FkM.val at HV5 HI5
          have HW5 := Lib.hid hw5
          obtain ⟨y0, y1, y2⟩ := HFB.out w5 (Below.refl _ _)
          have d0 := (HBK.out w5 HB5.out.1).1
          have d1 := (HBK.out w5 HB5.out.1).2.1
          have d2 := (HBK.out w5 HB5.out.1).2.2
          rw [hFA] at c1 d1 ⊢
          rw [hFA] at HV5
          have HFAH := Lib.hid hFA
          clear hw5 hb5 hg5 hs5 hFA
          go_upto_region 16 with fail
          rw [← HW5.out]
          go_wp2_with fail
          refine HV5.out.mono ?_
          rintro e w6 ⟨rfl, hb6⟩
          have HB6 := Lib.hid (And.intro (HB5.out.1.trans (hb6.mono HB5.out.1.size)) (HB5.out.2.trans (hb6.mono HB5.out.2.size)))
          have HM6 := Lib.hid (HM5.out.below hb6)
          clear y0 y1 y2 d0 d1 d2 c0 c1 c2 p0 p1 p2
          obtain ⟨y0, y1, y2⟩ := HFB.out w6 hb6
          clear hb6
          go_wp2_with fail
          refine (HI5.out w6 HB6.out.2).mono ?_
          rintro e w7 ⟨⟨t, rfl⟩, hb7⟩
          have HB7 := Lib.hid (HB6.out.1.trans (hb7.mono HB6.out.1.size))
          have hm7 := HM6.out.below hb7
          have hlk := hm7.look Tryz.underlying115 Tryz.underlying9 (zero_int w7) t
          replace hlk : (Instr.lookup 115 (.map (some mb)) (.string t) false).run Tryz.prog w7 = .ok (.int .i64 0) w7 := hlk
          obtain ⟨w8, hup, hm8, hgr⟩ := hm7.update Tryz.underlying115 Tryz.underlying9 t (.int .i64 1)
          have hl8 := hm8.look Tryz.underlying115 Tryz.underlying9 (zero_int w8) t
          rw [mget_put_same] at hl8
          replace hl8 : (Instr.lookup 115 (.map (some mb)) (.string t) false).run Tryz.prog w8 = .ok (.int .i64 1) w8 := hl8
          have HB8 := Lib.hid (HB7.out.trans (hm7.grown hgr HMB.out))
          clear hb7 hm7 hm8 hgr y0 y1 y2
          go_wp2_with fail
          go_roundw
          case rel => exact .inr ⟨by go_num, HB8.out⟩
          case measure => simp [intOf]
        · obtain ⟨w4, rfl⟩ : ∃ w4, w4 = wr := ⟨_, rfl⟩
          have HB4 := Lib.hid (And.intro hcut (HB1.out.trans (hcut.mono HB1.out.size)))
          clear hcut c0 c1 c2
          obtain ⟨c0, c1, c2⟩ := HBK.out w4 HB4.out.1
          go_wp2_with fail
          go_loopw [88] (fun vi wr => ∃ i : Nat, vi = .int .i64 (i : Int) ∧ i ≤ n3 ∧ Below w1.heap.size w1 wr) (fun vi _ => n3 - (intOf vi).toNat)
          case atStart => exact ⟨0, rfl, by omega, HB4.out.1⟩
          case round =>
            clear c0 c1 c2
            obtain ⟨i, rfl, hin, hb⟩ := hrel
            obtain ⟨wi, rfl⟩ : ∃ wi, wi = wr := ⟨_, rfl⟩
            by_cases hlt : i < n3
            · have hct : i < s.cns.length := by have := HN.out.2.2; omega
              have hlt' : (i : Int) < (n3 : Int) := by omega
              have hcapi : (i : Int) ≤ (s.nc : Int) := by omega
              have hbw : Below w.heap.size w wi := HB1.out.trans (hb.mono HB1.out.size)
              obtain ⟨fb, fo, hFA, -, p0, p1, p2, p3, p4, p5, p6⟩ := (HSC.out.on hbw).cns.cn hct
              have HNE : Hid (∀ (j : Nat) (hj : j < s.cns.length), j < i → ∀ W, (binOp .eql 62 (.agg s.cns[j].cells) (.agg s.cns[i].cells)).run Tryz.prog W = .ok (.bool false) W) := Lib.hid fun j hj hji => HR.out.ne i j hct hj hji
              have HMEM : Hid (s.cns[i] ∈ s.cns) := Lib.hid (List.getElem_mem hct)
              generalize s.cns[i] = cn at *
              obtain ⟨w5, hw5⟩ : ∃ w5, w5 = wi.alloc (.cells #[.string cn.name, .int .i64 cn.left, .string cn.op, .int .i64 cn.right, .int .i64 cn.val.kind, .int .i64 cn.val.int, .string cn.val.text] 62) := ⟨_, rfl⟩
              have hb5 : Below wi.heap.size wi w5 := by rw [hw5]; exact (Below.refl _ _).alloc (Nat.le_refl _) _
              have hg5 : w5.heap[wi.heap.size]? = some (.cells #[.string cn.name, .int .i64 cn.left, .string cn.op, .int .i64 cn.right, .int .i64 cn.val.kind, .int .i64 cn.val.int, .string cn.val.text] 62 (0, 0)) := by rw [hw5]; exact heap_alloc_new wi _
              have hs5 : wi.heap.size < w5.heap.size := by rw [hw5]; simp
              have y0 := cell_of_row _ _ 0 _ _ _ hg5
              have y1 := cell_of_row _ _ 1 _ _ _ hg5
              have y2 := cell_of_row _ _ 2 _ _ _ hg5
              have y3 := cell_of_row _ _ 3 _ _ _ hg5
              have y4 := cell_of_row _ _ 4 _ _ _ hg5
              have y5 := cell_of_row _ _ 5 _ _ _ hg5
              have y6 := cell_of_row _ _ 6 _ _ _ hg5
              have HB5 := Lib.hid (And.intro (hb.trans (hb5.mono hb.size)) (And.intro (hbw.trans (hb5.mono hbw.size)) (And.intro hg5 hs5)))
              have HV5 := Lib.hid (HCV.out w5 HB5.out.2.1 _ HMEM.out)
              unfold Cn.cells at HV5
              obtain ⟨c0, c1, c2⟩ := HBK.out wi hb
              obtain ⟨d0, d1, d2⟩ := HBK.out w5 HB5.out.1
              rw [hFA] at c2 d2 HV5 ⊢
              have HFAH := Lib.hid hFA
              have HW5 := Lib.hid hw5
              clear hw5 hb5 hg5 hs5 hFA hb hbw
              go_upto_region 27 with fail
              rw [← HW5.out]
              go_wp2_with fail
              refine HV5.out.mono ?_
              rintro e w6 ⟨rfl, hb6⟩
              have HB6 := Lib.hid (And.intro (HB5.out.1.trans (hb6.mono HB5.out.1.size)) hb6)
              clear y0 y1 y2 y3 y4 y5 y6 d0 d1 d2 c0 c1 c2 p0 p1 p2 p3 p4 p5 p6 hb6
              obtain ⟨c0, c1, c2⟩ := HBK.out w6 HB6.out.1
              rw [HFAH.out] at c2
              go_wp2_with fail
              go_loopw [104] (fun vj wr => ∃ j : Nat, vj = .int .i64 (j : Int) ∧ j ≤ i ∧ Below w5.heap.size w5 wr) (fun vj _ => i - (intOf vj).toNat)
              case atStart => exact ⟨0, rfl, by omega, HB6.out.2⟩
              case round =>
                clear c0 c1 c2
                obtain ⟨j, rfl, hji, hbj⟩ := hrel
                obtain ⟨wj, rfl⟩ : ∃ wj, wj = wr := ⟨_, rfl⟩
                by_cases hlj : j < i
                · have hcj : j < s.cns.length := by have := HN.out.2.2; omega
                  have hlj' : (j : Int) < (i : Int) := by omega
                  have hb0j := HB5.out.2.1.trans (hbj.mono HB5.out.2.1.size)
                  obtain ⟨fb', fo', hFA', -, p0, p1, p2, p3, p4, p5, p6⟩ := (HSC.out.on hb0j).cns.cn hcj
                  rw [HFAH.out] at hFA'
                  injection hFA' with hFA'
                  injection hFA' with h1 h2
                  subst h1 h2
                  have hne := HNE.out j hcj hlj
                  generalize s.cns[j] = co at *
                  unfold Cn.cells at hne
                  obtain ⟨w7, hw7⟩ : ∃ w7, w7 = wj.alloc (.cells #[.string co.name, .int .i64 co.left, .string co.op, .int .i64 co.right, .int .i64 co.val.kind, .int .i64 co.val.int, .string co.val.text] 62) := ⟨_, rfl⟩
                  have hb7 : Below wj.heap.size wj w7 := by rw [hw7]; exact (Below.refl _ _).alloc (Nat.le_refl _) _
                  have hg7 : w7.heap[wj.heap.size]? = some (.cells #[.string co.name, .int .i64 co.left, .string co.op, .int .i64 co.right, .int .i64 co.val.kind, .int .i64 co.val.int, .string co.val.text] 62 (0, 0)) := by rw [hw7]; exact heap_alloc_new wj _
                  have hb57 := hbj.trans (hb7.mono hbj.size)
                  have hg57 := (hb57.block _ HB5.out.2.2.2).trans HB5.out.2.2.1
                  have y0 := cell_of_row _ _ 0 _ _ _ hg57
                  have y1 := cell_of_row _ _ 1 _ _ _ hg57
                  have y2 := cell_of_row _ _ 2 _ _ _ hg57
                  have y3 := cell_of_row _ _ 3 _ _ _ hg57
                  have y4 := cell_of_row _ _ 4 _ _ _ hg57
                  have y5 := cell_of_row _ _ 5 _ _ _ hg57
                  have y6 := cell_of_row _ _ 6 _ _ _ hg57
                  have z0 := cell_of_row _ _ 0 _ _ _ hg7
                  have z1 := cell_of_row _ _ 1 _ _ _ hg7
                  have z2 := cell_of_row _ _ 2 _ _ _ hg7
                  have z3 := cell_of_row _ _ 3 _ _ _ hg7
                  have z4 := cell_of_row _ _ 4 _ _ _ hg7
                  have z5 := cell_of_row _ _ 5 _ _ _ hg7
                  have z6 := cell_of_row _ _ 6 _ _ _ hg7
                  have HF := Lib.hid hb57
                  have HW7 := Lib.hid hw7
                  clear hw7 hb7 hg7 hb57 hg57 hb0j hbj
                  go_upto_region 33 with fail
                  rw [← HW7.out]
                  go_wp2_with fail
                  go_roundw
                  case rel => exact ⟨j + 1, by go_num, by omega, HF.out⟩
                  case measure => simp [intOf]; omega
                · have hj : j = i := by omega
                  have HF := Lib.hid (HB5.out.1.trans (hbj.mono HB5.out.1.size))
                  clear hbj
                  go_wp2_with fail
                  go_roundw
                  case rel => exact ⟨i + 1, by go_num, by omega, HF.out⟩
                  case measure => simp [intOf]; omega
            · have hi : i = n3 := by omega
              subst hi
              have HF := Lib.hid (HB1.out.trans (hb.mono HB1.out.size))
              clear hb
              go_wp2_with fail
              go_ret
              exact ⟨rfl, HF.out⟩
end Go.Proofs.YtefifkleamiabaaGreatDoor

namespace Go.Proofs.YtefifkleamiabaaGreatDoor
open Go.RowKit Go.Sort

set_option maxRecDepth 100000 in
set_option maxHeartbeats 2000000 in
theorem indexCnNo (A : Option Addr) (c : Nat) (xs : List Cn) (v : Cn) (w : World) (hx : Elems 7 Cn.cs w (· < w.heap.size) A xs) (hl : xs.length ≤ 8) (hne : ∀ x ∈ xs, ∀ W, (binOp .eql 62 (.agg v.cells) (.agg x.cells)).run Tryz.prog W = .ok (.bool false) W) :
    Calls Tryz.prog 115 #[.slice A xs.length c, .agg v.cells] w fun e w' => e = .returned (.int .i64 (-1)) ∧ Below w.heap.size w w' := by
  obtain ⟨w1, hw1⟩ : ∃ w1, w1 = w.alloc (.cells #[.string v.name, .int .i64 v.left, .string v.op, .int .i64 v.right, .int .i64 v.val.kind, .int .i64 v.val.int, .string v.val.text] 62) := ⟨_, rfl⟩
  have hb1 : Below w.heap.size w w1 := by rw [hw1]; exact (Below.refl _ _).alloc (Nat.le_refl _) _
  have hg1 : w1.heap[w.heap.size]? = some (.cells #[.string v.name, .int .i64 v.left, .string v.op, .int .i64 v.right, .int .i64 v.val.kind, .int .i64 v.val.int, .string v.val.text] 62 (0, 0)) := by rw [hw1]; exact heap_alloc_new w _
  have HY := Lib.hid (And.intro hg1 (show w.heap.size < w1.heap.size by rw [hw1]; simp))
  have HX := Lib.hid (hx.of fun g hg => ⟨hb1.block g hg, Nat.lt_of_lt_of_le hg hb1.size⟩ : Elems 7 Cn.cs w1 (· < w1.heap.size) A xs)
  have HNE := Lib.hid hne
  obtain ⟨n, hn⟩ : ∃ n, xs.length = n := ⟨_, rfl⟩
  rw [hn] at hl ⊢
  have HN := Lib.hid hn
  have HB1 := Lib.hid hb1
  have HW1 := Lib.hid hw1
  unfold Cn.cells at HNE ⊢
  clear hx hne hn hw1 hb1 hg1
  go_enter Tryz.func115, Tryz.ntmps115
  go_upto_region 1 with fail
  rw [← HW1.out]
  go_wp2_with fail
  go_loopw [8] (fun vi wr => ∃ k : Nat, vi = .int .i64 (k : Int) ∧ k ≤ n ∧ Below w1.heap.size w1 wr) (fun vi _ => n - (intOf vi).toNat)
  case atStart => exact ⟨0, rfl, by omega, Below.refl _ _⟩
  case round =>
    obtain ⟨k, rfl, hkn, hb⟩ := hrel
    obtain ⟨wo, rfl⟩ : ∃ wo, wo = wr := ⟨_, rfl⟩
    by_cases hlt : k < n
    · have hki : k < xs.length := by have := HN.out; omega
      have hlt' : (k : Int) < (n : Int) := by omega
      obtain ⟨b, off, hA, -, p0, p1, p2, p3, p4, p5, p6⟩ := (HX.out.of fun g hg => ⟨hb.block g hg, Nat.lt_of_lt_of_le hg hb.size⟩ : Elems 7 Cn.cs wo (· < wo.heap.size) A xs).cn hki
      have hgo := (hb.block _ HY.out.2).trans HY.out.1
      have y0 := cell_of_row _ _ 0 _ _ _ hgo
      have y1 := cell_of_row _ _ 1 _ _ _ hgo
      have y2 := cell_of_row _ _ 2 _ _ _ hgo
      have y3 := cell_of_row _ _ 3 _ _ _ hgo
      have y4 := cell_of_row _ _ 4 _ _ _ hgo
      have y5 := cell_of_row _ _ 5 _ _ _ hgo
      have y6 := cell_of_row _ _ 6 _ _ _ hgo
      have HBO := Lib.hid hb
      clear hb hgo
      have hne := HNE.out _ (List.getElem_mem hki)
      generalize xs[k] = x at *
      rw [hA]
      go_wp2_with fail
      go_quiet (fail)
      go_wp2_with fail
      go_roundw
      case rel => exact ⟨k + 1, by go_num, by omega, below_drewN HBO.out _⟩
      case measure => simp [intOf]; omega
    · have hk : k = n := by omega
      subst hk
      have HF := Lib.hid (HB1.out.trans (hb.mono HB1.out.size))
      clear hb
      go_wp2_with fail
      go_ret
      exact ⟨rfl, HF.out⟩
set_option maxRecDepth 100000 in
theorem containsCnNo (A : Option Addr) (c : Nat) (xs : List Cn) (v : Cn) (w : World) (hx : Elems 7 Cn.cs w (· < w.heap.size) A xs) (hl : xs.length ≤ 8) (hne : ∀ x ∈ xs, ∀ W, (binOp .eql 62 (.agg v.cells) (.agg x.cells)).run Tryz.prog W = .ok (.bool false) W) :
    Calls Tryz.prog 83 #[.slice A xs.length c, .agg v.cells] w fun e w' => e = .returned (.bool false) ∧ Below w.heap.size w w' := by
  have HI := Lib.hid fun W (hW : Below w.heap.size w W) => indexCnNo A c xs v W (hx.of fun g hg => ⟨hW.block g hg, Nat.lt_of_lt_of_le hg hW.size⟩) hl hne
  have HB : Hid (∀ o, Below w.heap.size w (w.alloc o)) := Lib.hid fun o => (Below.refl _ _).alloc (Nat.le_refl _) o
  unfold Cn.cells at HI ⊢
  generalize xs.length = n at *
  clear hx hl hne
  go_enter Tryz.func83, Tryz.ntmps83
  go_wp2_with fail
  refine (HI.out _ (HB.out _)).mono ?_
  rintro e w' ⟨rfl, hb⟩
  have HBR := Lib.hid ((HB.out _).trans (hb.mono (HB.out _).size))
  clear hb
  go_wp2_with fail
  go_ret
  exact ⟨rfl, HBR.out⟩

/-- The base schema with a second constraint. -/
def bS2 (T IA IP OA OP F FC N : Option Addr) (nc : Nat) : Sc := ⟨T, 2, [bItem IA IP, bOrder OA OP], F, 1, [⟨nOrder, FC, 1, [1], nItem⟩], N, nc, [bCn nItem true 6, bCn nItem false 3]⟩
section
variable {T IA IP OA OP F FC N : Option Addr} {nc : Nat}
theorem bS2_sc : SC (bS2 T IA IP OA OP F FC N nc) IA IP OA OP FC 1 [(true, 6), (false, 3)] := ⟨rfl, rfl, rfl, by show 2 ≤ 8; omega⟩
theorem bS2_val (hc : 2 ≤ nc) : SchG (bS2 T IA IP OA OP F FC N nc) where
  ntab := by show 2 ≤ 6; omega
  tab := (bSc_val (T := T) (IA := IA) (IP := IP) (OA := OA) (OP := OP) (F := F) (FC := FC) (N := N)).tab
  ord := (bSc_val (T := T) (IA := IA) (IP := IP) (OA := OA) (OP := OP) (F := F) (FC := FC) (N := N)).ord
  nfk := by show 1 ≤ 1; omega
  fk := fun f hf => by
    have hf : f ∈ [(⟨nOrder, FC, 1, [1], nItem⟩ : FkM)] := hf
    rw [List.mem_singleton.1 hf]
    refine ⟨by show 1 ≤ 1000; omega, 1, 0, by show 1 < 2; omega, by show 0 < 2; omega, tabI_nTab (ti := 1) (by omega) _ _ _ _, tabI_nTab (ti := 0) (by omega) _ _ _ _, rfl, ?_⟩
    intro j h h'
    have h : j < 1 := h
    obtain rfl : j = 0 := by omega
    show (0 : Int) ≤ 1 ∧ (1 : Int) < 3 ∧ (0 : Int) ≤ 0 ∧ (0 : Int) < 4 ∧ (1 : Int) = 1
    omega
  ncn := by show 2 ≤ 8; omega
  cap := hc
  cn := fun c hc => by
    have hc : c ∈ [bCn nItem true 6, bCn nItem false 3] := hc
    simp only [List.mem_cons, List.not_mem_nil, or_false] at hc
    rcases hc with rfl | rfl
    · exact ⟨0, 1, by show 0 < 2; omega, tabI_nTab (ti := 0) (by omega) _ _ _ _, rfl, by show 1 < 4; omega, .inr (.inr rfl), rfl, rfl, by decide +kernel⟩
    · exact ⟨0, 1, by show 0 < 2; omega, tabI_nTab (ti := 0) (by omega) _ _ _ _, rfl, by show 1 < 4; omega, .inr (.inl rfl), rfl, rfl, by decide +kernel⟩
theorem ne01 (W : World) : (binOp .eql 62 (.agg (bCn nItem true 6).cells) (.agg (bCn nItem false 3).cells)).run Tryz.prog W = .ok (.bool false) W := by kernel_rfl
theorem ne10 (W : World) : (binOp .eql 62 (.agg (bCn nItem false 3).cells) (.agg (bCn nItem true 6).cells)).run Tryz.prog W = .ok (.bool false) W := by kernel_rfl
theorem bS2_ref (hc : 2 ≤ nc) : RefG (bS2 T IA IP OA OP F FC N nc) where
  val := bS2_val hc
  one := rfl
  pk := (bSc_ref (T := T) (IA := IA) (IP := IP) (OA := OA) (OP := OP) (F := F) (FC := FC) (N := N)).pk
  nd := (bSc_ref (T := T) (IA := IA) (IP := IP) (OA := OA) (OP := OP) (F := F) (FC := FC) (N := N)).nd
  less := (bSc_ref (T := T) (IA := IA) (IP := IP) (OA := OA) (OP := OP) (F := F) (FC := FC) (N := N)).less
  fk := (bSc_ref (T := T) (IA := IA) (IP := IP) (OA := OA) (OP := OP) (F := F) (FC := FC) (N := N)).fk
  ne := fun i j hi hj hji W => by
    have hi : i < 2 := hi
    obtain rfl : i = 1 := by omega
    obtain rfl : j = 0 := by omega
    exact ne01 W
theorem bS2_validate (hc : 2 ≤ nc) (W : World) (hs : ScOk (· < W.heap.size) W (bS2 T IA IP OA OP F FC N nc)) : Calls Tryz.prog 44 #[(bS2 T IA IP OA OP F FC N nc).v] W fun e w' => e = .returned (.int .i64 0) ∧ Below W.heap.size W w' := by
  refine schemaValidateG _ W hs (bS2_val hc) fun i h W' hW => ?_
  have h : i < 2 := h
  have hel : Elems 7 Cn.cs W' (· < W'.heap.size) N [bCn nItem true 6, bCn nItem false 3] := (hs.on hW).cns
  rcases i with _ | _ | i
  · exact containsCn0 N nc _ W'
  · have h1 : Elems 7 Cn.cs W' (· < W'.heap.size) N [bCn nItem true 6] := fun _ => by
      obtain ⟨b, off, e, hb, hcl⟩ := hel (by show 0 < 2; decide)
      exact ⟨b, off, e, hb, fun i x hx j u hu => hcl i x (by
        rcases i with _ | i
        · exact hx
        · simp at hx) j u hu⟩
    exact containsCnNo N nc [bCn nItem true 6] _ W' h1 (by show 1 ≤ 8; decide) fun x hx W2 => by rw [List.mem_singleton.1 hx]; exact ne10 W2
  · omega
end
end Go.Proofs.YtefifkleamiabaaGreatDoor
