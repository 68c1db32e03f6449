/-
  The walk of schema.ValidateTable, where the table is valid.
-/
import Derived.Test.YtefifkleamiabaaG2
namespace Go.Proofs.Ytefifkleamiabaa
open Go.RowKit

/-- A valid table. -/
structure TabV (t : Tbl) : Prop where
  name : NameV t.name
  ncols : 0 < t.cols.length ∧ t.cols.length ≤ 6
  cname : ∀ c ∈ t.cols, NameV c.name
  first : ∀ (i : Nat) (h : i < t.cols.length), max (colI t.cols[i].name t.cols) 0 = (i : Int)
  kind : ∀ c ∈ t.cols, 1 ≤ c.kind ∧ c.kind ≤ 3
  npk : 0 < t.pk.length ∧ t.pk.length ≤ 1000
  pk : ∀ (j : Nat) (h : j < t.pk.length), 0 ≤ t.pk[j] ∧ ∃ (h2 : t.pk[j].toNat < t.cols.length), t.cols[t.pk[j].toNat].null = false
  ord : t.pk.Pairwise (· < ·)

set_option maxRecDepth 100000 in
set_option maxHeartbeats 4000000 in
theorem validateTable (t : Tbl) (w : World) (ht : TOk (· < w.heap.size) w t) (hv : TabV t) :
    Calls Try.prog 26 #[t.val] w fun e w' => e = .returned (.int .i64 0) ∧ Below w.heap.size w w' := by
  have HTO := Lib.hid ht
  have HV := Lib.hid hv
  have HFC := Lib.hid fun W (hW : Below w.heap.size w W) nm => findColumn t nm W (ht.on hW) (by have := hv.ncols; omega)
  obtain ⟨name, CA, cc, cols, PA, pc, pk⟩ := t
  obtain ⟨w1, hw1⟩ : ∃ w1, w1 = w.alloc (.cells #[.string name, .slice CA cols.length cc, .slice PA pk.length pc] 58) := ⟨_, rfl⟩
  have hbx := heap_alloc_new w (.cells #[.string name, .slice CA cols.length cc, .slice PA pk.length pc] 58)
  rw [← hw1] at hbx
  have hb1 : Below w.heap.size w w1 := by rw [hw1]; exact (Below.refl _ _).alloc (Nat.le_refl _) _
  have hs1 : w.heap.size < w1.heap.size := by rw [hw1]; simp
  obtain ⟨n, hn⟩ : ∃ n, cols.length = n := ⟨_, rfl⟩
  obtain ⟨m, hm⟩ : ∃ m, pk.length = m := ⟨_, rfl⟩
  have hn0 : 0 < n ∧ n ≤ 6 := by rw [← hn]; exact hv.ncols
  have hm0 : 0 < m ∧ m ≤ 1000 := by rw [← hm]; exact hv.npk
  have HBK : Hid (∀ W, Below w1.heap.size w1 W → W.cell? ⟨w.heap.size, 0, none⟩ = some (.string name) ∧ W.cell? ⟨w.heap.size, 1, none⟩ = some (.slice CA n cc) ∧ W.cell? ⟨w.heap.size, 2, none⟩ = some (.slice PA m pc)) := Lib.hid fun W hW => by
    have h := (hW.block w.heap.size hs1).trans hbx
    rw [hn, hm] at h
    exact ⟨by rw [cell_of_row _ _ _ _ _ _ h]; rfl, by rw [cell_of_row _ _ _ _ _ _ h]; rfl, by rw [cell_of_row _ _ _ _ _ _ h]; rfl⟩
  have HB1 := Lib.hid hb1
  have HW1 : Hid (w1 = w.alloc (.cells #[.string name, .slice CA n cc, .slice PA m pc] 58)) := Lib.hid (by rw [hw1, hn, hm])
  have HN := Lib.hid (And.intro hn hm)
  unfold Tbl.val at HFC ⊢
  simp only at HFC ⊢
  rw [hn, hm] at HFC ⊢
  have HVN := Lib.hid fun W nm (h : NameV nm) => validNameS nm W h
  have HNM := Lib.hid hv.name
  simp only at HNM
  obtain ⟨hn1, hn6⟩ := hn0
  obtain ⟨hm1, hm1000⟩ := hm0
  have hnz : ((n : Int) == 0) = false := by simp; omega
  have hmz : ((m : Int) == 0) = false := by simp; omega
  obtain ⟨c0, c1, c2⟩ := HBK.out w1 (Below.refl _ _)
  clear ht hv hw1 hbx hb1 hs1 hn hm
  go_enter Try.func26, Try.ntmps26
  go_upto_region 1 with fail
  rw [← HW1.out]
  go_wp2_with fail
  refine (HVN.out w1 name HNM.out).mono ?_
  rintro e w2 ⟨rfl, hb2⟩
  obtain ⟨d0, d1, d2⟩ := HBK.out w2 hb2
  have HB2 := Lib.hid hb2
  clear hb2 c0 c1 c2
  go_wp2_with fail
  go_loopw [24] (fun vi wr => ∃ k : Nat, vi = .int .i64 (k : Int) ∧ k ≤ n ∧ Below w1.heap.size w1 wr) (fun vi _ => n - (intOf vi).toNat)
  case atStart => exact ⟨0, rfl, by omega, HB2.out⟩
  case round =>
    obtain ⟨k, rfl, hkn, hb⟩ := hrel
    obtain ⟨wo, rfl⟩ : ∃ wo, wo = wr := ⟨_, rfl⟩
    have hbw : Below w.heap.size w wo := HB1.out.trans (hb.mono HB1.out.size)
    by_cases hlt : k < n
    · have hki : k < cols.length := by have := HN.out.1; omega
      obtain ⟨b, off, hA, hbl, e0, e1, e2⟩ := (HTO.out.on hbw).cols.col hki
      have hA : CA = some ⟨b, off, none⟩ := hA
      have hcn := HV.out.cname _ (List.getElem_mem hki)
      have hfi := HV.out.first k hki
      have hkd := HV.out.kind _ (List.getElem_mem hki)
      simp only at hfi
      have HF := Lib.hid hfi
      have HCN := Lib.hid (HVN.out (wo.alloc (.cells #[.string cols[k].name, .int .i64 cols[k].kind, .bool cols[k].null] 54)) cols[k].name hcn)
      obtain ⟨f0, f1, f2⟩ := HBK.out wo hb
      obtain ⟨hkd1, hkd2⟩ := hkd
      have hlt' : (k : Int) < (n : Int) := by omega
      have hba : ∀ o, Below wo.heap.size wo (wo.alloc o) := fun o => (Below.refl _ _).alloc (Nat.le_refl _) o
      have HBO := Lib.hid hb
      have HBA := Lib.hid hba
      rw [hA] at f1 ⊢
      rw [hA] at HBK HFC HW1
      have HA := Lib.hid hA
      clear hcn hfi hbw hba hb hA hbl
      generalize cols[k].name = cn at *
      generalize cols[k].kind = ck at *
      generalize cols[k].null = cnull at *
      go_wp2_with fail
      refine HCN.out.mono ?_
      rintro e w3 ⟨rfl, hb3⟩
      have hbo : Below wo.heap.size wo w3 := (HBA.out _).trans (hb3.mono (HBA.out _).size)
      have hb13 := HBO.out.trans (hbo.mono HBO.out.size)
      obtain ⟨g0, g1, g2⟩ := HBK.out w3 hb13
      have hcv : w3.heap[wo.heap.size]? = some (.cells #[.string cn, .int .i64 ck, .bool cnull] 54 (0, 0)) := (hb3.block wo.heap.size (by simp)).trans (heap_alloc_new wo _)
      have v0 : w3.cell? ⟨wo.heap.size, 0, none⟩ = some (.string cn) := by rw [cell_of_row _ _ _ _ _ _ hcv]; rfl
      have v1 : w3.cell? ⟨wo.heap.size, 1, none⟩ = some (.int .i64 ck) := by rw [cell_of_row _ _ _ _ _ _ hcv]; rfl
      have HL3 : Hid (wo.heap.size < w3.heap.size) := Lib.hid ((Array.getElem?_eq_some_iff.1 hcv).1)
      have HFC3 := Lib.hid (HFC.out w3 (HB1.out.trans (hb13.mono HB1.out.size)) cn)
      have HB13 := Lib.hid hb13
      clear hb3 hbo hb13 hcv
      go_wp2_with fail
      refine HFC3.out.mono ?_
      rintro e w4 ⟨rfl, hb4⟩
      have v1' : w4.cell? ⟨wo.heap.size, 1, none⟩ = some (.int .i64 ck) := (hb4.cell (p := ⟨wo.heap.size, 1, none⟩) HL3.out).trans v1
      have HB14 := Lib.hid (HB13.out.trans (hb4.mono HB13.out.size))
      unfold findV
      have hmx : max (colI cn cols) 0 = (k : Int) := HF.out
      rw [hmx]
      generalize colI cn cols = ci at *
      clear hb4 v0 v1 g0 g1 g2 hmx
      go_wp2_with fail
      go_roundw
      case rel => exact ⟨k + 1, by go_num, by omega, HB14.out⟩
      case measure => simp [intOf]; omega
    · have hkn' : k = n := by omega
      subst hkn'
      obtain ⟨f0, f1, f2⟩ := HBK.out wo hb
      have HBO := Lib.hid hb
      clear hb hbw
      go_wp2_with fail
      go_loopw [55] (fun vi wr => ∃ j : Nat, vi = .int .i64 (j : Int) ∧ j ≤ m ∧ wo = wr) (fun vi _ => m - (intOf vi).toNat)
      case atStart => exact ⟨0, rfl, by omega, rfl⟩
      case round =>
        obtain ⟨j, rfl, hjm, rfl⟩ := hrel
        have hbw : Below w.heap.size w wo := HB1.out.trans (HBO.out.mono HB1.out.size)
        by_cases hlt : j < m
        · have hji : j < pk.length := by have := HN.out.2; omega
          obtain ⟨b, off, hA, -, e0x⟩ := (HTO.out.on hbw).pk.int hji
          obtain ⟨hp0, hp1, hp2⟩ := HV.out.pk j hji
          obtain ⟨p, hp⟩ := Int.eq_ofNat_of_zero_le hp0
          have hA : PA = some ⟨b, off, none⟩ := hA
          have hpp : pk[j] = (p : Int) := hp
          have hpl : p < cols.length := by
            have h : pk[j].toNat < cols.length := hp1
            rw [hpp, Int.toNat_natCast] at h
            exact h
          have hpn : cols[p].null = false := by
            have h : (cols[pk[j].toNat]'hp1).null = false := hp2
            have e : pk[j].toNat = p := by rw [hpp, Int.toNat_natCast]
            simpa [e] using h
          obtain ⟨b2, off2, hA2, -, q0, q1, q2x⟩ := (HTO.out.on hbw).cols.col hpl
          have hA2 : CA = some ⟨b2, off2, none⟩ := hA2
          have e0 : wo.cell? ⟨b, off + j, none⟩ = some (.int .i64 pk[j]) := e0x
          rw [hpp] at e0
          have q2 : wo.cell? ⟨b2, off2 + p * 3 + 2, none⟩ = some (.bool cols[p].null) := q2x
          rw [hpn] at q2
          have hpk' : (p : Int) < (k : Int) := by have := HN.out.1; omega
          have hjm' : (j : Int) < (m : Int) := by omega
          have hf1 := f1
          have hf2 := f2
          rw [hA2] at hf1
          rw [hA] at hf2 ⊢
          have HPP := Lib.hid hpp
          clear e0x hp0 hp1 hp2 hp q2x q0 q1 hpn hpl hbw f1 f2
          by_cases hj0 : j = 0
          · subst hj0
            rw [Nat.add_zero] at e0
            clear HPP hpp hA hA2
            go_wp2_with fail
            go_roundw
            case rel => exact ⟨1, by go_num, by omega, by trivial⟩
            case measure => simp [intOf]; omega
          · obtain ⟨i, rfl⟩ : ∃ i, j = i + 1 := ⟨j - 1, by omega⟩
            have hlt2 := List.pairwise_iff_getElem.1 HV.out.ord i (i + 1) (show i < pk.length from by omega) hji (by omega)
            obtain ⟨b', off', e', -, c1'⟩ := (HTO.out.on (HB1.out.trans (HBO.out.mono HB1.out.size))).pk.int (k := i) (show i < pk.length from by omega)
            have e' : PA = some ⟨b', off', none⟩ := e'
            rw [hA] at e'
            injection e' with e'
            injection e' with e1 e2
            subst e1 e2
            have hlt3 : pk[i]'(show i < pk.length from by omega) < (p : Int) := by
              have h : pk[i]'(show i < pk.length from by omega) < pk[i + 1] := hlt2
              rw [HPP.out] at h
              exact h
            have c1'' : wo.cell? ⟨b, off + i, none⟩ = some (.int .i64 (pk[i]'(show i < pk.length from by omega))) := c1'
            have hj1 : (0 : Int) < ((i + 1 : Nat) : Int) := by omega
            have hj2 : ((i + 1 : Nat) : Int) - 1 = (i : Int) := by omega
            have hj3 : (i : Int) < (m : Int) := by omega
            clear hlt2 c1' HPP hpp hA hA2
            generalize pk[i]'(show i < pk.length from by omega) = z at *
            go_wp2_with fail
            go_roundw
            case rel => exact ⟨i + 1 + 1, by go_num, by omega, by trivial⟩
            case measure => simp [intOf]; omega
        · have hjm' : j = m := by omega
          subst hjm'
          clear hbw
          go_wp2_with fail
          go_ret
          exact ⟨rfl, HB1.out.trans (HBO.out.mono HB1.out.size)⟩
end Go.Proofs.Ytefifkleamiabaa
