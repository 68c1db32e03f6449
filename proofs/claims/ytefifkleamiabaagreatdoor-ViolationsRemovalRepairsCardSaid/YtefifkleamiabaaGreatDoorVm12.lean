/-
  The walk of the reference's Conforms, where the keys are one integer each.
  The walks of the reference's ValidateChange and AffectedKey.
  The walks of the reference's Encode at a key of one digit, and of AffectedKey.
  Stable sorting by swaps, plain: rows as functions of the place; what insertion, rotation and the symmetric merge do. No program in sight.
-/
import Derived.Test.YtefifkleamiabaaGreatDoorVm11
import Derived.StillTailTactics
import Derived.Test.YtefifkleamiabaaGreatDoorVm01
namespace Go.Proofs.YtefifkleamiabaaGreatDoor
open Go.RowKit Go.Sort

theorem cmpR_ik (x y : Int) : cmpR (ik x) (ik y) = c1 x y := by
  unfold ik c1
  rw [cmpR_cons]
  by_cases h : x < y
  · rw [if_pos h]
    simp [cmpV, cmpI]
    omega
  · rw [if_neg h]
    by_cases h2 : y < x
    · rw [if_pos h2]
      simp [cmpV, cmpI]
      omega
    · rw [if_neg h2]
      have : x = y := by omega
      subst this
      have h := cmpR_eq0 (ik x)
      unfold ik at h
      rw [cmpR_cons] at h
      exact h
/-- Every key is one integer. -/
def IntK (t : Tbl) (rows : List Row) : Prop := ∀ r ∈ rows, ∃ x, keyOf t.pk r = ik x
/-- The key before the m-th row. -/
def PrevOk (t : Tbl) (ks : List Key) (m : Nat) (v : Value) (W : World) : Prop :=
  m = 0 ∨ ∃ pA pc x, (∃ h : m - 1 < ks.length, keyOf t.pk ks[m - 1].row = ik x) ∧ v = .slice pA 1 pc ∧ Elems 3 Val.cs W (· < W.heap.size) pA (ik x)

set_option maxRecDepth 100000 in
set_option maxHeartbeats 8000000 in
theorem rConforms (s : Sc) (A : Option Addr) (c : Nat) (rs : List RelM) (w : World) (hs : ScOk (· < w.heap.size) w s) (hi : InOk (· < w.heap.size) w A rs) (hc : InC s.tabs rs) (hk : ∀ (i : Nat) (h : i < rs.length) (h' : i < s.tabs.length), IntK s.tabs[i] (rs[i].rows.map Key.row)) :
    Calls Tryz.prog 28 #[s.v, .slice A rs.length c] w fun e w' => e = .returned (.int .i64 0) ∧ Below w.heap.size w w' := by
  obtain ⟨n, hn⟩ : ∃ n, s.tabs.length = n := ⟨_, rfl⟩
  have hrn : rs.length = n := hc.len.trans hn
  have hn6 : n ≤ 6 := by rw [← hn]; exact hc.max
  obtain ⟨w1, hw1⟩ : ∃ w1, w1 = w.alloc (.cells #[.slice s.TA n s.tc, .slice s.FA s.fks.length s.fc, .slice s.NA s.cns.length s.nc] 27) := ⟨_, rfl⟩
  have hb1 : Below w.heap.size w w1 := by rw [hw1]; exact (Below.refl _ _).alloc (Nat.le_refl _) _
  have hg1 : w1.heap[w.heap.size]? = some (.cells #[.slice s.TA n s.tc, .slice s.FA s.fks.length s.fc, .slice s.NA s.cns.length s.nc] 27 (0, 0)) := by rw [hw1]; exact heap_alloc_new w _
  have c0 := cell_of_row _ _ 0 _ _ _ hg1
  have HSC := Lib.hid hs
  have HI := Lib.hid hi
  have HC := Lib.hid hc
  have HK := Lib.hid hk
  have HN := Lib.hid (And.intro hn hrn)
  have HB1 := Lib.hid hb1
  have HW1 := Lib.hid hw1
  unfold Sc.v Sc.cells
  rw [hn, hrn]
  clear hs hi hc hk hn hrn hw1 hb1 hg1
  go_enter Tryz.func28, Tryz.ntmps28
  go_upto_region 1 with fail
  rw [← HW1.out]
  go_wp2_with fail
  go_loopw [21] (fun vi wr => ∃ k : Nat, vi = .int .i64 (k : Int) ∧ k ≤ n ∧ Below w1.heap.size w1 wr) (fun vi _ => n - (intOf vi).toNat)
  case atStart => exact ⟨0, rfl, by omega, Below.refl _ _⟩
  case round =>
    obtain ⟨k, rfl, hkn, hb⟩ := hrel
    obtain ⟨wo, rfl⟩ : ∃ wo, wo = wr := ⟨_, rfl⟩
    have hbw := HB1.out.trans (hb.mono HB1.out.size)
    by_cases hlt : k < n
    · have hkt : k < s.tabs.length := by have := HN.out.1; omega
      have hkr : k < rs.length := by have := HN.out.2; omega
      obtain ⟨tb, toff, hTA, -, p0, p1, p2⟩ := (HSC.out.on hbw).tabs.tbl hkt
      have hrel := HC.out.rel k hkr hkt
      have hnm := HC.out.name k hkr hkt
      obtain ⟨w5, hw5⟩ : ∃ w5, w5 = wo.alloc (.cells #[.string s.tabs[k].name, .slice s.tabs[k].CA s.tabs[k].cols.length s.tabs[k].cc, .slice s.tabs[k].PA s.tabs[k].pk.length s.tabs[k].pc] 71) := ⟨_, rfl⟩
      have hb5 : Below wo.heap.size wo w5 := by rw [hw5]; exact (Below.refl _ _).alloc (Nat.le_refl _) _
      have hg5 : w5.heap[wo.heap.size]? = some (.cells #[.string s.tabs[k].name, .slice s.tabs[k].CA s.tabs[k].cols.length s.tabs[k].cc, .slice s.tabs[k].PA s.tabs[k].pk.length s.tabs[k].pc] 71 (0, 0)) := by rw [hw5]; exact heap_alloc_new wo _
      have hs5 : wo.heap.size < w5.heap.size := by rw [hw5]; simp
      have HTB : Hid (∀ W, Below w5.heap.size w5 W → W.cell? ⟨wo.heap.size, 0, none⟩ = some (.string s.tabs[k].name) ∧ W.cell? ⟨wo.heap.size, 1, none⟩ = some (.slice s.tabs[k].CA s.tabs[k].cols.length s.tabs[k].cc) ∧ W.cell? ⟨wo.heap.size, 2, none⟩ = some (.slice s.tabs[k].PA s.tabs[k].pk.length s.tabs[k].pc)) := Lib.hid fun W hW => by
        have h := (hW.block wo.heap.size hs5).trans hg5
        exact ⟨cell_of_row _ _ 0 _ _ _ h, cell_of_row _ _ 1 _ _ _ h, cell_of_row _ _ 2 _ _ _ h⟩
      have HB5 := Lib.hid (And.intro (hb.trans (hb5.mono hb.size)) (hbw.trans (hb5.mono hbw.size)))
      obtain ⟨bi, oi, hIA, -, z0, z1⟩ := (HI.out.on HB5.out.2).el.rel hkr
      rw [hnm] at z0
      obtain ⟨R, hR⟩ : ∃ R, rs[k].rows.length = R := ⟨_, rfl⟩
      have hR24 : R ≤ 24 := by rw [← hR]; exact hrel.len
      have hR24' : ¬ (24 : Int) < (R : Int) := by omega
      rw [hR] at z1
      have HROW := Lib.hid fun W (hW : Below w.heap.size w W) => (HI.out.on hW).rel _ (List.getElem_mem hkr)
      have HTK := Lib.hid fun W (hW : Below w.heap.size w W) => (HSC.out.on hW).tab _ (List.getElem_mem hkt)
      have HT6 := Lib.hid (HC.out.tab _ (List.getElem_mem hkt))
      have HKK := Lib.hid (HK.out k hkr hkt)
      have HREL := Lib.hid hrel
      have HR := Lib.hid hR
      have HTA := Lib.hid hTA
      have HW5 := Lib.hid hw5
      obtain ⟨y0, y1, y2⟩ := HTB.out w5 (Below.refl _ _)
      have hlt' : (k : Int) < (n : Int) := by omega
      rw [hTA, hIA]
      clear hb hbw hw5 hb5 hg5 hs5 hrel hnm hR hTA hIA
      generalize s.tabs[k] = t at *
      generalize rs[k] = r at *
      go_upto_region 6 with fail
      rw [← HW5.out]
      go_quiet (fail)
      obtain ⟨w6, hw6⟩ : ∃ w6, w6 = w5.drewN nq := ⟨_, rfl⟩
      have hb6 : Below w5.heap.size w5 w6 := by rw [hw6]; exact below_drewN (Below.refl _ _) _
      rw [← hw6]
      have HB6 := Lib.hid (And.intro (HB5.out.1.trans (hb6.mono HB5.out.1.size)) (HB5.out.2.trans (hb6.mono HB5.out.2.size)))
      have z1' := (hb6.cell (p := ⟨bi, oi + k * 2 + 1, none⟩) (World.block_lt_of_cell? w5 ⟨bi, oi + k * 2 + 1, none⟩ z1)).trans z1
      clear y0 y1 y2 z0 z1 p0 p1 p2 c0 hw6
      obtain ⟨y0, y1, y2⟩ := HTB.out w6 hb6
      have HB56 := Lib.hid hb6
      clear hb6
      go_wp2_with fail
      go_loopw [7, 47] (fun v7 vi wr => ∃ m : Nat, vi = .int .i64 (m : Int) ∧ m ≤ R ∧ Below w6.heap.size w6 wr ∧ PrevOk t r.rows m v7 wr) (fun _ vi _ => R - (intOf vi).toNat)
      case atStart => exact ⟨0, rfl, by omega, Below.refl _ _, .inl rfl⟩
      case round =>
        obtain ⟨m, rfl, hmR, hbm, hprev⟩ := hrel
        obtain ⟨wq, rfl⟩ : ∃ wq, wq = wr := ⟨_, rfl⟩
        obtain ⟨v7, rfl⟩ : ∃ v7, v7 = u7 := ⟨_, rfl⟩
        have hbq := HB6.out.2.trans (hbm.mono HB6.out.2.size)
        by_cases hltm : m < R
        · have hmr : m < r.rows.length := by have := HR.out; omega
          obtain ⟨b3, o3, hA3, -, q0⟩ := (HROW.out wq hbq).el.key hmr
          have hq := (HROW.out wq hbq).row _ (List.getElem_mem hmr)
          obtain ⟨x, hx⟩ := HKK.out _ (List.mem_map_of_mem (List.getElem_mem hmr))
          have hx : keyOf t.pk r.rows[m].row = ik x := hx
          have HCR := Lib.hid (rConformsRow t r.rows[m].A r.rows[m].c r.rows[m].row wq (HTK.out wq hbq) hq.el (by have := HT6.out.1; omega) (HREL.out.row _ (List.getElem_mem hmr)))
          have HKY : Hid (∀ W, Below wq.heap.size wq W → Calls Tryz.prog 25 #[t.val, .slice r.rows[m].A r.rows[m].row.length r.rows[m].c] W fun e w' => ∃ kA kc, e = .returned (.slice kA 1 kc) ∧ Elems 3 Val.cs w' (· < w'.heap.size) kA (ik x) ∧ Below W.heap.size W w') := Lib.hid fun W hW => by
            have hbW := hbq.trans (hW.mono hbq.size)
            refine (keyOfB t r.rows[m].A r.rows[m].c r.rows[m].row W (HTK.out W hbW) ((HROW.out W hbW).row _ (List.getElem_mem hmr)).el (by have := HT6.out.2; omega)).mono ?_
            rintro e w' ⟨v, rfl, ho, hb⟩
            rw [hx] at ho
            obtain ⟨kA, kc, rfl, -, -⟩ := ho.form
            exact ⟨kA, kc, rfl, (ho.elems valLay.len rfl).more fun g hg => (Own.lt ho g hg).2, hb⟩
          have HCMP : Hid (∀ j pA pc x', m = j + 1 → (∃ h : m - 1 < r.rows.length, keyOf t.pk r.rows[m - 1].row = ik x') → ∀ W kA kc, Elems 3 Val.cs W (· < W.heap.size) pA (ik x') → Elems 3 Val.cs W (· < W.heap.size) kA (ik x) → Calls Tryz.prog 58 #[.slice pA 1 pc, .slice kA 1 kc] W fun e w' => e = .returned (.int .i64 (-1)) ∧ Below W.heap.size W w') := Lib.hid fun j pA pc x' hj hx' W kA kc h1 h2 => by
            refine (rCmp1 pA kA pc kc x' x W h1 h2).mono ?_
            rintro e w' ⟨rfl, hb⟩
            obtain ⟨hm1, hx'⟩ := hx'
            have hord := List.pairwise_iff_getElem.1 HREL.out.ord (m - 1) m (by rw [List.length_map]; omega) (by rw [List.length_map]; omega) (by omega)
            rw [List.getElem_map, List.getElem_map, hx', hx, cmpR_ik] at hord
            have hc1 : c1 x' x = -1 := by unfold c1 at hord ⊢; split at hord <;> rename_i h; exact if_pos h; split at hord <;> omega
            rw [hc1]
            exact ⟨rfl, hb⟩
          have HX := Lib.hid hx
          have HBM := Lib.hid (And.intro hbm hbq)
          have HPV := Lib.hid hprev
          have hlt2 : (m : Int) < (R : Int) := by omega
          unfold Tbl.val at HCR HKY
          have HMR := Lib.hid hmr
          obtain ⟨e0, e1, e2⟩ := HTB.out wq (HB56.out.trans (hbm.mono HB56.out.size))
          rw [hA3]
          clear hbm hbq hprev hq hx hA3 y0 y1 y2
          go_wp2_with fail
          refine HCR.out.mono ?_
          rintro e w8 ⟨rfl, hb8⟩
          clear e0 e1 e2
          obtain ⟨e0, e1, e2⟩ := HTB.out w8 (HB56.out.trans ((HBM.out.1.trans (hb8.mono HBM.out.1.size)).mono HB56.out.size))
          have HB8 := Lib.hid hb8
          clear hb8
          go_wp2_with fail
          refine (HKY.out w8 HB8.out).mono ?_
          rintro e w9 ⟨kA, kc, rfl, hel, hb9⟩
          have HB9 := Lib.hid (And.intro hb9 (HB8.out.trans (hb9.mono HB8.out.size)))
          have HEL := Lib.hid hel
          clear hb9 hel e0 e1 e2
          by_cases hm0 : m = 0
          · subst hm0
            have HPN : Hid (PrevOk t r.rows (0 + 1) (.slice kA 1 kc) w9) := Lib.hid (.inr ⟨kA, kc, x, ⟨HMR.out, HX.out⟩, rfl, HEL.out⟩)
            have HFB := Lib.hid (HBM.out.1.trans (HB9.out.2.mono HBM.out.1.size))
            go_wp2_with fail
            go_roundw
            case rel => exact ⟨0 + 1, by go_num, by omega, HFB.out, HPN.out⟩
            case measure => simp [intOf]; omega
          · obtain ⟨j, rfl⟩ : ∃ j, m = j + 1 := ⟨m - 1, by omega⟩
            rcases HPV.out with h | ⟨pA, pc, x', hx', rfl, hpe⟩
            · cases h
            · have hpe9 := hpe.on HB9.out.2
              have HC2 := Lib.hid (HCMP.out j pA pc x' rfl hx' w9 kA kc hpe9 HEL.out)
              have hj0 : (0 : Int) < ((j + 1 : Nat) : Int) := by omega
              clear hx' hpe hpe9
              go_wp2_with fail
              refine HC2.out.mono ?_
              rintro e w10 ⟨rfl, hb10⟩
              have HPN : Hid (PrevOk t r.rows (j + 1 + 1) (.slice kA 1 kc) w10) := Lib.hid (.inr ⟨kA, kc, x, ⟨HMR.out, HX.out⟩, rfl, HEL.out.on hb10⟩)
              have HFB := Lib.hid (HBM.out.1.trans ((HB9.out.2.trans (hb10.mono HB9.out.2.size)).mono HBM.out.1.size))
              clear hb10
              go_wp2_with fail
              go_roundw
              case rel => exact ⟨j + 1 + 1, by go_num, by omega, HFB.out, HPN.out⟩
              case measure => simp [intOf]; omega
        · have hmR' : m = R := by omega
          subst hmR'
          have HF := Lib.hid (HB6.out.1.trans (hbm.mono HB6.out.1.size))
          clear hbm hbq hprev
          go_wp2_with fail
          go_roundw
          case rel => exact ⟨k + 1, by go_num, by omega, HF.out⟩
          case measure => simp [intOf]; omega
    · have hkn' : k = n := by omega
      subst hkn'
      have HF := Lib.hid hbw
      clear hb hbw
      go_wp2_with fail
      go_ret
      exact ⟨rfl, HF.out⟩
end Go.Proofs.YtefifkleamiabaaGreatDoor

namespace Go.Proofs.YtefifkleamiabaaGreatDoor
open Go.RowKit Go.Sort

/-- The two boxes of a schema and a change. -/
theorem scBox (s : Sc) (ch : ChM) (w : World) : ∃ w1, w1 = (w.alloc (.cells s.cells 27)).alloc (.cells ch.cells 51) ∧ Below w.heap.size w w1 ∧ w1.heap.size = w.heap.size + 2
    ∧ ∀ W, Below w1.heap.size w1 W → (W.cell? ⟨w.heap.size, 0, none⟩ = some (.slice s.TA s.tabs.length s.tc) ∧ W.cell? ⟨w.heap.size, 1, none⟩ = some (.slice s.FA s.fks.length s.fc) ∧ W.cell? ⟨w.heap.size, 2, none⟩ = some (.slice s.NA s.cns.length s.nc)) ∧ (W.cell? ⟨w.heap.size + 1, 0, none⟩ = some (.int .i64 ch.kind) ∧ W.cell? ⟨w.heap.size + 1, 1, none⟩ = some (.string ch.name) ∧ W.cell? ⟨w.heap.size + 1, 2, none⟩ = some (.slice ch.key.A ch.key.row.length ch.key.c) ∧ W.cell? ⟨w.heap.size + 1, 3, none⟩ = some (.slice ch.row.A ch.row.row.length ch.row.c)) := by
  obtain ⟨w1, hw1⟩ : ∃ w1, w1 = (w.alloc (.cells s.cells 27)).alloc (.cells ch.cells 51) := ⟨_, rfl⟩
  have g0 : w1.heap[w.heap.size]? = some (.cells s.cells 27 (0, 0)) := by
    rw [hw1, Below.heap_alloc _ _ _ (by simp)]
    exact heap_alloc_new w _
  have g1 : w1.heap[w.heap.size + 1]? = some (.cells ch.cells 51 (0, 0)) := by rw [hw1]; exact alloc2_at w _ _
  have hs1 : w1.heap.size = w.heap.size + 2 := by rw [hw1]; simp
  refine ⟨w1, hw1, by rw [hw1]; exact ((Below.refl _ _).alloc (Nat.le_refl _) _).alloc (le_size1 (Nat.le_refl _) _) _, hs1, fun W hW => ?_⟩
  have e0 := (hW.block w.heap.size (by omega)).trans g0
  have e1 := (hW.block (w.heap.size + 1) (by omega)).trans g1
  unfold Sc.cells at e0
  unfold ChM.cells at e1
  exact ⟨⟨cell_of_row _ _ 0 _ _ _ e0, cell_of_row _ _ 1 _ _ _ e0, cell_of_row _ _ 2 _ _ _ e0⟩, cell_of_row _ _ 0 _ _ _ e1, cell_of_row _ _ 1 _ _ _ e1, cell_of_row _ _ 2 _ _ _ e1, cell_of_row _ _ 3 _ _ _ e1⟩

set_option maxRecDepth 100000 in
set_option maxHeartbeats 8000000 in
theorem rValidateCh1 (s : Sc) (ch : ChM) (i : Nat) (w : World) (hs : ScOk (· < w.heap.size) w s) (ho : ChOk (· < w.heap.size) w ch) (hc : ChC s ch i) (hk : ch.kind = 1) (hl : s.tabs.length ≤ 1000) :
    Calls Tryz.prog 29 #[s.v, .agg ch.cells] w fun e w' => e = .returned (.int .i64 0) ∧ Below w.heap.size w w' := by
  have hil := hc.il
  obtain ⟨hk0, hrc⟩ : ch.key.row.length = 0 ∧ RowC s.tabs[i].cols ch.row.row := by
    rcases hc.fit with ⟨h1, h2, h3⟩ | ⟨h1, h2, h3⟩
    · exact ⟨h2, h3⟩
    · rw [hk] at h1; cases h1
  obtain ⟨tb, toff, hTA, -, -⟩ := hs.tabs.tbl (k := 0) (by omega)
  obtain ⟨w1, hw1, hb1, hs1, hbk⟩ := scBox s ch w
  have HBK := Lib.hid hbk
  have HF1 := Lib.hid fun W (hW : Below w.heap.size w W) => rFindTable s ch.name i W (hs.on hW) hl hil hc.fi tb toff hTA
  have HTK : Hid (∀ W, Below w.heap.size w W → W.cell? ⟨tb, toff + i * 3, none⟩ = some (.string s.tabs[i].name) ∧ W.cell? ⟨tb, toff + i * 3 + 1, none⟩ = some (.slice s.tabs[i].CA s.tabs[i].cols.length s.tabs[i].cc) ∧ W.cell? ⟨tb, toff + i * 3 + 2, none⟩ = some (.slice s.tabs[i].PA s.tabs[i].pk.length s.tabs[i].pc)) := Lib.hid fun W hW => by
    obtain ⟨tb1, to1, e1, -, p0, p1, p2⟩ := (hs.on hW).tabs.tbl hil
    rw [hTA] at e1
    injection e1 with e1
    injection e1 with e11 e12
    subst e11 e12
    exact ⟨p0, p1, p2⟩
  have HCR : Hid (∀ W m, Below w.heap.size w W → Calls Tryz.prog 57 #[s.tabs[i].val, .slice ch.row.A ch.row.row.length ch.row.c] (W.drewN m) fun e w' => e = .returned (.int .i64 0) ∧ Below W.heap.size W w') := Lib.hid fun W m hW => by
    have hd : Below W.heap.size W (W.drewN m) := below_drewN (Below.refl _ _) m
    have h0 := hW.trans (hd.mono hW.size)
    exact (rConformsRow _ ch.row.A ch.row.c ch.row.row (W.drewN m) ((hs.on h0).tab _ (List.getElem_mem hil)) (ho.row.on h0).el hc.tab.1 hrc).mono fun e w' h => ⟨h.1, hd.trans h.2⟩
  have HB1 := Lib.hid hb1
  have HW1 := Lib.hid hw1
  obtain ⟨⟨s0, s1, s2⟩, k0, k1, k2, k3⟩ := HBK.out w1 (Below.refl _ _)
  unfold Sc.cells ChM.cells at HW1
  unfold Sc.v Sc.cells at HF1 ⊢
  unfold Tbl.val at HCR
  unfold ChM.cells
  rw [hk, hk0] at HW1 ⊢
  rw [hk] at HBK k0
  rw [hk0] at HBK k2
  clear hs ho hc hk hk0 hrc hTA hw1 hb1 hs1 hbk hl
  go_enter Tryz.func29, Tryz.ntmps29
  go_upto_region 1 with fail
  rw [← HW1.out]
  go_wp2_with fail
  refine (HF1.out w1 HB1.out).mono ?_
  rintro e w2 ⟨rfl, hb2⟩
  have HB2 := Lib.hid (And.intro hb2 (HB1.out.trans (hb2.mono HB1.out.size)))
  clear hb2 s0 s1 s2 k0 k1 k2 k3
  obtain ⟨⟨s0, s1, s2⟩, k0, k1, k2, k3⟩ := HBK.out w2 HB2.out.1
  obtain ⟨t0, t1, t2⟩ := HTK.out w2 HB2.out.2
  go_upto_region 7 with fail
  go_region_held3 (fun W => W.cell? ⟨tb, toff + i * 3, none⟩ = some (.string s.tabs[i].name) ∧ W.cell? ⟨tb, toff + i * 3 + 1, none⟩ = some (.slice s.tabs[i].CA s.tabs[i].cols.length s.tabs[i].cc) ∧ W.cell? ⟨tb, toff + i * 3 + 2, none⟩ = some (.slice s.tabs[i].PA s.tabs[i].pk.length s.tabs[i].pc) ∧ W.cell? ⟨w.heap.size + 1, 3, none⟩ = some (.slice ch.row.A ch.row.row.length ch.row.c)) (first | exact ⟨t0, t1, t2, k3⟩ | exact s9)
    (first
    | (go_at_call 57; refine (HCR.out w2 1 HB2.out.2).mono ?_; rintro e w3 ⟨rfl, hb3⟩; have s9 := And.intro (HTK.out w3 (HB2.out.2.trans (hb3.mono HB2.out.2.size))).1 (And.intro (HTK.out w3 (HB2.out.2.trans (hb3.mono HB2.out.2.size))).2.1 (And.intro (HTK.out w3 (HB2.out.2.trans (hb3.mono HB2.out.2.size))).2.2 (HBK.out w3 (HB2.out.1.trans (hb3.mono HB2.out.1.size))).2.2.2.2))))
  all_goals
    have HF := Lib.hid (HB2.out.2.trans (hb3.mono HB2.out.2.size))
    clear hb3 s9
    go_wp2_with fail
    go_ret
    exact ⟨rfl, HF.out⟩

set_option maxRecDepth 100000 in
set_option maxHeartbeats 8000000 in
theorem rValidateCh2 (s : Sc) (ch : ChM) (i : Nat) (w : World) (hs : ScOk (· < w.heap.size) w s) (ho : ChOk (· < w.heap.size) w ch) (hc : ChC s ch i) (hk : ch.kind = 2) (hl : s.tabs.length ≤ 1000) :
    Calls Tryz.prog 29 #[s.v, .agg ch.cells] w fun e w' => e = .returned (.int .i64 0) ∧ Below w.heap.size w w' := by
  have hil := hc.il
  obtain ⟨hr0, hkc⟩ : ch.row.row.length = 0 ∧ KeyC s.tabs[i] ch.key.row := by
    rcases hc.fit with ⟨h1, h2, h3⟩ | ⟨h1, h2, h3⟩
    · rw [hk] at h1; cases h1
    · exact ⟨h2, h3⟩
  obtain ⟨tb, toff, hTA, -, -⟩ := hs.tabs.tbl (k := 0) (by omega)
  obtain ⟨w1, hw1, hb1, hs1, hbk⟩ := scBox s ch w
  obtain ⟨n, hn⟩ : ∃ n, ch.key.row.length = n := ⟨_, rfl⟩
  have hpn : s.tabs[i].pk.length = n := hkc.len.symm.trans hn
  have HBK := Lib.hid hbk
  have HF1 := Lib.hid fun W (hW : Below w.heap.size w W) => rFindTable s ch.name i W (hs.on hW) hl hil hc.fi tb toff hTA
  have HTK : Hid (∀ W, Below w.heap.size w W → W.cell? ⟨tb, toff + i * 3 + 1, none⟩ = some (.slice s.tabs[i].CA s.tabs[i].cols.length s.tabs[i].cc) ∧ W.cell? ⟨tb, toff + i * 3 + 2, none⟩ = some (.slice s.tabs[i].PA n s.tabs[i].pc)) := Lib.hid fun W hW => by
    obtain ⟨tb1, to1, e1, -, p0, p1, p2⟩ := (hs.on hW).tabs.tbl hil
    rw [hTA] at e1
    injection e1 with e1
    injection e1 with e11 e12
    subst e11 e12
    rw [hpn] at p2
    exact ⟨p1, p2⟩
  have HTT := Lib.hid fun W (hW : Below w.heap.size w W) => (hs.on hW).tab _ (List.getElem_mem hil)
  have HKO := Lib.hid fun W (hW : Below w.heap.size w W) => (ho.key.on hW).el
  have HKC := Lib.hid hkc
  have HN := Lib.hid (And.intro hn (And.intro hpn trivial))
  have HB1 := Lib.hid hb1
  have HW1 := Lib.hid hw1
  have h12 : n ≤ 12 := by rw [← hpn]; exact hc.tab.2
  obtain ⟨⟨s0, s1, s2⟩, k0, k1, k2, k3⟩ := HBK.out w1 (Below.refl _ _)
  unfold Sc.cells ChM.cells at HW1
  unfold Sc.v Sc.cells at HF1 ⊢
  unfold ChM.cells
  rw [hk, hr0, hn] at HW1 ⊢
  rw [hk] at HBK k0
  rw [hr0, hn] at HBK
  rw [hr0] at k3
  rw [hn] at k2
  clear hs ho hc hk hr0 hkc hTA hw1 hb1 hs1 hbk hn hpn hl
  go_enter Tryz.func29, Tryz.ntmps29
  go_upto_region 1 with fail
  rw [← HW1.out]
  go_wp2_with fail
  refine (HF1.out w1 HB1.out).mono ?_
  rintro e w2 ⟨rfl, hb2⟩
  have HB2 := Lib.hid (And.intro hb2 (HB1.out.trans (hb2.mono HB1.out.size)))
  clear hb2 s0 s1 s2 k0 k1 k2 k3
  obtain ⟨⟨s0, s1, s2⟩, k0, k1, k2, k3⟩ := HBK.out w2 HB2.out.1
  obtain ⟨t1, t2⟩ := HTK.out w2 HB2.out.2
  go_upto_region 8 with fail
  go_quiet (fail)
  go_wp2_with fail
  go_loopw [66] (fun vi wr => ∃ m : Nat, vi = .int .i64 (m : Int) ∧ m ≤ n ∧ Below w2.heap.size w2 wr) (fun vi _ => n - (intOf vi).toNat)
  case atStart => exact ⟨0, rfl, by omega, by first | exact Below.refl _ _ | exact below_drewN (Below.refl _ _) _⟩
  case round =>
    obtain ⟨m, rfl, hmn, hb⟩ := hrel
    obtain ⟨wo, rfl⟩ : ∃ wo, wo = wr := ⟨_, rfl⟩
    have hbo := HB2.out.2.trans (hb.mono HB2.out.2.size)
    by_cases hlt : m < n
    · have hmk : m < ch.key.row.length := by have := HN.out.1; omega
      have hmp : m < s.tabs[i].pk.length := by have := HN.out.2.1; omega
      obtain ⟨hp0, hp1, hkd⟩ := HKC.out.col m hmk hmp
      have her : (ch.key.row[m]).err = 0 := HKC.out.err _ (List.getElem_mem hmk)
      obtain ⟨p, hp⟩ := Int.eq_ofNat_of_zero_le hp0
      rw [hp, Int.toNat_natCast] at hp1 hkd
      have hkd' : ch.key.row[m].kind = s.tabs[i].cols[p].kind := by
        rw [List.getD_eq_getElem?_getD, List.getElem?_eq_getElem hp1] at hkd
        exact hkd
      obtain ⟨bk, ok, hKA, -, q0, q1, q2⟩ := (HKO.out wo hbo).val hmk
      obtain ⟨w5, hw5⟩ : ∃ w5, w5 = wo.alloc (.cells #[.int .i64 ch.key.row[m].kind, .int .i64 ch.key.row[m].int, .string ch.key.row[m].text] 60) := ⟨_, rfl⟩
      have hb5 : Below wo.heap.size wo w5 := by rw [hw5]; exact (Below.refl _ _).alloc (Nat.le_refl _) _
      have hg5 : w5.heap[wo.heap.size]? = some (.cells #[.int .i64 ch.key.row[m].kind, .int .i64 ch.key.row[m].int, .string ch.key.row[m].text] 60 (0, 0)) := by rw [hw5]; exact heap_alloc_new wo _
      have hs5 : wo.heap.size < w5.heap.size := by rw [hw5]; simp
      have HB5 := Lib.hid (hb.trans (hb5.mono hb.size))
      have HV := Lib.hid (rValidate ch.key.row[m] w5 her)
      have HCE : Hid (∀ W, Below w5.heap.size w5 W → W.cell? ⟨wo.heap.size, 0, none⟩ = some (.int .i64 ch.key.row[m].kind)) := Lib.hid fun W hW => by
        have h := (hW.block wo.heap.size hs5).trans hg5
        exact cell_of_row _ _ 0 _ _ _ h
      have y0 := cell_of_row _ _ 0 _ _ _ hg5
      have y1 := cell_of_row _ _ 1 _ _ _ hg5
      have y2 := cell_of_row _ _ 2 _ _ _ hg5
      have HCP : Hid (∀ W, Below w.heap.size w W → ∃ cb co pb po, s.tabs[i].CA = some ⟨cb, co, none⟩ ∧ s.tabs[i].PA = some ⟨pb, po, none⟩ ∧ W.cell? ⟨cb, co + p * 3 + 1, none⟩ = some (.int .i64 ch.key.row[m].kind) ∧ W.cell? ⟨pb, po + m, none⟩ = some (.int .i64 (p : Int))) := Lib.hid fun W hW => by
        obtain ⟨cb, co, e1, -, -, x1, -⟩ := (HTT.out W hW).cols.col hp1
        obtain ⟨pb, po, e2, -, x3⟩ := (HTT.out W hW).pk.int hmp
        rw [hp] at x3
        rw [← hkd'] at x1
        exact ⟨cb, co, pb, po, e1, e2, x1, x3⟩
      have hpc : (p : Int) < (s.tabs[i].cols.length : Int) := by omega
      have hlt' : (m : Int) < (n : Int) := by omega
      have HW5 := Lib.hid hw5
      have z2 := (HBK.out wo (HB2.out.1.trans (hb.mono HB2.out.1.size))).2.2.2.1
      rw [hKA] at z2 ⊢
      clear hb hbo hw5 hb5 hg5 hs5 hKA hp hp0 hkd hkd' her
      generalize ch.key.row[m] = v at *
      go_upto_region 13 with fail
      rw [← HW5.out]
      go_wp2_with fail
      refine HV.out.mono ?_
      rintro e w6 ⟨rfl, hb6⟩
      have HB6 := Lib.hid (HB5.out.trans (hb6.mono HB5.out.size))
      have hbw6 := HB2.out.2.trans (HB6.out.mono HB2.out.2.size)
      clear y0 y1 y2 q0 q1 q2 t1 t2 z2 s0 s1 s2 k0 k1 k2 k3
      have y0 := HCE.out w6 hb6
      obtain ⟨t1, t2⟩ := HTK.out w6 hbw6
      obtain ⟨cb, co, pb, po, e1, e2, x1, x3⟩ := HCP.out w6 hbw6
      rw [e1] at t1
      rw [e2] at t2
      clear hb6 hbw6 e1 e2
      go_wp2_with fail
      go_quiet (fail)
      go_wp2_with fail
      go_roundw
      case rel => exact ⟨m + 1, by go_num, by omega, below_drewN HB6.out _⟩
      case measure => simp [intOf]; omega
    · have hmn' : m = n := by omega
      subst hmn'
      have HE := Lib.hid hbo
      clear hb hbo
      go_wp2_with fail
      go_ret
      exact ⟨rfl, HE.out⟩
end Go.Proofs.YtefifkleamiabaaGreatDoor

namespace Go.Proofs.YtefifkleamiabaaGreatDoor
open Go.RowKit Go.Sort

theorem builder_below {T e : TypeId} {B b : Nat} {bs : List Value} {w w' : World} (h : Lib.IsBuilder T e B b bs w) (hb : Below w.heap.size w w') : Lib.IsBuilder T e B b bs w' := by
  have key : ∀ p, Lib.BuilderAt T e B b p bs w → Lib.BuilderAt T e B b p bs w' := by
    intro p h
    have hlt := h.lt
    obtain ⟨hB, v, h1, ho, hne⟩ := h
    refine ⟨hB, v, (hb.block b hlt).trans h1, ⟨ho.1, ?_⟩, hne⟩
    rcases ho.2 with hn | ⟨g, cap, cur, rfl, hg, hgg, rest⟩
    · exact .inl hn
    · exact .inr ⟨g, cap, cur, rfl, hg, (hb.block g (Array.getElem?_eq_some_iff.1 hgg).1).trans hgg, rest⟩
  exact h.elim (fun x => .inl (key _ x)) (fun x => .inr (key _ x))
/-- The key of one digit, encoded. -/
def encV1 (k : Nat) : ByteArray := (⟨#[124]⟩ : ByteArray) ++ dg 1 ++ ⟨#[44]⟩ ++ dg k ++ ⟨#[44]⟩ ++ dg 0 ++ ⟨#[44]⟩ ++ ⟨#[]⟩
theorem encV1_size (k : Nat) : (encV1 k).size = 7 := by
  have h1 : (dg 1).size = 1 := rfl
  have hk : (dg k).size = 1 := rfl
  have h0 : (dg 0).size = 1 := rfl
  have hc : ∀ x : UInt8, (⟨#[x]⟩ : ByteArray).size = 1 := fun _ => rfl
  have hn : (⟨#[]⟩ : ByteArray).size = 0 := rfl
  unfold encV1
  simp only [ByteArray.size_append, h1, hk, h0, hc, hn, Nat.reduceAdd, Nat.add_zero]
def encL (k : Nat) : List UInt8 := (dg 1).data.toList ++ (encV1 k).data.toList
def encK (k : Nat) : ByteArray := ⟨(encL k).toArray⟩
theorem encK_inj {a b : Nat} (ha : a < 10) (hb : b < 10) (h : encK a = encK b) : a = b := by
  have hA : a = 0 ∨ a = 1 ∨ a = 2 ∨ a = 3 ∨ a = 4 ∨ a = 5 ∨ a = 6 ∨ a = 7 ∨ a = 8 ∨ a = 9 := by omega
  have hB : b = 0 ∨ b = 1 ∨ b = 2 ∨ b = 3 ∨ b = 4 ∨ b = 5 ∨ b = 6 ∨ b = 7 ∨ b = 8 ∨ b = 9 := by omega
  have h2 : (encK a).data.toList.getD 4 0 = (encK b).data.toList.getD 4 0 := by rw [h]
  rcases hA with rfl | rfl | rfl | rfl | rfl | rfl | rfl | rfl | rfl | rfl <;> rcases hB with rfl | rfl | rfl | rfl | rfl | rfl | rfl | rfl | rfl | rfl <;> first | rfl | (exact absurd h2 (by decide +kernel))
theorem encK_eq {a b : Nat} (ha : a < 10) (hb : b < 10) : (encK a == encK b) = decide (a = b) := by
  by_cases h : a = b
  · subst h; simp [(MapKept.bytes_beq _ _).2 rfl]
  · rw [decide_eq_false h]
    cases hx : (encK a == encK b) with
    | false => rfl
    | true => exact absurd (encK_inj ha hb ((MapKept.bytes_beq _ _).1 hx)) h

set_option maxRecDepth 100000 in
set_option maxHeartbeats 8000000 in
theorem rEncode1 (A : Option Addr) (c : Nat) (k : Nat) (hk : k < 10) (w : World) (hx : Elems 3 Val.cs w (· < w.heap.size) A (ik (k : Int))) :
    Calls Tryz.prog 31 #[.slice A 1 c] w fun e w' => e = .returned (.string (encK k)) ∧ Below w.heap.size w w' := by
  have HX := Lib.hid hx
  obtain ⟨w1, hw1⟩ : ∃ w1, w1 = w.alloc (.cells #[.pointer none, .slice none 0 0] 125) := ⟨_, rfl⟩
  have hB1 : Lib.IsBuilder 125 5 w.heap.size w.heap.size [] w1 := by rw [hw1]; exact Lib.fresh_isBuilder 125 5 w
  have hb1 : Below w.heap.size w w1 := by rw [hw1]; exact (Below.refl _ _).alloc (Nat.le_refl _) _
  have HW1 := Lib.hid hw1
  have HB1 := Lib.hid (And.intro hB1 hb1)
  have HI1 : Hid (∀ W, Calls Tryz.prog 61 #[.int .i64 1] W fun e w' => e = .returned (.string (dg 1)) ∧ w' = W) := Lib.hid fun W => (itoa1 1 (by omega) W).mono fun e w' h => ⟨h.1, h.2.symm⟩
  have HI0 : Hid (∀ W, Calls Tryz.prog 61 #[.int .i64 0] W fun e w' => e = .returned (.string (dg 0)) ∧ w' = W) := Lib.hid fun W => (itoa1 0 (by omega) W).mono fun e w' h => ⟨h.1, h.2.symm⟩
  have HIK : Hid (∀ W, Calls Tryz.prog 61 #[.int .i64 (k : Int)] W fun e w' => e = .returned (.string (dg k)) ∧ w' = W) := Lib.hid fun W => (itoa1 k hk W).mono fun e w' h => ⟨h.1, h.2.symm⟩
  have HWS1 : Hid (∀ W, Lib.IsBuilder 125 5 w.heap.size w.heap.size [] W → Below w.heap.size w W → Calls Tryz.prog 60 #[.pointer (some ⟨w.heap.size, 0, none⟩), .string (dg 1)] W fun e w' => e = .returned (.tuple #[.int .i64 1, .nilIface]) ∧ Lib.IsBuilder 125 5 w.heap.size w.heap.size (Lib.byteCells (dg 1).data.toList) w' ∧ Below w.heap.size w w') := Lib.hid fun W hI hW =>
    (Tryz.Builder_WriteString w.heap.size w.heap.size [] (dg 1) W hI (by show 0 + 1 ≤ _; omega) hW.size).mono fun e w' h => ⟨h.1, .inr h.2.1, hW.trans h.2.2⟩
  have HWS2 : Hid (∀ W, Lib.IsBuilder 125 5 w.heap.size w.heap.size (Lib.byteCells (dg 1).data.toList) W → Below w.heap.size w W → Calls Tryz.prog 60 #[.pointer (some ⟨w.heap.size, 0, none⟩), .string (encV1 k)] W fun e w' => (∃ v, e = .returned v) ∧ Lib.IsBuilder 125 5 w.heap.size w.heap.size (Lib.byteCells (encL k)) w' ∧ Below w.heap.size w w') := Lib.hid fun W hI hW =>
    (Tryz.Builder_WriteString w.heap.size w.heap.size _ (encV1 k) W hI (by rw [Lib.byteCells_length, encV1_size]; show 1 + 7 ≤ 140737488355328; omega) hW.size).mono fun e w' h => ⟨⟨_, h.1⟩, .inr (by unfold encL; rw [Lib.byteCells_append]; exact h.2.1), hW.trans h.2.2⟩
  have HST : Hid (∀ W, Lib.IsBuilder 125 5 w.heap.size w.heap.size (Lib.byteCells (encL k)) W → Below w.heap.size w W → Calls Tryz.prog 62 #[.pointer (some ⟨w.heap.size, 0, none⟩)] W fun e w' => e = .returned (.string (encK k)) ∧ Below w.heap.size w w') := Lib.hid fun W hI hW =>
    (Tryz.Builder_String_any w.heap.size w.heap.size (encL k) W hI hW.size).mono fun e w' h => ⟨h.1, hW.trans h.2⟩
  have HX2 : Hid (∀ W, Below w.heap.size w W → ∃ b off, A = some ⟨b, off, none⟩ ∧ W.cell? ⟨b, off, none⟩ = some (.int .i64 1) ∧ W.cell? ⟨b, off + 1, none⟩ = some (.int .i64 (k : Int)) ∧ W.cell? ⟨b, off + 2, none⟩ = some (.string ⟨#[]⟩)) := Lib.hid fun W hW => by
    obtain ⟨b, off, e, -, a0, a1, a2⟩ := (HX.out.on hW).val (k := 0) (by show 0 < 1; omega)
    rw [Nat.zero_mul, Nat.add_zero] at a0 a1 a2
    exact ⟨b, off, e, a0, a1, a2⟩
  clear hx hw1 hB1 hb1 HX
  go_enter Tryz.func31, Tryz.ntmps31
  go_upto_region 2 with fail
  rw [← HW1.out]
  go_wp2_with fail
  refine (HI1.out _).mono ?_
  rintro e w2 ⟨rfl, hw2⟩
  subst hw2
  go_wp2_with fail
  refine (HWS1.out _ HB1.out.1 HB1.out.2).mono ?_
  rintro e w3 ⟨rfl, hI3, hb3⟩
  have HB3 := Lib.hid (And.intro hI3 hb3)
  clear hI3 hb3
  go_wp2_with fail
  go_loopw [12] (fun vi wr => (vi = .int .i64 0 ∧ w3 = wr) ∨ (vi = .int .i64 1 ∧ Lib.IsBuilder 125 5 w.heap.size w.heap.size (Lib.byteCells (encL k)) wr ∧ Below w.heap.size w wr)) (fun vi _ => 1 - (intOf vi).toNat)
  case atStart => exact .inl ⟨rfl, rfl⟩
  case round =>
    rcases hrel with ⟨rfl, rfl⟩ | ⟨rfl, hI, hb⟩
    · obtain ⟨b, off, rfl, a0, a1, a2⟩ := HX2.out w3 HB3.out.2
      go_upto_region 6 with fail
      obtain ⟨w4, hw4⟩ : ∃ w4, w4 = w3.alloc (Obj.cells #[Value.int IntKind.i64 1, Value.int IntKind.i64 ↑k, Value.string { data := #[] }] 60) := ⟨_, rfl⟩
      have hg4 : w4.heap[w3.heap.size]? = some (.cells #[Value.int IntKind.i64 1, Value.int IntKind.i64 ↑k, Value.string { data := #[] }] 60 (0, 0)) := by rw [hw4]; exact heap_alloc_new w3 _
      have HBA : Hid (Below w3.heap.size w3 w4) := Lib.hid (by rw [hw4]; exact (Below.refl _ _).alloc (Nat.le_refl _) _)
      have v0 : w4.cell? ⟨w3.heap.size, 0, none⟩ = some (.int .i64 1) := cell_of_row _ _ 0 _ _ _ hg4
      have v1 : w4.cell? ⟨w3.heap.size, 1, none⟩ = some (.int .i64 (k : Int)) := cell_of_row _ _ 1 _ _ _ hg4
      have v2 : w4.cell? ⟨w3.heap.size, 2, none⟩ = some (.string ⟨#[]⟩) := cell_of_row _ _ 2 _ _ _ hg4
      rw [← hw4]
      clear hw4 hg4
      have HI4 := Lib.hid (builder_below HB3.out.1 HBA.out)
      have HB4 := Lib.hid (HB3.out.2.trans (HBA.out.mono HB3.out.2.size))
      have hz1 : ¬ 9223372036854775807 < 1 + (dg 1).size := by show ¬ 9223372036854775807 < 1 + 1; omega
      have hz2 : ¬ 9223372036854775807 < 1 + (dg 1).size + 1 := by show ¬ 9223372036854775807 < 1 + 1 + 1; omega
      have hz3 : ¬ 9223372036854775807 < 1 + (dg 1).size + 1 + (dg k).size := by show ¬ 9223372036854775807 < 1 + 1 + 1 + 1; omega
      have hz4 : ¬ 9223372036854775807 < 1 + (dg 1).size + 1 + (dg k).size + 1 := by show ¬ 9223372036854775807 < 1 + 1 + 1 + 1 + 1; omega
      have hz5 : ¬ 9223372036854775807 < 1 + (dg 1).size + 1 + (dg k).size + 1 + (dg 0).size := by show ¬ 9223372036854775807 < 1 + 1 + 1 + 1 + 1 + 1; omega
      have hz6 : ¬ 9223372036854775807 < 1 + (dg 1).size + 1 + (dg k).size + 1 + (dg 0).size + 1 := by show ¬ 9223372036854775807 < 1 + 1 + 1 + 1 + 1 + 1 + 1; omega
      have HWQ : Hid (∀ W, Lib.IsBuilder 125 5 w.heap.size w.heap.size (Lib.byteCells (dg 1).data.toList) W → Below w.heap.size w W → Calls Tryz.prog 60 #[.pointer (some ⟨w.heap.size, 0, none⟩), .string ((⟨#[124]⟩ : ByteArray) ++ dg 1 ++ ⟨#[44]⟩ ++ dg k ++ ⟨#[44]⟩ ++ dg 0 ++ ⟨#[44]⟩ ++ ⟨#[]⟩)] W fun e w' => (∃ v, e = .returned v) ∧ Lib.IsBuilder 125 5 w.heap.size w.heap.size (Lib.byteCells (encL k)) w' ∧ Below w.heap.size w w') := HWS2
      clear HWS2
      go_still_tail 19, (by kernel_rfl)
      still_call (HI1.out _)
      repeat still_step
      still_call (HIK.out _)
      repeat still_step
      still_call (HI0.out _)
      repeat still_step
      refine wpStill_nil ?_
      change wpList _ _ _ _ _ w4.drew
      go_wp2_with fail
      refine (HWQ.out _ (builder_below HI4.out (below_drewN (Below.refl _ _) 1)) (below_drewN HB4.out 1)).mono ?_
      rintro e w5 ⟨⟨v, rfl⟩, hI5, hb5⟩
      have HB5 := Lib.hid (And.intro hI5 hb5)
      clear hI5 hb5
      go_wp2_with fail
      go_roundw
      case rel => exact .inr ⟨by go_num, HB5.out.1, HB5.out.2⟩
      case measure => simp [intOf]
    · have HB4 := Lib.hid (And.intro hI hb)
      clear hI hb
      go_wp2_with fail
      refine (HST.out _ HB4.out.1 HB4.out.2).mono ?_
      rintro e w5 ⟨rfl, hb5⟩
      have HB5 := Lib.hid hb5
      clear hb5
      go_wp2_with fail
      go_ret
      exact ⟨rfl, HB5.out⟩

set_option maxRecDepth 100000 in
set_option maxHeartbeats 8000000 in
theorem rAffKey1 (s : Sc) (ch : ChM) (i : Nat) (w : World) (hs : ScOk (· < w.heap.size) w s) (ho : ChOk (· < w.heap.size) w ch) (hc : ChC s ch i) (hk : ch.kind = 1) (hl : s.tabs.length ≤ 1000) :
    Calls Tryz.prog 32 #[s.v, .agg ch.cells] w fun e w' => ∃ v, e = .returned v ∧ Own 3 Val.cs 60 w.heap.size w' v (keyOf (s.tabs[i]'hc.il).pk ch.row.row) ∧ Below w.heap.size w w' := by
  have hil := hc.il
  obtain ⟨tb, toff, hTA, -, -⟩ := hs.tabs.tbl (k := 0) (by omega)
  obtain ⟨w1, hw1, hb1, hs1, hbk⟩ := scBox s ch w
  have HBK := Lib.hid hbk
  have HF1 := Lib.hid fun W (hW : Below w.heap.size w W) => rFindTable s ch.name i W (hs.on hW) hl hil hc.fi tb toff hTA
  have HTK : Hid (∀ W, Below w.heap.size w W → W.cell? ⟨tb, toff + i * 3, none⟩ = some (.string s.tabs[i].name) ∧ W.cell? ⟨tb, toff + i * 3 + 1, none⟩ = some (.slice s.tabs[i].CA s.tabs[i].cols.length s.tabs[i].cc) ∧ W.cell? ⟨tb, toff + i * 3 + 2, none⟩ = some (.slice s.tabs[i].PA s.tabs[i].pk.length s.tabs[i].pc)) := Lib.hid fun W hW => by
    obtain ⟨tb1, to1, e1, -, p0, p1, p2⟩ := (hs.on hW).tabs.tbl hil
    rw [hTA] at e1
    injection e1 with e1
    injection e1 with e11 e12
    subst e11 e12
    exact ⟨p0, p1, p2⟩
  have HCR : Hid (∀ W m, Below w.heap.size w W → Calls Tryz.prog 25 #[s.tabs[i].val, .slice ch.row.A ch.row.row.length ch.row.c] (W.drewN m) fun e w' => ∃ v, e = .returned v ∧ Own 3 Val.cs 60 w.heap.size w' v (keyOf s.tabs[i].pk ch.row.row) ∧ Below W.heap.size W w') := Lib.hid fun W m hW => by
    have hd : Below W.heap.size W (W.drewN m) := below_drewN (Below.refl _ _) m
    have h0 := hW.trans (hd.mono hW.size)
    exact (keyOfB _ ch.row.A ch.row.c ch.row.row (W.drewN m) ((hs.on h0).tab _ (List.getElem_mem hil)) (ho.row.on h0).el (by have := hc.tab.2; omega)).mono fun e w' ⟨v, h1, h2, h3⟩ => ⟨v, h1, h2.mono (by show w.heap.size ≤ W.heap.size; exact hW.size), hd.trans h3⟩
  have HB1 := Lib.hid hb1
  have HW1 := Lib.hid hw1
  obtain ⟨⟨s0, s1, s2⟩, k0, k1, k2, k3⟩ := HBK.out w1 (Below.refl _ _)
  unfold Sc.cells ChM.cells at HW1
  unfold Sc.v Sc.cells at HF1 ⊢
  unfold Tbl.val at HCR
  unfold ChM.cells
  rw [hk] at HW1 ⊢
  rw [hk] at HBK k0
  clear hs ho hk hTA hw1 hb1 hs1 hbk hl
  generalize keyOf (s.tabs[i]'hc.il).pk ch.row.row = res at *
  go_enter Tryz.func32, Tryz.ntmps32
  go_upto_region 1 with fail
  rw [← HW1.out]
  go_wp2_with fail
  refine (HF1.out w1 HB1.out).mono ?_
  rintro e w2 ⟨rfl, hb2⟩
  have HB2 := Lib.hid (And.intro hb2 (HB1.out.trans (hb2.mono HB1.out.size)))
  clear hb2 s0 s1 s2 k0 k1 k2 k3
  obtain ⟨⟨s0, s1, s2⟩, k0, k1, k2, k3⟩ := HBK.out w2 HB2.out.1
  obtain ⟨t0, t1, t2⟩ := HTK.out w2 HB2.out.2
  go_upto_region 3 with fail
  go_region_held3 (fun W => W.cell? ⟨tb, toff + i * 3, none⟩ = some (.string s.tabs[i].name) ∧ W.cell? ⟨tb, toff + i * 3 + 1, none⟩ = some (.slice s.tabs[i].CA s.tabs[i].cols.length s.tabs[i].cc) ∧ W.cell? ⟨tb, toff + i * 3 + 2, none⟩ = some (.slice s.tabs[i].PA s.tabs[i].pk.length s.tabs[i].pc) ∧ W.cell? ⟨w.heap.size + 1, 3, none⟩ = some (.slice ch.row.A ch.row.row.length ch.row.c)) (first | exact ⟨t0, t1, t2, k3⟩ | exact s9)
    (first
    | (go_at_call 25; refine (HCR.out w2 1 HB2.out.2).mono ?_; rintro e w3 ⟨v, rfl, ho3, hb3⟩; have s9 := And.intro (HTK.out w3 (HB2.out.2.trans (hb3.mono HB2.out.2.size))).1 (And.intro (HTK.out w3 (HB2.out.2.trans (hb3.mono HB2.out.2.size))).2.1 (And.intro (HTK.out w3 (HB2.out.2.trans (hb3.mono HB2.out.2.size))).2.2 (HBK.out w3 (HB2.out.1.trans (hb3.mono HB2.out.1.size))).2.2.2.2))))
  all_goals
    have HF := Lib.hid (And.intro ho3 (HB2.out.2.trans (hb3.mono HB2.out.2.size)))
    clear hb3 ho3 s9
    go_wp2_with fail
    go_ret
    exact ⟨_, rfl, HF.out.1, HF.out.2⟩

set_option maxRecDepth 100000 in
set_option maxHeartbeats 8000000 in
theorem rAffKey2 (s : Sc) (ch : ChM) (i : Nat) (w : World) (hs : ScOk (· < w.heap.size) w s) (hc : ChC s ch i) (hk : ch.kind = 2) (hl : s.tabs.length ≤ 1000) :
    Calls Tryz.prog 32 #[s.v, .agg ch.cells] w fun e w' => e = .returned (.slice ch.key.A ch.key.row.length ch.key.c) ∧ Below w.heap.size w w' := by
  have hil := hc.il
  obtain ⟨tb, toff, hTA, -, -⟩ := hs.tabs.tbl (k := 0) (by omega)
  obtain ⟨w1, hw1, hb1, hs1, hbk⟩ := scBox s ch w
  have HBK := Lib.hid hbk
  have HF1 := Lib.hid fun W (hW : Below w.heap.size w W) => rFindTable s ch.name i W (hs.on hW) hl hil hc.fi tb toff hTA
  have HB1 := Lib.hid hb1
  have HW1 := Lib.hid hw1
  obtain ⟨⟨s0, s1, s2⟩, k0, k1, k2, k3⟩ := HBK.out w1 (Below.refl _ _)
  unfold Sc.cells ChM.cells at HW1
  unfold Sc.v Sc.cells at HF1 ⊢
  unfold ChM.cells
  rw [hk] at HW1 ⊢
  rw [hk] at HBK k0
  clear hs hk hTA hw1 hb1 hs1 hbk hl
  go_enter Tryz.func32, Tryz.ntmps32
  go_upto_region 1 with fail
  rw [← HW1.out]
  go_wp2_with fail
  refine (HF1.out w1 HB1.out).mono ?_
  rintro e w2 ⟨rfl, hb2⟩
  have HB2 := Lib.hid (And.intro hb2 (HB1.out.trans (hb2.mono HB1.out.size)))
  clear hb2 s0 s1 s2 k0 k1 k2 k3
  obtain ⟨⟨s0, s1, s2⟩, k0, k1, k2, k3⟩ := HBK.out w2 HB2.out.1
  go_wp2_with fail
  go_ret
  exact ⟨rfl, HB2.out.2⟩
end Go.Proofs.YtefifkleamiabaaGreatDoor

namespace Go.Proofs.YtefifkleamiabaaGreatDoor

section
variable {α : Type}

def swp (f : Nat → α) (i j : Nat) : Nat → α := fun k => if k = i then f j else if k = j then f i else f k

/-- g comes of f by exchanges within [a, b). -/
inductive Sw (a b : Nat) (f : Nat → α) : (Nat → α) → Prop
  | refl : Sw a b f f
  | step {g : Nat → α} {i j : Nat} (h : Sw a b f g) (hi : a ≤ i ∧ i < b) (hj : a ≤ j ∧ j < b) : Sw a b f (swp g i j)

theorem Sw.trans {a b : Nat} {f g h : Nat → α} (x : Sw a b f g) (y : Sw a b g h) : Sw a b f h := by
  induction y with
  | refl => exact x
  | step _ hi hj ih => exact ih.step hi hj
theorem Sw.mono {a b a' b' : Nat} {f g : Nat → α} (x : Sw a b f g) (ha : a' ≤ a) (hb : b ≤ b') : Sw a' b' f g := by
  induction x with
  | refl => exact .refl
  | step _ hi hj ih => exact ih.step ⟨by omega, by omega⟩ ⟨by omega, by omega⟩
theorem Sw.out {a b : Nat} {f g : Nat → α} (x : Sw a b f g) {k : Nat} (hk : ¬ (a ≤ k ∧ k < b)) : g k = f k := by
  induction x with
  | refl => rfl
  | step h hi hj ih =>
    unfold swp
    rw [if_neg (by omega), if_neg (by omega)]
    exact ih
theorem Sw.all {a b : Nat} {f g : Nat → α} (x : Sw a b f g) {p : α → Prop} (h : ∀ k, a ≤ k → k < b → p (f k)) : ∀ k, a ≤ k → k < b → p (g k) := by
  induction x with
  | refl => exact h
  | @step g i j _ hi hj ih =>
    intro k h1 h2
    unfold swp
    split
    · exact ih j hj.1 hj.2
    · split
      · exact ih i hi.1 hi.2
      · exact ih k h1 h2
theorem Sw.congr {a b : Nat} {f g g' : Nat → α} (x : Sw a b f g) (e : ∀ k, g' k = g k) : Sw a b f g' := by
  rw [show g' = g from funext e]
  exact x

/-- As lists: permutations. -/
theorem map_set_swap (f : Nat → α) : ∀ (n i j : Nat), i < j → j < n → ((List.range n).map (swp f i j)).Perm ((List.range n).map f) := by
  intro n
  induction n with
  | zero => intro i j _ h; omega
  | succ n ih =>
    intro i j hij hj
    rw [List.range_succ, List.map_append, List.map_append]
    by_cases hjn : j < n
    · have e : swp f i j n = f n := by unfold swp; rw [if_neg (by omega), if_neg (by omega)]
      simp only [List.map_cons, List.map_nil, e]
      exact (ih i j hij hjn).append_right _
    · have hjn' : j = n := by omega
      subst hjn'
      have e : swp f i j j = f i := by unfold swp; rw [if_neg (by omega), if_pos rfl]
      simp only [List.map_cons, List.map_nil, e]
      have key : ∀ m, i < m → m ≤ j → ((List.range m).map (swp f i j) ++ [f i]).Perm ((List.range m).map f ++ [f j]) := by
        intro m
        induction m with
        | zero => intro h; omega
        | succ m ihm =>
          intro h1 h2
          rw [List.range_succ, List.map_append, List.map_append]
          simp only [List.map_cons, List.map_nil, List.append_assoc]
          by_cases him : i < m
          · have e2 : swp f i j m = f m := by unfold swp; rw [if_neg (by omega), if_neg (by omega)]
            rw [e2]
            have h3 := ihm him (by omega)
            have s1 : ([f m] ++ [f i]).Perm ([f i] ++ [f m]) := List.perm_append_comm
            have s2 : ([f j] ++ [f m]).Perm ([f m] ++ [f j]) := List.perm_append_comm
            refine (s1.append_left _).trans ?_
            refine List.Perm.trans ?_ (s2.append_left _)
            rw [← List.append_assoc, ← List.append_assoc]
            exact h3.append_right _
          · have him' : m = i := by omega
            subst him'
            have e2 : swp f m j m = f j := by unfold swp; rw [if_pos rfl]
            rw [e2]
            have e3 : (List.range m).map (swp f m j) = (List.range m).map f := by
              apply List.map_congr_left
              intro k hk
              have := List.mem_range.1 hk
              unfold swp
              rw [if_neg (by omega), if_neg (by omega)]
            rw [e3]
            exact List.perm_append_comm.append_left _
      exact key j hij (Nat.le_refl _)
theorem swp_comm (f : Nat → α) (i j : Nat) : swp f i j = swp f j i := by
  funext k
  unfold swp
  by_cases h1 : k = i <;> by_cases h2 : k = j <;> simp_all
theorem swp_self (f : Nat → α) (i : Nat) : swp f i i = f := by
  funext k
  unfold swp
  by_cases h1 : k = i <;> simp_all
theorem Sw.perm {a b n : Nat} {f g : Nat → α} (x : Sw a b f g) (hb : b ≤ n) : ((List.range n).map g).Perm ((List.range n).map f) := by
  induction x with
  | refl => exact .refl _
  | @step g i j _ hi hj ih =>
    refine List.Perm.trans ?_ ih
    rcases Nat.lt_trichotomy i j with h | h | h
    · exact map_set_swap g n i j h (by omega)
    · subst h
      rw [swp_self]
    · rw [swp_comm]
      exact map_set_swap g n j i h (by omega)

/-- A test that orders: 'less' of a total preorder. -/
structure Ord (lt : α → α → Prop) : Prop where
  asym : ∀ x y, lt x y → ¬ lt y x
  trans : ∀ x y z, ¬ lt y x → ¬ lt z y → ¬ lt z x

variable {lt : α → α → Prop}
def Srt (lt : α → α → Prop) (f : Nat → α) (a b : Nat) : Prop := ∀ i j, a ≤ i → i < j → j < b → ¬ lt (f j) (f i)

theorem Srt.sub {f : Nat → α} {a b a' b' : Nat} (h : Srt lt f a b) (ha : a ≤ a') (hb : b' ≤ b) : Srt lt f a' b' := fun i j h1 h2 h3 => h i j (by omega) h2 (by omega)
theorem Srt.congr {f g : Nat → α} {a b : Nat} (h : Srt lt f a b) (e : ∀ k, a ≤ k → k < b → g k = f k) : Srt lt g a b := fun i j h1 h2 h3 => by
  rw [e i (by omega) (by omega), e j (by omega) (by omega)]
  exact h i j h1 h2 h3
theorem Srt.short {f : Nat → α} {a b : Nat} (h : b ≤ a + 1) : Srt lt f a b := fun i j h1 h2 h3 => by omega
/-- Two sorted parts, the first below the second. -/
theorem Srt.join {f : Nat → α} {a m b : Nat} (h1 : Srt lt f a m) (h2 : Srt lt f m b) (hc : ∀ i j, a ≤ i → i < m → m ≤ j → j < b → ¬ lt (f j) (f i)) : Srt lt f a b := fun i j hi hij hj => by
  by_cases h : j < m
  · exact h1 i j hi hij h
  · by_cases h' : i < m
    · exact hc i j hi h' (by omega) hj
    · exact h2 i j (by omega) hij hj
/-- Exchanges within each part keep that the first is below the second. -/
theorem cross_sw {f g : Nat → α} {a m b : Nat} (hc : ∀ i j, a ≤ i → i < m → m ≤ j → j < b → ¬ lt (f j) (f i)) (h : Sw a m f g) : ∀ i j, a ≤ i → i < m → m ≤ j → j < b → ¬ lt (g j) (g i) := by
  intro i j h1 h2 h3 h4
  rw [h.out (k := j) (by omega)]
  exact h.all (p := fun x => ¬ lt (f j) x) (fun k hk1 hk2 => hc k j hk1 hk2 h3 h4) i h1 h2
theorem cross_sw2 {f g : Nat → α} {a m b : Nat} (hc : ∀ i j, a ≤ i → i < m → m ≤ j → j < b → ¬ lt (f j) (f i)) (h : Sw m b f g) : ∀ i j, a ≤ i → i < m → m ≤ j → j < b → ¬ lt (g j) (g i) := by
  intro i j h1 h2 h3 h4
  rw [h.out (k := i) (by omega)]
  exact h.all (p := fun x => ¬ lt x (f i)) (fun k hk1 hk2 => hc i k h1 h2 hk1 hk2) j h3 h4

/-! Insertion. -/
/-- The run's element stands at j; all others of [a, i] are in order, those behind j above it. -/
structure Ins (lt : α → α → Prop) (f : Nat → α) (a i j : Nat) : Prop where
  le : a ≤ j ∧ j ≤ i
  srt : ∀ x y, a ≤ x → x < y → y ≤ i → x ≠ j → y ≠ j → ¬ lt (f y) (f x)
  up : ∀ y, j < y → y ≤ i → ¬ lt (f y) (f j)
theorem Ins.first {f : Nat → α} {a i : Nat} (h : Srt lt f a i) (hi : a ≤ i) : Ins lt f a i i := ⟨⟨hi, Nat.le_refl _⟩, fun x y h1 h2 h3 _ h5 => h x y h1 h2 (by omega), fun y h1 h2 => by omega⟩
theorem Ins.step (o : Ord lt) {f : Nat → α} {a i j : Nat} (h : Ins lt f a i j) (hj : a < j) (hl : lt (f j) (f (j - 1))) : Ins lt (swp f j (j - 1)) a i (j - 1) := by
  have e1 : swp f j (j - 1) (j - 1) = f j := by unfold swp; rw [if_neg (by omega), if_pos rfl]
  have e2 : swp f j (j - 1) j = f (j - 1) := by unfold swp; rw [if_pos rfl]
  have e3 : ∀ k, k ≠ j → k ≠ j - 1 → swp f j (j - 1) k = f k := fun k h1 h2 => by unfold swp; rw [if_neg h1, if_neg h2]
  have := h.le
  refine ⟨⟨by omega, by omega⟩, fun x y h1 h2 h3 h4 h5 => ?_, fun y h1 h2 => ?_⟩
  · by_cases hx : x = j
    · subst hx
      rw [e2, e3 y (by omega) (by omega)]
      exact h.srt (x - 1) y (by omega) (by omega) h3 (by omega) (by omega)
    · by_cases hy : y = j
      · subst hy
        rw [e2, e3 x (by omega) h4]
        exact h.srt x (y - 1) h1 (by omega) (by omega) hx (by omega)
      · rw [e3 x hx h4, e3 y hy h5]
        exact h.srt x y h1 h2 h3 hx hy
  · rw [e1]
    by_cases hy : y = j
    · subst hy
      rw [e2]
      exact o.asym _ _ hl
    · rw [e3 y hy (by omega)]
      exact h.up y (by omega) h2
theorem Ins.done (o : Ord lt) {f : Nat → α} {a i j : Nat} (h : Ins lt f a i j) (hs : j = a ∨ ¬ lt (f j) (f (j - 1))) : Srt lt f a (i + 1) := by
  intro x y h1 h2 h3
  have := h.le
  by_cases hx : x = j
  · subst hx
    exact h.up y h2 (by omega)
  · by_cases hy : y = j
    · subst hy
      rcases hs with hs | hs
      · omega
      · by_cases hx1 : x = y - 1
        · rw [hx1]; exact hs
        · exact o.trans _ _ _ (h.srt x (y - 1) h1 (by omega) (by omega) hx (by omega)) hs
    · exact h.srt x y h1 h2 (by omega) hx hy

/-! Ranges exchanged; rotation. -/
def swr (f : Nat → α) (a b : Nat) : Nat → Nat → α
  | 0 => f
  | n + 1 => swp (swr f a b n) (a + n) (b + n)
theorem swr_at (f : Nat → α) (a b : Nat) : ∀ n, a + n ≤ b → ∀ x, swr f a b n x = if a ≤ x ∧ x < a + n then f (x + (b - a)) else if b ≤ x ∧ x < b + n then f (x - (b - a)) else f x := by
  intro n
  induction n with
  | zero => intro _ x; rw [if_neg (by omega), if_neg (by omega)]; rfl
  | succ n ih =>
    intro h x
    have ih' := ih (by omega)
    unfold swr swp
    rw [ih' (b + n), ih' (a + n), ih' x]
    (repeat' split) <;> first | (exfalso; omega) | rfl | (congr 1; omega)
theorem swr_sw (f : Nat → α) {a b lo hi : Nat} : ∀ n, lo ≤ a → lo ≤ b → a + n ≤ hi → b + n ≤ hi → Sw lo hi f (swr f a b n)
  | 0, _, _, _, _ => .refl
  | n + 1, h1, h2, h3, h4 => (swr_sw f n h1 h2 (by omega) (by omega)).step ⟨by omega, by omega⟩ ⟨by omega, by omega⟩
/-- [a, m) behind [m, b). -/
def rot (f : Nat → α) (a m b : Nat) : Nat → α := fun x => if a ≤ x ∧ x < a + (b - m) then f (x + (m - a)) else if a + (b - m) ≤ x ∧ x < b then f (x - (b - m)) else f x
theorem rot_gt (f : Nat → α) {m i j : Nat} (hi : i ≤ m) (hij : j < i) : rot (swr f (m - i) m j) (m - (i - j)) m (m + j) = rot f (m - i) m (m + j) := by
  funext x
  have s := swr_at f (m - i) m j (by omega)
  unfold rot
  simp only [s]
  (repeat' split) <;> first | (exfalso; omega) | rfl | (congr 1; omega)
theorem rot_lt (f : Nat → α) {m i j : Nat} (hi : i ≤ m) (hij : i < j) : rot (swr f (m - i) (m + j - i) i) (m - i) m (m + (j - i)) = rot f (m - i) m (m + j) := by
  funext x
  have s := swr_at f (m - i) (m + j - i) i (by omega)
  unfold rot
  simp only [s]
  (repeat' split) <;> first | (exfalso; omega) | rfl | (congr 1; omega)
theorem rot_eq (f : Nat → α) {m i : Nat} (hi : i ≤ m) : swr f (m - i) m i = rot f (m - i) m (m + i) := by
  funext x
  rw [swr_at f (m - i) m i (by omega) x]
  unfold rot
  (repeat' split) <;> first | (exfalso; omega) | rfl | (congr 1; omega)
theorem rot_none (f : Nat → α) {a m b : Nat} (h : a ≤ m ∧ m ≤ b) (hc : a = m ∨ m = b) : rot f a m b = f := by
  funext x
  unfold rot
  by_cases h1 : a ≤ x ∧ x < a + (b - m)
  · rw [if_pos h1]
    congr 1
    omega
  · rw [if_neg h1]
    by_cases h2 : a + (b - m) ≤ x ∧ x < b
    · rw [if_pos h2]
      congr 1
      omega
    · rw [if_neg h2]

/-! The merge where one side has one element. -/
/-- The element of a, carried up to k. -/
def bub (f : Nat → α) (a k : Nat) : Nat → α := fun x => if a ≤ x ∧ x < k then f (x + 1) else if x = k then f a else f x
theorem bub_first (f : Nat → α) (a : Nat) : bub f a a = f := by
  funext x
  unfold bub
  rw [if_neg (by omega)]
  by_cases h : x = a
  · rw [if_pos h, h]
  · rw [if_neg h]
theorem bub_step (f : Nat → α) {a k : Nat} (h : a ≤ k) : swp (bub f a k) k (k + 1) = bub f a (k + 1) := by
  funext x
  unfold swp bub
  by_cases h1 : x = k
  · subst h1
    rw [if_pos rfl, if_neg (by omega), if_neg (by omega), if_pos (by omega)]
  · rw [if_neg h1]
    by_cases h2 : x = k + 1
    · subst h2
      rw [if_pos rfl, if_neg (by omega), if_pos rfl, if_neg (by omega), if_pos rfl]
    · rw [if_neg h2]
      by_cases h3 : a ≤ x ∧ x < k
      · rw [if_pos h3, if_pos (by omega)]
      · rw [if_neg h3, if_neg h1, if_neg (by omega), if_neg h2]
theorem bub_srt (o : Ord lt) {f : Nat → α} {a b k : Nat} (hs : Srt lt f (a + 1) b) (hk : a ≤ k ∧ k < b) (h1 : ∀ x, a + 1 ≤ x → x ≤ k → lt (f x) (f a)) (h2 : ∀ x, k < x → x < b → ¬ lt (f x) (f a)) : Srt lt (bub f a k) a b := by
  intro i j hi hij hj
  unfold bub
  by_cases c1 : a ≤ i ∧ i < k
  · rw [if_pos c1]
    by_cases c2 : a ≤ j ∧ j < k
    · rw [if_pos c2]
      exact hs _ _ (by omega) (by omega) (by omega)
    · rw [if_neg c2]
      by_cases c3 : j = k
      · rw [if_pos c3]
        exact o.asym _ _ (h1 (i + 1) (by omega) (by omega))
      · rw [if_neg c3]
        exact hs _ _ (by omega) (by omega) (by omega)
  · rw [if_neg c1, if_neg (c := a ≤ j ∧ j < k) (by omega), if_neg (c := j = k) (by omega)]
    by_cases c4 : i = k
    · rw [if_pos c4]
      exact h2 j (by omega) hj
    · rw [if_neg c4]
      exact hs _ _ (by omega) hij hj
theorem bub_sw (f : Nat → α) {a k b : Nat} : ∀ n, k = a + n → k < b → Sw a b f (bub f a k) := by
  intro n
  induction n generalizing k with
  | zero => intro h _; rw [h, Nat.add_zero, bub_first]; exact .refl
  | succ n ih =>
    intro h hb
    have := (ih (k := a + n) rfl (by omega)).step (i := a + n) (j := a + n + 1) ⟨by omega, by omega⟩ ⟨by omega, by omega⟩
    rw [bub_step f (by omega)] at this
    rw [h]
    exact this
/-- The element of m, carried down to k. -/
def bdn (f : Nat → α) (m k : Nat) : Nat → α := fun x => if x = k then f m else if k < x ∧ x ≤ m then f (x - 1) else f x
theorem bdn_first (f : Nat → α) (m : Nat) : bdn f m m = f := by
  funext x
  unfold bdn
  by_cases h : x = m
  · rw [if_pos h, h]
  · rw [if_neg h, if_neg (by omega)]
theorem bdn_step (f : Nat → α) {m k : Nat} (h : k + 1 ≤ m) : swp (bdn f m (k + 1)) (k + 1) k = bdn f m k := by
  funext x
  unfold swp bdn
  by_cases h1 : x = k + 1
  · subst h1
    rw [if_pos rfl, if_neg (by omega), if_neg (by omega), if_neg (by omega), if_pos (by omega)]
    rfl
  · rw [if_neg h1]
    by_cases h2 : x = k
    · subst h2
      rw [if_pos rfl, if_pos rfl, if_pos rfl]
    · rw [if_neg h2, if_neg h1, if_neg h2]
      by_cases h3 : k + 1 < x ∧ x ≤ m
      · rw [if_pos h3, if_pos (by omega)]
      · rw [if_neg h3, if_neg (by omega)]
theorem bdn_srt (o : Ord lt) {f : Nat → α} {a m k : Nat} (hs : Srt lt f a m) (hk : a ≤ k ∧ k ≤ m) (h1 : ∀ x, a ≤ x → x < k → ¬ lt (f m) (f x)) (h2 : ∀ x, k ≤ x → x < m → lt (f m) (f x)) : Srt lt (bdn f m k) a (m + 1) := by
  intro i j hi hij hj
  unfold bdn
  by_cases c1 : i = k
  · rw [if_pos c1, if_neg (c := j = k) (by omega), if_pos (by omega)]
    exact o.asym _ _ (h2 (j - 1) (by omega) (by omega))
  · rw [if_neg c1]
    by_cases c2 : k < i ∧ i ≤ m
    · rw [if_pos c2, if_neg (c := j = k) (by omega), if_pos (by omega)]
      exact hs _ _ (by omega) (by omega) (by omega)
    · rw [if_neg c2]
      by_cases c3 : j = k
      · rw [if_pos c3]
        exact h1 i hi (by omega)
      · rw [if_neg c3]
        by_cases c4 : k < j ∧ j ≤ m
        · rw [if_pos c4]
          exact hs _ _ hi (by omega) (by omega)
        · rw [if_neg c4]
          exact hs _ _ hi hij (by omega)
theorem bdn_sw (f : Nat → α) {m k a b : Nat} : ∀ n, k + n = m → a ≤ k → m < b → Sw a b f (bdn f m k) := by
  intro n
  induction n generalizing k with
  | zero => intro h _ _; rw [← h, Nat.add_zero, bdn_first]; exact .refl
  | succ n ih =>
    intro h ha hb
    have := (ih (k := k + 1) (by omega) (by omega) hb).step (i := k + 1) (j := k) ⟨by omega, by omega⟩ ⟨by omega, by omega⟩
    rwa [bdn_step f (by omega)] at this

/-! The general merge. -/
/-- What the search has found: where to cut. -/
structure Cutp (lt : α → α → Prop) (f : Nat → α) (a m b mid s : Nat) : Prop where
  le : a ≤ s ∧ s ≤ m ∧ s ≤ mid ∧ m + mid ≤ s + b
  lo : a < s → m + mid < s + b → ¬ lt (f (m + mid - s)) (f (s - 1))
  hi : s < m → m < m + mid - s → ¬ lt (f s) (f (m + mid - s - 1))
/-- Behind the rotation: two pairs of sorted parts, the first pair below the second. -/
theorem cut_srt (o : Ord lt) {f : Nat → α} {a m b mid s : Nat} (h : Cutp lt f a m b mid s) (h1 : Srt lt f a m) (h2 : Srt lt f m b) (hmid : a ≤ mid ∧ mid ≤ b) :
    let g := rot f s m (m + mid - s)
    Srt lt g a s ∧ Srt lt g s mid ∧ Srt lt g mid (m + mid - s) ∧ Srt lt g (m + mid - s) b ∧ ∀ i j, a ≤ i → i < mid → mid ≤ j → j < b → ¬ lt (g j) (g i) := by
  obtain ⟨l1, l2, l3, l4⟩ := h.le
  have g1 : ∀ x, x < s → rot f s m (m + mid - s) x = f x := fun x hx => by unfold rot; rw [if_neg (by omega), if_neg (by omega)]
  have g2 : ∀ x, s ≤ x → x < mid → rot f s m (m + mid - s) x = f (x + (m - s)) := fun x hx hx2 => by unfold rot; rw [if_pos (by omega)]
  have g3 : ∀ x, mid ≤ x → x < m + mid - s → rot f s m (m + mid - s) x = f (x - (mid - s)) := fun x hx hx2 => by
    unfold rot
    rw [if_neg (by omega), if_pos (by omega)]
    congr 1
    omega
  have g4 : ∀ x, m + mid - s ≤ x → rot f s m (m + mid - s) x = f x := fun x hx => by unfold rot; rw [if_neg (by omega), if_neg (by omega)]
  have loe : ∀ x, a ≤ x → x < s → ∀ y, m + mid - s ≤ y → y < b → ¬ lt (f y) (f x) := fun x hx hx2 y hy hy2 => by
    have e1 := h.lo (by omega) (by omega)
    have e2 : ¬ lt (f (m + mid - s)) (f x) := by
      by_cases hxs : x = s - 1
      · rw [hxs]; exact e1
      · exact o.trans _ _ _ (h1 x (s - 1) hx (by omega) (by omega)) e1
    by_cases hye : y = m + mid - s
    · rw [hye]; exact e2
    · exact o.trans _ _ _ e2 (h2 (m + mid - s) y (by omega) (by omega) hy2)
  have hie : ∀ x, m ≤ x → x < m + mid - s → ∀ y, s ≤ y → y < m → ¬ lt (f y) (f x) := fun x hx hx2 y hy hy2 => by
    have e1 := h.hi (by omega) (by omega)
    have e2 : ¬ lt (f s) (f x) := by
      by_cases hxs : x = m + mid - s - 1
      · rw [hxs]; exact e1
      · exact o.trans _ _ _ (h2 x (m + mid - s - 1) hx (by omega) (by omega)) e1
    by_cases hye : y = s
    · rw [hye]; exact e2
    · exact o.trans _ _ _ e2 (h1 s y (by omega) (by omega) hy2)
  refine ⟨fun i j hi hij hj => ?_, fun i j hi hij hj => ?_, fun i j hi hij hj => ?_, fun i j hi hij hj => ?_, fun i j hi hij hj hjb => ?_⟩
  · rw [g1 i (by omega), g1 j hj]
    exact h1 i j hi hij (by omega)
  · rw [g2 i hi (by omega), g2 j (by omega) hj]
    exact h2 _ _ (by omega) (by omega) (by omega)
  · rw [g3 i hi (by omega), g3 j (by omega) hj]
    exact h1 _ _ (by omega) (by omega) (by omega)
  · rw [g4 i hi, g4 j (by omega)]
    exact h2 _ _ (by omega) hij hj
  · by_cases ci : i < s
    · rw [g1 i ci]
      by_cases cj : j < m + mid - s
      · rw [g3 j hj cj]
        exact h1 _ _ hi (by omega) (by omega)
      · rw [g4 j (by omega)]
        exact loe i hi ci j (by omega) hjb
    · rw [g2 i (by omega) hij]
      by_cases cj : j < m + mid - s
      · rw [g3 j hj cj]
        exact hie _ (by omega) (by omega) _ (by omega) (by omega)
      · rw [g4 j (by omega)]
        exact h2 _ _ (by omega) (by omega) hjb
end

end Go.Proofs.YtefifkleamiabaaGreatDoor
