/-
  The walk of trigger.Check, where the triggers fit.
  The walks of (*executor).current: an upsert whose key is not there, a delete whose key is.
  The walks of slices.Equal at rows of different lengths, and of trigger.cloneChange.
  The executor in memory; change.Apply as the executor calls it.
  What a step of apply leaves; the triggers' cells. No program's walk.
-/
import Derived.Test.YtefifkleamiabaaGreatDoorVm07
import Derived.Test.YtefifkleamiabaaGreatDoorVm06
namespace Go.Proofs.YtefifkleamiabaaGreatDoor
open Go.RowKit Go.Sort

theorem checkAction (s : Sc) (t : Tbl) (a : Ac) (w : World) (hs : ScOk (· < w.heap.size) w s) (ht : TOk (· < w.heap.size) w t) (ho : Elems 4 opdCs w (· < w.heap.size) a.A a.ops) (hc : AcC s t a) (hl : s.tabs.length ≤ 1000) (htl : t.cols.length ≤ 1000) :
    Calls Tryz.prog 67 #[s.v, t.val, a.val] w fun e w' => e = .returned (.int .i64 0) ∧ Below w.heap.size w w' := by
  rcases hc.kind with hk | hk
  · exact checkActionUps s t a w hs ht ho hc hk hl htl
  · exact checkActionDel s t a w hs ht ho hc hk hl htl

set_option maxRecDepth 100000 in
set_option maxHeartbeats 8000000 in
theorem checkTriggers (s : Sc) (A : Option Addr) (c : Nat) (ts : List Tr) (w : World) (hs : ScOk (· < w.heap.size) w s) (hv : SchV s) (ht : TgOk (· < w.heap.size) w A ts) (hc : ∀ t ∈ ts, TrC s t) (hl : ts.length ≤ 8) :
    Calls Tryz.prog 37 #[s.v, .slice A ts.length c] w fun e w' => e = .returned (.int .i64 0) ∧ Below w.heap.size w w' := by
  obtain ⟨n, hn⟩ : ∃ n, ts.length = n := ⟨_, rfl⟩
  have h1000 : s.tabs.length ≤ 1000 := by have := hv.ntab; omega
  obtain ⟨w1, hw1⟩ : ∃ w1, w1 = w.alloc (.cells s.cells 27) := ⟨_, rfl⟩
  have hb1 : Below w.heap.size w w1 := by rw [hw1]; exact (Below.refl _ _).alloc (Nat.le_refl _) _
  have hg0 : w1.heap[w.heap.size]? = some (.cells s.cells 27 (0, 0)) := by rw [hw1]; exact heap_alloc_new w _
  have hs1 : w.heap.size < w1.heap.size := by rw [hw1]; simp
  have HBK : Hid (∀ W, Below w1.heap.size w1 W → W.cell? ⟨w.heap.size, 0, none⟩ = some (.slice s.TA s.tabs.length s.tc) ∧ W.cell? ⟨w.heap.size, 1, none⟩ = some (.slice s.FA s.fks.length s.fc) ∧ W.cell? ⟨w.heap.size, 2, none⟩ = some (.slice s.NA s.cns.length s.nc)) := Lib.hid fun W hW => by
    have h0 := (hW.block w.heap.size hs1).trans hg0
    unfold Sc.cells at h0
    exact ⟨cell_of_row _ _ 0 _ _ _ h0, cell_of_row _ _ 1 _ _ _ h0, cell_of_row _ _ 2 _ _ _ h0⟩
  have HSV := Lib.hid fun W (hW : Below w.heap.size w W) => schemaValidate s W (hs.on hW) hv
  have HFT := Lib.hid fun nm W (hW : Below w.heap.size w W) => findTable s nm W (hs.on hW) h1000
  have HSC := Lib.hid hs
  have HV := Lib.hid hv
  have HT := Lib.hid ht
  have HC := Lib.hid hc
  have HN := Lib.hid hn
  have H1000 := Lib.hid h1000
  have HB1 := Lib.hid hb1
  have HW1 := Lib.hid hw1
  obtain ⟨c0, c1, c2⟩ := HBK.out w1 (Below.refl _ _)
  rw [hn] at hl ⊢
  unfold Sc.cells at HW1
  unfold Sc.v Sc.cells at HSV HFT ⊢
  clear hs hv ht hc hb1 hw1 hg0 hs1 hn h1000
  go_enter Tryz.func37, Tryz.ntmps37
  go_upto_region 1 with fail
  rw [← HW1.out]
  go_wp2_with fail
  refine (HSV.out w1 HB1.out).mono ?_
  rintro e w2 ⟨rfl, hb2⟩
  have HB2 := Lib.hid (And.intro hb2 (HB1.out.trans (hb2.mono HB1.out.size)))
  clear hb2 c0 c1 c2
  go_wp2_with fail
  go_loopw [23] (fun vi wr => ∃ k : Nat, vi = .int .i64 (k : Int) ∧ k ≤ n ∧ Below w2.heap.size w2 wr) (fun vi _ => n - (intOf vi).toNat)
  case atStart => exact ⟨0, rfl, by omega, Below.refl _ _⟩
  case round =>
    obtain ⟨k, rfl, hkn, hb⟩ := hrel
    obtain ⟨wo, rfl⟩ : ∃ wo, wo = wr := ⟨_, rfl⟩
    by_cases hlt : k < n
    · have hki : k < ts.length := by have := HN.out; omega
      have hb1o := HB2.out.1.trans (hb.mono HB2.out.1.size)
      have hbwo := HB2.out.2.trans (hb.mono HB2.out.2.size)
      obtain ⟨b, off, rfl, -, p0, p1, p2⟩ := (HT.out.on hbwo).el.tr hki
      have hlt' : (k : Int) < (n : Int) := by omega
      have HTC := Lib.hid (HC.out _ (List.getElem_mem hki))
      have HTM := Lib.hid (HT.out.tr _ (List.getElem_mem hki))
      generalize ts[k] = tr at *
      obtain ⟨kind, nm, RA, rc, acts⟩ := tr
      obtain ⟨m, hm⟩ : ∃ m, acts.length = m := ⟨_, rfl⟩
      have hm4 : m ≤ 4 := by rw [← hm]; exact HTC.out.len
      have hm4' : (m : Int) ≤ 4 := by omega
      have hk12 : kind = 1 ∨ kind = 2 := HTC.out.kind
      obtain ⟨j, hj, hti, hac⟩ := HTC.out.tab
      simp only at p0 p1 p2 hti hac
      rw [hm] at p2
      obtain ⟨w5, hw5⟩ : ∃ w5, w5 = wo.alloc (.cells #[.int .i64 kind, .string nm, .slice RA m rc] 44) := ⟨_, rfl⟩
      have hb5 : Below wo.heap.size wo w5 := by rw [hw5]; exact (Below.refl _ _).alloc (Nat.le_refl _) _
      have hg5 : w5.heap[wo.heap.size]? = some (.cells #[.int .i64 kind, .string nm, .slice RA m rc] 44 (0, 0)) := by rw [hw5]; exact heap_alloc_new wo _
      have hs5 : wo.heap.size < w5.heap.size := by rw [hw5]; simp
      have HTB : Hid (∀ W, Below w5.heap.size w5 W → W.cell? ⟨wo.heap.size, 0, none⟩ = some (.int .i64 kind) ∧ W.cell? ⟨wo.heap.size, 1, none⟩ = some (.string nm) ∧ W.cell? ⟨wo.heap.size, 2, none⟩ = some (.slice RA m rc)) := Lib.hid fun W hW => by
        have h := (hW.block wo.heap.size hs5).trans hg5
        exact ⟨cell_of_row _ _ 0 _ _ _ h, cell_of_row _ _ 1 _ _ _ h, cell_of_row _ _ 2 _ _ _ h⟩
      have HB5 := Lib.hid (And.intro (hb1o.trans (hb5.mono hb1o.size)) (And.intro (hbwo.trans (hb5.mono hbwo.size)) (hb.trans (hb5.mono hb.size))))
      have HW5 := Lib.hid hw5
      have HTI := Lib.hid hti
      have HAC := Lib.hid hac
      have HM := Lib.hid hm
      have hjn : (j : Int) < (s.tabs.length : Int) := by omega
      have hj : j < s.tabs.length := hj
      obtain ⟨y0, y1, y2⟩ := HTB.out w5 (Below.refl _ _)
      obtain ⟨c0, c1, c2⟩ := HBK.out w5 HB5.out.1
      clear hb hb1o hbwo hw5 hb5 hg5 hs5 hti hac hm HTC
      go_upto_region 9 with fail
      rw [← HW5.out]
      go_cut [34] from 27 to 34 (fun v34 wx => v34 = .bool false ∧ w5 = wx)
      case first =>
        rcases hk12 with rfl | rfl
        · go_wp2_with fail
          go_meet
          exact ⟨rfl, rfl⟩
        · go_wp2_with fail
          go_meet
          exact ⟨rfl, rfl⟩
      case rest =>
        obtain ⟨rfl, rfl⟩ := hcut
        go_wp2_with fail
        refine (HFT.out nm w5 HB5.out.2.1).mono ?_
        rintro e w6 ⟨rfl, hb6⟩
        rw [HTI.out]
        have hmi : max (j : Int) 0 = (j : Int) := by omega
        have hdi : decide (0 ≤ (j : Int)) = true := decide_eq_true (by omega)
        unfold findV
        rw [hmi, hdi]
        have HB6 := Lib.hid (And.intro hb6 (And.intro (HB5.out.1.trans (hb6.mono HB5.out.1.size)) (And.intro (HB5.out.2.1.trans (hb6.mono HB5.out.2.1.size)) (HB5.out.2.2.trans (hb6.mono HB5.out.2.2.size)))))
        clear hmi hdi hb6 y0 y1 y2 c0 c1 c2
        obtain ⟨y0, y1, y2⟩ := HTB.out w6 HB6.out.1
        go_wp2_with fail
        go_loopw [51] (fun vi wr => ∃ i : Nat, vi = .int .i64 (i : Int) ∧ i ≤ m ∧ Below w6.heap.size w6 wr) (fun vi _ => m - (intOf vi).toNat)
        case atStart => exact ⟨0, rfl, by omega, Below.refl _ _⟩
        case round =>
          obtain ⟨i, rfl, him, hbi⟩ := hrel
          obtain ⟨wq, rfl⟩ : ∃ wq, wq = wr := ⟨_, rfl⟩
          by_cases hlt2 : i < m
          · have hia : i < acts.length := by have := HM.out; omega
            have hb1q := HB6.out.2.1.trans (hbi.mono HB6.out.2.1.size)
            have hbwq := HB6.out.2.2.1.trans (hbi.mono HB6.out.2.2.1.size)
            obtain ⟨b2, off2, hA2, -, q0, q1, q2⟩ := (HTM.out.on hbwq).el.ac hia
            have hA2 : RA = some ⟨b2, off2, none⟩ := hA2
            subst hA2
            have hlt2' : (i : Int) < (m : Int) := by omega
            have HAC1 := Lib.hid (HAC.out _ (List.getElem_mem hia))
            have HAM := Lib.hid (HTM.out.act _ (List.getElem_mem hia))
            have q0 : wq.cell? ⟨b2, off2 + i * 3, none⟩ = some (.int .i64 acts[i].kind) := q0
            have q1 : wq.cell? ⟨b2, off2 + i * 3 + 1, none⟩ = some (.string acts[i].name) := q1
            have q2 : wq.cell? ⟨b2, off2 + i * 3 + 2, none⟩ = some (.slice acts[i].A acts[i].ops.length acts[i].c) := q2
            have HAM : Hid (Elems 4 opdCs w (· < w.heap.size) acts[i].A acts[i].ops) := HAM
            have HAC1 : Hid (AcC s s.tabs[j] acts[i]) := HAC1
            generalize acts[i] = a at *
            obtain ⟨w7, hw7⟩ : ∃ w7, w7 = wq.alloc (.cells #[.int .i64 a.kind, .string a.name, .slice a.A a.ops.length a.c] 105) := ⟨_, rfl⟩
            have hb7 : Below wq.heap.size wq w7 := by rw [hw7]; exact (Below.refl _ _).alloc (Nat.le_refl _) _
            have hg7 : w7.heap[wq.heap.size]? = some (.cells #[.int .i64 a.kind, .string a.name, .slice a.A a.ops.length a.c] 105 (0, 0)) := by rw [hw7]; exact heap_alloc_new wq _
            have hs7 : wq.heap.size < w7.heap.size := by rw [hw7]; simp
            have hb17 := hb1q.trans (hb7.mono hb1q.size)
            have hbw7 := hbwq.trans (hb7.mono hbwq.size)
            obtain ⟨tb, toff, hTA, -, -⟩ := (HSC.out.on hbw7).tabs.tbl hj
            have hS : ∀ W, Below w7.heap.size w7 W → W.cell? ⟨w.heap.size, 0, none⟩ = some (.slice (some ⟨tb, toff, none⟩) s.tabs.length s.tc) ∧ W.cell? ⟨w.heap.size, 1, none⟩ = some (.slice s.FA s.fks.length s.fc) ∧ W.cell? ⟨w.heap.size, 2, none⟩ = some (.slice s.NA s.cns.length s.nc)
                ∧ W.cell? ⟨tb, toff + j * 3, none⟩ = some (.string s.tabs[j].name) ∧ W.cell? ⟨tb, toff + j * 3 + 1, none⟩ = some (.slice s.tabs[j].CA s.tabs[j].cols.length s.tabs[j].cc) ∧ W.cell? ⟨tb, toff + j * 3 + 2, none⟩ = some (.slice s.tabs[j].PA s.tabs[j].pk.length s.tabs[j].pc)
                ∧ W.cell? ⟨wq.heap.size, 0, none⟩ = some (.int .i64 a.kind) ∧ W.cell? ⟨wq.heap.size, 1, none⟩ = some (.string a.name) ∧ W.cell? ⟨wq.heap.size, 2, none⟩ = some (.slice a.A a.ops.length a.c) := fun W hW => by
              obtain ⟨k0, k1, k2⟩ := HBK.out W (hb17.trans (hW.mono hb17.size))
              obtain ⟨tb', toff', hTA', -, z0, z1, z2⟩ := (HSC.out.on (hbw7.trans (hW.mono hbw7.size))).tabs.tbl hj
              rw [hTA] at hTA' k0
              injection hTA' with hTA'
              injection hTA' with e1 e2
              subst e1 e2
              have h := (hW.block wq.heap.size hs7).trans hg7
              exact ⟨k0, k1, k2, z0, z1, z2, cell_of_row _ _ 0 _ _ _ h, cell_of_row _ _ 1 _ _ _ h, cell_of_row _ _ 2 _ _ _ h⟩
            have HCA : Hid (∀ m, Calls Tryz.prog 67 #[.agg #[.slice (some ⟨tb, toff, none⟩) s.tabs.length s.tc, .slice s.FA s.fks.length s.fc, .slice s.NA s.cns.length s.nc], .agg #[.string s.tabs[j].name, .slice s.tabs[j].CA s.tabs[j].cols.length s.tabs[j].cc, .slice s.tabs[j].PA s.tabs[j].pk.length s.tabs[j].pc], .agg #[.int .i64 a.kind, .string a.name, .slice a.A a.ops.length a.c]] (w7.drewN m) fun e w9 => e = .returned (.int .i64 0) ∧ Below w7.heap.size w7 w9) := Lib.hid fun m => by
              have hd : Below w7.heap.size w7 (w7.drewN m) := below_drewN (Below.refl _ _) m
              have hbd := hbw7.trans (hd.mono hbw7.size)
              have h := checkAction s s.tabs[j] a (w7.drewN m) (HSC.out.on hbd) ((HSC.out.on hbd).tab _ (List.getElem_mem hj)) (HAM.out.on hbd) HAC1.out H1000.out (by have := (HV.out.tab _ (List.getElem_mem hj)).ncols; omega)
              unfold Sc.v Sc.cells at h
              rw [hTA] at h
              refine h.mono ?_
              rintro e w9 ⟨rfl, hb9⟩
              exact ⟨rfl, hd.trans hb9⟩
            have HS := Lib.hid hS
            have s7 := hS w7 (Below.refl _ _)
            have HB7 := Lib.hid (hbi.trans (hb7.mono hbi.size))
            have HW7 := Lib.hid hw7
            clear hw7 hb7 hg7 hs7 hb17 hbw7 hS hbi hb1q hbwq hTA
            go_upto_region 19 with fail
            rw [← HW7.out]
            go_region_held3 (fun W => W.cell? ⟨w.heap.size, 0, none⟩ = some (.slice (some ⟨tb, toff, none⟩) s.tabs.length s.tc) ∧ W.cell? ⟨w.heap.size, 1, none⟩ = some (.slice s.FA s.fks.length s.fc) ∧ W.cell? ⟨w.heap.size, 2, none⟩ = some (.slice s.NA s.cns.length s.nc)
                ∧ W.cell? ⟨tb, toff + j * 3, none⟩ = some (.string s.tabs[j].name) ∧ W.cell? ⟨tb, toff + j * 3 + 1, none⟩ = some (.slice s.tabs[j].CA s.tabs[j].cols.length s.tabs[j].cc) ∧ W.cell? ⟨tb, toff + j * 3 + 2, none⟩ = some (.slice s.tabs[j].PA s.tabs[j].pk.length s.tabs[j].pc)
                ∧ W.cell? ⟨wq.heap.size, 0, none⟩ = some (.int .i64 a.kind) ∧ W.cell? ⟨wq.heap.size, 1, none⟩ = some (.string a.name) ∧ W.cell? ⟨wq.heap.size, 2, none⟩ = some (.slice a.A a.ops.length a.c)) (first | exact s7 | exact s9)
              (first
              | (go_at_call 67; refine (HCA.out 1).mono ?_; rintro e w9 ⟨rfl, hb9⟩; have s9 := HS.out w9 hb9))
            all_goals
              have HB9 := Lib.hid (HB7.out.trans (hb9.mono HB7.out.size))
              clear hb9 s9
              go_wp2_with fail
              go_roundw
              case rel => exact ⟨i + 1, by go_num, by omega, HB9.out⟩
              case measure => simp [intOf]; omega
          · have him' : i = m := by omega
            subst him'
            have HF := Lib.hid (HB6.out.2.2.2.trans (hbi.mono HB6.out.2.2.2.size))
            clear hbi
            go_wp2_with fail
            go_roundw
            case rel => exact ⟨k + 1, by go_num, by omega, HF.out⟩
            case measure => simp [intOf]; omega
    · have hkn' : k = n := by omega
      subst hkn'
      have HF := Lib.hid (HB2.out.2.trans (hb.mono HB2.out.2.size))
      clear hb
      go_wp2_with fail
      go_ret
      exact ⟨rfl, HF.out⟩
end Go.Proofs.YtefifkleamiabaaGreatDoor

namespace Go.Proofs.YtefifkleamiabaaGreatDoor
open Go.RowKit Go.Sort

/-- The executor's cells. -/
def exC (s : Sc) (tv iv av : Value) : Array Value := #[.slice s.TA s.tabs.length s.tc, .slice s.FA s.fks.length s.fc, .slice s.NA s.cns.length s.nc, tv, iv, av]

set_option maxRecDepth 100000 in
set_option maxHeartbeats 8000000 in
theorem currentUps (s : Sc) (px : Nat) (tv av : Value) (IA : Option Addr) (ic : Nat) (rs : List RelM) (ch : ChM) (i : Nat) (w : World) (hx : w.heap[px]? = some (.cells (exC s tv (.slice IA rs.length ic) av) 96 (0, 0))) (hs : ScOk (· < w.heap.size) w s) (hl : s.tabs.length ≤ 1000) (hin : InOk (· < w.heap.size) w IA rs) (hir : i < rs.length) (hit : i < s.tabs.length) (hc : ChOk (· < w.heap.size) w ch) (hn : tabI ch.name s.tabs = (i : Int)) (hk : ch.kind = 1) (hrow : ch.row.row.length = s.tabs[i].cols.length) (hp : s.tabs[i].pk.length ≤ 12) (hr : rs[i].rows.length ≤ 1000) (hf : rff s.tabs[i].pk (keyOf s.tabs[i].pk ch.row.row) (rs[i].rows.map Key.row) = false) :
    Calls Tryz.prog 72 #[ptr px, .agg ch.cells] w fun e w' => e = .returned (.slice none 0 0) ∧ Below w.heap.size w w' := by
  have hpx : px < w.heap.size := (Array.getElem?_eq_some_iff.1 hx).1
  obtain ⟨w1, hw1⟩ : ∃ w1, w1 = w.alloc (.cells ch.cells 51) := ⟨_, rfl⟩
  have hb1 : Below w.heap.size w w1 := by rw [hw1]; exact (Below.refl _ _).alloc (Nat.le_refl _) _
  have hg1 : w1.heap[w.heap.size]? = some (.cells ch.cells 51 (0, 0)) := by rw [hw1]; exact heap_alloc_new w _
  have hs1 : w.heap.size < w1.heap.size := by rw [hw1]; simp
  have HCB : Hid (∀ W, Below w1.heap.size w1 W → W.cell? ⟨w.heap.size, 0, none⟩ = some (.int .i64 1) ∧ W.cell? ⟨w.heap.size, 1, none⟩ = some (.string ch.name) ∧ W.cell? ⟨w.heap.size, 2, none⟩ = some (.slice ch.key.A ch.key.row.length ch.key.c) ∧ W.cell? ⟨w.heap.size, 3, none⟩ = some (.slice ch.row.A ch.row.row.length ch.row.c)) := Lib.hid fun W hW => by
    have h := (hW.block w.heap.size hs1).trans hg1
    unfold ChM.cells at h
    rw [hk] at h
    exact ⟨cell_of_row _ _ 0 _ _ _ h, cell_of_row _ _ 1 _ _ _ h, cell_of_row _ _ 2 _ _ _ h, cell_of_row _ _ 3 _ _ _ h⟩
  have HXB : Hid (∀ W, Below w.heap.size w W → W.cell? ⟨px, 0, none⟩ = some (.slice s.TA s.tabs.length s.tc) ∧ W.cell? ⟨px, 1, none⟩ = some (.slice s.FA s.fks.length s.fc) ∧ W.cell? ⟨px, 2, none⟩ = some (.slice s.NA s.cns.length s.nc) ∧ W.cell? ⟨px, 4, none⟩ = some (.slice IA rs.length ic)) := Lib.hid fun W hW => by
    have h := (hW.block px hpx).trans hx
    unfold exC at h
    exact ⟨cell_of_row _ _ 0 _ _ _ h, cell_of_row _ _ 1 _ _ _ h, cell_of_row _ _ 2 _ _ _ h, cell_of_row _ _ 4 _ _ _ h⟩
  have HFT : Hid (∀ m, Calls Tryz.prog 66 #[s.v, .string ch.name] (w1.drewN m) fun e w' => e = .returned (.tuple #[.int .i64 (i : Int), .bool true]) ∧ Below w1.heap.size w1 w') := Lib.hid fun m => by
    have hd : Below w1.heap.size w1 (w1.drewN m) := below_drewN (Below.refl _ _) m
    refine (findTable s ch.name (w1.drewN m) (hs.on (hb1.trans (hd.mono hb1.size))) hl).mono ?_
    rintro e w' ⟨rfl, hb⟩
    rw [hn]
    have hmi : max (i : Int) 0 = (i : Int) := by omega
    have hdi : decide (0 ≤ (i : Int)) = true := decide_eq_true (by omega)
    unfold findV
    rw [hmi, hdi]
    exact ⟨rfl, hd.trans hb⟩
  have HKY := Lib.hid fun W (hW : Below w.heap.size w W) => relKey s.tabs[i] ch.row.A ch.row.c ch.row.row W ((hs.on hW).tab _ (List.getElem_mem hit)) (hc.row.on hW).el (by omega)
  have HFD := Lib.hid fun W (hW : Below w.heap.size w W) (ky : Key) (hky : KOk (· < W.heap.size) W ky) => relFind s.tabs[i] rs[i].A rs[i].c rs[i].rows ky W ((hs.on hW).tab _ (List.getElem_mem hit)) ((hin.on hW).rel _ (List.getElem_mem hir)) hky hr hp
  have HSC := Lib.hid hs
  have HIN := Lib.hid hin
  have HCO := Lib.hid hc
  have HFF := Lib.hid hf
  have HP := Lib.hid hp
  have HEQ := Lib.hid hrow
  have HR := Lib.hid hr
  have HB1 := Lib.hid hb1
  have HW1 := Lib.hid hw1
  have hit' : (i : Int) < (s.tabs.length : Int) := by omega
  have hir' : (i : Int) < (rs.length : Int) := by omega
  obtain ⟨k0, k1, k2, k3⟩ := HCB.out w1 (Below.refl _ _)
  obtain ⟨x0, x1, x2, x4⟩ := HXB.out w1 hb1
  unfold Sc.v Sc.cells at HFT
  unfold ChM.cells at HW1 ⊢
  rw [hk] at HW1 ⊢
  clear hx hs hl hin hc hn hk hp hr hf hb1 hg1 hs1 hw1 hrow
  go_enter Tryz.func72, Tryz.ntmps72
  go_upto_region 1 with fail
  rw [← HW1.out]
  go_cut [5, 6] from 11 to 20 (fun v5 v6 wx => v5 = .int .i64 (i : Int) ∧ v6 = .bool true ∧ Below w1.heap.size w1 wx)
  case first =>
    go_region_held3 (fun W => W.cell? ⟨px, 0, none⟩ = some (.slice s.TA s.tabs.length s.tc) ∧ W.cell? ⟨px, 1, none⟩ = some (.slice s.FA s.fks.length s.fc) ∧ W.cell? ⟨px, 2, none⟩ = some (.slice s.NA s.cns.length s.nc) ∧ W.cell? ⟨w.heap.size, 1, none⟩ = some (.string ch.name)) (first | exact ⟨x0, x1, x2, k1⟩ | exact s9)
      (first
      | (go_at_call 66; refine (HFT.out 1).mono ?_; rintro e w2 ⟨rfl, hb2⟩; have s9 := And.intro (HXB.out w2 (HB1.out.trans (hb2.mono HB1.out.size))).1 (And.intro (HXB.out w2 (HB1.out.trans (hb2.mono HB1.out.size))).2.1 (And.intro (HXB.out w2 (HB1.out.trans (hb2.mono HB1.out.size))).2.2.1 (HCB.out w2 hb2).2.1))))
    all_goals
      have HB2 := Lib.hid hb2
      clear hb2 s9
      go_wp2_with fail
      go_meet
      exact ⟨rfl, rfl, HB2.out⟩
  case rest =>
    obtain ⟨rfl, rfl, hb2⟩ := hcut
    obtain ⟨w2, rfl⟩ : ∃ w2, w2 = wc := ⟨_, rfl⟩
    clear k0 k1 k2 k3 x0 x1 x2 x4 HFT
    have hbw2 := HB1.out.trans (hb2.mono HB1.out.size)
    obtain ⟨k0, k1, k2, k3⟩ := HCB.out w2 hb2
    obtain ⟨x0, x1, x2, x4⟩ := HXB.out w2 hbw2
    obtain ⟨b, off, hA, -, p0, p1, p2⟩ := (HSC.out.on hbw2).tabs.tbl hit
    rw [hA] at x0
    obtain ⟨w3, hw3⟩ : ∃ w3, w3 = w2.alloc (.cells #[.string s.tabs[i].name, .slice s.tabs[i].CA s.tabs[i].cols.length s.tabs[i].cc, .slice s.tabs[i].PA s.tabs[i].pk.length s.tabs[i].pc] 71) := ⟨_, rfl⟩
    have hb3 : Below w2.heap.size w2 w3 := by rw [hw3]; exact (Below.refl _ _).alloc (Nat.le_refl _) _
    have hg3 : w3.heap[w2.heap.size]? = some (.cells #[.string s.tabs[i].name, .slice s.tabs[i].CA s.tabs[i].cols.length s.tabs[i].cc, .slice s.tabs[i].PA s.tabs[i].pk.length s.tabs[i].pc] 71 (0, 0)) := by rw [hw3]; exact heap_alloc_new w2 _
    have hs3 : w2.heap.size < w3.heap.size := by rw [hw3]; simp
    have HTB : Hid (∀ W, Below w3.heap.size w3 W → W.cell? ⟨w2.heap.size, 0, none⟩ = some (.string s.tabs[i].name) ∧ W.cell? ⟨w2.heap.size, 1, none⟩ = some (.slice s.tabs[i].CA s.tabs[i].cols.length s.tabs[i].cc) ∧ W.cell? ⟨w2.heap.size, 2, none⟩ = some (.slice s.tabs[i].PA s.tabs[i].pk.length s.tabs[i].pc)) := Lib.hid fun W hW => by
      have h := (hW.block w2.heap.size hs3).trans hg3
      exact ⟨cell_of_row _ _ 0 _ _ _ h, cell_of_row _ _ 1 _ _ _ h, cell_of_row _ _ 2 _ _ _ h⟩
    have hb13 := hb2.trans (hb3.mono hb2.size)
    have hbw3 := hbw2.trans (hb3.mono hbw2.size)
    have HB3 := Lib.hid (And.intro hb13 hbw3)
    have HW3 := Lib.hid hw3
    obtain ⟨t0, t1, t2⟩ := HTB.out w3 (Below.refl _ _)
    clear hw3 hb3 hg3 hs3 hb2 hbw2 hA
    go_upto_region 5 with fail
    rw [← HW3.out]
    clear k0 k1 k2 k3 x0 x1 x2 x4 p0 p1 p2
    obtain ⟨k0, k1, k2, k3⟩ := HCB.out w3 hb13
    clear hb13 hbw3
    rw [HEQ.out] at k3
    have HKY3 := Lib.hid (HKY.out w3 HB3.out.2)
    unfold Tbl.val at HKY3
    rw [HEQ.out] at HKY3
    clear HKY
    go_wp2_with fail
    refine HKY3.out.mono ?_
    rintro e w4 ⟨v4, rfl, ho4, hb4⟩
    have hkl : (keyOf s.tabs[i].pk ch.row.row).length = s.tabs[i].pk.length := by unfold keyOf; rw [List.length_map]
    obtain ⟨A4, c4, rfl, -, -⟩ := ho4.form
    have hb34 := HB3.out.2.trans (hb4.mono HB3.out.2.size)
    have HFD4 := Lib.hid fun W (hW : Below w4.heap.size w4 W) => HFD.out W (hb34.trans (hW.mono hb34.size)) ⟨A4, c4, keyOf s.tabs[i].pk ch.row.row⟩ (KOk.on ⟨(ho4.elems valLay.len rfl).more fun g hg => (Own.lt ho4 g hg).2, by show (keyOf s.tabs[i].pk ch.row.row).length ≤ 12; rw [hkl]; exact HP.out⟩ hW)
    simp only [hkl] at HFD4 ⊢
    have HB4 := Lib.hid (And.intro hb4 hb34)
    clear ho4 hb4 hb34 HFD hkl HKY3
    clear t0 t1 t2 k0 k1 k2 k3
    obtain ⟨t0, t1, t2⟩ := HTB.out w4 HB4.out.1
    obtain ⟨x0, x1, x2, x4⟩ := HXB.out w4 HB4.out.2
    obtain ⟨b5, off5, hA5, -, z0, z1⟩ := (HIN.out.on HB4.out.2).el.rel hir
    have HSX : Hid (∀ W, Below w4.heap.size w4 W → W.cell? ⟨w2.heap.size, 0, none⟩ = some (.string s.tabs[i].name) ∧ W.cell? ⟨w2.heap.size, 1, none⟩ = some (.slice s.tabs[i].CA s.tabs[i].cols.length s.tabs[i].cc) ∧ W.cell? ⟨w2.heap.size, 2, none⟩ = some (.slice s.tabs[i].PA s.tabs[i].pk.length s.tabs[i].pc) ∧ W.cell? ⟨px, 4, none⟩ = some (.slice (some ⟨b5, off5, none⟩) rs.length ic) ∧ W.cell? ⟨b5, off5 + i * 2 + 1, none⟩ = some (.slice rs[i].A rs[i].rows.length rs[i].c)) := Lib.hid fun W hW => by
      obtain ⟨t0, t1, t2⟩ := HTB.out W (HB4.out.1.trans (hW.mono HB4.out.1.size))
      have hbw := HB4.out.2.trans (hW.mono HB4.out.2.size)
      obtain ⟨-, -, -, x4⟩ := HXB.out W hbw
      obtain ⟨b6, off6, hA6, -, -, z1⟩ := (HIN.out.on hbw).el.rel hir
      rw [hA5] at hA6 x4
      injection hA6 with hA6
      injection hA6 with e1 e2
      subst e1 e2
      exact ⟨t0, t1, t2, x4, z1⟩
    have HFN : Hid (∀ m, Calls Tryz.prog 106 #[.agg #[.string s.tabs[i].name, .slice s.tabs[i].CA s.tabs[i].cols.length s.tabs[i].cc, .slice s.tabs[i].PA s.tabs[i].pk.length s.tabs[i].pc], .slice rs[i].A rs[i].rows.length rs[i].c, (.slice A4 s.tabs[i].pk.length c4)] (w4.drewN m) fun e w' => e = .returned (.tuple #[.int .i64 (rfi s.tabs[i].pk (keyOf s.tabs[i].pk ch.row.row) (rs[i].rows.map Key.row) : Nat), .bool false]) ∧ Below w4.heap.size w4 w') := Lib.hid fun m => by
      have hd : Below w4.heap.size w4 (w4.drewN m) := below_drewN (Below.refl _ _) m
      refine (HFD4.out (w4.drewN m) hd).mono ?_
      rintro e w' ⟨rfl, hb⟩
      refine ⟨?_, hd.trans hb⟩
      show Ending.returned (.tuple #[_, .bool (rff s.tabs[i].pk (keyOf s.tabs[i].pk ch.row.row) (rs[i].rows.map Key.row))]) = _
      rw [HFF.out]
    have HRW := Lib.hid fun W (hW : Below w.heap.size w W) => (HIN.out.on hW).rel _ (List.getElem_mem hir)
    have HRF : Hid (True) := Lib.hid trivial
    have s4 := HSX.out w4 (Below.refl _ _)
    clear HFD4 x0 x1 x2 x4 z0 z1 hA5
    generalize rfi s.tabs[i].pk (keyOf s.tabs[i].pk ch.row.row) (rs[i].rows.map Key.row) = fi at *
    generalize hrr : rs[i] = r at *
    have HRR := Lib.hid hrr
    clear hrr
    go_upto_region 12 with fail
    go_cut [9, 10] from 53 to 66 (fun v9 v10 wx => v9 = .int .i64 (fi : Int) ∧ v10 = .bool false ∧ Below w4.heap.size w4 wx)
    case first =>
      go_region_held3 (fun W => W.cell? ⟨w2.heap.size, 0, none⟩ = some (.string s.tabs[i].name) ∧ W.cell? ⟨w2.heap.size, 1, none⟩ = some (.slice s.tabs[i].CA s.tabs[i].cols.length s.tabs[i].cc) ∧ W.cell? ⟨w2.heap.size, 2, none⟩ = some (.slice s.tabs[i].PA s.tabs[i].pk.length s.tabs[i].pc) ∧ W.cell? ⟨px, 4, none⟩ = some (.slice (some ⟨b5, off5, none⟩) rs.length ic) ∧ W.cell? ⟨b5, off5 + i * 2 + 1, none⟩ = some (.slice r.A r.rows.length r.c)) (first | exact s4 | exact s9)
        (first
        | (go_at_call 106; refine (HFN.out 1).mono ?_; rintro e w5 ⟨rfl, hb5⟩; have s9 := HSX.out w5 hb5))
      all_goals
        have HB5 := Lib.hid hb5
        clear hb5 s9
        go_wp2_with fail
        go_meet
        exact ⟨rfl, rfl, HB5.out⟩
    case rest =>
      obtain ⟨rfl, rfl, hb5⟩ := hcut
      obtain ⟨w5, rfl⟩ : ∃ w5, w5 = wc := ⟨_, rfl⟩
      have HB5 := Lib.hid (HB4.out.2.trans (hb5.mono HB4.out.2.size))
      clear hb5 s4
      go_wp2_with fail
      go_ret
      exact ⟨rfl, HB5.out⟩

set_option maxRecDepth 100000 in
set_option maxHeartbeats 8000000 in
theorem currentDel (s : Sc) (px : Nat) (tv av : Value) (IA : Option Addr) (ic : Nat) (rs : List RelM) (ch : ChM) (i : Nat) (w : World) (hx : w.heap[px]? = some (.cells (exC s tv (.slice IA rs.length ic) av) 96 (0, 0))) (hs : ScOk (· < w.heap.size) w s) (hl : s.tabs.length ≤ 1000) (hin : InOk (· < w.heap.size) w IA rs) (hir : i < rs.length) (hit : i < s.tabs.length) (hc : ChOk (· < w.heap.size) w ch) (hn : tabI ch.name s.tabs = (i : Int)) (hk : ch.kind = 2) (hkey : ch.key.row.length = s.tabs[i].pk.length) (hp : s.tabs[i].pk.length ≤ 12) (hr : rs[i].rows.length ≤ 1000) (hf : rff s.tabs[i].pk ch.key.row (rs[i].rows.map Key.row) = true) :
    Calls Tryz.prog 72 #[ptr px, .agg ch.cells] w fun e w' => (∃ k ∈ rs[i].rows, e = .returned (.slice k.A k.row.length k.c)) ∧ Below w.heap.size w w' := by
  have hpx : px < w.heap.size := (Array.getElem?_eq_some_iff.1 hx).1
  obtain ⟨w1, hw1⟩ : ∃ w1, w1 = w.alloc (.cells ch.cells 51) := ⟨_, rfl⟩
  have hb1 : Below w.heap.size w w1 := by rw [hw1]; exact (Below.refl _ _).alloc (Nat.le_refl _) _
  have hg1 : w1.heap[w.heap.size]? = some (.cells ch.cells 51 (0, 0)) := by rw [hw1]; exact heap_alloc_new w _
  have hs1 : w.heap.size < w1.heap.size := by rw [hw1]; simp
  have HCB : Hid (∀ W, Below w1.heap.size w1 W → W.cell? ⟨w.heap.size, 0, none⟩ = some (.int .i64 2) ∧ W.cell? ⟨w.heap.size, 1, none⟩ = some (.string ch.name) ∧ W.cell? ⟨w.heap.size, 2, none⟩ = some (.slice ch.key.A ch.key.row.length ch.key.c) ∧ W.cell? ⟨w.heap.size, 3, none⟩ = some (.slice ch.row.A ch.row.row.length ch.row.c)) := Lib.hid fun W hW => by
    have h := (hW.block w.heap.size hs1).trans hg1
    unfold ChM.cells at h
    rw [hk] at h
    exact ⟨cell_of_row _ _ 0 _ _ _ h, cell_of_row _ _ 1 _ _ _ h, cell_of_row _ _ 2 _ _ _ h, cell_of_row _ _ 3 _ _ _ h⟩
  have HXB : Hid (∀ W, Below w.heap.size w W → W.cell? ⟨px, 0, none⟩ = some (.slice s.TA s.tabs.length s.tc) ∧ W.cell? ⟨px, 1, none⟩ = some (.slice s.FA s.fks.length s.fc) ∧ W.cell? ⟨px, 2, none⟩ = some (.slice s.NA s.cns.length s.nc) ∧ W.cell? ⟨px, 4, none⟩ = some (.slice IA rs.length ic)) := Lib.hid fun W hW => by
    have h := (hW.block px hpx).trans hx
    unfold exC at h
    exact ⟨cell_of_row _ _ 0 _ _ _ h, cell_of_row _ _ 1 _ _ _ h, cell_of_row _ _ 2 _ _ _ h, cell_of_row _ _ 4 _ _ _ h⟩
  have HFT : Hid (∀ m, Calls Tryz.prog 66 #[s.v, .string ch.name] (w1.drewN m) fun e w' => e = .returned (.tuple #[.int .i64 (i : Int), .bool true]) ∧ Below w1.heap.size w1 w') := Lib.hid fun m => by
    have hd : Below w1.heap.size w1 (w1.drewN m) := below_drewN (Below.refl _ _) m
    refine (findTable s ch.name (w1.drewN m) (hs.on (hb1.trans (hd.mono hb1.size))) hl).mono ?_
    rintro e w' ⟨rfl, hb⟩
    rw [hn]
    have hmi : max (i : Int) 0 = (i : Int) := by omega
    have hdi : decide (0 ≤ (i : Int)) = true := decide_eq_true (by omega)
    unfold findV
    rw [hmi, hdi]
    exact ⟨rfl, hd.trans hb⟩
  have HKY := Lib.hid fun W (hW : Below w.heap.size w W) => relKey s.tabs[i] ch.row.A ch.row.c ch.row.row W ((hs.on hW).tab _ (List.getElem_mem hit)) (hc.row.on hW).el (by omega)
  have HFD := Lib.hid fun W (hW : Below w.heap.size w W) (ky : Key) (hky : KOk (· < W.heap.size) W ky) => relFind s.tabs[i] rs[i].A rs[i].c rs[i].rows ky W ((hs.on hW).tab _ (List.getElem_mem hit)) ((hin.on hW).rel _ (List.getElem_mem hir)) hky hr hp
  have HSC := Lib.hid hs
  have HIN := Lib.hid hin
  have HCO := Lib.hid hc
  have HFF := Lib.hid hf
  have HP := Lib.hid hp
  have HEQ := Lib.hid hkey
  have HR := Lib.hid hr
  have HB1 := Lib.hid hb1
  have HW1 := Lib.hid hw1
  have hit' : (i : Int) < (s.tabs.length : Int) := by omega
  have hir' : (i : Int) < (rs.length : Int) := by omega
  obtain ⟨k0, k1, k2, k3⟩ := HCB.out w1 (Below.refl _ _)
  obtain ⟨x0, x1, x2, x4⟩ := HXB.out w1 hb1
  unfold Sc.v Sc.cells at HFT
  unfold ChM.cells at HW1 ⊢
  rw [hk] at HW1 ⊢
  clear hx hs hl hin hc hn hk hp hr hf hb1 hg1 hs1 hw1 hkey
  go_enter Tryz.func72, Tryz.ntmps72
  go_upto_region 1 with fail
  rw [← HW1.out]
  go_cut [5, 6] from 11 to 20 (fun v5 v6 wx => v5 = .int .i64 (i : Int) ∧ v6 = .bool true ∧ Below w1.heap.size w1 wx)
  case first =>
    go_region_held3 (fun W => W.cell? ⟨px, 0, none⟩ = some (.slice s.TA s.tabs.length s.tc) ∧ W.cell? ⟨px, 1, none⟩ = some (.slice s.FA s.fks.length s.fc) ∧ W.cell? ⟨px, 2, none⟩ = some (.slice s.NA s.cns.length s.nc) ∧ W.cell? ⟨w.heap.size, 1, none⟩ = some (.string ch.name)) (first | exact ⟨x0, x1, x2, k1⟩ | exact s9)
      (first
      | (go_at_call 66; refine (HFT.out 1).mono ?_; rintro e w2 ⟨rfl, hb2⟩; have s9 := And.intro (HXB.out w2 (HB1.out.trans (hb2.mono HB1.out.size))).1 (And.intro (HXB.out w2 (HB1.out.trans (hb2.mono HB1.out.size))).2.1 (And.intro (HXB.out w2 (HB1.out.trans (hb2.mono HB1.out.size))).2.2.1 (HCB.out w2 hb2).2.1))))
    all_goals
      have HB2 := Lib.hid hb2
      clear hb2 s9
      go_wp2_with fail
      go_meet
      exact ⟨rfl, rfl, HB2.out⟩
  case rest =>
    obtain ⟨rfl, rfl, hb2⟩ := hcut
    obtain ⟨w2, rfl⟩ : ∃ w2, w2 = wc := ⟨_, rfl⟩
    clear k0 k1 k2 k3 x0 x1 x2 x4 HFT
    have hbw2 := HB1.out.trans (hb2.mono HB1.out.size)
    obtain ⟨k0, k1, k2, k3⟩ := HCB.out w2 hb2
    obtain ⟨x0, x1, x2, x4⟩ := HXB.out w2 hbw2
    obtain ⟨b, off, hA, -, p0, p1, p2⟩ := (HSC.out.on hbw2).tabs.tbl hit
    rw [hA] at x0
    obtain ⟨w3, hw3⟩ : ∃ w3, w3 = w2.alloc (.cells #[.string s.tabs[i].name, .slice s.tabs[i].CA s.tabs[i].cols.length s.tabs[i].cc, .slice s.tabs[i].PA s.tabs[i].pk.length s.tabs[i].pc] 71) := ⟨_, rfl⟩
    have hb3 : Below w2.heap.size w2 w3 := by rw [hw3]; exact (Below.refl _ _).alloc (Nat.le_refl _) _
    have hg3 : w3.heap[w2.heap.size]? = some (.cells #[.string s.tabs[i].name, .slice s.tabs[i].CA s.tabs[i].cols.length s.tabs[i].cc, .slice s.tabs[i].PA s.tabs[i].pk.length s.tabs[i].pc] 71 (0, 0)) := by rw [hw3]; exact heap_alloc_new w2 _
    have hs3 : w2.heap.size < w3.heap.size := by rw [hw3]; simp
    have HTB : Hid (∀ W, Below w3.heap.size w3 W → W.cell? ⟨w2.heap.size, 0, none⟩ = some (.string s.tabs[i].name) ∧ W.cell? ⟨w2.heap.size, 1, none⟩ = some (.slice s.tabs[i].CA s.tabs[i].cols.length s.tabs[i].cc) ∧ W.cell? ⟨w2.heap.size, 2, none⟩ = some (.slice s.tabs[i].PA s.tabs[i].pk.length s.tabs[i].pc)) := Lib.hid fun W hW => by
      have h := (hW.block w2.heap.size hs3).trans hg3
      exact ⟨cell_of_row _ _ 0 _ _ _ h, cell_of_row _ _ 1 _ _ _ h, cell_of_row _ _ 2 _ _ _ h⟩
    have hb13 := hb2.trans (hb3.mono hb2.size)
    have hbw3 := hbw2.trans (hb3.mono hbw2.size)
    have HB3 := Lib.hid (And.intro hb13 hbw3)
    have HW3 := Lib.hid hw3
    obtain ⟨t0, t1, t2⟩ := HTB.out w3 (Below.refl _ _)
    clear hw3 hb3 hg3 hs3 hb2 hbw2 hA
    go_upto_region 5 with fail
    rw [← HW3.out]
    clear k0 k1 k2 k3 x0 x1 x2 x4 p0 p1 p2
    obtain ⟨k0, k1, k2, k3⟩ := HCB.out w3 hb13
    clear hb13 hbw3
    rw [HEQ.out] at k2
    obtain ⟨w4, rfl⟩ : ∃ w4, w4 = w3 := ⟨_, rfl⟩
    have HB4 := Lib.hid (And.intro (Below.refl w4.heap.size w4) HB3.out.2)
    have HFD4 := Lib.hid fun W (hW : Below w4.heap.size w4 W) => HFD.out W (HB3.out.2.trans (hW.mono HB3.out.2.size)) ch.key (HCO.out.key.on (HB3.out.2.trans (hW.mono HB3.out.2.size)))
    rw [HEQ.out] at HFD4
    clear HKY HFD
    obtain ⟨t0, t1, t2⟩ := HTB.out w4 HB4.out.1
    obtain ⟨x0, x1, x2, x4⟩ := HXB.out w4 HB4.out.2
    obtain ⟨b5, off5, hA5, -, z0, z1⟩ := (HIN.out.on HB4.out.2).el.rel hir
    have HSX : Hid (∀ W, Below w4.heap.size w4 W → W.cell? ⟨w2.heap.size, 0, none⟩ = some (.string s.tabs[i].name) ∧ W.cell? ⟨w2.heap.size, 1, none⟩ = some (.slice s.tabs[i].CA s.tabs[i].cols.length s.tabs[i].cc) ∧ W.cell? ⟨w2.heap.size, 2, none⟩ = some (.slice s.tabs[i].PA s.tabs[i].pk.length s.tabs[i].pc) ∧ W.cell? ⟨px, 4, none⟩ = some (.slice (some ⟨b5, off5, none⟩) rs.length ic) ∧ W.cell? ⟨b5, off5 + i * 2 + 1, none⟩ = some (.slice rs[i].A rs[i].rows.length rs[i].c)) := Lib.hid fun W hW => by
      obtain ⟨t0, t1, t2⟩ := HTB.out W (HB4.out.1.trans (hW.mono HB4.out.1.size))
      have hbw := HB4.out.2.trans (hW.mono HB4.out.2.size)
      obtain ⟨-, -, -, x4⟩ := HXB.out W hbw
      obtain ⟨b6, off6, hA6, -, -, z1⟩ := (HIN.out.on hbw).el.rel hir
      rw [hA5] at hA6 x4
      injection hA6 with hA6
      injection hA6 with e1 e2
      subst e1 e2
      exact ⟨t0, t1, t2, x4, z1⟩
    have HFN : Hid (∀ m, Calls Tryz.prog 106 #[.agg #[.string s.tabs[i].name, .slice s.tabs[i].CA s.tabs[i].cols.length s.tabs[i].cc, .slice s.tabs[i].PA s.tabs[i].pk.length s.tabs[i].pc], .slice rs[i].A rs[i].rows.length rs[i].c, (.slice ch.key.A s.tabs[i].pk.length ch.key.c)] (w4.drewN m) fun e w' => e = .returned (.tuple #[.int .i64 (rfi s.tabs[i].pk ch.key.row (rs[i].rows.map Key.row) : Nat), .bool true]) ∧ Below w4.heap.size w4 w') := Lib.hid fun m => by
      have hd : Below w4.heap.size w4 (w4.drewN m) := below_drewN (Below.refl _ _) m
      refine (HFD4.out (w4.drewN m) hd).mono ?_
      rintro e w' ⟨rfl, hb⟩
      refine ⟨?_, hd.trans hb⟩
      show Ending.returned (.tuple #[_, .bool (rff s.tabs[i].pk ch.key.row (rs[i].rows.map Key.row))]) = _
      rw [HFF.out]
    have HRW := Lib.hid fun W (hW : Below w.heap.size w W) => (HIN.out.on hW).rel _ (List.getElem_mem hir)
    have HRF : Hid (rfi s.tabs[i].pk ch.key.row (rs[i].rows.map Key.row) < rs[i].rows.length) := Lib.hid (by have h := rff_lt HFF.out; rwa [List.length_map] at h)
    have s4 := HSX.out w4 (Below.refl _ _)
    clear HFD4 x0 x1 x2 x4 z0 z1 hA5
    generalize rfi s.tabs[i].pk ch.key.row (rs[i].rows.map Key.row) = fi at *
    generalize hrr : rs[i] = r at *
    have HRR := Lib.hid hrr
    clear hrr
    go_upto_region 12 with fail
    go_cut [9, 10] from 53 to 66 (fun v9 v10 wx => v9 = .int .i64 (fi : Int) ∧ v10 = .bool true ∧ Below w4.heap.size w4 wx)
    case first =>
      go_region_held3 (fun W => W.cell? ⟨w2.heap.size, 0, none⟩ = some (.string s.tabs[i].name) ∧ W.cell? ⟨w2.heap.size, 1, none⟩ = some (.slice s.tabs[i].CA s.tabs[i].cols.length s.tabs[i].cc) ∧ W.cell? ⟨w2.heap.size, 2, none⟩ = some (.slice s.tabs[i].PA s.tabs[i].pk.length s.tabs[i].pc) ∧ W.cell? ⟨px, 4, none⟩ = some (.slice (some ⟨b5, off5, none⟩) rs.length ic) ∧ W.cell? ⟨b5, off5 + i * 2 + 1, none⟩ = some (.slice r.A r.rows.length r.c)) (first | exact s4 | exact s9)
        (first
        | (go_at_call 106; refine (HFN.out 1).mono ?_; rintro e w5 ⟨rfl, hb5⟩; have s9 := HSX.out w5 hb5))
      all_goals
        have HB5 := Lib.hid hb5
        clear hb5 s9
        go_wp2_with fail
        go_meet
        exact ⟨rfl, rfl, HB5.out⟩
    case rest =>
      obtain ⟨rfl, rfl, hb5⟩ := hcut
      obtain ⟨w5, rfl⟩ : ∃ w5, w5 = wc := ⟨_, rfl⟩
      have HB5 := Lib.hid (HB4.out.2.trans (hb5.mono HB4.out.2.size))
      obtain ⟨-, -, -, y4, y5⟩ := HSX.out w5 hb5
      have hfi := HRF.out
      have hfi' : (fi : Int) < (r.rows.length : Int) := by omega
      obtain ⟨b7, off7, hA7, -, q0⟩ := (HRW.out w5 HB5.out).el.key hfi
      rw [hA7] at y5
      clear hb5 s4
      go_wp2_with fail
      go_ret
      exact ⟨⟨_, by rw [HRR.out]; exact List.getElem_mem hfi, rfl⟩, HB5.out⟩
end Go.Proofs.YtefifkleamiabaaGreatDoor

namespace Go.Proofs.YtefifkleamiabaaGreatDoor
open Go.RowKit Go.Sort

set_option maxRecDepth 100000 in
theorem equalLen (A B : Option Addr) (n c m d : Nat) (w : World) (h : n ≠ m) :
    Calls Tryz.prog 73 #[.slice A n c, .slice B m d] w fun e w' => e = .returned (.bool false) ∧ w = w' := by
  have h' : ((n : Int) == (m : Int)) = false := by simp; omega
  have h2 : ¬ (n : Int) = (m : Int) := by omega
  clear h
  go_enter Tryz.func73, Tryz.ntmps73
  go_wp2_with fail
  go_ret
  exact ⟨rfl, rfl⟩

theorem ret_cloneC {a b c d : Value} {g : Nat} {w : World} (tmps : Array Value) (hp : tmps.getD 2 undef = .pointer (some ⟨g, 0, none⟩)) (hg : w.heap[g]? = some (.cells #[a, b, c, d] 51 (0, 0))) :
    (results Tryz.f41 tmps).run Tryz.prog w = .ok (.agg #[a, b, c, d]) w :=
  results_cell_row (P := Tryz.prog) Tryz.results41 tmps w g 51 _ (0, 0) _ hp hg Tryz.underlying51 rfl (by kernel_rfl)

/-- The two boxes. -/
def CcX (g : Nat) (ch : ChM) (W : World) : Prop :=
  W.heap[g]? = some (.cells ch.cells 51 (0, 0)) ∧ W.heap[g + 1]? = some (.cells #[.int .i64 0, .string ⟨#[]⟩, .slice none 0 0, .slice none 0 0] 51 (0, 0))
theorem CcX.at {g : Nat} {kind : Int} {nm : ByteArray} {kA rA : Option Addr} {kc rc : Nat} {kr rr : Row} {W : World} (h : CcX g ⟨kind, nm, ⟨kA, kc, kr⟩, ⟨rA, rc, rr⟩⟩ W) :
    (W.cell? ⟨g, 0, none⟩ = some (.int .i64 kind) ∧ W.cell? ⟨g, 1, none⟩ = some (.string nm) ∧ W.cell? ⟨g, 2, none⟩ = some (.slice kA kr.length kc) ∧ W.cell? ⟨g, 3, none⟩ = some (.slice rA rr.length rc))
    ∧ (W.cell? ⟨g + 1, 0, none⟩ = some (.int .i64 0) ∧ W.cell? ⟨g + 1, 1, none⟩ = some (.string ⟨#[]⟩) ∧ W.cell? ⟨g + 1, 2, none⟩ = some (.slice none 0 0) ∧ W.cell? ⟨g + 1, 3, none⟩ = some (.slice none 0 0))
    ∧ (∀ i, W.frozen? ⟨g, i, none⟩ = false) ∧ (∀ i, W.frozen? ⟨g + 1, i, none⟩ = false) :=
  ⟨⟨cell_of_row _ _ 0 _ _ _ h.1, cell_of_row _ _ 1 _ _ _ h.1, cell_of_row _ _ 2 _ _ _ h.1, cell_of_row _ _ 3 _ _ _ h.1⟩, ⟨cell_of_row _ _ 0 _ _ _ h.2, cell_of_row _ _ 1 _ _ _ h.2, cell_of_row _ _ 2 _ _ _ h.2, cell_of_row _ _ 3 _ _ _ h.2⟩, fun i => frozen_of_row _ _ i _ _ h.1, fun i => frozen_of_row _ _ i _ _ h.2⟩
/-- Behind the first clone: the second. -/
def CcK (g base : Nat) (w1 : World) (ch : ChM) (e : Ending) (w2 : World) : Prop :=
  ∃ A2 c2, e = .returned (.slice A2 ch.key.row.length c2) ∧ CcX g ch w2
    ∧ Hid (Calls Tryz.prog 76 #[.slice ch.row.A ch.row.row.length ch.row.c] w2 fun e w3 => ∃ A3 c3, e = .returned (.slice A3 ch.row.row.length c3) ∧ CcX g ch w3
      ∧ Hid (Below base w1 w3 ∧ Own 3 Val.cs 60 w1.heap.size w3 (.slice A2 ch.key.row.length c2) ch.key.row ∧ Own 3 Val.cs 60 w1.heap.size w3 (.slice A3 ch.row.row.length c3) ch.row.row))
theorem cck {w w1 : World} {ch : ChM} (hb1 : Below w.heap.size w w1) (hs1 : w1.heap.size = w.heap.size + 2) (hx : CcX w.heap.size ch w1) (hc : ChOk (· < w.heap.size) w ch) (m : Nat) :
    Calls Tryz.prog 76 #[.slice ch.key.A ch.key.row.length ch.key.c] (w1.drewN m) (CcK w.heap.size w1.heap.size w1 ch) := by
  have hd : Below w1.heap.size w1 (w1.drewN m) := below_drewN (Below.refl _ _) m
  have hB : ∀ W, Below w1.heap.size w1 W → CcX w.heap.size ch W := fun W hW => ⟨(hW.block _ (by omega)).trans hx.1, (hW.block _ (by omega)).trans hx.2⟩
  have h1 := hb1.trans (hd.mono hb1.size)
  refine (cloneRow ch.key.A ch.key.row.length ch.key.c ch.key.row (w1.drewN m) _ (hc.key.on h1).el (fun _ h => h) rfl (by have := hc.key.len; omega)).mono ?_
  rintro e w2 ⟨v2, rfl, ho2, hb2⟩
  obtain ⟨A2, c2, rfl, -, -⟩ := ho2.form
  have hb12 := hd.trans hb2
  have h2 := hb1.trans (hb12.mono hb1.size)
  refine ⟨A2, c2, rfl, hB _ hb12, Lib.hid ?_⟩
  refine (cloneRow ch.row.A ch.row.row.length ch.row.c ch.row.row w2 _ (hc.row.on h2).el (fun _ h => h) rfl (by have := hc.row.len; omega)).mono ?_
  rintro e w3 ⟨v3, rfl, ho3, hb3⟩
  obtain ⟨A3, c3, rfl, -, -⟩ := ho3.form
  have hb13 := hb12.trans (hb3.mono hb12.size)
  exact ⟨A3, c3, rfl, hB _ hb13, Lib.hid ⟨hb13, (ho2.below hb3).mono hd.size, ho3.mono hb12.size⟩⟩

set_option maxRecDepth 100000 in
set_option maxHeartbeats 8000000 in
theorem cloneChange (ch : ChM) (w : World) (hc : ChOk (· < w.heap.size) w ch) :
    Calls Tryz.prog 41 #[.agg ch.cells] w fun e w' => ∃ ch' : ChM, e = .returned (.agg ch'.cells) ∧ ch'.kind = ch.kind ∧ ch'.name = ch.name ∧ ch'.key.row = ch.key.row ∧ ch'.row.row = ch.row.row ∧ ChOk (fun g => w.heap.size ≤ g ∧ g < w'.heap.size) w' ch' ∧ Below w.heap.size w w' := by
  obtain ⟨w1, hw1⟩ : ∃ w1, w1 = (w.alloc (.cells ch.cells 51)).alloc (.cells #[.int .i64 0, .string ⟨#[]⟩, .slice none 0 0, .slice none 0 0] 51) := ⟨_, rfl⟩
  have hb1 : Below w.heap.size w w1 := by rw [hw1]; exact ((Below.refl _ _).alloc (Nat.le_refl _) _).alloc (le_size1 (Nat.le_refl _) _) _
  have hg0 : w1.heap[w.heap.size]? = some (.cells ch.cells 51 (0, 0)) := by
    rw [hw1, Below.heap_alloc _ _ _ (by simp)]
    exact heap_alloc_new w _
  have hg1 : w1.heap[w.heap.size + 1]? = some (.cells #[.int .i64 0, .string ⟨#[]⟩, .slice none 0 0, .slice none 0 0] 51 (0, 0)) := by rw [hw1]; exact alloc2_at w _ _
  have hs1 : w1.heap.size = w.heap.size + 2 := by rw [hw1]; simp
  have HCK := Lib.hid fun m => cck hb1 hs1 ⟨hg0, hg1⟩ hc m
  have HLN := Lib.hid (And.intro hc.key.len hc.row.len)
  have HB1 := Lib.hid (And.intro hb1 hs1)
  have HW1 := Lib.hid hw1
  obtain ⟨kind, nm, ⟨kA, kc, kr⟩, ⟨rA, rc, rr⟩⟩ := ch
  unfold ChM.cells at HW1 hg0 ⊢
  simp only at HCK HW1 HLN hg0 ⊢
  have k0 := cell_of_row _ _ 0 _ _ _ hg0
  have k1 := cell_of_row _ _ 1 _ _ _ hg0
  have k2 := cell_of_row _ _ 2 _ _ _ hg0
  have k3 := cell_of_row _ _ 3 _ _ _ hg0
  clear hc hb1 hs1 hw1 hg0 hg1
  go_enter Tryz.func41, Tryz.ntmps41
  go_upto_region 1 with fail
  rw [← HW1.out]
  go_region_law (first
    | (go_simp; go_at_call 76; refine HRC.out.mono ?_; rintro e w3 ⟨A3, c3, rfl, hy, HFIN⟩; obtain ⟨⟨q0, q1, q2, q3⟩, ⟨r0, r1, r2, r3⟩, f0, f1⟩ := hy.at; have HY := Lib.hid hy; clear hy)
    | (go_simp; go_at_call 76; refine (HCK.out 1).mono ?_; rintro e w2 ⟨A2, c2, rfl, hz, HRC⟩; obtain ⟨⟨p0, p1, p2, p3⟩, -, -, -⟩ := hz.at; clear hz))
  all_goals
    go_wp2_with fail
    have hz : ((w3.setCell ⟨w.heap.size, 2, none⟩ (.slice A2 kr.length c2)).setCell ⟨w.heap.size, 3, none⟩ (.slice A3 rr.length c3)).heap[w.heap.size + 1]? = some (.cells #[.int .i64 0, .string ⟨#[]⟩, .slice none 0 0, .slice none 0 0] 51 (0, 0)) := by
      rw [Below.heap_setCell _ _ _ _ (by simp), Below.heap_setCell _ _ _ _ (by simp)]
      exact HY.out.2
    refine bodyPost_ret (ret_cloneC _ rfl (set4 hz)) rfl ?_
    obtain ⟨hbf, ho2, ho3⟩ := HFIN.out
    obtain ⟨hb1, hs1⟩ := HB1.out
    have h20 : ∀ g, (Value.slice A2 kr.length c2).ownBlock = some g → g ≠ w.heap.size := fun g hg => by have := (Own.lt ho2 g hg).1; omega
    have h21 : ∀ g, (Value.slice A2 kr.length c2).ownBlock = some g → g ≠ w.heap.size + 1 := fun g hg => by have := (Own.lt ho2 g hg).1; omega
    have h30 : ∀ g, (Value.slice A3 rr.length c3).ownBlock = some g → g ≠ w.heap.size := fun g hg => by have := (Own.lt ho3 g hg).1; omega
    have h31 : ∀ g, (Value.slice A3 rr.length c3).ownBlock = some g → g ≠ w.heap.size + 1 := fun g hg => by have := (Own.lt ho3 g hg).1; omega
    have e2 := ((((((ho2.mono hb1.size).setCell h20 (p := ⟨w.heap.size, 2, none⟩) (.slice A2 kr.length c2)).setCell h20 (p := ⟨w.heap.size, 3, none⟩) (.slice A3 rr.length c3)).setCell h21 (p := ⟨w.heap.size + 1, 0, none⟩) (.int .i64 kind)).setCell h21 (p := ⟨w.heap.size + 1, 1, none⟩) (.string nm)).setCell h21 (p := ⟨w.heap.size + 1, 2, none⟩) (.slice A2 kr.length c2)).setCell h21 (p := ⟨w.heap.size + 1, 3, none⟩) (.slice A3 rr.length c3)
    have e3 := ((((((ho3.mono hb1.size).setCell h30 (p := ⟨w.heap.size, 2, none⟩) (.slice A2 kr.length c2)).setCell h30 (p := ⟨w.heap.size, 3, none⟩) (.slice A3 rr.length c3)).setCell h31 (p := ⟨w.heap.size + 1, 0, none⟩) (.int .i64 kind)).setCell h31 (p := ⟨w.heap.size + 1, 1, none⟩) (.string nm)).setCell h31 (p := ⟨w.heap.size + 1, 2, none⟩) (.slice A2 kr.length c2)).setCell h31 (p := ⟨w.heap.size + 1, 3, none⟩) (.slice A3 rr.length c3)
    have hg0 : w.heap.size ≤ w.heap.size := Nat.le_refl _
    have hg1 : w.heap.size ≤ w.heap.size + 1 := Nat.le_succ _
    have hb := hb1.trans (hbf.mono hb1.size)
    exact ⟨⟨kind, nm, ⟨A2, c2, kr⟩, ⟨A3, c3, rr⟩⟩, rfl, rfl, rfl, rfl, rfl, ⟨⟨(e2.elems valLay.len rfl).more fun g hg => Own.lt e2 g hg, HLN.out.1⟩, ⟨(e3.elems valLay.len rfl).more fun g hg => Own.lt e3 g hg, HLN.out.2⟩⟩, (((((hb.setCell hg0 _).setCell hg0 _).setCell hg1 _).setCell hg1 _).setCell hg1 _).setCell hg1 _⟩
end Go.Proofs.YtefifkleamiabaaGreatDoor

namespace Go.Proofs.YtefifkleamiabaaGreatDoor
open Go.RowKit Go.Sort

theorem chmLay : Lay 4 ChM.cs := ⟨fun _ => rfl, fun x c hc => by simp [ChM.cs] at hc; rcases hc with rfl | rfl | rfl | rfl <;> rfl⟩
theorem elem_chg : ElemT Tryz.prog 32 51 4 72 := ⟨Tryz.underlying32, by
  have h : (Tryz.prog.info? 51).map (fun i => (i.zero, i.size, i.bytes)) = some (some (.agg #[.int .i64 0, .string ByteArray.empty, .slice none 0 0, .slice none 0 0]), 4, 72) := by kernel_rfl
  obtain ⟨i0, hi, hz0, hz1, hz2⟩ := info_parts h
  exact ⟨i0, _, hi, hz0, hz1, hz2, rfl⟩, by omega⟩
theorem ChOk.keep {S : Nat → Prop} {w w' : World} {c : ChM} (h : ChOk S w c) (hk : Keeps S w w') : ChOk S w' c := ⟨h.key.keep hk, h.row.keep hk⟩
theorem ChOk.more {S S' : Nat → Prop} {w : World} {c : ChM} (h : ChOk S w c) (hs : ∀ g, S g → S' g) : ChOk S' w c := ⟨h.key.more hs, h.row.more hs⟩

theorem elems_block {α : Type} {sz : Nat} {cs : α → List Value} {w : World} {xs : List α} {g : Nat} {cur : Array Value} {e : TypeId} (L : Lay sz cs) (hg : w.heap[g]? = some (.cells cur e (0, 0))) (hs : cur.size = xs.length * sz) (hm : xs.length ≤ maxLen) (ht : cur.toList = xs.flatMap cs) :
    Elems sz cs w (fun k => k = g) (some ⟨g, 0, none⟩) xs := by
  have h : Own sz cs e g w (.slice (some ⟨g, 0, none⟩) xs.length xs.length) xs := Own.shut L (Nat.le_refl _) hg rfl (Nat.le_refl _) hm hs (by rw [← hs, ← ht]; exact List.take_of_length_le (by simp))
  exact (h.elems L.len rfl).more fun k hk => by injection hk with hk; exact hk.symm
/-- A valid schema whose first table is item. -/
structure BsS (s : Sc) (a b : Int) : Prop where
  val : SchV s
  len : 0 < s.tabs.length
  nm : s.tabs[0].name = nItem
  cols : s.tabs[0].cols = itemCols
  pk : s.tabs[0].pk = [0]
  ti : tabI nItem s.tabs = 0
  fit : ∀ (full : Bool) (rs : List RelM), rs.map RelM.d = iData full a b → InC s.tabs rs
  ra : 0 ≤ a ∧ a < 7
  rb : 0 ≤ b ∧ b < 7

/-- The blocks that neither the executor nor its list of changes takes up. -/
def Free (px : Nat) (va : Value) (w : World) (g : Nat) : Prop := g < w.heap.size ∧ g ≠ px ∧ va.ownBlock ≠ some g
/-- The executor at px. -/
structure XIn (B px : Nat) (s : Sc) (TA : Option Addr) (tc : Nat) (ts : List Tr) (IA : Option Addr) (ic : Nat) (rs : List RelM) (va : Value) (qs : List ChM) (w : World) : Prop where
  hB : B ≤ px
  blk : w.heap[px]? = some (.cells (exC s (.slice TA ts.length tc) (.slice IA rs.length ic) va) 96 (0, 0))
  sc : ScOk (· < B) w s
  tg : TgOk (· < B) w TA ts
  inst : InOk (Free px va w) w IA rs
  app : Own 4 ChM.cs 51 B w va qs
  ne : va.ownBlock ≠ some px
section
variable {B px : Nat} {s : Sc} {TA : Option Addr} {tc : Nat} {ts : List Tr} {IA : Option Addr} {ic : Nat} {rs : List RelM} {va : Value} {qs : List ChM} {w W : World}
theorem XIn.lt (h : XIn B px s TA tc ts IA ic rs va qs w) : px < w.heap.size := (Array.getElem?_eq_some_iff.1 h.blk).1
theorem Free.up {g : Nat} (h : Free px va w g) (hs : w.heap.size ≤ W.heap.size) : Free px va W g := ⟨Nat.lt_of_lt_of_le h.1 hs, h.2.1, h.2.2⟩
theorem Free.keeps (hb : Below w.heap.size w W) : Keeps (Free px va w) w W := Keeps.of_below hb fun _ h => h.1
theorem XIn.below (h : XIn B px s TA tc ts IA ic rs va qs w) (hb : Below w.heap.size w W) : XIn B px s TA tc ts IA ic rs va qs W := by
  have hl := h.lt
  have hBl : ∀ g, g < B → g < w.heap.size := fun g hg => by have := h.hB; omega
  exact ⟨h.hB, (hb.block px hl).trans h.blk, h.sc.keep (Keeps.of_below hb hBl), h.tg.keep (Keeps.of_below hb hBl), (h.inst.keep (Free.keeps hb)).more fun g hg => hg.up hb.size, h.app.below hb, h.ne⟩
theorem XIn.scw (h : XIn B px s TA tc ts IA ic rs va qs w) : ScOk (· < w.heap.size) w s := h.sc.more fun _ hg => by have := h.hB; have := h.lt; omega
theorem XIn.tgw (h : XIn B px s TA tc ts IA ic rs va qs w) : TgOk (· < w.heap.size) w TA ts := h.tg.more fun _ hg => by have := h.hB; have := h.lt; omega
theorem XIn.inw (h : XIn B px s TA tc ts IA ic rs va qs w) : InOk (· < w.heap.size) w IA rs := h.inst.more fun _ hg => hg.1
theorem ChOk.frw {c : ChM} (h : ChOk (Free px va w) w c) : ChOk (· < w.heap.size) w c := h.more fun _ hg => hg.1
theorem ChOk.fr {c : ChM} (h : ChOk (Free px va w) w c) (hb : Below w.heap.size w W) : ChOk (Free px va W) W c := (h.keep (Free.keeps hb)).more fun _ hg => hg.up hb.size
theorem KOk.fr {k : Key} (h : KOk (Free px va w) w k) (hb : Below w.heap.size w W) : KOk (Free px va W) W k := (h.keep (Free.keeps hb)).more fun _ hg => hg.up hb.size

theorem set6 {w : World} {g : Nat} {t : TypeId} {c0 c1 c2 c3 c4 c5 v4 v5 : Value} (h : w.heap[g]? = some (.cells #[c0, c1, c2, c3, c4, c5] t (0, 0))) :
    ((w.setCell ⟨g, 4, none⟩ v4).setCell ⟨g, 5, none⟩ v5).heap[g]? = some (.cells #[c0, c1, c2, c3, v4, v5] t (0, 0)) := by
  rw [heap_setCell_at (heap_setCell_at h _) _]
  rfl
/-- Behind Apply and the append: the two stores. -/
theorem XIn.step (h : XIn B px s TA tc ts IA ic rs va qs w) {w4 w5 : World} {v4 v5 : Value} {rs' : List RelM} {ds : List (ByteArray × List Row)} {qs' : List ChM} (hio : InO w.heap.size w w4 v4 rs' ds) {A4 : Option Addr} {c4 : Nat} (hv4 : v4 = .slice A4 rs'.length c4) (ho : Own 4 ChM.cs 51 B w5 v5 qs') (hx : Ext w4 va w5 v5) :
    XIn B px s TA tc ts A4 c4 rs' v5 qs' ((w5.setCell ⟨px, 4, none⟩ v4).setCell ⟨px, 5, none⟩ v5) ∧ Below B w ((w5.setCell ⟨px, 4, none⟩ v4).setCell ⟨px, 5, none⟩ v5)
    ∧ (∀ k, KOk (Free px va w) w k → KOk (Free px v5 ((w5.setCell ⟨px, 4, none⟩ v4).setCell ⟨px, 5, none⟩ v5)) ((w5.setCell ⟨px, 4, none⟩ v4).setCell ⟨px, 5, none⟩ v5) k)
    ∧ Keeps (Free px va w) w ((w5.setCell ⟨px, 4, none⟩ v4).setCell ⟨px, 5, none⟩ v5) := by
  have hl := h.lt
  have hB := h.hB
  have hb4 := hio.bel
  have hs4 := hb4.size
  have hs5 := hx.size
  have hva := Own.lt h.app
  have hne5 : v5.ownBlock ≠ some px := hx.ne h.ne (by omega)
  have hoff : ∀ g, g ≠ px → ((w5.setCell ⟨px, 4, none⟩ v4).setCell ⟨px, 5, none⟩ v5).heap[g]? = w5.heap[g]? := fun g hg => by
    rw [Below.heap_setCell _ _ _ _ hg, Below.heap_setCell _ _ _ _ hg]
  have hsz : ((w5.setCell ⟨px, 4, none⟩ v4).setCell ⟨px, 5, none⟩ v5).heap.size = w5.heap.size := by simp [World.setCell]
  have hbB : Below B w w5 := (hb4.mono (by omega)).trans (hx.below (by omega) fun g hg => (hva g hg).1)
  have hkp : Keeps (Free px va w) w ((w5.setCell ⟨px, 4, none⟩ v4).setCell ⟨px, 5, none⟩ v5) := fun g hg => by
    rw [hoff g hg.2.1]
    exact (hx.keeps (S := Free px va w) (fun k hk => ⟨by have := hk.1; omega, fun e => hk.2.2 e.symm⟩) g hg).trans (hb4.block g hg.1)
  have hblk5 : w5.heap[px]? = some (.cells (exC s (.slice TA ts.length tc) (.slice IA rs.length ic) va) 96 (0, 0)) :=
    (hx.keeps (S := fun g => g = px) (fun k hk => ⟨by rw [hk]; omega, fun e => h.ne (by rw [← e, hk])⟩) px rfl).trans ((hb4.block px hl).trans h.blk)
  have hBk : Below B w ((w5.setCell ⟨px, 4, none⟩ v4).setCell ⟨px, 5, none⟩ v5) := (hbB.setCell (p := ⟨px, 4, none⟩) hB _).setCell (p := ⟨px, 5, none⟩) hB _
  have hfr : ∀ g, Free px va w g → Free px v5 ((w5.setCell ⟨px, 4, none⟩ v4).setCell ⟨px, 5, none⟩ v5) g := fun g hg => ⟨by rw [hsz]; have := hg.1; omega, hg.2.1, hx.ne hg.2.2 (by have := hg.1; omega)⟩
  subst hv4
  refine ⟨⟨hB, set6 hblk5, h.sc.keep (Keeps.of_below hBk fun _ hg => hg), h.tg.keep (Keeps.of_below hBk fun _ hg => hg), ?_, (ho.setCell (p := ⟨px, 4, none⟩) (fun g hg e => hne5 (by rw [hg, e])) _).setCell (p := ⟨px, 5, none⟩) (fun g hg e => hne5 (by rw [hg, e])) _, hne5⟩, hBk, fun k hk => (hk.keep hkp).more hfr, hkp⟩
  have hin : InOk (fun g => w.heap.size ≤ g ∧ g < w4.heap.size) w4 A4 rs' :=
    ⟨(hio.own.elems relLay.len rfl).more fun g hg => Own.lt hio.own g hg, fun k hk => (hio.rel k hk).more fun _ hg => ⟨hg.1, hg.2.1⟩⟩
  have hk2 : Keeps (fun g => w.heap.size ≤ g ∧ g < w4.heap.size) w4 ((w5.setCell ⟨px, 4, none⟩ (.slice A4 rs'.length c4)).setCell ⟨px, 5, none⟩ v5) := fun g hg => by
    rw [hoff g (by omega)]
    exact hx.keeps (S := fun g => w.heap.size ≤ g ∧ g < w4.heap.size) (fun k hk => ⟨hk.2, fun e => by have := (hva k e.symm).2; omega⟩) g hg
  exact (hin.keep hk2).more fun g hg => ⟨by rw [hsz]; omega, by omega, hx.ne (fun e => by have := (hva g e).2; omega) hg.2⟩
end

/-- All that apply is handed. -/
structure XSt (B px : Nat) (s : Sc) (TA : Option Addr) (tc : Nat) (ts : List Tr) (a b : Int) (kind : Int) (D : Nat) (ch : ChM) (IA : Option Addr) (ic : Nat) (rs : List RelM) (va : Value) (qs : List ChM) (w : World) : Prop where
  x : XIn B px s TA tc ts IA ic rs va qs w
  dat : rs.map RelM.d = iData (decide (kind = 2)) a b
  len : qs.length ≤ D
  co : ChOk (Free px va w) w ch
  ck : ch.kind = kind
  cn : ch.name = nItem
  cd : (kind = 1 ∧ ch.key.row = [] ∧ ch.row.row = iRow a b) ∨ (kind = 2 ∧ ch.key.row = iKey a ∧ ch.row.row = [])
def ApH (B px : Nat) (s : Sc) (TA : Option Addr) (tc : Nat) (ts : List Tr) (a b : Int) (kind : Int) (D : Nat) : Prop :=
  ∀ ch IA ic rs va qs w, XSt B px s TA tc ts a b kind D ch IA ic rs va qs w → Calls Tryz.prog 40 #[ptr px, .agg ch.cells, .int .i64 (D : Int)] w fun e w' => e = .returned (.int .i64 14) ∧ Below B w w'

section
variable {B px : Nat} {s : Sc} {TA : Option Addr} {tc : Nat} {ts : List Tr} {a b : Int} {kind : Int} {D : Nat} {ch : ChM} {IA : Option Addr} {ic : Nat} {rs : List RelM} {va : Value} {qs : List ChM} {w W : World}
theorem XSt.rl (h : XSt B px s TA tc ts a b kind D ch IA ic rs va qs w) : rs.length = 2 := by
  have h := congrArg List.length h.dat
  rwa [List.length_map] at h
theorem XSt.r0 (h : XSt B px s TA tc ts a b kind D ch IA ic rs va qs w) (h0 : 0 < rs.length) : rs[0].name = nItem ∧ rs[0].rows.map Key.row = iRows (decide (kind = 2)) a b := by
  have h := congrArg (fun l => l[0]?) h.dat
  simp only [List.getElem?_map, List.getElem?_eq_getElem h0, Option.map_some] at h
  have h := Option.some.inj h
  exact ⟨congrArg Prod.fst h, congrArg Prod.snd h⟩
theorem XSt.chc (h : XSt B px s TA tc ts a b kind D ch IA ic rs va qs w) (hs : BsS s a b) : ChC s ch 0 := by
  have hl0 := hs.len
  refine ⟨hs.len, by rw [h.cn]; exact hs.ti, ⟨by rw [hs.cols]; show 4 ≤ 1000; omega, by rw [hs.pk]; show 1 ≤ 12; omega⟩, ?_⟩
  rcases h.cd with ⟨h1, h2, h3⟩ | ⟨h1, h2, h3⟩
  · exact .inl ⟨h.ck.trans h1, by rw [h2]; rfl, by rw [hs.cols, h3]; exact iRow_ok hs.ra hs.rb⟩
  · refine .inr ⟨h.ck.trans h1, by rw [h3]; rfl, ?_⟩
    rw [h2]
    have hk := iKey_ok hs.ra (A := none) (P := none)
    refine ⟨by rw [hs.pk]; exact hk.len, hk.err, fun i h1 h2 => ?_⟩
    have h1' : i < 1 := h1
    obtain rfl : i = 0 := by omega
    have h0 : s.tabs[0].pk[0] = 0 := by
      have h := congrArg (fun l => l[0]?) hs.pk
      simp only [List.getElem?_eq_getElem h2] at h
      exact Option.some.inj h
    refine ⟨by rw [h0]; omega, by rw [h0, hs.cols]; show 0 < 4; omega, ?_⟩
    rw [h0, hs.cols]
    rfl
/-- Apply, with the one change in a list made ahead of the call. -/
theorem XSt.apply (h : XSt B px s TA tc ts a b kind D ch IA ic rs va qs w) (hs : BsS s a b) (hW : Below w.heap.size w W) :
    Calls Tryz.prog 74 #[s.v, .slice IA rs.length ic, .slice (some ⟨W.heap.size, 0, none⟩) 1 1] (W.alloc (.cells ch.cells 51)) fun e w' => ∃ v rs', e = .returned (.tuple #[v, .int .i64 0]) ∧ InO W.heap.size W w' v rs' (iData (!decide (kind = 2)) a b) := by
  obtain ⟨W1, hW1⟩ : ∃ W1, W1 = W.alloc (.cells ch.cells 51) := ⟨_, rfl⟩
  have hb1 : Below W.heap.size W W1 := by rw [hW1]; exact (Below.refl _ _).alloc (Nat.le_refl _) _
  have hg1 : W1.heap[W.heap.size]? = some (.cells ch.cells 51 (0, 0)) := by rw [hW1]; exact heap_alloc_new W _
  rw [← hW1]
  have hb := hW.trans (hb1.mono hW.size)
  have hx := h.x.below hb
  have hrl := h.rl
  have hl0 := hs.len
  have h0 : 0 < rs.length := by omega
  obtain ⟨hn0, hr0⟩ := h.r0 h0
  have hin : ApIn s IA rs (some ⟨W.heap.size, 0, none⟩) ch 0 W1 := by
    refine ⟨hx.scw, hs.val, hx.inw, hs.fit _ _ h.dat, (elems_block chmLay (xs := [ch]) hg1 rfl (by show 1 ≤ maxLen; decide) rfl).more fun g hg => ?_, (h.co.fr hb).frw, h.chc hs⟩
    have hg : g = W.heap.size := hg
    rw [hg]
    exact (Array.getElem?_eq_some_iff.1 hg1).1
  have hset : ∀ rows, rows = iRows (!decide (kind = 2)) a b → (rs.map RelM.d).set 0 (s.tabs[0].name, rows) = iData (!decide (kind = 2)) a b := fun rows hr => by
    rw [h.dat, hr, hs.nm]
    rfl
  have hfin : ∀ w' v rs' rows, rows = iRows (!decide (kind = 2)) a b → InO W1.heap.size W1 w' v rs' ((rs.map RelM.d).set 0 (s.tabs[0].name, rows)) → InO W.heap.size W w' v rs' (iData (!decide (kind = 2)) a b) := fun w' v rs' rows hr ho => by
    rw [hset rows hr] at ho
    exact ⟨ho.own.mono hb1.size, ho.dat, fun r hm => (ho.rel r hm).more fun g hg => ⟨Nat.le_trans hb1.size hg.1, hg.2⟩, hb1.trans (ho.bel.mono hb1.size)⟩
  rcases h.cd with ⟨h1, h2, h3⟩ | ⟨h1, h2, h3⟩
  · subst h1
    have hr0 : rs[0].rows.map Key.row = [] := hr0
    have hrow : upsX s.tabs[0].pk ch.row.row (rs[0].rows.map Key.row) = iRows true a b := by rw [hr0, hs.pk, h3]; rfl
    refine (applyUps s IA ic rs (some ⟨W.heap.size, 0, none⟩) 1 ch 0 W1 hin h.ck h0 hs.len (by rw [hrow]; show 1 ≤ 24; omega)).mono ?_
    rintro e w' ⟨v, rs', rfl, ho⟩
    exact ⟨v, rs', rfl, hfin _ _ _ _ hrow ho⟩
  · subst h1
    have hr0 : rs[0].rows.map Key.row = [iRow a b] := hr0
    have hrow : delRX s.tabs[0].pk ch.key.row (rs[0].rows.map Key.row) = iRows false a b := by rw [hr0, hs.pk, h2, del_item]; rfl
    refine (applyDel s IA ic rs (some ⟨W.heap.size, 0, none⟩) 1 ch 0 W1 hin h.ck h0 hs.len (by rw [hr0, hs.pk, h2]; exact (rff_row a b).2)).mono ?_
    rintro e w' ⟨v, rs', rfl, ho⟩
    exact ⟨v, rs', rfl, hfin _ _ _ _ hrow ho⟩
end
end Go.Proofs.YtefifkleamiabaaGreatDoor

namespace Go.Proofs.YtefifkleamiabaaGreatDoor
open Go.RowKit Go.Sort

/-- Behind the two stores. -/
def PS (B px : Nat) (s : Sc) (TA : Option Addr) (tc : Nat) (ts : List Tr) (a b : Int) (full : Bool) (n : Nat) (va : Value) (w wx : World) : Prop :=
  ∃ A4 c4 rs' va' qs', XIn B px s TA tc ts A4 c4 rs' va' qs' wx ∧ rs'.map RelM.d = iData full a b ∧ qs'.length ≤ n ∧ Below B w wx ∧ (∀ k, KOk (Free px va w) w k → KOk (Free px va' wx) wx k) ∧ Keeps (Free px va w) w wx
/-- The change's box. -/
def CB4 (g : Nat) (c : ChM) (W : World) : Prop := W.cell? ⟨g, 0, none⟩ = some (.int .i64 c.kind) ∧ W.cell? ⟨g, 1, none⟩ = some (.string c.name) ∧ W.cell? ⟨g, 2, none⟩ = some (.slice c.key.A c.key.row.length c.key.c) ∧ W.cell? ⟨g, 3, none⟩ = some (.slice c.row.A c.row.row.length c.row.c)
theorem CB4.of {g : Nat} {c : ChM} {W : World} (h : W.heap[g]? = some (.cells c.cells 51 (0, 0))) : CB4 g c W := by
  unfold ChM.cells at h
  exact ⟨cell_of_row _ _ 0 _ _ _ h, cell_of_row _ _ 1 _ _ _ h, cell_of_row _ _ 2 _ _ _ h, cell_of_row _ _ 3 _ _ _ h⟩
/-- Behind the append: what the stores want. -/
def ApR (px g : Nat) (c : ChM) (v4 : Value) (P : World → Prop) (v5 : Value) (w5 : World) : Prop :=
  ∃ A5 n5 c5, v5 = .slice A5 n5 c5 ∧ CB4 g c w5 ∧ CB4 g c (w5.setCell ⟨px, 4, none⟩ v4) ∧ CB4 g c ((w5.setCell ⟨px, 4, none⟩ v4).setCell ⟨px, 5, none⟩ (.slice A5 n5 c5))
    ∧ (∃ q, w5.cell? ⟨px, 4, none⟩ = some q) ∧ (∃ q, w5.cell? ⟨px, 5, none⟩ = some q) ∧ (w5.frozen? ⟨px, 4, none⟩ = false ∧ w5.frozen? ⟨px, 5, none⟩ = false) ∧ Hid (P ((w5.setCell ⟨px, 4, none⟩ v4).setCell ⟨px, 5, none⟩ (.slice A5 n5 c5)))
section
variable {B px : Nat} {s : Sc} {TA : Option Addr} {tc : Nat} {ts : List Tr} {a b : Int} {IA : Option Addr} {ic : Nat} {rs : List RelM} {va : Value} {qs : List ChM} {w W : World}
theorem XIn.append (h : XIn B px s TA tc ts IA ic rs va qs w) {w4 : World} {A4 : Option Addr} {n4 c4 : Nat} {rs' : List RelM} {full : Bool} (hio : InO w.heap.size w w4 (.slice A4 n4 c4) rs' (iData full a b)) {g : Nat} (hg : Free px va w g) {c : ChM} (hc : w.heap[g]? = some (.cells c.cells 51 (0, 0))) {n : Nat} (hq : qs.length + 1 ≤ n) (hn : n ≤ 20) (ty : TypeId) :
    ∃ v5 w5, (Builtin.append_ #[32, 32] ty #[va, .slice (some ⟨w4.heap.size, 0, none⟩) 1 1]).run Tryz.prog (w4.alloc (.cells #[.int .i64 c.kind, .string c.name, .slice c.key.A c.key.row.length c.key.c, .slice c.row.A c.row.row.length c.row.c] 51)) = .ok v5 w5
      ∧ ApR px g c (.slice A4 n4 c4) (PS B px s TA tc ts a b full n va w) v5 w5 := by
  have hlt := h.lt
  have hs4 := hio.bel.size
  have hB := h.hB
  obtain ⟨v5, w5, hrun, ho5, hx5⟩ := run_push elem_chg chmLay ty w4 va qs c #[.int .i64 c.kind, .string c.name, .slice c.key.A c.key.row.length c.key.c, .slice c.row.A c.row.row.length c.row.c] (h.app.below hio.bel) rfl (by omega) (by unfold maxLen; omega) (by omega) rfl
  refine ⟨v5, w5, hrun, ?_⟩
  obtain ⟨A5, c5, rfl, -, -⟩ := ho5.form
  obtain ⟨A4', c4', hv4, -, -⟩ := hio.own.form
  injection hv4 with e1 e2 e3
  subst e1 e2 e3
  obtain ⟨hx, hb, hk, hkp⟩ := h.step hio rfl ho5 hx5
  have hgv : w5.heap[g]? = some (.cells c.cells 51 (0, 0)) :=
    (hx5.keeps (S := fun k => k = g) (fun k hk => ⟨by rw [hk]; have := hg.1; omega, fun e => hg.2.2 (by rw [← e, hk])⟩) g rfl).trans ((hio.bel.block g hg.1).trans hc)
  have hpv : w5.heap[px]? = some (.cells (exC s (.slice TA ts.length tc) (.slice IA rs.length ic) va) 96 (0, 0)) :=
    (hx5.keeps (S := fun k => k = px) (fun k hk => ⟨by rw [hk]; omega, fun e => h.ne (by rw [← e, hk])⟩) px rfl).trans ((hio.bel.block px hlt).trans h.blk)
  unfold exC at hpv
  refine ⟨A5, _, c5, rfl, CB4.of hgv, CB4.of ?_, CB4.of ?_, ⟨_, cell_of_row _ _ 4 _ _ _ hpv⟩, ⟨_, cell_of_row _ _ 5 _ _ _ hpv⟩, ⟨frozen_of_row _ _ 4 _ _ hpv, frozen_of_row _ _ 5 _ _ hpv⟩, Lib.hid ⟨_, _, rs', _, _, hx, hio.dat, ?_, hb, hk, hkp⟩⟩
  · rw [Below.heap_setCell _ _ _ _ hg.2.1]; exact hgv
  · rw [Below.heap_setCell _ _ _ _ hg.2.1, Below.heap_setCell _ _ _ _ hg.2.1]; exact hgv
  · rw [List.length_append]; exact hq

/-- The cells of the two triggers and their actions. -/
structure TgC (TA RA RB AA AB : Option Addr) (ac tb toff rb roff ab aoff : Nat) (S : Nat → Prop) (W : World) : Prop where
  t : TA = some ⟨tb, toff, none⟩
  r : RA = some ⟨rb, roff, none⟩
  a : AA = some ⟨ab, aoff, none⟩
  t0 : W.cell? ⟨tb, toff, none⟩ = some (.int .i64 1) ∧ W.cell? ⟨tb, toff + 1, none⟩ = some (.string nItem) ∧ W.cell? ⟨tb, toff + 2, none⟩ = some (.slice RA 1 1)
  t1 : W.cell? ⟨tb, toff + 3, none⟩ = some (.int .i64 2) ∧ W.cell? ⟨tb, toff + 3 + 1, none⟩ = some (.string nItem) ∧ W.cell? ⟨tb, toff + 3 + 2, none⟩ = some (.slice AA 1 1)
  a0 : W.cell? ⟨rb, roff, none⟩ = some (.int .i64 2) ∧ W.cell? ⟨rb, roff + 1, none⟩ = some (.string nItem) ∧ W.cell? ⟨rb, roff + 2, none⟩ = some (.slice RB 1 1)
  a1 : W.cell? ⟨ab, aoff, none⟩ = some (.int .i64 1) ∧ W.cell? ⟨ab, aoff + 1, none⟩ = some (.string nItem) ∧ W.cell? ⟨ab, aoff + 2, none⟩ = some (.slice AB 4 ac)
  o0 : Elems 4 opdCs W S RB [0]
  o1 : Elems 4 opdCs W S AB [0, 1, 2, 3]
theorem TgOk.cells {S : Nat → Prop} {W : World} {TA RA RB AA AB : Option Addr} {ac : Nat} (h : TgOk S W TA [tRem RA RB, tAdd AA AB ac]) : ∃ tb toff rb roff ab aoff, TgC TA RA RB AA AB ac tb toff rb roff ab aoff S W := by
  obtain ⟨tb, toff, e, -, p0, p1, p2⟩ := h.el.tr (k := 0) (by show 0 < 2; omega)
  obtain ⟨tb', toff', e', -, q0, q1, q2⟩ := h.el.tr (k := 1) (by show 1 < 2; omega)
  rw [e] at e'
  injection e' with e'
  injection e' with e1 e2
  subst e1 e2
  have h0 := h.tr (tRem RA RB) (by simp)
  have h1 := h.tr (tAdd AA AB ac) (by simp)
  obtain ⟨rb, roff, er, -, r0, r1, r2⟩ := h0.el.ac (k := 0) (by show 0 < 1; omega)
  obtain ⟨ab, aoff, ea, -, s0, s1, s2⟩ := h1.el.ac (k := 0) (by show 0 < 1; omega)
  have o0 := h0.act ⟨2, nItem, RB, 1, [0]⟩ (by simp [tRem])
  have o1 := h1.act ⟨1, nItem, AB, ac, [0, 1, 2, 3]⟩ (by simp [tAdd])
  rw [Nat.zero_mul, Nat.add_zero] at p0 p1 p2 r0 r1 r2 s0 s1 s2
  rw [Nat.one_mul] at q0 q1 q2
  exact ⟨tb, toff, rb, roff, ab, aoff, e, er, ea, ⟨p0, p1, p2⟩, ⟨q0, q1, q2⟩, ⟨r0, r1, r2⟩, ⟨s0, s1, s2⟩, o0, o1⟩
theorem KOk.nil {S : Nat → Prop} {w : World} : KOk S w ⟨none, 0, []⟩ :=
  ⟨(((Own.nil (base := 0) (e := 60) w).elems valLay.len rfl).more fun g hg => by cases hg), by show 0 ≤ 12; omega⟩
end
end Go.Proofs.YtefifkleamiabaaGreatDoor
