/-
  The walk of trigger.Check, where the triggers fit.
-/
import Derived.Test.YtefifkleamiabaaG21
namespace Go.Proofs.Ytefifkleamiabaa
open Go.RowKit Go.Sort

theorem checkAction (s : Sc) (t : Tbl) (a : Ac) (w : World) (hs : ScOk (· < w.heap.size) w s) (ht : TOk (· < w.heap.size) w t) (ho : Elems 4 opdCs w (· < w.heap.size) a.A a.ops) (hc : AcC s t a) (hl : s.tabs.length ≤ 1000) (htl : t.cols.length ≤ 1000) :
    Calls Try.prog 16 #[s.v, t.val, a.val] w fun e w' => e = .returned (.int .i64 0) ∧ Below w.heap.size w w' := by
  rcases hc.kind with hk | hk
  · exact checkActionUps s t a w hs ht ho hc hk hl htl
  · exact checkActionDel s t a w hs ht ho hc hk hl htl

set_option maxRecDepth 100000 in
set_option maxHeartbeats 8000000 in
theorem checkTriggers (s : Sc) (A : Option Addr) (c : Nat) (ts : List Tr) (w : World) (hs : ScOk (· < w.heap.size) w s) (hv : SchV s) (ht : TgOk (· < w.heap.size) w A ts) (hc : ∀ t ∈ ts, TrC s t) (hl : ts.length ≤ 8) :
    Calls Try.prog 9 #[s.v, .slice A ts.length c] w fun e w' => e = .returned (.int .i64 0) ∧ Below w.heap.size w w' := by
  obtain ⟨n, hn⟩ : ∃ n, ts.length = n := ⟨_, rfl⟩
  have h1000 : s.tabs.length ≤ 1000 := by have := hv.ntab; omega
  obtain ⟨w1, hw1⟩ : ∃ w1, w1 = w.alloc (.cells s.cells 39) := ⟨_, rfl⟩
  have hb1 : Below w.heap.size w w1 := by rw [hw1]; exact (Below.refl _ _).alloc (Nat.le_refl _) _
  have hg0 : w1.heap[w.heap.size]? = some (.cells s.cells 39 (0, 0)) := by rw [hw1]; exact heap_alloc_new w _
  have hs1 : w.heap.size < w1.heap.size := by rw [hw1]; simp
  have HBK : Hid (∀ W, Below w1.heap.size w1 W → W.cell? ⟨w.heap.size, 0, none⟩ = some (.slice s.TA s.tabs.length s.tc) ∧ W.cell? ⟨w.heap.size, 1, none⟩ = some (.slice s.FA s.fks.length s.fc) ∧ W.cell? ⟨w.heap.size, 2, none⟩ = some (.slice s.NA s.cns.length s.nc)) := Lib.hid fun W hW => by
    have h0 := (hW.block w.heap.size hs1).trans hg0
    unfold Sc.cells at h0
    exact ⟨cell_of_row _ _ 0 _ _ _ h0, cell_of_row _ _ 1 _ _ _ h0, cell_of_row _ _ 2 _ _ _ h0⟩
  have HSV := Lib.hid fun W (hW : Below w.heap.size w W) => schemaValidate s W (hs.on hW) hv
  have HFT := Lib.hid fun nm W (hW : Below w.heap.size w W) => findTable s nm W (hs.on hW) h1000
  have HSC := Lib.hid hs
  have HV := Lib.hid hv
  have HT := Lib.hid ht
  have HC := Lib.hid hc
  have HN := Lib.hid hn
  have H1000 := Lib.hid h1000
  have HB1 := Lib.hid hb1
  have HW1 := Lib.hid hw1
  obtain ⟨c0, c1, c2⟩ := HBK.out w1 (Below.refl _ _)
  rw [hn] at hl ⊢
  unfold Sc.cells at HW1
  unfold Sc.v Sc.cells at HSV HFT ⊢
  clear hs hv ht hc hb1 hw1 hg0 hs1 hn h1000
  go_enter Try.func9, Try.ntmps9
  go_upto_region 1 with fail
  rw [← HW1.out]
  go_wp2_with fail
  refine (HSV.out w1 HB1.out).mono ?_
  rintro e w2 ⟨rfl, hb2⟩
  have HB2 := Lib.hid (And.intro hb2 (HB1.out.trans (hb2.mono HB1.out.size)))
  clear hb2 c0 c1 c2
  go_wp2_with fail
  go_loopw [23] (fun vi wr => ∃ k : Nat, vi = .int .i64 (k : Int) ∧ k ≤ n ∧ Below w2.heap.size w2 wr) (fun vi _ => n - (intOf vi).toNat)
  case atStart => exact ⟨0, rfl, by omega, Below.refl _ _⟩
  case round =>
    obtain ⟨k, rfl, hkn, hb⟩ := hrel
    obtain ⟨wo, rfl⟩ : ∃ wo, wo = wr := ⟨_, rfl⟩
    by_cases hlt : k < n
    · have hki : k < ts.length := by have := HN.out; omega
      have hb1o := HB2.out.1.trans (hb.mono HB2.out.1.size)
      have hbwo := HB2.out.2.trans (hb.mono HB2.out.2.size)
      obtain ⟨b, off, rfl, -, p0, p1, p2⟩ := (HT.out.on hbwo).el.tr hki
      have hlt' : (k : Int) < (n : Int) := by omega
      have HTC := Lib.hid (HC.out _ (List.getElem_mem hki))
      have HTM := Lib.hid (HT.out.tr _ (List.getElem_mem hki))
      generalize ts[k] = tr at *
      obtain ⟨kind, nm, RA, rc, acts⟩ := tr
      obtain ⟨m, hm⟩ : ∃ m, acts.length = m := ⟨_, rfl⟩
      have hm4 : m ≤ 4 := by rw [← hm]; exact HTC.out.len
      have hm4' : (m : Int) ≤ 4 := by omega
      have hk12 : kind = 1 ∨ kind = 2 := HTC.out.kind
      obtain ⟨j, hj, hti, hac⟩ := HTC.out.tab
      simp only at p0 p1 p2 hti hac
      rw [hm] at p2
      obtain ⟨w5, hw5⟩ : ∃ w5, w5 = wo.alloc (.cells #[.int .i64 kind, .string nm, .slice RA m rc] 34) := ⟨_, rfl⟩
      have hb5 : Below wo.heap.size wo w5 := by rw [hw5]; exact (Below.refl _ _).alloc (Nat.le_refl _) _
      have hg5 : w5.heap[wo.heap.size]? = some (.cells #[.int .i64 kind, .string nm, .slice RA m rc] 34 (0, 0)) := by rw [hw5]; exact heap_alloc_new wo _
      have hs5 : wo.heap.size < w5.heap.size := by rw [hw5]; simp
      have HTB : Hid (∀ W, Below w5.heap.size w5 W → W.cell? ⟨wo.heap.size, 0, none⟩ = some (.int .i64 kind) ∧ W.cell? ⟨wo.heap.size, 1, none⟩ = some (.string nm) ∧ W.cell? ⟨wo.heap.size, 2, none⟩ = some (.slice RA m rc)) := Lib.hid fun W hW => by
        have h := (hW.block wo.heap.size hs5).trans hg5
        exact ⟨cell_of_row _ _ 0 _ _ _ h, cell_of_row _ _ 1 _ _ _ h, cell_of_row _ _ 2 _ _ _ h⟩
      have HB5 := Lib.hid (And.intro (hb1o.trans (hb5.mono hb1o.size)) (And.intro (hbwo.trans (hb5.mono hbwo.size)) (hb.trans (hb5.mono hb.size))))
      have HW5 := Lib.hid hw5
      have HTI := Lib.hid hti
      have HAC := Lib.hid hac
      have HM := Lib.hid hm
      have hjn : (j : Int) < (s.tabs.length : Int) := by omega
      have hj : j < s.tabs.length := hj
      obtain ⟨y0, y1, y2⟩ := HTB.out w5 (Below.refl _ _)
      obtain ⟨c0, c1, c2⟩ := HBK.out w5 HB5.out.1
      clear hb hb1o hbwo hw5 hb5 hg5 hs5 hti hac hm HTC
      go_upto_region 9 with fail
      rw [← HW5.out]
      go_cut [34] from 27 to 34 (fun v34 wx => v34 = .bool false ∧ w5 = wx)
      case first =>
        rcases hk12 with rfl | rfl
        · go_wp2_with fail
          go_meet
          exact ⟨rfl, rfl⟩
        · go_wp2_with fail
          go_meet
          exact ⟨rfl, rfl⟩
      case rest =>
        obtain ⟨rfl, rfl⟩ := hcut
        go_wp2_with fail
        refine (HFT.out nm w5 HB5.out.2.1).mono ?_
        rintro e w6 ⟨rfl, hb6⟩
        rw [HTI.out]
        have hmi : max (j : Int) 0 = (j : Int) := by omega
        have hdi : decide (0 ≤ (j : Int)) = true := decide_eq_true (by omega)
        unfold findV
        rw [hmi, hdi]
        have HB6 := Lib.hid (And.intro hb6 (And.intro (HB5.out.1.trans (hb6.mono HB5.out.1.size)) (And.intro (HB5.out.2.1.trans (hb6.mono HB5.out.2.1.size)) (HB5.out.2.2.trans (hb6.mono HB5.out.2.2.size)))))
        clear hmi hdi hb6 y0 y1 y2 c0 c1 c2
        obtain ⟨y0, y1, y2⟩ := HTB.out w6 HB6.out.1
        go_wp2_with fail
        go_loopw [51] (fun vi wr => ∃ i : Nat, vi = .int .i64 (i : Int) ∧ i ≤ m ∧ Below w6.heap.size w6 wr) (fun vi _ => m - (intOf vi).toNat)
        case atStart => exact ⟨0, rfl, by omega, Below.refl _ _⟩
        case round =>
          obtain ⟨i, rfl, him, hbi⟩ := hrel
          obtain ⟨wq, rfl⟩ : ∃ wq, wq = wr := ⟨_, rfl⟩
          by_cases hlt2 : i < m
          · have hia : i < acts.length := by have := HM.out; omega
            have hb1q := HB6.out.2.1.trans (hbi.mono HB6.out.2.1.size)
            have hbwq := HB6.out.2.2.1.trans (hbi.mono HB6.out.2.2.1.size)
            obtain ⟨b2, off2, hA2, -, q0, q1, q2⟩ := (HTM.out.on hbwq).el.ac hia
            have hA2 : RA = some ⟨b2, off2, none⟩ := hA2
            subst hA2
            have hlt2' : (i : Int) < (m : Int) := by omega
            have HAC1 := Lib.hid (HAC.out _ (List.getElem_mem hia))
            have HAM := Lib.hid (HTM.out.act _ (List.getElem_mem hia))
            have q0 : wq.cell? ⟨b2, off2 + i * 3, none⟩ = some (.int .i64 acts[i].kind) := q0
            have q1 : wq.cell? ⟨b2, off2 + i * 3 + 1, none⟩ = some (.string acts[i].name) := q1
            have q2 : wq.cell? ⟨b2, off2 + i * 3 + 2, none⟩ = some (.slice acts[i].A acts[i].ops.length acts[i].c) := q2
            have HAM : Hid (Elems 4 opdCs w (· < w.heap.size) acts[i].A acts[i].ops) := HAM
            have HAC1 : Hid (AcC s s.tabs[j] acts[i]) := HAC1
            generalize acts[i] = a at *
            obtain ⟨w7, hw7⟩ : ∃ w7, w7 = wq.alloc (.cells #[.int .i64 a.kind, .string a.name, .slice a.A a.ops.length a.c] 31) := ⟨_, rfl⟩
            have hb7 : Below wq.heap.size wq w7 := by rw [hw7]; exact (Below.refl _ _).alloc (Nat.le_refl _) _
            have hg7 : w7.heap[wq.heap.size]? = some (.cells #[.int .i64 a.kind, .string a.name, .slice a.A a.ops.length a.c] 31 (0, 0)) := by rw [hw7]; exact heap_alloc_new wq _
            have hs7 : wq.heap.size < w7.heap.size := by rw [hw7]; simp
            have hb17 := hb1q.trans (hb7.mono hb1q.size)
            have hbw7 := hbwq.trans (hb7.mono hbwq.size)
            obtain ⟨tb, toff, hTA, -, -⟩ := (HSC.out.on hbw7).tabs.tbl hj
            have hS : ∀ W, Below w7.heap.size w7 W → W.cell? ⟨w.heap.size, 0, none⟩ = some (.slice (some ⟨tb, toff, none⟩) s.tabs.length s.tc) ∧ W.cell? ⟨w.heap.size, 1, none⟩ = some (.slice s.FA s.fks.length s.fc) ∧ W.cell? ⟨w.heap.size, 2, none⟩ = some (.slice s.NA s.cns.length s.nc)
                ∧ W.cell? ⟨tb, toff + j * 3, none⟩ = some (.string s.tabs[j].name) ∧ W.cell? ⟨tb, toff + j * 3 + 1, none⟩ = some (.slice s.tabs[j].CA s.tabs[j].cols.length s.tabs[j].cc) ∧ W.cell? ⟨tb, toff + j * 3 + 2, none⟩ = some (.slice s.tabs[j].PA s.tabs[j].pk.length s.tabs[j].pc)
                ∧ W.cell? ⟨wq.heap.size, 0, none⟩ = some (.int .i64 a.kind) ∧ W.cell? ⟨wq.heap.size, 1, none⟩ = some (.string a.name) ∧ W.cell? ⟨wq.heap.size, 2, none⟩ = some (.slice a.A a.ops.length a.c) := fun W hW => by
              obtain ⟨k0, k1, k2⟩ := HBK.out W (hb17.trans (hW.mono hb17.size))
              obtain ⟨tb', toff', hTA', -, z0, z1, z2⟩ := (HSC.out.on (hbw7.trans (hW.mono hbw7.size))).tabs.tbl hj
              rw [hTA] at hTA' k0
              injection hTA' with hTA'
              injection hTA' with e1 e2
              subst e1 e2
              have h := (hW.block wq.heap.size hs7).trans hg7
              exact ⟨k0, k1, k2, z0, z1, z2, cell_of_row _ _ 0 _ _ _ h, cell_of_row _ _ 1 _ _ _ h, cell_of_row _ _ 2 _ _ _ h⟩
            have HCA : Hid (∀ m, Calls Try.prog 16 #[.agg #[.slice (some ⟨tb, toff, none⟩) s.tabs.length s.tc, .slice s.FA s.fks.length s.fc, .slice s.NA s.cns.length s.nc], .agg #[.string s.tabs[j].name, .slice s.tabs[j].CA s.tabs[j].cols.length s.tabs[j].cc, .slice s.tabs[j].PA s.tabs[j].pk.length s.tabs[j].pc], .agg #[.int .i64 a.kind, .string a.name, .slice a.A a.ops.length a.c]] (w7.drewN m) fun e w9 => e = .returned (.int .i64 0) ∧ Below w7.heap.size w7 w9) := Lib.hid fun m => by
              have hd : Below w7.heap.size w7 (w7.drewN m) := below_drewN (Below.refl _ _) m
              have hbd := hbw7.trans (hd.mono hbw7.size)
              have h := checkAction s s.tabs[j] a (w7.drewN m) (HSC.out.on hbd) ((HSC.out.on hbd).tab _ (List.getElem_mem hj)) (HAM.out.on hbd) HAC1.out H1000.out (by have := (HV.out.tab _ (List.getElem_mem hj)).ncols; omega)
              unfold Sc.v Sc.cells at h
              rw [hTA] at h
              refine h.mono ?_
              rintro e w9 ⟨rfl, hb9⟩
              exact ⟨rfl, hd.trans hb9⟩
            have HS := Lib.hid hS
            have s7 := hS w7 (Below.refl _ _)
            have HB7 := Lib.hid (hbi.trans (hb7.mono hbi.size))
            have HW7 := Lib.hid hw7
            clear hw7 hb7 hg7 hs7 hb17 hbw7 hS hbi hb1q hbwq hTA
            go_upto_region 19 with fail
            rw [← HW7.out]
            go_region_held3 (fun W => W.cell? ⟨w.heap.size, 0, none⟩ = some (.slice (some ⟨tb, toff, none⟩) s.tabs.length s.tc) ∧ W.cell? ⟨w.heap.size, 1, none⟩ = some (.slice s.FA s.fks.length s.fc) ∧ W.cell? ⟨w.heap.size, 2, none⟩ = some (.slice s.NA s.cns.length s.nc)
                ∧ W.cell? ⟨tb, toff + j * 3, none⟩ = some (.string s.tabs[j].name) ∧ W.cell? ⟨tb, toff + j * 3 + 1, none⟩ = some (.slice s.tabs[j].CA s.tabs[j].cols.length s.tabs[j].cc) ∧ W.cell? ⟨tb, toff + j * 3 + 2, none⟩ = some (.slice s.tabs[j].PA s.tabs[j].pk.length s.tabs[j].pc)
                ∧ W.cell? ⟨wq.heap.size, 0, none⟩ = some (.int .i64 a.kind) ∧ W.cell? ⟨wq.heap.size, 1, none⟩ = some (.string a.name) ∧ W.cell? ⟨wq.heap.size, 2, none⟩ = some (.slice a.A a.ops.length a.c)) (first | exact s7 | exact s9)
              (first
              | (go_at_call 16; refine (HCA.out 1).mono ?_; rintro e w9 ⟨rfl, hb9⟩; have s9 := HS.out w9 hb9))
            all_goals
              have HB9 := Lib.hid (HB7.out.trans (hb9.mono HB7.out.size))
              clear hb9 s9
              go_wp2_with fail
              go_roundw
              case rel => exact ⟨i + 1, by go_num, by omega, HB9.out⟩
              case measure => simp [intOf]; omega
          · have him' : i = m := by omega
            subst him'
            have HF := Lib.hid (HB6.out.2.2.2.trans (hbi.mono HB6.out.2.2.2.size))
            clear hbi
            go_wp2_with fail
            go_roundw
            case rel => exact ⟨k + 1, by go_num, by omega, HF.out⟩
            case measure => simp [intOf]; omega
    · have hkn' : k = n := by omega
      subst hkn'
      have HF := Lib.hid (HB2.out.2.trans (hb.mono HB2.out.2.size))
      clear hb
      go_wp2_with fail
      go_ret
      exact ⟨rfl, HF.out⟩
end Go.Proofs.Ytefifkleamiabaa
