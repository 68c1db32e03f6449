/-
  The walk of trigger.checkAction, where the action fits.
  The walk of trigger.Check, where the triggers fit.
-/
import Derived.Test.YtefifkleamiabaaGreatDoorUm07
import Derived.Deep.CutRange
namespace Go.Proofs.YtefifkleamiabaaGreatDoor
open Go.RowKit Go.Sort

/-- The key's columns. -/
def pkC (cols : List Col) (pk : List Int) : List Col := pk.map fun k => cols.getD k.toNat col0

set_option linter.unusedSimpArgs false in
set_option maxRecDepth 100000 in
set_option maxHeartbeats 8000000 in
theorem checkActionUps (s : Sc) (t : Tbl) (a : Ac) (w : World) (hs : ScOk (· < w.heap.size) w s) (ht : TOk (· < w.heap.size) w t) (ho : Elems 4 opdCs w (· < w.heap.size) a.A a.ops) (hc : AcC s t a) (hk : a.kind = 1) (hl : s.tabs.length ≤ 1000) (htl : t.cols.length ≤ 1000) :
    Calls Tryz.prog 67 #[s.v, t.val, a.val] w fun e w' => e = .returned (.int .i64 0) ∧ Below w.heap.size w w' := by
  obtain ⟨-, i, hi, hti, hol, hol2, hpk, hop⟩ := hc
  obtain ⟨kind, nm, OA, oc, ops⟩ := a
  have hk : kind = 1 := hk
  subst hk
  obtain ⟨n, hn⟩ : ∃ n, ops.length = n := ⟨_, rfl⟩
  simp only at hti hol hol2 hop
  have hn100 : n ≤ 100 := by omega
  obtain ⟨w1, hw1⟩ : ∃ w1, w1 = ((w.alloc (.cells s.cells 27)).alloc (.cells #[.string t.name, .slice t.CA t.cols.length t.cc, .slice t.PA t.pk.length t.pc] 71)).alloc (.cells #[.int .i64 1, .string nm, .slice OA n oc] 105) := ⟨_, rfl⟩
  have hb1 : Below w.heap.size w w1 := by rw [hw1]; exact (((Below.refl _ _).alloc (Nat.le_refl _) _).alloc (le_size1 (Nat.le_refl _) _) _).alloc (le_size2 (Nat.le_refl _) _ _) _
  have g0 : w1.heap[w.heap.size]? = some (.cells s.cells 27 (0, 0)) := by
    rw [hw1, Below.heap_alloc _ _ _ (by simp; omega), Below.heap_alloc _ _ _ (by simp)]
    exact heap_alloc_new w _
  have g1 : w1.heap[w.heap.size + 1]? = some (.cells #[.string t.name, .slice t.CA t.cols.length t.cc, .slice t.PA t.pk.length t.pc] 71 (0, 0)) := by
    rw [hw1, Below.heap_alloc _ _ _ (by simp)]
    exact alloc2_at w _ _
  have g2 : w1.heap[w.heap.size + 1 + 1]? = some (.cells #[.int .i64 1, .string nm, .slice OA n oc] 105 (0, 0)) := by
    rw [hw1]
    have h := heap_alloc_new ((w.alloc (.cells s.cells 27)).alloc (.cells #[.string t.name, .slice t.CA t.cols.length t.cc, .slice t.PA t.pk.length t.pc] 71)) (.cells #[.int .i64 1, .string nm, .slice OA n oc] 105)
    simpa using h
  have hs1 : w1.heap.size = w.heap.size + 3 := by rw [hw1]; simp
  have HBK : Hid (∀ W, Below w1.heap.size w1 W → (W.cell? ⟨w.heap.size, 0, none⟩ = some (.slice s.TA s.tabs.length s.tc) ∧ W.cell? ⟨w.heap.size, 1, none⟩ = some (.slice s.FA s.fks.length s.fc) ∧ W.cell? ⟨w.heap.size, 2, none⟩ = some (.slice s.NA s.cns.length s.nc))
      ∧ (W.cell? ⟨w.heap.size + 1, 0, none⟩ = some (.string t.name) ∧ W.cell? ⟨w.heap.size + 1, 1, none⟩ = some (.slice t.CA t.cols.length t.cc) ∧ W.cell? ⟨w.heap.size + 1, 2, none⟩ = some (.slice t.PA t.pk.length t.pc))
      ∧ (W.cell? ⟨w.heap.size + 1 + 1, 0, none⟩ = some (.int .i64 1) ∧ W.cell? ⟨w.heap.size + 1 + 1, 1, none⟩ = some (.string nm) ∧ W.cell? ⟨w.heap.size + 1 + 1, 2, none⟩ = some (.slice OA n oc))) := Lib.hid fun W hW => by
    have h0 := (hW.block w.heap.size (by omega)).trans g0
    have h1 := (hW.block (w.heap.size + 1) (by omega)).trans g1
    have h2 := (hW.block (w.heap.size + 1 + 1) (by omega)).trans g2
    unfold Sc.cells at h0
    exact ⟨⟨cell_of_row _ _ 0 _ _ _ h0, cell_of_row _ _ 1 _ _ _ h0, cell_of_row _ _ 2 _ _ _ h0⟩, ⟨cell_of_row _ _ 0 _ _ _ h1, cell_of_row _ _ 1 _ _ _ h1, cell_of_row _ _ 2 _ _ _ h1⟩, ⟨cell_of_row _ _ 0 _ _ _ h2, cell_of_row _ _ 1 _ _ _ h2, cell_of_row _ _ 2 _ _ _ h2⟩⟩
  have HFT := Lib.hid fun W (hW : Below w.heap.size w W) => findTable s nm W (hs.on hW) hl
  have HSC := Lib.hid hs
  have HTT := Lib.hid ht
  have HO := Lib.hid ho
  have HOP := Lib.hid hop
  have HPK := Lib.hid hpk
  have HTI := Lib.hid hti
  have HOL := Lib.hid (And.intro hn hol)
  have HTL := Lib.hid htl
  have HON := Lib.hid hn
  have HB1 := Lib.hid hb1
  have HS1 := Lib.hid hs1
  have HW1 := Lib.hid hw1
  have hin : (i : Int) < (s.tabs.length : Int) := by omega
  obtain ⟨⟨c0, c1, c2⟩, ⟨c3, c4, c5⟩, c6, c7, c8⟩ := HBK.out w1 (Below.refl _ _)
  unfold Sc.cells at HW1
  unfold Sc.v Sc.cells at HFT ⊢
  unfold Tbl.val Ac.val
  simp only
  rw [hn]
  clear hs ht ho hop hpk hti hol hol2 htl hb1 hw1 g0 g1 g2 hs1 hn
  go_enter Tryz.func67, Tryz.ntmps67
  go_upto_region 1 with fail
  rw [← HW1.out]
  go_wp2_with fail
  refine (HFT.out w1 HB1.out).mono ?_
  rintro e w2 ⟨rfl, hb2⟩
  rw [HTI.out]
  have hmi : max (i : Int) 0 = (i : Int) := by omega
  have hdi : decide (0 ≤ (i : Int)) = true := decide_eq_true (by omega)
  unfold findV
  rw [hmi, hdi]
  have hb02 := HB1.out.trans (hb2.mono HB1.out.size)
  have HB2 := Lib.hid (And.intro hb2 hb02)
  clear c0 c1 c2 c3 c4 c5 c6 c7 c8 hmi hdi
  obtain ⟨⟨c0, c1, c2⟩, ⟨c3, c4, c5⟩, c6, c7, c8⟩ := HBK.out w2 hb2
  obtain ⟨b, off, hA, -, p0, p1, p2⟩ := (HSC.out.on hb02).tabs.tbl hi
  rw [hA] at c0
  obtain ⟨w3, hw3⟩ : ∃ w3, w3 = w2.alloc (.cells #[.string s.tabs[i].name, .slice s.tabs[i].CA s.tabs[i].cols.length s.tabs[i].cc, .slice s.tabs[i].PA s.tabs[i].pk.length s.tabs[i].pc] 71) := ⟨_, rfl⟩
  have hb3 : Below w2.heap.size w2 w3 := by rw [hw3]; exact (Below.refl _ _).alloc (Nat.le_refl _) _
  have hg3 : w3.heap[w2.heap.size]? = some (.cells #[.string s.tabs[i].name, .slice s.tabs[i].CA s.tabs[i].cols.length s.tabs[i].cc, .slice s.tabs[i].PA s.tabs[i].pk.length s.tabs[i].pc] 71 (0, 0)) := by rw [hw3]; exact heap_alloc_new w2 _
  have hs3 : w2.heap.size < w3.heap.size := by rw [hw3]; simp
  have HTB : Hid (∀ W, Below w3.heap.size w3 W → W.cell? ⟨w2.heap.size, 1, none⟩ = some (.slice s.tabs[i].CA s.tabs[i].cols.length s.tabs[i].cc) ∧ W.cell? ⟨w2.heap.size, 2, none⟩ = some (.slice s.tabs[i].PA s.tabs[i].pk.length s.tabs[i].pc)) := Lib.hid fun W hW => by
    have h := (hW.block w2.heap.size hs3).trans hg3
    exact ⟨cell_of_row _ _ 1 _ _ _ h, cell_of_row _ _ 2 _ _ _ h⟩
  have HB3 := Lib.hid (And.intro (hb2.trans (hb3.mono hb2.size)) (hb02.trans (hb3.mono hb02.size)))
  have HTK := Lib.hid (HSC.out.tab _ (List.getElem_mem hi))
  have HW3 := Lib.hid hw3
  obtain ⟨x1, x2⟩ := HTB.out w3 (Below.refl _ _)
  clear hb2 hb02 hb3 hg3 hs3 hw3 hA
  go_upto_region 7 with fail
  rw [← HW3.out]
  clear c0 c1 c2 c3 c4 c5 c6 c7 c8 p0 p1 p2
  obtain ⟨⟨c0, c1, c2⟩, ⟨c3, c4, c5⟩, c6, c7, c8⟩ := HBK.out w3 HB3.out.1
  generalize hq : s.tabs[i] = q at *
  obtain ⟨q0, qCA, qcc, qcols, qPA, qpc, qpk⟩ := q
  have HQ := Lib.hid hq
  simp only at *
  clear hq
  go_upto_if 42 with fail
  go_cut [10] from 43 to 58 (fun v10 wx => ∃ A2 c2, v10 = .slice A2 n c2 ∧ Below w3.heap.size w3 wx ∧ Hid (Elems 3 Col.cs wx (· < wx.heap.size) A2 (acCols ⟨1, nm, OA, oc, ops⟩ ⟨q0, qCA, qcc, qcols, qPA, qpc, qpk⟩)))
  case first =>
    have hcl : qcols.length = n := by have h := HOL.out; have h2 : ops.length = qcols.length := h.2; omega
    have HF : Hid (∃ A2 c2, Value.slice qCA qcols.length qcc = .slice A2 n c2 ∧ Below w3.heap.size w3 w3 ∧ Hid (Elems 3 Col.cs w3 (· < w3.heap.size) A2 (acCols ⟨1, nm, OA, oc, ops⟩ ⟨q0, qCA, qcc, qcols, qPA, qpc, qpk⟩))) := Lib.hid ⟨_, _, by rw [hcl], Below.refl _ _, Lib.hid ((HTK.out.on HB3.out.2).cols)⟩
    clear hcl
    go_wp2_with fail
    go_meet
    exact HF.out
  case rest =>
    obtain ⟨A2, cc2, rfl, hbc, HEL⟩ := hcut
    obtain ⟨wy, rfl⟩ : ∃ wy, wy = wc := ⟨_, rfl⟩
    generalize hql : acCols ⟨1, nm, OA, oc, ops⟩ ⟨q0, qCA, qcc, qcols, qPA, qpc, qpk⟩ = ql at *
    have hqn : ql.length = n := by have h := HOL.out; omega
    have HOQ : Hid (∀ (k : Nat) (h1 : k < ops.length) (h2 : k < ql.length), OpC t ops[k] ql[k] ql[k].null) := Lib.hid fun k h1 h2 => HOP.out k h1 h2
    have HBC := Lib.hid (And.intro (HB3.out.1.trans (hbc.mono HB3.out.1.size)) (HB3.out.2.trans (hbc.mono HB3.out.2.size)))
    have HQN := Lib.hid hqn
    clear HOP HOL HPK HTB HTK HQ c0 c1 c2 c3 c4 c5 c6 c7 c8 x1 x2 hql hqn hbc
    obtain ⟨⟨c0, c1, c2⟩, ⟨c3, c4, c5⟩, c6, c7, c8⟩ := HBK.out wy HBC.out.1
    go_wp2_with fail
    go_loopw [68] (fun vi wr => ∃ k : Nat, vi = .int .i64 (k : Int) ∧ k ≤ n ∧ Below wy.heap.size wy wr) (fun vi _ => n - (intOf vi).toNat)
    case atStart => exact ⟨0, rfl, by omega, Below.refl _ _⟩
    case round =>
      obtain ⟨k, rfl, hkn, hb⟩ := hrel
      obtain ⟨wo, rfl⟩ : ∃ wo, wo = wr := ⟨_, rfl⟩
      by_cases hlt : k < n
      · have hkq : k < ql.length := by have := HQN.out; omega
        have hko : k < ops.length := by have h := HO.out; have := HON.out; omega
        have hbw := HBC.out.2.trans (hb.mono HBC.out.2.size)
        obtain ⟨b5, off5, rfl, -, q0', q1', q2', q3'⟩ := (HO.out.on hbw).opd hko
        obtain ⟨b6, off6, rfl, -, r0, r1, r2⟩ := (HEL.out.on hb).col hkq
        have hoc := HOQ.out k hko hkq
        have hlt' : (k : Int) < (n : Int) := by omega
        obtain ⟨w5, hw5⟩ : ∃ w5, w5 = wo.alloc (.cells #[.int .i64 ops[k], .int .i64 0, .int .i64 0, .string ⟨#[]⟩] 102) := ⟨_, rfl⟩
        have hb5 : Below wo.heap.size wo w5 := by rw [hw5]; exact (Below.refl _ _).alloc (Nat.le_refl _) _
        have hg5 : w5.heap[wo.heap.size]? = some (.cells #[.int .i64 ops[k], .int .i64 0, .int .i64 0, .string ⟨#[]⟩] 102 (0, 0)) := by rw [hw5]; exact heap_alloc_new wo _
        have hs5 : wo.heap.size < w5.heap.size := by rw [hw5]; simp
        have hby5 : Below wy.heap.size wy w5 := hb.trans (hb5.mono hb.size)
        have hS : ∀ W, Below w5.heap.size w5 W → W.cell? ⟨w.heap.size + 1, 0, none⟩ = some (.string t.name) ∧ W.cell? ⟨w.heap.size + 1, 1, none⟩ = some (.slice t.CA t.cols.length t.cc) ∧ W.cell? ⟨w.heap.size + 1, 2, none⟩ = some (.slice t.PA t.pk.length t.pc)
            ∧ W.cell? ⟨wo.heap.size, 0, none⟩ = some (.int .i64 ops[k]) ∧ W.cell? ⟨wo.heap.size, 1, none⟩ = some (.int .i64 0) ∧ W.cell? ⟨wo.heap.size, 2, none⟩ = some (.int .i64 0) ∧ W.cell? ⟨wo.heap.size, 3, none⟩ = some (.string ⟨#[]⟩)
            ∧ W.cell? ⟨b6, off6 + k * 3, none⟩ = some (.string ql[k].name) ∧ W.cell? ⟨b6, off6 + k * 3 + 1, none⟩ = some (.int .i64 ql[k].kind) ∧ W.cell? ⟨b6, off6 + k * 3 + 2, none⟩ = some (.bool ql[k].null)
            ∧ W.cell? ⟨w.heap.size + 1 + 1, 0, none⟩ = some (.int .i64 1) := fun W hW => by
          have hwy : Below wy.heap.size wy W := hby5.trans (hW.mono hby5.size)
          obtain ⟨-, ⟨k3, k4, k5⟩, k6, -, -⟩ := HBK.out W (HBC.out.1.trans (hwy.mono HBC.out.1.size))
          have h5 := (hW.block wo.heap.size hs5).trans hg5
          obtain ⟨b7, off7, hA7, -, r0', r1', r2'⟩ := (HEL.out.on hwy).col hkq
          injection hA7 with hA7
          injection hA7 with e1 e2
          subst e1 e2
          exact ⟨k3, k4, k5, cell_of_row _ _ 0 _ _ _ h5, cell_of_row _ _ 1 _ _ _ h5, cell_of_row _ _ 2 _ _ _ h5, cell_of_row _ _ 3 _ _ _ h5, r0', r1', r2', k6⟩
        have HCO : Hid (∀ m, Calls Tryz.prog 102 #[.agg #[.string t.name, .slice t.CA t.cols.length t.cc, .slice t.PA t.pk.length t.pc], .agg #[.int .i64 ops[k], .int .i64 0, .int .i64 0, .string ⟨#[]⟩], .agg #[.string ql[k].name, .int .i64 ql[k].kind, .bool ql[k].null], .bool ql[k].null] (w5.drewN m) fun e w9 => e = .returned (.int .i64 0) ∧ Below w5.heap.size w5 w9) := Lib.hid fun m => by
          have hd : Below w5.heap.size w5 (w5.drewN m) := below_drewN (Below.refl _ _) m
          have hbo := hby5.trans (hd.mono hby5.size)
          refine (checkOperand t ops[k] ql[k] _ (w5.drewN m) (HTT.out.on (HBC.out.2.trans (hbo.mono HBC.out.2.size))) HTL.out hoc).mono ?_
          rintro e w9 ⟨rfl, hb9⟩
          exact ⟨rfl, hd.trans hb9⟩
        have HS := Lib.hid hS
        have s5 := hS w5 (Below.refl _ _)
        have HBY := Lib.hid hby5
        have HW5 := Lib.hid hw5
        clear hw5 hb5 hg5 hs5 hby5 hS hoc hbw hb
        generalize ops[k] = o at *
        generalize ql[k] = q at *
        go_upto_region 20 with fail
        rw [← HW5.out]
        go_region_held3 (fun W => W.cell? ⟨w.heap.size + 1, 0, none⟩ = some (.string t.name) ∧ W.cell? ⟨w.heap.size + 1, 1, none⟩ = some (.slice t.CA t.cols.length t.cc) ∧ W.cell? ⟨w.heap.size + 1, 2, none⟩ = some (.slice t.PA t.pk.length t.pc)
            ∧ W.cell? ⟨wo.heap.size, 0, none⟩ = some (.int .i64 o) ∧ W.cell? ⟨wo.heap.size, 1, none⟩ = some (.int .i64 0) ∧ W.cell? ⟨wo.heap.size, 2, none⟩ = some (.int .i64 0) ∧ W.cell? ⟨wo.heap.size, 3, none⟩ = some (.string ⟨#[]⟩)
            ∧ W.cell? ⟨b6, off6 + k * 3, none⟩ = some (.string q.name) ∧ W.cell? ⟨b6, off6 + k * 3 + 1, none⟩ = some (.int .i64 q.kind) ∧ W.cell? ⟨b6, off6 + k * 3 + 2, none⟩ = some (.bool q.null)
            ∧ W.cell? ⟨w.heap.size + 1 + 1, 0, none⟩ = some (.int .i64 1)) (first | exact s5 | exact s9)
          (first
          | (go_at_call 102; refine (HCO.out 1).mono ?_; rintro e w9 ⟨rfl, hb9⟩; have s9 := HS.out w9 hb9))
        all_goals
          have HB9 := Lib.hid (HBY.out.trans (hb9.mono HBY.out.size))
          clear hb9 s9
          go_wp2_with fail
          go_roundw
          case rel => exact ⟨k + 1, by go_num, by omega, HB9.out⟩
          case measure => simp [intOf]; omega
      · have hkn' : k = n := by omega
        subst hkn'
        have HF := Lib.hid (HBC.out.2.trans (hb.mono HBC.out.2.size))
        clear hb
        go_wp2_with fail
        go_ret
        exact ⟨rfl, HF.out⟩

set_option linter.unusedSimpArgs false in
set_option maxRecDepth 100000 in
set_option maxHeartbeats 8000000 in
theorem checkActionDel (s : Sc) (t : Tbl) (a : Ac) (w : World) (hs : ScOk (· < w.heap.size) w s) (ht : TOk (· < w.heap.size) w t) (ho : Elems 4 opdCs w (· < w.heap.size) a.A a.ops) (hc : AcC s t a) (hk : a.kind = 2) (hl : s.tabs.length ≤ 1000) (htl : t.cols.length ≤ 1000) :
    Calls Tryz.prog 67 #[s.v, t.val, a.val] w fun e w' => e = .returned (.int .i64 0) ∧ Below w.heap.size w w' := by
  obtain ⟨-, i, hi, hti, hol, hol2, hpk, hop⟩ := hc
  obtain ⟨kind, nm, OA, oc, ops⟩ := a
  have hk : kind = 2 := hk
  subst hk
  obtain ⟨n, hn⟩ : ∃ n, ops.length = n := ⟨_, rfl⟩
  simp only at hti hol hol2 hop
  have hn100 : n ≤ 100 := by omega
  obtain ⟨w1, hw1⟩ : ∃ w1, w1 = ((w.alloc (.cells s.cells 27)).alloc (.cells #[.string t.name, .slice t.CA t.cols.length t.cc, .slice t.PA t.pk.length t.pc] 71)).alloc (.cells #[.int .i64 2, .string nm, .slice OA n oc] 105) := ⟨_, rfl⟩
  have hb1 : Below w.heap.size w w1 := by rw [hw1]; exact (((Below.refl _ _).alloc (Nat.le_refl _) _).alloc (le_size1 (Nat.le_refl _) _) _).alloc (le_size2 (Nat.le_refl _) _ _) _
  have g0 : w1.heap[w.heap.size]? = some (.cells s.cells 27 (0, 0)) := by
    rw [hw1, Below.heap_alloc _ _ _ (by simp; omega), Below.heap_alloc _ _ _ (by simp)]
    exact heap_alloc_new w _
  have g1 : w1.heap[w.heap.size + 1]? = some (.cells #[.string t.name, .slice t.CA t.cols.length t.cc, .slice t.PA t.pk.length t.pc] 71 (0, 0)) := by
    rw [hw1, Below.heap_alloc _ _ _ (by simp)]
    exact alloc2_at w _ _
  have g2 : w1.heap[w.heap.size + 1 + 1]? = some (.cells #[.int .i64 2, .string nm, .slice OA n oc] 105 (0, 0)) := by
    rw [hw1]
    have h := heap_alloc_new ((w.alloc (.cells s.cells 27)).alloc (.cells #[.string t.name, .slice t.CA t.cols.length t.cc, .slice t.PA t.pk.length t.pc] 71)) (.cells #[.int .i64 2, .string nm, .slice OA n oc] 105)
    simpa using h
  have hs1 : w1.heap.size = w.heap.size + 3 := by rw [hw1]; simp
  have HBK : Hid (∀ W, Below w1.heap.size w1 W → (W.cell? ⟨w.heap.size, 0, none⟩ = some (.slice s.TA s.tabs.length s.tc) ∧ W.cell? ⟨w.heap.size, 1, none⟩ = some (.slice s.FA s.fks.length s.fc) ∧ W.cell? ⟨w.heap.size, 2, none⟩ = some (.slice s.NA s.cns.length s.nc))
      ∧ (W.cell? ⟨w.heap.size + 1, 0, none⟩ = some (.string t.name) ∧ W.cell? ⟨w.heap.size + 1, 1, none⟩ = some (.slice t.CA t.cols.length t.cc) ∧ W.cell? ⟨w.heap.size + 1, 2, none⟩ = some (.slice t.PA t.pk.length t.pc))
      ∧ (W.cell? ⟨w.heap.size + 1 + 1, 0, none⟩ = some (.int .i64 2) ∧ W.cell? ⟨w.heap.size + 1 + 1, 1, none⟩ = some (.string nm) ∧ W.cell? ⟨w.heap.size + 1 + 1, 2, none⟩ = some (.slice OA n oc))) := Lib.hid fun W hW => by
    have h0 := (hW.block w.heap.size (by omega)).trans g0
    have h1 := (hW.block (w.heap.size + 1) (by omega)).trans g1
    have h2 := (hW.block (w.heap.size + 1 + 1) (by omega)).trans g2
    unfold Sc.cells at h0
    exact ⟨⟨cell_of_row _ _ 0 _ _ _ h0, cell_of_row _ _ 1 _ _ _ h0, cell_of_row _ _ 2 _ _ _ h0⟩, ⟨cell_of_row _ _ 0 _ _ _ h1, cell_of_row _ _ 1 _ _ _ h1, cell_of_row _ _ 2 _ _ _ h1⟩, ⟨cell_of_row _ _ 0 _ _ _ h2, cell_of_row _ _ 1 _ _ _ h2, cell_of_row _ _ 2 _ _ _ h2⟩⟩
  have HFT := Lib.hid fun W (hW : Below w.heap.size w W) => findTable s nm W (hs.on hW) hl
  have HSC := Lib.hid hs
  have HTT := Lib.hid ht
  have HO := Lib.hid ho
  have HOP := Lib.hid hop
  have HPK := Lib.hid hpk
  have HTI := Lib.hid hti
  have HOL := Lib.hid (And.intro hn hol)
  have HTL := Lib.hid htl
  have HON := Lib.hid hn
  have HB1 := Lib.hid hb1
  have HS1 := Lib.hid hs1
  have HW1 := Lib.hid hw1
  have hin : (i : Int) < (s.tabs.length : Int) := by omega
  obtain ⟨⟨c0, c1, c2⟩, ⟨c3, c4, c5⟩, c6, c7, c8⟩ := HBK.out w1 (Below.refl _ _)
  unfold Sc.cells at HW1
  unfold Sc.v Sc.cells at HFT ⊢
  unfold Tbl.val Ac.val
  simp only
  rw [hn]
  clear hs ht ho hop hpk hti hol hol2 htl hb1 hw1 g0 g1 g2 hs1 hn
  go_enter Tryz.func67, Tryz.ntmps67
  go_upto_region 1 with fail
  rw [← HW1.out]
  go_wp2_with fail
  refine (HFT.out w1 HB1.out).mono ?_
  rintro e w2 ⟨rfl, hb2⟩
  rw [HTI.out]
  have hmi : max (i : Int) 0 = (i : Int) := by omega
  have hdi : decide (0 ≤ (i : Int)) = true := decide_eq_true (by omega)
  unfold findV
  rw [hmi, hdi]
  have hb02 := HB1.out.trans (hb2.mono HB1.out.size)
  have HB2 := Lib.hid (And.intro hb2 hb02)
  clear c0 c1 c2 c3 c4 c5 c6 c7 c8 hmi hdi
  obtain ⟨⟨c0, c1, c2⟩, ⟨c3, c4, c5⟩, c6, c7, c8⟩ := HBK.out w2 hb2
  obtain ⟨b, off, hA, -, p0, p1, p2⟩ := (HSC.out.on hb02).tabs.tbl hi
  rw [hA] at c0
  obtain ⟨w3, hw3⟩ : ∃ w3, w3 = w2.alloc (.cells #[.string s.tabs[i].name, .slice s.tabs[i].CA s.tabs[i].cols.length s.tabs[i].cc, .slice s.tabs[i].PA s.tabs[i].pk.length s.tabs[i].pc] 71) := ⟨_, rfl⟩
  have hb3 : Below w2.heap.size w2 w3 := by rw [hw3]; exact (Below.refl _ _).alloc (Nat.le_refl _) _
  have hg3 : w3.heap[w2.heap.size]? = some (.cells #[.string s.tabs[i].name, .slice s.tabs[i].CA s.tabs[i].cols.length s.tabs[i].cc, .slice s.tabs[i].PA s.tabs[i].pk.length s.tabs[i].pc] 71 (0, 0)) := by rw [hw3]; exact heap_alloc_new w2 _
  have hs3 : w2.heap.size < w3.heap.size := by rw [hw3]; simp
  have HTB : Hid (∀ W, Below w3.heap.size w3 W → W.cell? ⟨w2.heap.size, 1, none⟩ = some (.slice s.tabs[i].CA s.tabs[i].cols.length s.tabs[i].cc) ∧ W.cell? ⟨w2.heap.size, 2, none⟩ = some (.slice s.tabs[i].PA s.tabs[i].pk.length s.tabs[i].pc)) := Lib.hid fun W hW => by
    have h := (hW.block w2.heap.size hs3).trans hg3
    exact ⟨cell_of_row _ _ 1 _ _ _ h, cell_of_row _ _ 2 _ _ _ h⟩
  have HB3 := Lib.hid (And.intro (hb2.trans (hb3.mono hb2.size)) (hb02.trans (hb3.mono hb02.size)))
  have HTK := Lib.hid (HSC.out.tab _ (List.getElem_mem hi))
  have HW3 := Lib.hid hw3
  obtain ⟨x1, x2⟩ := HTB.out w3 (Below.refl _ _)
  clear hb2 hb02 hb3 hg3 hs3 hw3 hA
  go_upto_region 7 with fail
  rw [← HW3.out]
  clear c0 c1 c2 c3 c4 c5 c6 c7 c8 p0 p1 p2
  obtain ⟨⟨c0, c1, c2⟩, ⟨c3, c4, c5⟩, c6, c7, c8⟩ := HBK.out w3 HB3.out.1
  generalize hq : s.tabs[i] = q at *
  obtain ⟨q0, qCA, qcc, qcols, qPA, qpc, qpk⟩ := q
  have HQ := Lib.hid hq
  simp only at *
  clear hq
  go_upto_if 42 with fail
  go_cut [10] from 43 to 58 (fun v10 wx => ∃ A2 c2, v10 = .slice A2 n c2 ∧ Below w3.heap.size w3 wx ∧ Hid (Elems 3 Col.cs wx (· < wx.heap.size) A2 (acCols ⟨2, nm, OA, oc, ops⟩ ⟨q0, qCA, qcc, qcols, qPA, qpc, qpk⟩)))
  case first =>
    obtain ⟨m, hm⟩ : ∃ m, qpk.length = m := ⟨_, rfl⟩
    have hmn : m = n := by
      have h := HOL.out
      have h2 : ops.length = (qpk.map fun k => qcols.getD k.toNat col0).length := h.2
      rw [List.length_map] at h2
      omega
    subst hmn
    obtain ⟨l, hl2⟩ : ∃ l, qcols.length = l := ⟨_, rfl⟩
    rw [hm] at x2
    have HM := Lib.hid (And.intro hm hl2)
    clear hm hl2
    go_wp2_with fail
    go_loopw [10, 46] (fun v10 vi wr => ∃ k : Nat, vi = .int .i64 (k : Int) ∧ k ≤ m ∧ Own 3 Col.cs 68 w3.heap.size wr v10 (pkC qcols (qpk.take k)) ∧ Below w3.heap.size w3 wr) (fun _ vi _ => m - (intOf vi).toNat)
    case atStart => exact ⟨0, rfl, by omega, Own.nil _, Below.refl _ _⟩
    case round =>
      obtain ⟨k, rfl, hkn, hT⟩ := hrel
      obtain ⟨wo, rfl⟩ : ∃ wo, wo = wr := ⟨_, rfl⟩
      obtain ⟨v10, rfl⟩ : ∃ v10, v10 = u10 := ⟨_, rfl⟩
      obtain ⟨hw, hb⟩ := hT
      by_cases hlt : k < m
      · have hki : k < qpk.length := by have := HM.out.1; omega
        have htk := HTK.out.on (HB3.out.2.trans (hb.mono HB3.out.2.size))
        obtain ⟨b3, off3, hA3, -, y0⟩ := htk.pk.int hki
        have y0 : wo.cell? ⟨b3, off3 + k, none⟩ = some (.int .i64 qpk[k]) := y0
        have hA3 : qPA = some ⟨b3, off3, none⟩ := hA3
        obtain ⟨hp0, hp1⟩ := HPK.out _ (List.getElem_mem hki)
        obtain ⟨p, hp⟩ := Int.eq_ofNat_of_zero_le hp0
        have hpp : qpk[k] = (p : Int) := hp
        have hpl : p < qcols.length := by
          have h : qpk[k].toNat < qcols.length := hp1
          rwa [hpp, Int.toNat_natCast] at h
        obtain ⟨b4, off4, hA4, -, z0, z1, z2⟩ := htk.cols.col hpl
        have z0 : wo.cell? ⟨b4, off4 + p * 3, none⟩ = some (.string qcols[p].name) := z0
        have z1 : wo.cell? ⟨b4, off4 + p * 3 + 1, none⟩ = some (.int .i64 qcols[p].kind) := z1
        have z2 : wo.cell? ⟨b4, off4 + p * 3 + 2, none⟩ = some (.bool qcols[p].null) := z2
        have hA4 : qCA = some ⟨b4, off4, none⟩ := hA4
        rw [hpp] at y0
        obtain ⟨x1', x2'⟩ := HTB.out wo hb
        have x1' : wo.cell? ⟨w2.heap.size, 1, none⟩ = some (.slice qCA qcols.length qcc) := x1'
        rw [HM.out.2, hA4] at x1'
        have hlt' : (k : Int) < (m : Int) := by omega
        have hpl' : (p : Int) < (l : Int) := by have := HM.out.2; omega
        have HKO : Hid (pkC qcols (qpk.take (k + 1)) = pkC qcols (qpk.take k) ++ [qcols[p]]) := Lib.hid (by
          unfold pkC
          rw [List.take_succ_eq_append_getElem hki, List.map_append, List.map_singleton, hpp, Int.toNat_natCast, List.getD_eq_getElem?_getD, List.getElem?_eq_getElem hpl]
          rfl)
        obtain ⟨ys, hys⟩ : ∃ ys, ys = pkC qcols (qpk.take k) := ⟨_, rfl⟩
        rw [← hys] at HKO hw
        have hlen : ys.length = k := by rw [hys]; unfold pkC; rw [List.length_map, List.length_take]; omega
        have HL1 : Hid ((ys.length + 1) * 32 ≤ 140737488355328) := Lib.hid (by rw [hlen]; omega)
        have HL2 : Hid (ys.length + 1 ≤ maxLen) := Lib.hid (by rw [hlen]; unfold maxLen; omega)
        have HO2 := Lib.hid hw
        have HS2 : Hid (w3.heap.size ≤ wo.heap.size) := Lib.hid hb.size
        have HFR : Hid (∀ w4 v4, Ext wo v10 w4 v4 → Below w3.heap.size w3 w4) := Lib.hid fun w4 v4 hx => hb.trans (hx.below hb.size fun g hg => (Own.lt hw g hg).1)
        clear hlen hys hw hb hp0 hp1 hp hpp x2' htk
        subst hA3
        generalize qcols[p] = x at *
        go_wp2_with (at_builtin; refine wpList_app rfl (.tmp 50) (.tmp 56) _ _ rfl rfl rfl (run_push elem_cols colLay _ _ _ ys x #[.string x.name, .int .i64 x.kind, .bool x.null] HO2.out rfl HL1.out HL2.out HS2.out rfl) ?_; rintro v2 w4 ⟨ho2, hx2⟩)
        have HF : Hid (Own 3 Col.cs 68 w3.heap.size w4 v2 (pkC qcols (qpk.take (k + 1))) ∧ Below w3.heap.size w3 w4) := Lib.hid ⟨by rw [HKO.out]; exact ho2, HFR.out _ _ hx2⟩
        clear ho2 hx2
        go_wp2_with fail
        go_roundw
        case rel =>
          refine ⟨v2, _, _, ⟨k + 1, ?_, by omega, HF.out.1, HF.out.2⟩, rfl, rfl, rfl⟩
          go_num
        case measure => simp [intOf]; omega
      · have hkn' : k = m := by omega
        subst hkn'
        rw [List.take_of_length_le (by have := HM.out.1; omega)] at hw
        have hlen : (pkC qcols qpk).length = k := by unfold pkC; rw [List.length_map]; exact HM.out.1
        obtain ⟨A2, c2, hv, -, -⟩ := hw.form
        rw [hlen] at hv
        subst hv
        have HF : Hid (∃ A3 c3, Value.slice A2 k c2 = .slice A3 k c3 ∧ Below w3.heap.size w3 wo ∧ Hid (Elems 3 Col.cs wo (· < wo.heap.size) A3 (acCols ⟨2, nm, OA, oc, ops⟩ ⟨q0, qCA, qcc, qcols, qPA, qpc, qpk⟩))) := Lib.hid ⟨_, _, rfl, hb, Lib.hid ((hw.elems colLay.len rfl).more fun g hg => (Own.lt hw g hg).2)⟩
        clear hw hb hlen
        go_wp2_with fail
        go_meet
        exact HF.out
  case rest =>
    obtain ⟨A2, cc2, rfl, hbc, HEL⟩ := hcut
    obtain ⟨wy, rfl⟩ : ∃ wy, wy = wc := ⟨_, rfl⟩
    generalize hql : acCols ⟨2, nm, OA, oc, ops⟩ ⟨q0, qCA, qcc, qcols, qPA, qpc, qpk⟩ = ql at *
    have hqn : ql.length = n := by have h := HOL.out; omega
    have HOQ : Hid (∀ (k : Nat) (h1 : k < ops.length) (h2 : k < ql.length), OpC t ops[k] ql[k] false) := Lib.hid fun k h1 h2 => HOP.out k h1 h2
    have HBC := Lib.hid (And.intro (HB3.out.1.trans (hbc.mono HB3.out.1.size)) (HB3.out.2.trans (hbc.mono HB3.out.2.size)))
    have HQN := Lib.hid hqn
    clear HOP HOL HPK HTB HTK HQ c0 c1 c2 c3 c4 c5 c6 c7 c8 x1 x2 hql hqn hbc
    obtain ⟨⟨c0, c1, c2⟩, ⟨c3, c4, c5⟩, c6, c7, c8⟩ := HBK.out wy HBC.out.1
    go_wp2_with fail
    go_loopw [68] (fun vi wr => ∃ k : Nat, vi = .int .i64 (k : Int) ∧ k ≤ n ∧ Below wy.heap.size wy wr) (fun vi _ => n - (intOf vi).toNat)
    case atStart => exact ⟨0, rfl, by omega, Below.refl _ _⟩
    case round =>
      obtain ⟨k, rfl, hkn, hb⟩ := hrel
      obtain ⟨wo, rfl⟩ : ∃ wo, wo = wr := ⟨_, rfl⟩
      by_cases hlt : k < n
      · have hkq : k < ql.length := by have := HQN.out; omega
        have hko : k < ops.length := by have h := HO.out; have := HON.out; omega
        have hbw := HBC.out.2.trans (hb.mono HBC.out.2.size)
        obtain ⟨b5, off5, rfl, -, q0', q1', q2', q3'⟩ := (HO.out.on hbw).opd hko
        obtain ⟨b6, off6, rfl, -, r0, r1, r2⟩ := (HEL.out.on hb).col hkq
        have hoc := HOQ.out k hko hkq
        have hlt' : (k : Int) < (n : Int) := by omega
        obtain ⟨w5, hw5⟩ : ∃ w5, w5 = wo.alloc (.cells #[.int .i64 ops[k], .int .i64 0, .int .i64 0, .string ⟨#[]⟩] 102) := ⟨_, rfl⟩
        have hb5 : Below wo.heap.size wo w5 := by rw [hw5]; exact (Below.refl _ _).alloc (Nat.le_refl _) _
        have hg5 : w5.heap[wo.heap.size]? = some (.cells #[.int .i64 ops[k], .int .i64 0, .int .i64 0, .string ⟨#[]⟩] 102 (0, 0)) := by rw [hw5]; exact heap_alloc_new wo _
        have hs5 : wo.heap.size < w5.heap.size := by rw [hw5]; simp
        have hby5 : Below wy.heap.size wy w5 := hb.trans (hb5.mono hb.size)
        have hS : ∀ W, Below w5.heap.size w5 W → W.cell? ⟨w.heap.size + 1, 0, none⟩ = some (.string t.name) ∧ W.cell? ⟨w.heap.size + 1, 1, none⟩ = some (.slice t.CA t.cols.length t.cc) ∧ W.cell? ⟨w.heap.size + 1, 2, none⟩ = some (.slice t.PA t.pk.length t.pc)
            ∧ W.cell? ⟨wo.heap.size, 0, none⟩ = some (.int .i64 ops[k]) ∧ W.cell? ⟨wo.heap.size, 1, none⟩ = some (.int .i64 0) ∧ W.cell? ⟨wo.heap.size, 2, none⟩ = some (.int .i64 0) ∧ W.cell? ⟨wo.heap.size, 3, none⟩ = some (.string ⟨#[]⟩)
            ∧ W.cell? ⟨b6, off6 + k * 3, none⟩ = some (.string ql[k].name) ∧ W.cell? ⟨b6, off6 + k * 3 + 1, none⟩ = some (.int .i64 ql[k].kind) ∧ W.cell? ⟨b6, off6 + k * 3 + 2, none⟩ = some (.bool ql[k].null)
            ∧ W.cell? ⟨w.heap.size + 1 + 1, 0, none⟩ = some (.int .i64 2) := fun W hW => by
          have hwy : Below wy.heap.size wy W := hby5.trans (hW.mono hby5.size)
          obtain ⟨-, ⟨k3, k4, k5⟩, k6, -, -⟩ := HBK.out W (HBC.out.1.trans (hwy.mono HBC.out.1.size))
          have h5 := (hW.block wo.heap.size hs5).trans hg5
          obtain ⟨b7, off7, hA7, -, r0', r1', r2'⟩ := (HEL.out.on hwy).col hkq
          injection hA7 with hA7
          injection hA7 with e1 e2
          subst e1 e2
          exact ⟨k3, k4, k5, cell_of_row _ _ 0 _ _ _ h5, cell_of_row _ _ 1 _ _ _ h5, cell_of_row _ _ 2 _ _ _ h5, cell_of_row _ _ 3 _ _ _ h5, r0', r1', r2', k6⟩
        have HCO : Hid (∀ m, Calls Tryz.prog 102 #[.agg #[.string t.name, .slice t.CA t.cols.length t.cc, .slice t.PA t.pk.length t.pc], .agg #[.int .i64 ops[k], .int .i64 0, .int .i64 0, .string ⟨#[]⟩], .agg #[.string ql[k].name, .int .i64 ql[k].kind, .bool ql[k].null], .bool false] (w5.drewN m) fun e w9 => e = .returned (.int .i64 0) ∧ Below w5.heap.size w5 w9) := Lib.hid fun m => by
          have hd : Below w5.heap.size w5 (w5.drewN m) := below_drewN (Below.refl _ _) m
          have hbo := hby5.trans (hd.mono hby5.size)
          refine (checkOperand t ops[k] ql[k] _ (w5.drewN m) (HTT.out.on (HBC.out.2.trans (hbo.mono HBC.out.2.size))) HTL.out hoc).mono ?_
          rintro e w9 ⟨rfl, hb9⟩
          exact ⟨rfl, hd.trans hb9⟩
        have HS := Lib.hid hS
        have s5 := hS w5 (Below.refl _ _)
        have HBY := Lib.hid hby5
        have HW5 := Lib.hid hw5
        clear hw5 hb5 hg5 hs5 hby5 hS hoc hbw hb
        generalize ops[k] = o at *
        generalize ql[k] = q at *
        go_upto_region 20 with fail
        rw [← HW5.out]
        refine wp_region_held_drew (S := (fun W => W.cell? ⟨w.heap.size + 1, 0, none⟩ = some (.string t.name) ∧ W.cell? ⟨w.heap.size + 1, 1, none⟩ = some (.slice t.CA t.cols.length t.cc) ∧ W.cell? ⟨w.heap.size + 1, 2, none⟩ = some (.slice t.PA t.pk.length t.pc)
            ∧ W.cell? ⟨wo.heap.size, 0, none⟩ = some (.int .i64 o) ∧ W.cell? ⟨wo.heap.size, 1, none⟩ = some (.int .i64 0) ∧ W.cell? ⟨wo.heap.size, 2, none⟩ = some (.int .i64 0) ∧ W.cell? ⟨wo.heap.size, 3, none⟩ = some (.string ⟨#[]⟩)
            ∧ W.cell? ⟨b6, off6 + k * 3, none⟩ = some (.string q.name) ∧ W.cell? ⟨b6, off6 + k * 3 + 1, none⟩ = some (.int .i64 q.kind) ∧ W.cell? ⟨b6, off6 + k * 3 + 2, none⟩ = some (.bool q.null)
            ∧ W.cell? ⟨w.heap.size + 1 + 1, 0, none⟩ = some (.int .i64 2))) (by kernel_rfl) s5 (fun hHeld => ?_)
        refine wpAnyH_take (i := 0) (oi := _) (v := ?_) rfl (by kernel_rfl) (by kernel_rfl) (by kernel_rfl) (fun _ _ _ h => h) (Or.inl ⟨by rfl, ?_⟩) hHeld ?_
        rotate_left
        · intro w hSw; (try dsimp only at hSw); go_simp; with_reducible rfl
        simp only [Act.put, List.setIfInBounds_toArray, List.set_cons_zero, List.set_cons_succ, List.getElem_toArray, List.getElem_cons_succ, List.getElem_cons_zero]
        refine wpAnyH_take (i := 1) (oi := _) (v := ?_) rfl (by kernel_rfl) (by kernel_rfl) (by kernel_rfl) (fun _ _ _ h => h) (Or.inl ⟨by rfl, ?_⟩) hHeld ?_
        rotate_left
        · intro w hSw; (try dsimp only at hSw); go_simp; with_reducible rfl
        simp only [Act.put, List.setIfInBounds_toArray, List.set_cons_zero, List.set_cons_succ, List.getElem_toArray, List.getElem_cons_succ, List.getElem_cons_zero]
        refine wpAnyH_take (i := 2) (oi := _) (v := ?_) rfl (by kernel_rfl) (by kernel_rfl) (by kernel_rfl) (fun _ _ _ h => h) (Or.inl ⟨by rfl, ?_⟩) hHeld ?_
        rotate_left
        · intro w hSw; (try dsimp only at hSw); go_simp; with_reducible rfl
        simp only [Act.put, List.setIfInBounds_toArray, List.set_cons_zero, List.set_cons_succ, List.getElem_toArray, List.getElem_cons_succ, List.getElem_cons_zero]
        refine wpAnyH_take (i := 3) (oi := _) (v := ?_) rfl (by kernel_rfl) (by kernel_rfl) (by kernel_rfl) (fun _ _ _ h => h) (Or.inl ⟨by rfl, ?_⟩) hHeld ?_
        rotate_left
        · intro w hSw; (try dsimp only at hSw); go_simp; with_reducible rfl
        simp only [Act.put, List.setIfInBounds_toArray, List.set_cons_zero, List.set_cons_succ, List.getElem_toArray, List.getElem_cons_succ, List.getElem_cons_zero]
        refine wpAnyH_take (i := 4) (oi := _) (v := ?_) rfl (by kernel_rfl) (by kernel_rfl) (by kernel_rfl) (fun _ _ _ h => h) (Or.inl ⟨by rfl, ?_⟩) hHeld ?_
        rotate_left
        · intro w hSw; (try dsimp only at hSw); go_simp; with_reducible rfl
        simp only [Act.put, List.setIfInBounds_toArray, List.set_cons_zero, List.set_cons_succ, List.getElem_toArray, List.getElem_cons_succ, List.getElem_cons_zero]
        refine wpAnyH_take (i := 5) (oi := _) (v := ?_) rfl (by kernel_rfl) (by kernel_rfl) (by kernel_rfl) (fun _ _ _ h => h) (Or.inl ⟨by rfl, ?_⟩) hHeld ?_
        rotate_left
        · intro w hSw; (try dsimp only at hSw); go_simp; with_reducible rfl
        simp only [Act.put, List.setIfInBounds_toArray, List.set_cons_zero, List.set_cons_succ, List.getElem_toArray, List.getElem_cons_succ, List.getElem_cons_zero]
        refine wpAnyH_take (i := 6) (oi := _) (v := ?_) rfl (by kernel_rfl) (by kernel_rfl) (by kernel_rfl) (fun _ _ _ h => h) (Or.inl ⟨by rfl, ?_⟩) hHeld ?_
        rotate_left
        · intro w hSw; (try dsimp only at hSw); go_simp; with_reducible rfl
        simp only [Act.put, List.setIfInBounds_toArray, List.set_cons_zero, List.set_cons_succ, List.getElem_toArray, List.getElem_cons_succ, List.getElem_cons_zero]
        refine wpAnyH_take (i := 7) (oi := _) (v := ?_) rfl (by kernel_rfl) (by kernel_rfl) (by kernel_rfl) (fun _ _ _ h => h) (Or.inl ⟨by rfl, ?_⟩) hHeld ?_
        rotate_left
        · intro w hSw; (try dsimp only at hSw); go_simp; with_reducible rfl
        simp only [Act.put, List.setIfInBounds_toArray, List.set_cons_zero, List.set_cons_succ, List.getElem_toArray, List.getElem_cons_succ, List.getElem_cons_zero]
        refine wpAnyH_take (i := 8) (oi := _) (v := ?_) rfl (by kernel_rfl) (by kernel_rfl) (by kernel_rfl) (fun _ _ _ h => h) (Or.inl ⟨by rfl, ?_⟩) hHeld ?_
        rotate_left
        · intro w hSw; (try dsimp only at hSw); go_simp; with_reducible rfl
        simp only [Act.put, List.setIfInBounds_toArray, List.set_cons_zero, List.set_cons_succ, List.getElem_toArray, List.getElem_cons_succ, List.getElem_cons_zero]
        refine wpAnyH_take (i := 9) (oi := _) (v := ?_) rfl (by kernel_rfl) (by kernel_rfl) (by kernel_rfl) (fun _ _ _ h => h) (Or.inl ⟨by rfl, ?_⟩) hHeld ?_
        rotate_left
        · intro w hSw; (try dsimp only at hSw); go_simp; with_reducible rfl
        simp only [Act.put, List.setIfInBounds_toArray, List.set_cons_zero, List.set_cons_succ, List.getElem_toArray, List.getElem_cons_succ, List.getElem_cons_zero]
        refine wpAnyH_take (i := 10) (oi := _) (v := undef) rfl (by kernel_rfl) (by kernel_rfl) (by kernel_rfl) (fun _ _ _ h => h) (Or.inr ⟨by rfl, rfl⟩) hHeld ?_
        simp only [Act.put, List.setIfInBounds_toArray, List.set_cons_zero, List.set_cons_succ, List.getElem_toArray, List.getElem_cons_succ, List.getElem_cons_zero]
        refine wpAnyH_take (i := 11) (oi := _) (v := undef) rfl (by kernel_rfl) (by kernel_rfl) (by kernel_rfl) (fun _ _ _ h => h) (Or.inr ⟨by rfl, rfl⟩) hHeld ?_
        simp only [Act.put, List.setIfInBounds_toArray, List.set_cons_zero, List.set_cons_succ, List.getElem_toArray, List.getElem_cons_succ, List.getElem_cons_zero]
        refine wpAnyH_take (i := 12) (oi := _) (v := undef) rfl (by kernel_rfl) (by kernel_rfl) (by kernel_rfl) (fun _ _ _ h => h) (Or.inr ⟨by rfl, rfl⟩) hHeld ?_
        simp only [Act.put, List.setIfInBounds_toArray, List.set_cons_zero, List.set_cons_succ, List.getElem_toArray, List.getElem_cons_succ, List.getElem_cons_zero]
        refine wpAnyH_take (i := 13) (oi := _) (v := undef) rfl (by kernel_rfl) (by kernel_rfl) (by kernel_rfl) (fun _ _ _ h => h) (Or.inr ⟨by rfl, rfl⟩) hHeld ?_
        simp only [Act.put, List.setIfInBounds_toArray, List.set_cons_zero, List.set_cons_succ, List.getElem_toArray, List.getElem_cons_succ, List.getElem_cons_zero]
        refine wpAnyH_take (i := 14) (oi := _) (v := undef) rfl (by kernel_rfl) (by kernel_rfl) (by kernel_rfl) (fun _ _ _ h => h) (Or.inr ⟨by rfl, rfl⟩) hHeld ?_
        simp only [Act.put, List.setIfInBounds_toArray, List.set_cons_zero, List.set_cons_succ, List.getElem_toArray, List.getElem_cons_succ, List.getElem_cons_zero]
        refine wpAnyH_take (i := 15) (oi := _) (v := ?_) rfl (by kernel_rfl) (by kernel_rfl) (by kernel_rfl) (fun _ _ _ h => h) (Or.inl ⟨by rfl, ?_⟩) hHeld ?_
        rotate_left
        · intro w hSw; (try dsimp only at hSw); go_simp; with_reducible rfl
        simp only [Act.put, List.setIfInBounds_toArray, List.set_cons_zero, List.set_cons_succ, List.getElem_toArray, List.getElem_cons_succ, List.getElem_cons_zero]
        refine wpAnyH_ready (rs := [16]) (by kernel_rfl) (by simp) ?_
        refine AllReadyH.cons (o := _) rfl (fun K hK => ?_) AllReadyH.nil
        (go_simp; go_at_call 102; refine (HCO.out 1).mono ?_; rintro e w9 ⟨rfl, hb9⟩; have s9 := HS.out w9 hb9; go_wp2_with fail)
        refine hK.out _ _ s9 (fun hHeld => ?_)
        clear hK K
        try simp only [Act.put, List.setIfInBounds_toArray, List.set_cons_zero, List.set_cons_succ, List.getElem_toArray, List.getElem_cons_succ, List.getElem_cons_zero]
        refine wpAnyH_take (i := 17) (oi := _) (v := ?_) rfl (by kernel_rfl) (by kernel_rfl) (by kernel_rfl) (fun _ _ _ h => h) (Or.inl ⟨by rfl, ?_⟩) hHeld ?_
        rotate_left
        · intro w hSw; (try dsimp only at hSw); go_simp; with_reducible rfl
        simp only [Act.put, List.setIfInBounds_toArray, List.set_cons_zero, List.set_cons_succ, List.getElem_toArray, List.getElem_cons_succ, List.getElem_cons_zero]
        refine wpAnyH_done (by kernel_rfl) ?_ _
        all_goals
          have HB9 := Lib.hid (HBY.out.trans (hb9.mono HBY.out.size))
          clear hb9 s9
          go_wp2_with fail
          go_roundw
          case rel => exact ⟨k + 1, by go_num, by omega, HB9.out⟩
          case measure => simp [intOf]; omega
      · have hkn' : k = n := by omega
        subst hkn'
        have HF := Lib.hid (HBC.out.2.trans (hb.mono HBC.out.2.size))
        clear hb
        go_wp2_with fail
        go_ret
        exact ⟨rfl, HF.out⟩
end Go.Proofs.YtefifkleamiabaaGreatDoor

namespace Go.Proofs.YtefifkleamiabaaGreatDoor
open Go.RowKit Go.Sort

theorem checkAction (s : Sc) (t : Tbl) (a : Ac) (w : World) (hs : ScOk (· < w.heap.size) w s) (ht : TOk (· < w.heap.size) w t) (ho : Elems 4 opdCs w (· < w.heap.size) a.A a.ops) (hc : AcC s t a) (hl : s.tabs.length ≤ 1000) (htl : t.cols.length ≤ 1000) :
    Calls Tryz.prog 67 #[s.v, t.val, a.val] w fun e w' => e = .returned (.int .i64 0) ∧ Below w.heap.size w w' := by
  rcases hc.kind with hk | hk
  · exact checkActionUps s t a w hs ht ho hc hk hl htl
  · exact checkActionDel s t a w hs ht ho hc hk hl htl

set_option maxRecDepth 100000 in
set_option maxHeartbeats 8000000 in
theorem checkTriggers (s : Sc) (A : Option Addr) (c : Nat) (ts : List Tr) (w : World) (hs : ScOk (· < w.heap.size) w s) (hv : SchV s) (ht : TgOk (· < w.heap.size) w A ts) (hc : ∀ t ∈ ts, TrC s t) (hl : ts.length ≤ 8) :
    Calls Tryz.prog 37 #[s.v, .slice A ts.length c] w fun e w' => e = .returned (.int .i64 0) ∧ Below w.heap.size w w' := by
  obtain ⟨n, hn⟩ : ∃ n, ts.length = n := ⟨_, rfl⟩
  have h1000 : s.tabs.length ≤ 1000 := by have := hv.ntab; omega
  obtain ⟨w1, hw1⟩ : ∃ w1, w1 = w.alloc (.cells s.cells 27) := ⟨_, rfl⟩
  have hb1 : Below w.heap.size w w1 := by rw [hw1]; exact (Below.refl _ _).alloc (Nat.le_refl _) _
  have hg0 : w1.heap[w.heap.size]? = some (.cells s.cells 27 (0, 0)) := by rw [hw1]; exact heap_alloc_new w _
  have hs1 : w.heap.size < w1.heap.size := by rw [hw1]; simp
  have HBK : Hid (∀ W, Below w1.heap.size w1 W → W.cell? ⟨w.heap.size, 0, none⟩ = some (.slice s.TA s.tabs.length s.tc) ∧ W.cell? ⟨w.heap.size, 1, none⟩ = some (.slice s.FA s.fks.length s.fc) ∧ W.cell? ⟨w.heap.size, 2, none⟩ = some (.slice s.NA s.cns.length s.nc)) := Lib.hid fun W hW => by
    have h0 := (hW.block w.heap.size hs1).trans hg0
    unfold Sc.cells at h0
    exact ⟨cell_of_row _ _ 0 _ _ _ h0, cell_of_row _ _ 1 _ _ _ h0, cell_of_row _ _ 2 _ _ _ h0⟩
  have HSV := Lib.hid fun W (hW : Below w.heap.size w W) => schemaValidate s W (hs.on hW) hv
  have HFT := Lib.hid fun nm W (hW : Below w.heap.size w W) => findTable s nm W (hs.on hW) h1000
  have HSC := Lib.hid hs
  have HV := Lib.hid hv
  have HT := Lib.hid ht
  have HC := Lib.hid hc
  have HN := Lib.hid hn
  have H1000 := Lib.hid h1000
  have HB1 := Lib.hid hb1
  have HW1 := Lib.hid hw1
  obtain ⟨c0, c1, c2⟩ := HBK.out w1 (Below.refl _ _)
  rw [hn] at hl ⊢
  unfold Sc.cells at HW1
  unfold Sc.v Sc.cells at HSV HFT ⊢
  clear hs hv ht hc hb1 hw1 hg0 hs1 hn h1000
  go_enter Tryz.func37, Tryz.ntmps37
  go_upto_region 1 with fail
  rw [← HW1.out]
  go_wp2_with fail
  refine (HSV.out w1 HB1.out).mono ?_
  rintro e w2 ⟨rfl, hb2⟩
  have HB2 := Lib.hid (And.intro hb2 (HB1.out.trans (hb2.mono HB1.out.size)))
  clear hb2 c0 c1 c2
  go_wp2_with fail
  go_loopw [23] (fun vi wr => ∃ k : Nat, vi = .int .i64 (k : Int) ∧ k ≤ n ∧ Below w2.heap.size w2 wr) (fun vi _ => n - (intOf vi).toNat)
  case atStart => exact ⟨0, rfl, by omega, Below.refl _ _⟩
  case round =>
    obtain ⟨k, rfl, hkn, hb⟩ := hrel
    obtain ⟨wo, rfl⟩ : ∃ wo, wo = wr := ⟨_, rfl⟩
    by_cases hlt : k < n
    · have hki : k < ts.length := by have := HN.out; omega
      have hb1o := HB2.out.1.trans (hb.mono HB2.out.1.size)
      have hbwo := HB2.out.2.trans (hb.mono HB2.out.2.size)
      obtain ⟨b, off, rfl, -, p0, p1, p2⟩ := (HT.out.on hbwo).el.tr hki
      have hlt' : (k : Int) < (n : Int) := by omega
      have HTC := Lib.hid (HC.out _ (List.getElem_mem hki))
      have HTM := Lib.hid (HT.out.tr _ (List.getElem_mem hki))
      generalize ts[k] = tr at *
      obtain ⟨kind, nm, RA, rc, acts⟩ := tr
      obtain ⟨m, hm⟩ : ∃ m, acts.length = m := ⟨_, rfl⟩
      have hm4 : m ≤ 4 := by rw [← hm]; exact HTC.out.len
      have hm4' : (m : Int) ≤ 4 := by omega
      have hk12 : kind = 1 ∨ kind = 2 := HTC.out.kind
      obtain ⟨j, hj, hti, hac⟩ := HTC.out.tab
      simp only at p0 p1 p2 hti hac
      rw [hm] at p2
      obtain ⟨w5, hw5⟩ : ∃ w5, w5 = wo.alloc (.cells #[.int .i64 kind, .string nm, .slice RA m rc] 44) := ⟨_, rfl⟩
      have hb5 : Below wo.heap.size wo w5 := by rw [hw5]; exact (Below.refl _ _).alloc (Nat.le_refl _) _
      have hg5 : w5.heap[wo.heap.size]? = some (.cells #[.int .i64 kind, .string nm, .slice RA m rc] 44 (0, 0)) := by rw [hw5]; exact heap_alloc_new wo _
      have hs5 : wo.heap.size < w5.heap.size := by rw [hw5]; simp
      have HTB : Hid (∀ W, Below w5.heap.size w5 W → W.cell? ⟨wo.heap.size, 0, none⟩ = some (.int .i64 kind) ∧ W.cell? ⟨wo.heap.size, 1, none⟩ = some (.string nm) ∧ W.cell? ⟨wo.heap.size, 2, none⟩ = some (.slice RA m rc)) := Lib.hid fun W hW => by
        have h := (hW.block wo.heap.size hs5).trans hg5
        exact ⟨cell_of_row _ _ 0 _ _ _ h, cell_of_row _ _ 1 _ _ _ h, cell_of_row _ _ 2 _ _ _ h⟩
      have HB5 := Lib.hid (And.intro (hb1o.trans (hb5.mono hb1o.size)) (And.intro (hbwo.trans (hb5.mono hbwo.size)) (hb.trans (hb5.mono hb.size))))
      have HW5 := Lib.hid hw5
      have HTI := Lib.hid hti
      have HAC := Lib.hid hac
      have HM := Lib.hid hm
      have hjn : (j : Int) < (s.tabs.length : Int) := by omega
      have hj : j < s.tabs.length := hj
      obtain ⟨y0, y1, y2⟩ := HTB.out w5 (Below.refl _ _)
      obtain ⟨c0, c1, c2⟩ := HBK.out w5 HB5.out.1
      clear hb hb1o hbwo hw5 hb5 hg5 hs5 hti hac hm HTC
      go_upto_region 9 with fail
      rw [← HW5.out]
      go_cut [34] from 27 to 34 (fun v34 wx => v34 = .bool false ∧ w5 = wx)
      case first =>
        rcases hk12 with rfl | rfl
        · go_wp2_with fail
          go_meet
          exact ⟨rfl, rfl⟩
        · go_wp2_with fail
          go_meet
          exact ⟨rfl, rfl⟩
      case rest =>
        obtain ⟨rfl, rfl⟩ := hcut
        go_wp2_with fail
        refine (HFT.out nm w5 HB5.out.2.1).mono ?_
        rintro e w6 ⟨rfl, hb6⟩
        rw [HTI.out]
        have hmi : max (j : Int) 0 = (j : Int) := by omega
        have hdi : decide (0 ≤ (j : Int)) = true := decide_eq_true (by omega)
        unfold findV
        rw [hmi, hdi]
        have HB6 := Lib.hid (And.intro hb6 (And.intro (HB5.out.1.trans (hb6.mono HB5.out.1.size)) (And.intro (HB5.out.2.1.trans (hb6.mono HB5.out.2.1.size)) (HB5.out.2.2.trans (hb6.mono HB5.out.2.2.size)))))
        clear hmi hdi hb6 y0 y1 y2 c0 c1 c2
        obtain ⟨y0, y1, y2⟩ := HTB.out w6 HB6.out.1
        go_wp2_with fail
        go_loopw [51] (fun vi wr => ∃ i : Nat, vi = .int .i64 (i : Int) ∧ i ≤ m ∧ Below w6.heap.size w6 wr) (fun vi _ => m - (intOf vi).toNat)
        case atStart => exact ⟨0, rfl, by omega, Below.refl _ _⟩
        case round =>
          obtain ⟨i, rfl, him, hbi⟩ := hrel
          obtain ⟨wq, rfl⟩ : ∃ wq, wq = wr := ⟨_, rfl⟩
          by_cases hlt2 : i < m
          · have hia : i < acts.length := by have := HM.out; omega
            have hb1q := HB6.out.2.1.trans (hbi.mono HB6.out.2.1.size)
            have hbwq := HB6.out.2.2.1.trans (hbi.mono HB6.out.2.2.1.size)
            obtain ⟨b2, off2, hA2, -, q0, q1, q2⟩ := (HTM.out.on hbwq).el.ac hia
            have hA2 : RA = some ⟨b2, off2, none⟩ := hA2
            subst hA2
            have hlt2' : (i : Int) < (m : Int) := by omega
            have HAC1 := Lib.hid (HAC.out _ (List.getElem_mem hia))
            have HAM := Lib.hid (HTM.out.act _ (List.getElem_mem hia))
            have q0 : wq.cell? ⟨b2, off2 + i * 3, none⟩ = some (.int .i64 acts[i].kind) := q0
            have q1 : wq.cell? ⟨b2, off2 + i * 3 + 1, none⟩ = some (.string acts[i].name) := q1
            have q2 : wq.cell? ⟨b2, off2 + i * 3 + 2, none⟩ = some (.slice acts[i].A acts[i].ops.length acts[i].c) := q2
            have HAM : Hid (Elems 4 opdCs w (· < w.heap.size) acts[i].A acts[i].ops) := HAM
            have HAC1 : Hid (AcC s s.tabs[j] acts[i]) := HAC1
            generalize acts[i] = a at *
            obtain ⟨w7, hw7⟩ : ∃ w7, w7 = wq.alloc (.cells #[.int .i64 a.kind, .string a.name, .slice a.A a.ops.length a.c] 105) := ⟨_, rfl⟩
            have hb7 : Below wq.heap.size wq w7 := by rw [hw7]; exact (Below.refl _ _).alloc (Nat.le_refl _) _
            have hg7 : w7.heap[wq.heap.size]? = some (.cells #[.int .i64 a.kind, .string a.name, .slice a.A a.ops.length a.c] 105 (0, 0)) := by rw [hw7]; exact heap_alloc_new wq _
            have hs7 : wq.heap.size < w7.heap.size := by rw [hw7]; simp
            have hb17 := hb1q.trans (hb7.mono hb1q.size)
            have hbw7 := hbwq.trans (hb7.mono hbwq.size)
            obtain ⟨tb, toff, hTA, -, -⟩ := (HSC.out.on hbw7).tabs.tbl hj
            have hS : ∀ W, Below w7.heap.size w7 W → W.cell? ⟨w.heap.size, 0, none⟩ = some (.slice (some ⟨tb, toff, none⟩) s.tabs.length s.tc) ∧ W.cell? ⟨w.heap.size, 1, none⟩ = some (.slice s.FA s.fks.length s.fc) ∧ W.cell? ⟨w.heap.size, 2, none⟩ = some (.slice s.NA s.cns.length s.nc)
                ∧ W.cell? ⟨tb, toff + j * 3, none⟩ = some (.string s.tabs[j].name) ∧ W.cell? ⟨tb, toff + j * 3 + 1, none⟩ = some (.slice s.tabs[j].CA s.tabs[j].cols.length s.tabs[j].cc) ∧ W.cell? ⟨tb, toff + j * 3 + 2, none⟩ = some (.slice s.tabs[j].PA s.tabs[j].pk.length s.tabs[j].pc)
                ∧ W.cell? ⟨wq.heap.size, 0, none⟩ = some (.int .i64 a.kind) ∧ W.cell? ⟨wq.heap.size, 1, none⟩ = some (.string a.name) ∧ W.cell? ⟨wq.heap.size, 2, none⟩ = some (.slice a.A a.ops.length a.c) := fun W hW => by
              obtain ⟨k0, k1, k2⟩ := HBK.out W (hb17.trans (hW.mono hb17.size))
              obtain ⟨tb', toff', hTA', -, z0, z1, z2⟩ := (HSC.out.on (hbw7.trans (hW.mono hbw7.size))).tabs.tbl hj
              rw [hTA] at hTA' k0
              injection hTA' with hTA'
              injection hTA' with e1 e2
              subst e1 e2
              have h := (hW.block wq.heap.size hs7).trans hg7
              exact ⟨k0, k1, k2, z0, z1, z2, cell_of_row _ _ 0 _ _ _ h, cell_of_row _ _ 1 _ _ _ h, cell_of_row _ _ 2 _ _ _ h⟩
            have HCA : Hid (∀ m, Calls Tryz.prog 67 #[.agg #[.slice (some ⟨tb, toff, none⟩) s.tabs.length s.tc, .slice s.FA s.fks.length s.fc, .slice s.NA s.cns.length s.nc], .agg #[.string s.tabs[j].name, .slice s.tabs[j].CA s.tabs[j].cols.length s.tabs[j].cc, .slice s.tabs[j].PA s.tabs[j].pk.length s.tabs[j].pc], .agg #[.int .i64 a.kind, .string a.name, .slice a.A a.ops.length a.c]] (w7.drewN m) fun e w9 => e = .returned (.int .i64 0) ∧ Below w7.heap.size w7 w9) := Lib.hid fun m => by
              have hd : Below w7.heap.size w7 (w7.drewN m) := below_drewN (Below.refl _ _) m
              have hbd := hbw7.trans (hd.mono hbw7.size)
              have h := checkAction s s.tabs[j] a (w7.drewN m) (HSC.out.on hbd) ((HSC.out.on hbd).tab _ (List.getElem_mem hj)) (HAM.out.on hbd) HAC1.out H1000.out (by have := (HV.out.tab _ (List.getElem_mem hj)).ncols; omega)
              unfold Sc.v Sc.cells at h
              rw [hTA] at h
              refine h.mono ?_
              rintro e w9 ⟨rfl, hb9⟩
              exact ⟨rfl, hd.trans hb9⟩
            have HS := Lib.hid hS
            have s7 := hS w7 (Below.refl _ _)
            have HB7 := Lib.hid (hbi.trans (hb7.mono hbi.size))
            have HW7 := Lib.hid hw7
            clear hw7 hb7 hg7 hs7 hb17 hbw7 hS hbi hb1q hbwq hTA
            go_upto_region 19 with fail
            rw [← HW7.out]
            go_region_held3 (fun W => W.cell? ⟨w.heap.size, 0, none⟩ = some (.slice (some ⟨tb, toff, none⟩) s.tabs.length s.tc) ∧ W.cell? ⟨w.heap.size, 1, none⟩ = some (.slice s.FA s.fks.length s.fc) ∧ W.cell? ⟨w.heap.size, 2, none⟩ = some (.slice s.NA s.cns.length s.nc)
                ∧ W.cell? ⟨tb, toff + j * 3, none⟩ = some (.string s.tabs[j].name) ∧ W.cell? ⟨tb, toff + j * 3 + 1, none⟩ = some (.slice s.tabs[j].CA s.tabs[j].cols.length s.tabs[j].cc) ∧ W.cell? ⟨tb, toff + j * 3 + 2, none⟩ = some (.slice s.tabs[j].PA s.tabs[j].pk.length s.tabs[j].pc)
                ∧ W.cell? ⟨wq.heap.size, 0, none⟩ = some (.int .i64 a.kind) ∧ W.cell? ⟨wq.heap.size, 1, none⟩ = some (.string a.name) ∧ W.cell? ⟨wq.heap.size, 2, none⟩ = some (.slice a.A a.ops.length a.c)) (first | exact s7 | exact s9)
              (first
              | (go_at_call 67; refine (HCA.out 1).mono ?_; rintro e w9 ⟨rfl, hb9⟩; have s9 := HS.out w9 hb9))
            all_goals
              have HB9 := Lib.hid (HB7.out.trans (hb9.mono HB7.out.size))
              clear hb9 s9
              go_wp2_with fail
              go_roundw
              case rel => exact ⟨i + 1, by go_num, by omega, HB9.out⟩
              case measure => simp [intOf]; omega
          · have him' : i = m := by omega
            subst him'
            have HF := Lib.hid (HB6.out.2.2.2.trans (hbi.mono HB6.out.2.2.2.size))
            clear hbi
            go_wp2_with fail
            go_roundw
            case rel => exact ⟨k + 1, by go_num, by omega, HF.out⟩
            case measure => simp [intOf]; omega
    · have hkn' : k = n := by omega
      subst hkn'
      have HF := Lib.hid (HB2.out.2.trans (hb.mono HB2.out.2.size))
      clear hb
      go_wp2_with fail
      go_ret
      exact ⟨rfl, HF.out⟩
end Go.Proofs.YtefifkleamiabaaGreatDoor
