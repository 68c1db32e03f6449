/-
  The walks of (*executor).apply with deleteOrder, where it fires.
  The walks of (*executor).apply where the key to delete is not there; apply in general.
  Equality of two column values.
  The walks of slices.Equal over bytes and of RowsEqual.
  The walks of schema.CloneTable and instance.Table.
  The walks of value.Satisfies at an int or a null and a constant, and of instance.Satisfies.
  Violations in memory; the walk of violations.foreignKeys.
-/
import Derived.Test.YtefifkleamiabaaGreatDoorUm17
import Derived.Test.YtefifkleamiabaaGreatDoorUm18
import Derived.Test.YtefifkleamiabaaGreatDoorUm01
import Derived.Test.YtefifkleamiabaaGreatDoorRows
import Derived.Deep.QuietTactic
import Derived.BigQuiet
import Derived.Test.YtefifkleamiabaaGreatDoorUm10
import Derived.Test.YtefifkleamiabaaGreatDoorUm15
namespace Go.Proofs.YtefifkleamiabaaGreatDoor
open Go.RowKit Go.Sort

set_option linter.unusedSimpArgs false in
set_option maxRecDepth 100000 in
set_option maxHeartbeats 8000000 in
theorem applyTF {B px : Nat} {s : Sc} {TA RA RB : Option Addr} {tc : Nat} {ch : ChM} {R : Nat → List Row} {IA : Option Addr} {ic : Nat} {rs : List RelM} {va : Value} {qs : List ChM} {w : World} (hs : BV s) (h : XB B px s TA tc [tDel RA RB] ch R IA ic rs va qs w) (hk : ch.kind = 2) (hn : stopN ch R = false) (hcn : ch.name = nItem) (hq18 : qs.length ≤ 18) (hnext : ∀ d IA ic rs va qs w, XB B px s TA tc [tDel RA RB] d (nextB ch R) IA ic rs va qs w → DCh ch d → Calls Tryz.prog 40 #[ptr px, .agg d.cells, .int .i64 1] w fun e w' => e = .returned (.int .i64 0) ∧ ((stopN d (nextB ch R) = true ∧ Below w.heap.size w w') ∨ (stopN d (nextB ch R) = false ∧ PN B px s TA tc [tDel RA RB] (nextB d (nextB ch R)) (qs ++ [d]) va w w'))) :
    Calls Tryz.prog 40 #[ptr px, .agg ch.cells, .int .i64 0] w fun e w' => e = .returned (.int .i64 0) ∧ FIN B px s TA tc [tDel RA RB] true ch R qs va w w' := by
  obtain ⟨rl, hrl⟩ : ∃ rl, ch.row.row.length = rl := ⟨_, rfl⟩
  have hkl : ch.key.row.length = 1 := by rcases h.fit.fit with ⟨h1, h2, -⟩ | ⟨h1, -, h3, -⟩ <;> first | (rw [h1] at hk; exact absurd hk (by decide)) | (rw [h2]; rfl) | (rw [h3]; rfl)
  have hrl0 : ch.row.row.length = 0 := by rcases h.fit.fit with ⟨h1, -⟩ | ⟨h1, h2, -⟩ <;> first | (rw [h1] at hk; exact absurd hk (by decide)) | (rw [h2]; rfl)
  rw [hrl0] at hrl
  subst hrl
  have hrl := hrl0
  clear hrl0
  have hBw : B ≤ w.heap.size := Nat.le_trans h.x.hB (Nat.le_of_lt h.x.lt)
  obtain ⟨w1, hw1⟩ : ∃ w1, w1 = w.alloc (.cells ch.cells 51) := ⟨_, rfl⟩
  have hb1 : Below w.heap.size w w1 := by rw [hw1]; exact (Below.refl _ _).alloc (Nat.le_refl _) _
  have hg1 : w1.heap[w.heap.size]? = some (.cells ch.cells 51 (0, 0)) := by rw [hw1]; exact heap_alloc_new w _
  have hs1 : w.heap.size < w1.heap.size := by rw [hw1]; simp
  have HBX : Hid (∀ W, Below w1.heap.size w1 W → W.heap[w.heap.size]? = some (.cells ch.cells 51 (0, 0))) := Lib.hid fun W hW => (hW.block _ hs1).trans hg1
  have HCB : Hid (∀ W, CB4 w.heap.size ch W → W.cell? ⟨w.heap.size, 0, none⟩ = some (.int .i64 2) ∧ W.cell? ⟨w.heap.size, 1, none⟩ = some (.string nItem) ∧ W.cell? ⟨w.heap.size, 2, none⟩ = some (.slice ch.key.A 1 ch.key.c) ∧ W.cell? ⟨w.heap.size, 3, none⟩ = some (.slice ch.row.A 0 ch.row.c)) := Lib.hid fun W hW => by
    unfold CB4 at hW
    rw [hk, hcn, hkl, hrl] at hW
    exact hW
  have HPX : Hid (∀ W, Below w.heap.size w W → W.cell? ⟨px, 0, none⟩ = some (.slice s.TA s.tabs.length s.tc) ∧ W.cell? ⟨px, 1, none⟩ = some (.slice s.FA s.fks.length s.fc) ∧ W.cell? ⟨px, 2, none⟩ = some (.slice s.NA s.cns.length s.nc) ∧ W.cell? ⟨px, 4, none⟩ = some (.slice IA rs.length ic) ∧ W.cell? ⟨px, 5, none⟩ = some va) := Lib.hid fun W hW => by
    have h := (h.x.below hW).blk
    unfold exC at h
    exact ⟨cell_of_row _ _ 0 _ _ _ h, cell_of_row _ _ 1 _ _ _ h, cell_of_row _ _ 2 _ _ _ h, cell_of_row _ _ 4 _ _ _ h, cell_of_row _ _ 5 _ _ _ h⟩
  have HCU := Lib.hid fun W (hW : Below w.heap.size w W) => h.curY hs hk hn hW
  have HAP := Lib.hid fun W (hW : Below w.heap.size w W) => h.applyY hs hn hW
  have HH := Lib.hid h
  have HFB : Hid (Free px va w1 w.heap.size) := Lib.hid ⟨hs1, fun e => by have := h.x.lt; omega, fun e => by have := (Own.lt h.x.app _ e).2; omega⟩
  have hql := h.len
  obtain ⟨VA, vc, hva, -, -⟩ := h.x.app.form
  obtain ⟨m, hm⟩ : ∃ m, qs.length = m := ⟨_, rfl⟩
  rw [hm] at hva hql
  have HVA := Lib.hid hva
  have HQL := Lib.hid (show qs.length ≤ 18 from hq18)
  have hm24 : ((m : Int) == 24) = false := by simp; omega
  have hm24' : ¬ (m : Int) = 24 := by omega
  have HBW := Lib.hid hBw
  have HKD := Lib.hid (And.intro hk (And.intro hkl hrl))
  have HCN := Lib.hid hcn
  have HB1 := Lib.hid hb1
  have HW1 := Lib.hid hw1
  obtain ⟨k0, k1, k2, k3⟩ := HCB.out w1 (CB4.of hg1)
  unfold ChM.cells at HW1 HAP HCU ⊢
  rw [hk, hcn, hkl, hrl] at HW1 HAP HCU ⊢
  unfold Sc.v Sc.cells at HAP
  have HNX := Lib.hid hnext
  clear hnext hq18
  clear h hk hcn hkl hrl hb1 hg1 hs1 hw1 hm hs hva hBw hn
  go_enter Tryz.func40, Tryz.ntmps40
  go_upto_region 1 with fail
  rw [← HW1.out]
  go_wp2_with fail
  refine (HCU.out w1 HB1.out).mono ?_
  rintro e w2 ⟨⟨oa, oc, row, rfl, hold, hrg, hdg⟩, hb2⟩
  have hol : row.length ≤ 1000 := by have := hold.len; have : row.length ≤ 12 := this; omega
  have hol0 : 0 < row.length := by
    have h6 := hrg.fit.len
    have h7 : 0 < (bCols (tiOf ch)).length := by
      have := HH.out.fit.tab.2
      rcases (by omega : tiOf ch = 0 ∨ tiOf ch = 1) with e | e <;> rw [e] <;> decide
    omega
  have HOLD := Lib.hid (And.intro hold (And.intro hrg hdg))
  obtain ⟨ol, horl⟩ : ∃ ol, row.length = ol := ⟨_, rfl⟩
  rw [horl] at hol hol0 ⊢
  have HORL := Lib.hid horl
  have hEN : ∀ W, (binOp .eql 48 (.slice (some oa) ol oc) (.slice none 0 0)).run Tryz.prog W = .ok (.bool false) W := fun W => Lib.run_eql_slice_nil W _ _ _ _ _ _ _ Tryz.underlying48
  clear hold hrg hdg horl
  have HB2 := Lib.hid (And.intro hb2 (HB1.out.trans (hb2.mono HB1.out.size)))
  clear hb2 k0 k1 k2 k3 HCU
  obtain ⟨k0, k1, k2, k3⟩ := HCB.out w2 (CB4.of (HBX.out w2 HB2.out.1))
  go_upto_region 2 with fail
  go_cut [40] from 19 to 40 (fun v40 wx => v40 = .bool false ∧ w2 = wx)
  case first =>
    go_wp2_with fail
    go_meet
    exact ⟨rfl, rfl⟩
  case rest =>
    obtain ⟨rfl, rfl⟩ := hcut
    obtain ⟨x0, x1, x2, x4, x5⟩ := HPX.out w2 HB2.out.2
    rw [HVA.out] at x5
    go_upto_region 8 with fail
    go_cut [8, 9] from 49 to 62 (fun v8 v9 wx => v9 = .int .i64 0 ∧ ∃ A4 n4 c4 rs', v8 = .slice A4 n4 c4 ∧ InO w2.heap.size w2 wx (.slice A4 n4 c4) rs' (bD (nextB ch R)))
    case first =>
      have HSX : Hid (∀ W, Below w2.heap.size w2 W → W.cell? ⟨px, 0, none⟩ = some (.slice s.TA s.tabs.length s.tc) ∧ W.cell? ⟨px, 1, none⟩ = some (.slice s.FA s.fks.length s.fc) ∧ W.cell? ⟨px, 2, none⟩ = some (.slice s.NA s.cns.length s.nc) ∧ W.cell? ⟨px, 4, none⟩ = some (.slice IA rs.length ic) ∧ W.cell? ⟨w.heap.size, 0, none⟩ = some (.int .i64 2) ∧ W.cell? ⟨w.heap.size, 1, none⟩ = some (.string nItem) ∧ W.cell? ⟨w.heap.size, 2, none⟩ = some (.slice ch.key.A 1 ch.key.c) ∧ W.cell? ⟨w.heap.size, 3, none⟩ = some (.slice ch.row.A 0 ch.row.c)) := Lib.hid fun W hW => by
        obtain ⟨x0, x1, x2, x4, -⟩ := HPX.out W (HB2.out.2.trans (hW.mono HB2.out.2.size))
        exact ⟨x0, x1, x2, x4, HCB.out W (CB4.of (HBX.out W (HB2.out.1.trans (hW.mono HB2.out.1.size))))⟩
      have HAC : Hid (∀ m, Calls Tryz.prog 74 #[.agg #[.slice s.TA s.tabs.length s.tc, .slice s.FA s.fks.length s.fc, .slice s.NA s.cns.length s.nc], .slice IA rs.length ic, .slice (some ⟨w2.heap.size, 0, none⟩) 1 1] ((w2.drewN m).alloc (.cells #[.int .i64 2, .string nItem, .slice ch.key.A 1 ch.key.c, .slice ch.row.A 0 ch.row.c] 51)) fun e w4 => ∃ A4 n4 c4 rs', e = .returned (.tuple #[.slice A4 n4 c4, .int .i64 0]) ∧ Below w2.heap.size w2 w4 ∧ Hid (InO w2.heap.size w2 w4 (.slice A4 n4 c4) rs' (bD (nextB ch R)))) := Lib.hid fun m => by
        have hd : Below w2.heap.size w2 (w2.drewN m) := below_drewN (Below.refl _ _) m
        have hc := HAP.out (w2.drewN m) (HB2.out.2.trans (hd.mono HB2.out.2.size))
        refine hc.mono ?_
        rintro e w4 ⟨v4, rs', rfl, ho⟩
        obtain ⟨A4, c4, rfl, -, -⟩ := ho.own.form
        have ho' : InO w2.heap.size w2 w4 (.slice A4 rs'.length c4) rs' (bD (nextB ch R)) := ⟨ho.own.mono hd.size, ho.dat, fun r hr => (ho.rel r hr).more fun g hg => ⟨Nat.le_trans hd.size hg.1, hg.2⟩, hd.trans (ho.bel.mono hd.size)⟩
        exact ⟨A4, _, c4, rs', rfl, ho'.bel, Lib.hid ho'⟩
      have s2 := HSX.out w2 (Below.refl _ _)
      have hsa : ∀ o, Below w2.heap.size w2 (w2.drew.alloc o) := fun o => (Below.refl _ _).drew.alloc (Nat.le_refl _) o
      have HSA := Lib.hid fun o => HSX.out _ (hsa o)
      clear hsa x0 x1 x2 x4 x5 k0 k1 k2 k3
      go_region_held3 (fun W => W.cell? ⟨px, 0, none⟩ = some (.slice s.TA s.tabs.length s.tc) ∧ W.cell? ⟨px, 1, none⟩ = some (.slice s.FA s.fks.length s.fc) ∧ W.cell? ⟨px, 2, none⟩ = some (.slice s.NA s.cns.length s.nc) ∧ W.cell? ⟨px, 4, none⟩ = some (.slice IA rs.length ic) ∧ W.cell? ⟨w.heap.size, 0, none⟩ = some (.int .i64 2) ∧ W.cell? ⟨w.heap.size, 1, none⟩ = some (.string nItem) ∧ W.cell? ⟨w.heap.size, 2, none⟩ = some (.slice ch.key.A 1 ch.key.c) ∧ W.cell? ⟨w.heap.size, 3, none⟩ = some (.slice ch.row.A 0 ch.row.c)) (first | exact s2 | exact s4 | exact HSA.out _)
        (first
        | (go_at_call 74; refine (HAC.out 1).mono ?_; rintro e w4 ⟨A4, n4, c4, rs', rfl, hb4, HIO⟩; have s4 := HSX.out w4 hb4))
      all_goals
        clear hb4 s4
        go_wp2_with fail
        go_meet
        exact ⟨rfl, A4, n4, c4, rs', rfl, HIO.out⟩
    case rest =>
      obtain ⟨rfl, A4, n4, c4, rs', rfl, hio⟩ := hcut
      obtain ⟨w4, rfl⟩ : ∃ w4, w4 = wc := ⟨_, rfl⟩
      clear x0 x1 x2 x4 x5 k0 k1 k2 k3 HAP
      have hb24 := hio.bel
      have hb14 := HB2.out.1.trans (hb24.mono HB2.out.1.size)
      have hbw4 := HB2.out.2.trans (hb24.mono HB2.out.2.size)
      obtain ⟨k0, k1, k2, k3⟩ := HCB.out w4 (CB4.of (HBX.out w4 hb14))
      obtain ⟨-, -, -, -, x5⟩ := HPX.out w4 hbw4
      rw [HVA.out] at x5
      have HX2 := Lib.hid (HH.out.x.below HB2.out.2)
      have hd4 : Below w4.heap.size w4 w4.drew := (Below.refl _ _).drew
      have hio' : InO w2.heap.size w2 w4.drew (.slice A4 n4 c4) rs' (bD (nextB ch R)) := hio.below hd4 hb24.size
      have HAP2 : Hid (∀ ty, ∃ v5 w5, (Builtin.append_ #[32, 32] ty #[.slice VA m vc, .slice (some ⟨w4.heap.size, 0, none⟩) 1 1]).run Tryz.prog (w4.drew.alloc (.cells #[.int .i64 2, .string nItem, .slice ch.key.A 1 ch.key.c, .slice ch.row.A 0 ch.row.c] 51)) = .ok v5 w5
          ∧ ∃ A5 n5 c5, v5 = .slice A5 n5 c5 ∧ Hid (∀ W, (W = w5 ∨ W = w5.setCell ⟨px, 4, none⟩ (.slice A4 n4 c4) ∨ W = (w5.setCell ⟨px, 4, none⟩ (.slice A4 n4 c4)).setCell ⟨px, 5, none⟩ (.slice A5 n5 c5)) → W.cell? ⟨w.heap.size, 0, none⟩ = some (.int .i64 2) ∧ W.cell? ⟨w.heap.size, 1, none⟩ = some (.string nItem) ∧ W.cell? ⟨w.heap.size, 2, none⟩ = some (.slice ch.key.A 1 ch.key.c) ∧ W.cell? ⟨w.heap.size, 3, none⟩ = some (.slice ch.row.A 0 ch.row.c))
            ∧ (∃ q, w5.cell? ⟨px, 4, none⟩ = some q) ∧ (∃ q, w5.cell? ⟨px, 5, none⟩ = some q) ∧ (w5.frozen? ⟨px, 4, none⟩ = false ∧ w5.frozen? ⟨px, 5, none⟩ = false) ∧ Hid (PN B px s TA tc [tDel RA RB] (nextB ch R) (qs ++ [ch]) va w2 ((w5.setCell ⟨px, 4, none⟩ (.slice A4 n4 c4)).setCell ⟨px, 5, none⟩ (.slice A5 n5 c5)))) := Lib.hid fun ty => by
        have hfb : Free px va w2 w.heap.size := HFB.out.up HB2.out.1.size
        obtain ⟨v5, w5, hrun, A5, n5, c5, rfl, q1, q2, q3, q4, q5, q6, q7⟩ := HX2.out.appendN hio' (g := w.heap.size) hfb (HBX.out w2 HB2.out.1) HH.out.len (fun q hq => (HH.out.cos q hq).fr HB2.out.2) (HH.out.co.fr HB2.out.2) ty
        rw [HVA.out, HKD.out.1, HCN.out, HKD.out.2.1, HKD.out.2.2] at hrun
        refine ⟨_, w5, hrun, A5, n5, c5, rfl, Lib.hid fun W hW => ?_, q4, q5, q6, q7⟩
        rcases hW with rfl | rfl | rfl
        · exact HCB.out _ q1
        · exact HCB.out _ q2
        · exact HCB.out _ q3
      have hsa : ∀ o, Below w4.heap.size w4 (w4.drew.alloc o) := fun o => hd4.alloc (Nat.le_refl _) o
      have x5a : ∀ o, (w4.alloc o).cell? ⟨px, 5, none⟩ = some (.slice VA m vc) := fun o => by rw [← HVA.out]; exact (HPX.out _ (hbw4.alloc hbw4.size o)).2.2.2.2
      have HSA := Lib.hid fun o => HCB.out _ (CB4.of (HBX.out _ (hb14.trans ((hsa o).mono hb14.size))))
      have s4 := And.intro k0 (And.intro k1 (And.intro k2 k3))
      clear hio hb24 hb14 hbw4 hd4 hio' hsa
      go_upto_region 11 with fail
      go_cut [] from 66 to 79 (fun wx => PN B px s TA tc [tDel RA RB] (nextB ch R) (qs ++ [ch]) va w2 wx ∧ wx.cell? ⟨w.heap.size, 0, none⟩ = some (.int .i64 2) ∧ wx.cell? ⟨w.heap.size, 1, none⟩ = some (.string nItem) ∧ wx.cell? ⟨w.heap.size, 2, none⟩ = some (.slice ch.key.A 1 ch.key.c) ∧ wx.cell? ⟨w.heap.size, 3, none⟩ = some (.slice ch.row.A 0 ch.row.c))
      case first =>
        refine wp_region_held_drew (S := (fun wx => wx.cell? ⟨w.heap.size, 0, none⟩ = some (.int .i64 2) ∧ wx.cell? ⟨w.heap.size, 1, none⟩ = some (.string nItem) ∧ wx.cell? ⟨w.heap.size, 2, none⟩ = some (.slice ch.key.A 1 ch.key.c) ∧ wx.cell? ⟨w.heap.size, 3, none⟩ = some (.slice ch.row.A 0 ch.row.c))) (by kernel_rfl) s4 (fun hHeld => ?_)
        refine wpAnyH_take (i := 0) (oi := _) (v := ?_) rfl (by kernel_rfl) (by kernel_rfl) (by kernel_rfl) (fun _ _ _ h => h) (Or.inl ⟨by rfl, ?_⟩) hHeld ?_
        rotate_left
        · intro w hSw; (try dsimp only at hSw); go_simp; with_reducible rfl
        simp only [Act.put, List.setIfInBounds_toArray, List.set_cons_zero, List.set_cons_succ, List.getElem_toArray, List.getElem_cons_succ, List.getElem_cons_zero]
        refine wpAnyH_take (i := 1) (oi := _) (v := ?_) rfl (by kernel_rfl) (by kernel_rfl) (by kernel_rfl) (fun _ _ _ h => h) (Or.inl ⟨by rfl, ?_⟩) hHeld ?_
        rotate_left
        · intro w hSw; (try dsimp only at hSw); go_simp; with_reducible rfl
        simp only [Act.put, List.setIfInBounds_toArray, List.set_cons_zero, List.set_cons_succ, List.getElem_toArray, List.getElem_cons_succ, List.getElem_cons_zero]
        refine wpAnyH_take (i := 2) (oi := _) (v := ?_) rfl (by kernel_rfl) (by kernel_rfl) (by kernel_rfl) (fun _ _ _ h => h) (Or.inl ⟨by rfl, ?_⟩) hHeld ?_
        rotate_left
        · intro w hSw; (try dsimp only at hSw); go_simp; with_reducible rfl
        simp only [Act.put, List.setIfInBounds_toArray, List.set_cons_zero, List.set_cons_succ, List.getElem_toArray, List.getElem_cons_succ, List.getElem_cons_zero]
        refine wpAnyH_take (i := 3) (oi := _) (v := ?_) rfl (by kernel_rfl) (by kernel_rfl) (by kernel_rfl) (fun _ _ _ h => h) (Or.inl ⟨by rfl, ?_⟩) hHeld ?_
        rotate_left
        · intro w hSw; (try dsimp only at hSw); go_simp; with_reducible rfl
        simp only [Act.put, List.setIfInBounds_toArray, List.set_cons_zero, List.set_cons_succ, List.getElem_toArray, List.getElem_cons_succ, List.getElem_cons_zero]
        refine wpAnyH_take (i := 4) (oi := _) (v := ?_) rfl (by kernel_rfl) (by kernel_rfl) (by kernel_rfl) (fun _ _ _ h => h) (Or.inl ⟨by rfl, ?_⟩) hHeld ?_
        rotate_left
        · intro w hSw; (try dsimp only at hSw); go_simp; with_reducible rfl
        simp only [Act.put, List.setIfInBounds_toArray, List.set_cons_zero, List.set_cons_succ, List.getElem_toArray, List.getElem_cons_succ, List.getElem_cons_zero]
        refine wpAnyH_take (i := 5) (oi := _) (v := ?_) rfl (by kernel_rfl) (by kernel_rfl) (by kernel_rfl) (fun _ _ _ h => h) (Or.inl ⟨by rfl, ?_⟩) hHeld ?_
        rotate_left
        · intro w hSw; (try dsimp only at hSw); go_simp; with_reducible rfl
        simp only [Act.put, List.setIfInBounds_toArray, List.set_cons_zero, List.set_cons_succ, List.getElem_toArray, List.getElem_cons_succ, List.getElem_cons_zero]
        refine wpAnyH_take (i := 7) (oi := _) (v := ?_) rfl (by kernel_rfl) (by kernel_rfl) (by kernel_rfl) (fun _ _ _ h => h) (Or.inl ⟨by rfl, ?_⟩) hHeld ?_
        rotate_left
        · intro w hSw; (try dsimp only at hSw); go_simp; with_reducible rfl
        simp only [Act.put, List.setIfInBounds_toArray, List.set_cons_zero, List.set_cons_succ, List.getElem_toArray, List.getElem_cons_succ, List.getElem_cons_zero]
        refine wpAnyH_ready (rs := [6, 8]) (by kernel_rfl) (by simp) ?_
        refine AllReadyH.cons (o := _) rfl (fun K hK => ?_) (AllReadyH.cons (o := _) rfl (fun K hK => ?_) AllReadyH.nil)
        · go_simp
          refine hK.out _ _ hHeld (fun hHeld => ?_)
          clear hK K
          try simp only [Act.put, List.setIfInBounds_toArray, List.set_cons_zero, List.set_cons_succ, List.getElem_toArray, List.getElem_cons_succ, List.getElem_cons_zero]
          refine wpAnyH_ready (rs := [8]) (by kernel_rfl) (by simp) ?_
          refine AllReadyH.cons (o := _) rfl (fun K hK => ?_) AllReadyH.nil
          go_simp
          refine hK.out _ _ (HSA.out _) (fun hHeld => ?_)
          clear hK K
          try simp only [Act.put, List.setIfInBounds_toArray, List.set_cons_zero, List.set_cons_succ, List.getElem_toArray, List.getElem_cons_succ, List.getElem_cons_zero]
          refine wpAnyH_ready (rs := [9]) (by kernel_rfl) (by simp) ?_
          refine AllReadyH.cons (o := _) rfl (fun K hK => ?_) AllReadyH.nil
          (refine step_app (by rfl) (.tmp 72) (.tmp 74) _ _ (by rfl) (by rfl) (by rfl) (HAP2.out _) ?_; rintro v5 w5 ⟨A5, n5, c5, rfl, HC5, ⟨q4, hq4⟩, ⟨q5, hq5⟩, ⟨hf4, hf5⟩, HPS⟩; have s5 := HC5.out _ (.inl rfl); have s6 := HC5.out _ (.inr (.inl rfl)); have s7 := HC5.out _ (.inr (.inr rfl)))
          refine hK.out _ _ s5 (fun hHeld => ?_)
          clear hK K
          try simp only [Act.put, List.setIfInBounds_toArray, List.set_cons_zero, List.set_cons_succ, List.getElem_toArray, List.getElem_cons_succ, List.getElem_cons_zero]
          refine wpAnyH_take (i := 10) (oi := _) (v := ?_) rfl (by kernel_rfl) (by kernel_rfl) (by kernel_rfl) (fun _ _ _ h => h) (Or.inl ⟨by rfl, ?_⟩) hHeld ?_
          rotate_left
          · intro w hSw; (try dsimp only at hSw); go_simp; with_reducible rfl
          simp only [Act.put, List.setIfInBounds_toArray, List.set_cons_zero, List.set_cons_succ, List.getElem_toArray, List.getElem_cons_succ, List.getElem_cons_zero]
          refine wpAnyH_take (i := 11) (oi := _) (v := ?_) rfl (by kernel_rfl) (by kernel_rfl) (by kernel_rfl) (fun _ _ _ h => h) (Or.inl ⟨by rfl, ?_⟩) hHeld ?_
          rotate_left
          · intro w hSw; (try dsimp only at hSw); go_simp; with_reducible rfl
          simp only [Act.put, List.setIfInBounds_toArray, List.set_cons_zero, List.set_cons_succ, List.getElem_toArray, List.getElem_cons_succ, List.getElem_cons_zero]
          refine wpAnyH_ready (rs := [12]) (by kernel_rfl) (by simp) ?_
          refine AllReadyH.cons (o := _) rfl (fun K hK => ?_) AllReadyH.nil
          go_simp
          refine hK.out _ _ s6 (fun hHeld => ?_)
          clear hK K
          try simp only [Act.put, List.setIfInBounds_toArray, List.set_cons_zero, List.set_cons_succ, List.getElem_toArray, List.getElem_cons_succ, List.getElem_cons_zero]
          refine wpAnyH_take (i := 13) (oi := _) (v := ?_) rfl (by kernel_rfl) (by kernel_rfl) (by kernel_rfl) (fun _ _ _ h => h) (Or.inl ⟨by rfl, ?_⟩) hHeld ?_
          rotate_left
          · intro w hSw; (try dsimp only at hSw); go_simp; with_reducible rfl
          simp only [Act.put, List.setIfInBounds_toArray, List.set_cons_zero, List.set_cons_succ, List.getElem_toArray, List.getElem_cons_succ, List.getElem_cons_zero]
          refine wpAnyH_take (i := 14) (oi := _) (v := ?_) rfl (by kernel_rfl) (by kernel_rfl) (by kernel_rfl) (fun _ _ _ h => h) (Or.inl ⟨by rfl, ?_⟩) hHeld ?_
          rotate_left
          · intro w hSw; (try dsimp only at hSw); go_simp; with_reducible rfl
          simp only [Act.put, List.setIfInBounds_toArray, List.set_cons_zero, List.set_cons_succ, List.getElem_toArray, List.getElem_cons_succ, List.getElem_cons_zero]
          refine wpAnyH_ready (rs := [15]) (by kernel_rfl) (by simp) ?_
          refine AllReadyH.cons (o := _) rfl (fun K hK => ?_) AllReadyH.nil
          go_simp
          refine hK.out _ _ s7 (fun hHeld => ?_)
          clear hK K
          try simp only [Act.put, List.setIfInBounds_toArray, List.set_cons_zero, List.set_cons_succ, List.getElem_toArray, List.getElem_cons_succ, List.getElem_cons_zero]
          refine wpAnyH_done (by kernel_rfl) ?_ _
          go_wp2_with fail
          go_meet
          exact ⟨HPS.out, s7⟩
        · go_simp
          refine hK.out _ _ (HSA.out _) (fun hHeld => ?_)
          clear hK K
          try simp only [Act.put, List.setIfInBounds_toArray, List.set_cons_zero, List.set_cons_succ, List.getElem_toArray, List.getElem_cons_succ, List.getElem_cons_zero]
          refine wpAnyH_ready (rs := [6]) (by kernel_rfl) (by simp) ?_
          refine AllReadyH.cons (o := _) rfl (fun K hK => ?_) AllReadyH.nil
          go_simp
          refine hK.out _ _ hHeld (fun hHeld => ?_)
          clear hK K
          try simp only [Act.put, List.setIfInBounds_toArray, List.set_cons_zero, List.set_cons_succ, List.getElem_toArray, List.getElem_cons_succ, List.getElem_cons_zero]
          refine wpAnyH_ready (rs := [9]) (by kernel_rfl) (by simp) ?_
          refine AllReadyH.cons (o := _) rfl (fun K hK => ?_) AllReadyH.nil
          (refine step_app (by rfl) (.tmp 72) (.tmp 74) _ _ (by rfl) (by rfl) (by rfl) (HAP2.out _) ?_; rintro v5 w5 ⟨A5, n5, c5, rfl, HC5, ⟨q4, hq4⟩, ⟨q5, hq5⟩, ⟨hf4, hf5⟩, HPS⟩; have s5 := HC5.out _ (.inl rfl); have s6 := HC5.out _ (.inr (.inl rfl)); have s7 := HC5.out _ (.inr (.inr rfl)))
          refine hK.out _ _ s5 (fun hHeld => ?_)
          clear hK K
          try simp only [Act.put, List.setIfInBounds_toArray, List.set_cons_zero, List.set_cons_succ, List.getElem_toArray, List.getElem_cons_succ, List.getElem_cons_zero]
          refine wpAnyH_take (i := 10) (oi := _) (v := ?_) rfl (by kernel_rfl) (by kernel_rfl) (by kernel_rfl) (fun _ _ _ h => h) (Or.inl ⟨by rfl, ?_⟩) hHeld ?_
          rotate_left
          · intro w hSw; (try dsimp only at hSw); go_simp; with_reducible rfl
          simp only [Act.put, List.setIfInBounds_toArray, List.set_cons_zero, List.set_cons_succ, List.getElem_toArray, List.getElem_cons_succ, List.getElem_cons_zero]
          refine wpAnyH_take (i := 11) (oi := _) (v := ?_) rfl (by kernel_rfl) (by kernel_rfl) (by kernel_rfl) (fun _ _ _ h => h) (Or.inl ⟨by rfl, ?_⟩) hHeld ?_
          rotate_left
          · intro w hSw; (try dsimp only at hSw); go_simp; with_reducible rfl
          simp only [Act.put, List.setIfInBounds_toArray, List.set_cons_zero, List.set_cons_succ, List.getElem_toArray, List.getElem_cons_succ, List.getElem_cons_zero]
          refine wpAnyH_ready (rs := [12]) (by kernel_rfl) (by simp) ?_
          refine AllReadyH.cons (o := _) rfl (fun K hK => ?_) AllReadyH.nil
          go_simp
          refine hK.out _ _ s6 (fun hHeld => ?_)
          clear hK K
          try simp only [Act.put, List.setIfInBounds_toArray, List.set_cons_zero, List.set_cons_succ, List.getElem_toArray, List.getElem_cons_succ, List.getElem_cons_zero]
          refine wpAnyH_take (i := 13) (oi := _) (v := ?_) rfl (by kernel_rfl) (by kernel_rfl) (by kernel_rfl) (fun _ _ _ h => h) (Or.inl ⟨by rfl, ?_⟩) hHeld ?_
          rotate_left
          · intro w hSw; (try dsimp only at hSw); go_simp; with_reducible rfl
          simp only [Act.put, List.setIfInBounds_toArray, List.set_cons_zero, List.set_cons_succ, List.getElem_toArray, List.getElem_cons_succ, List.getElem_cons_zero]
          refine wpAnyH_take (i := 14) (oi := _) (v := ?_) rfl (by kernel_rfl) (by kernel_rfl) (by kernel_rfl) (fun _ _ _ h => h) (Or.inl ⟨by rfl, ?_⟩) hHeld ?_
          rotate_left
          · intro w hSw; (try dsimp only at hSw); go_simp; with_reducible rfl
          simp only [Act.put, List.setIfInBounds_toArray, List.set_cons_zero, List.set_cons_succ, List.getElem_toArray, List.getElem_cons_succ, List.getElem_cons_zero]
          refine wpAnyH_ready (rs := [15]) (by kernel_rfl) (by simp) ?_
          refine AllReadyH.cons (o := _) rfl (fun K hK => ?_) AllReadyH.nil
          go_simp
          refine hK.out _ _ s7 (fun hHeld => ?_)
          clear hK K
          try simp only [Act.put, List.setIfInBounds_toArray, List.set_cons_zero, List.set_cons_succ, List.getElem_toArray, List.getElem_cons_succ, List.getElem_cons_zero]
          refine wpAnyH_done (by kernel_rfl) ?_ _
          go_wp2_with fail
          go_meet
          exact ⟨HPS.out, s7⟩
      case rest =>
        obtain ⟨hpn, k0', k1', k2', k3'⟩ := hcut
        obtain ⟨w6, rfl⟩ : ∃ w6, w6 = wc := ⟨_, rfl⟩
        clear k0 k1 k2 k3 x5 x5a HAP2 HSA s4 HCB HBX HPX HFB HX2
        have hpn := hpn.base HB2.out.2 HBW.out
        have HPN := Lib.hid hpn
        obtain ⟨A6, c6, rs6, va6, hx6, hd6, hcos6, hb6, hk6⟩ := hpn
        have y3 : w6.cell? ⟨px, 3, none⟩ = some (.slice TA 1 tc) := by
          have h := hx6.blk
          unfold exC at h
          exact cell_of_row _ _ 3 _ _ _ h
        obtain ⟨tb, toff, rb, roff, htg⟩ := hx6.tg.cellD
        have htA := htg.t
        have hrA := htg.r
        subst htA hrA
        have HC6 : Hid (∀ W, Below w6.heap.size w6 W → W.cell? ⟨w.heap.size, 0, none⟩ = some (.int .i64 2) ∧ W.cell? ⟨w.heap.size, 1, none⟩ = some (.string nItem)) := Lib.hid fun W hW => by
          have hlt : w.heap.size < w6.heap.size := World.block_lt_of_cell? w6 ⟨w.heap.size, 0, none⟩ k0'
          exact ⟨(hW.cell (p := ⟨w.heap.size, 0, none⟩) hlt).trans k0', (hW.cell (p := ⟨w.heap.size, 1, none⟩) hlt).trans k1'⟩
        have HTG : Hid (∀ W, Below w6.heap.size w6 W → TgE (some ⟨tb, toff, none⟩) (some ⟨rb, roff, none⟩) RB tb toff rb roff (· < W.heap.size) W) := Lib.hid fun W hW => by
          obtain ⟨tb', toff', rb', roff', h⟩ := ((hx6.below hW).tgw).cellD
          have e1 := h.t
          have e2 := h.r
          injection e1 with e1
          injection e1 with e11 e12
          injection e2 with e2
          injection e2 with e21 e22
          subst e11 e12 e21 e22
          exact h
        have HROW : Hid (KOk (Free px va6 w6) w6 ⟨some oa, oc, row⟩) := Lib.hid (hk6 _ HOLD.out.1)
        have HX6 := Lib.hid (And.intro hx6 (And.intro hd6 (And.intro hcos6 (And.intro hb6 hk6))))
        clear htg hx6 hd6 hcos6 hb6 hk6
        have HFN : Hid (∀ wr, FIN B px s (some ⟨tb, toff, none⟩) tc [tDel (some ⟨rb, roff, none⟩) RB] true ch R qs va w wr → FIN B px s (some ⟨tb, toff, none⟩) tc [tDel (some ⟨rb, roff, none⟩) RB] true ch R qs va w wr) := Lib.hid fun _ h => h
        generalize hP : (fun wr => FIN B px s (some ⟨tb, toff, none⟩) tc [tDel (some ⟨rb, roff, none⟩) RB] true ch R qs va w wr) = P at HFN
        have HP : Hid (∀ wr, P wr → FIN B px s (some ⟨tb, toff, none⟩) tc [tDel (some ⟨rb, roff, none⟩) RB] true ch R qs va w wr) := Lib.hid fun wr h => by rw [← hP] at h; exact h
        have HQ : Hid (∀ wr, FIN B px s (some ⟨tb, toff, none⟩) tc [tDel (some ⟨rb, roff, none⟩) RB] true ch R qs va w wr → P wr) := Lib.hid fun wr h => by rw [← hP]; exact h
        clear hP HFN
        go_upto_region 15 with fail
        go_wp2_with fail
        go_loopw [91] (fun vi wr => (vi = .int .i64 0 ∧ w6 = wr) ∨ (vi = .int .i64 1 ∧ P wr)) (fun vi _ => 1 - (intOf vi).toNat)
        case atStart => exact .inl ⟨rfl, rfl⟩
        case round =>
          rcases hrel with ⟨rfl, rfl⟩ | ⟨rfl, hfin⟩
          · obtain ⟨t0, t1, t2⟩ := (HTG.out w6 (Below.refl _ _)).t0
            obtain ⟨w7, hw7⟩ : ∃ w7, w7 = w6.alloc (.cells #[.int .i64 2, .string nItem, .slice (some ⟨rb, roff, none⟩) 1 1] 44) := ⟨_, rfl⟩
            have hb7 : Below w6.heap.size w6 w7 := by rw [hw7]; exact (Below.refl _ _).alloc (Nat.le_refl _) _
            have hg7 : w7.heap[w6.heap.size]? = some (.cells #[.int .i64 2, .string nItem, .slice (some ⟨rb, roff, none⟩) 1 1] 44 (0, 0)) := by rw [hw7]; exact heap_alloc_new w6 _
            have u0 := cell_of_row _ _ 0 _ _ _ hg7
            have u1 := cell_of_row _ _ 1 _ _ _ hg7
            have u2 := cell_of_row _ _ 2 _ _ _ hg7
            obtain ⟨k0, k1⟩ := HC6.out w7 hb7
            have HB7 := Lib.hid hb7
            have HW7 := Lib.hid hw7
            clear hw7 hb7 hg7
            go_upto_region 18 with fail
            rw [← HW7.out]
            go_wp2_with fail
            go_loopw [110] (fun vi wr => (vi = .int .i64 0 ∧ w7 = wr) ∨ (vi = .int .i64 1 ∧ P wr)) (fun vi _ => 1 - (intOf vi).toNat)
            case atStart => exact .inl ⟨rfl, rfl⟩
            case round =>
              rcases hrel with ⟨rfl, rfl⟩ | ⟨rfl, hfin⟩
              · obtain ⟨v0, v1, v2⟩ := (HTG.out w7 HB7.out).a0
                obtain ⟨w8, hw8⟩ : ∃ w8, w8 = w7.alloc (.cells #[.int .i64 2, .string nOrder, .slice RB 1 1] 105) := ⟨_, rfl⟩
                have hb8 : Below w7.heap.size w7 w8 := by rw [hw8]; exact (Below.refl _ _).alloc (Nat.le_refl _) _
                have hg8 : w8.heap[w7.heap.size]? = some (.cells #[.int .i64 2, .string nOrder, .slice RB 1 1] 105 (0, 0)) := by rw [hw8]; exact heap_alloc_new w7 _
                have z0 := cell_of_row _ _ 0 _ _ _ hg8
                have z1 := cell_of_row _ _ 1 _ _ _ hg8
                have z2 := cell_of_row _ _ 2 _ _ _ hg8
                have hb68 := HB7.out.trans (hb8.mono HB7.out.size)
                have hrow8 := HROW.out.fr hb68
                have hder := deriveW ⟨2, nOrder, RB, 1, [0]⟩ (some oa) oc row w8 (HTG.out w8 hb68).o0 (hrow8.more fun _ hg => hg.1).el (by show 1 ≤ 1000; omega) (by intro k hk; rw [List.mem_singleton.1 hk]; have := HORL.out; omega) (.inr rfl)
                rw [HORL.out] at hder
                have HDE : Hid (Calls Tryz.prog 75 #[.agg #[.int .i64 2, .string nOrder, .slice RB 1 1], .slice (some oa) ol oc] w8 fun e w9 => ∃ A9 c9, e = .returned (.agg #[.int .i64 2, .string nOrder, .slice A9 1 c9, .slice none 0 0]) ∧ Hid (Calls Tryz.prog 40 #[ptr px, .agg #[.int .i64 2, .string nOrder, .slice A9 1 c9, .slice none 0 0], .int .i64 1] w9 fun e w' => e = .returned (.int .i64 0) ∧ P w')) := Lib.hid (by
                  refine hder.mono ?_
                  rintro e w9 ⟨v9, rfl, ho9, hb9⟩
                  have hkey : keyOf [0] row = ik (kkOf ch : Int) := by rw [HOLD.out.2.1.key, HOLD.out.2.2]
                  have ho9 : Own 3 Val.cs 60 w8.heap.size w9 v9 (keyOf [0] row) := ho9
                  rw [hkey] at ho9
                  obtain ⟨A9, c9, rfl, -, -⟩ := ho9.form
                  refine ⟨A9, c9, rfl, Lib.hid ?_⟩
                  have hb69 := hb68.trans (hb9.mono hb68.size)
                  obtain ⟨hx6, hd6, hcos6, hb6, hk6⟩ := HX6.out
                  have hx9 := hx6.below hb69
                  have hva9 := Own.lt hx6.app
                  have hpx9 := hx6.lt
                  have hBx := hx6.hB
                  have hs69 := hb68.size
                  have hk9 : KOk (Free px va6 w9) w9 ⟨A9, c9, ik (kkOf ch : Int)⟩ := ⟨(ho9.elems valLay.len rfl).more fun g hg => by
                    have h := Own.lt ho9 g hg
                    exact ⟨h.2, by omega, fun e => by have := (hva9 g e).2; omega⟩, by show 1 ≤ 12; omega⟩
                  have hdc : DCh ch ⟨2, nOrder, ⟨A9, c9, ik (kkOf ch : Int)⟩, ⟨none, 0, []⟩⟩ := ⟨rfl, rfl, rfl, rfl⟩
                  have hfd := hdc.fit HH.out.fit.kk
                  have hl6 : (qs ++ [ch]).length ≤ 19 := by rw [List.length_append]; have := HQL.out; show _ + 1 ≤ _; omega
                  refine (HNX.out ⟨2, nOrder, ⟨A9, c9, ik (kkOf ch : Int)⟩, ⟨none, 0, []⟩⟩ _ _ _ _ _ w9 ⟨hx9, hd6, nextB_bg HH.out.bg HH.out.fit, hl6, fun q hq => (hcos6 q hq).fr hb69, ⟨hk9, KOk.nil⟩, hfd⟩ hdc).mono ?_
                  rintro e w' ⟨rfl, hcase⟩
                  refine ⟨rfl, HQ.out _ ?_⟩
                  rcases hcase with ⟨hst, hb⟩ | ⟨hst, hpn'⟩
                  · refine ⟨[], _, .inl ⟨rfl, rfl, fun _ d hd => ?_⟩, HPN.out.up (hb69.trans (hb.mono hb69.size))⟩
                    exact (stop_dch hd hdc).trans hst
                  · refine ⟨[⟨2, nOrder, ⟨A9, c9, ik (kkOf ch : Int)⟩, ⟨none, 0, []⟩⟩], _, .inr ⟨rfl, _, rfl, hdc, hfd, hst, rfl⟩, ?_⟩
                    have h := hpn'.after hb6 hk6 hb69 (by omega)
                    rwa [List.append_assoc] at h)
                have HW8 := Lib.hid hw8
                clear hw8 hb8 hg8 hb68 hrow8 hder t0 t1 t2 u0 u1 u2
                go_upto_region 22 with fail
                rw [← HW8.out]
                go_wp2_with fail
                refine HDE.out.mono ?_
                rintro e w9 ⟨A9, c9, rfl, HAP9⟩
                go_wp2_with fail
                refine HAP9.out.mono ?_
                rintro e w10 ⟨rfl, hp10⟩
                have HF := Lib.hid hp10
                clear hp10
                go_wp2_with fail
                go_roundw
                case rel => exact .inr ⟨by go_num, HF.out⟩
                case measure => simp [intOf]
              · have HF := Lib.hid hfin
                clear hfin
                go_wp2_with fail
                go_roundw
                case rel => exact .inr ⟨by go_num, HF.out⟩
                case measure => simp [intOf]
          · have HF := Lib.hid hfin
            clear hfin
            go_wp2_with fail
            go_ret
            exact ⟨rfl, HP.out _ HF.out⟩
end Go.Proofs.YtefifkleamiabaaGreatDoor

namespace Go.Proofs.YtefifkleamiabaaGreatDoor
open Go.RowKit Go.Sort

set_option linter.unusedSimpArgs false in
set_option maxRecDepth 100000 in
set_option maxHeartbeats 8000000 in
theorem applyX {B px : Nat} {s : Sc} {TA : Option Addr} {tc : Nat} {ts : List Tr} {ch : ChM} {R : Nat → List Row} {IA : Option Addr} {ic : Nat} {rs : List RelM} {va : Value} {qs : List ChM} {w : World} (hs : BV s) (h : XB B px s TA tc ts ch R IA ic rs va qs w) (hk : ch.kind = 2) (hn : stopN ch R = true) :
    Calls Tryz.prog 40 #[ptr px, .agg ch.cells, .int .i64 0] w fun e w' => e = .returned (.int .i64 9) ∧ Below B w w' := by
  obtain ⟨rl, hrl⟩ : ∃ rl, ch.row.row.length = rl := ⟨_, rfl⟩
  have hkl : ch.key.row.length = 1 := by rcases h.fit.fit with ⟨h1, h2, -⟩ | ⟨h1, -, h3, -⟩ <;> first | (rw [h1] at hk; exact absurd hk (by decide)) | (rw [h2]; rfl) | (rw [h3]; rfl)
  have hrl0 : ch.row.row.length = 0 := by rcases h.fit.fit with ⟨h1, -⟩ | ⟨h1, h2, -⟩ <;> first | (rw [h1] at hk; exact absurd hk (by decide)) | (rw [h2]; rfl)
  rw [hrl0] at hrl
  subst hrl
  have hrl := hrl0
  clear hrl0
  have hBw : B ≤ w.heap.size := Nat.le_trans h.x.hB (Nat.le_of_lt h.x.lt)
  obtain ⟨w1, hw1⟩ : ∃ w1, w1 = w.alloc (.cells ch.cells 51) := ⟨_, rfl⟩
  have hb1 : Below w.heap.size w w1 := by rw [hw1]; exact (Below.refl _ _).alloc (Nat.le_refl _) _
  have hg1 : w1.heap[w.heap.size]? = some (.cells ch.cells 51 (0, 0)) := by rw [hw1]; exact heap_alloc_new w _
  have hs1 : w.heap.size < w1.heap.size := by rw [hw1]; simp
  have HBX : Hid (∀ W, Below w1.heap.size w1 W → W.heap[w.heap.size]? = some (.cells ch.cells 51 (0, 0))) := Lib.hid fun W hW => (hW.block _ hs1).trans hg1
  have HCB : Hid (∀ W, CB4 w.heap.size ch W → W.cell? ⟨w.heap.size, 0, none⟩ = some (.int .i64 2) ∧ W.cell? ⟨w.heap.size, 1, none⟩ = some (.string ch.name) ∧ W.cell? ⟨w.heap.size, 2, none⟩ = some (.slice ch.key.A 1 ch.key.c) ∧ W.cell? ⟨w.heap.size, 3, none⟩ = some (.slice ch.row.A 0 ch.row.c)) := Lib.hid fun W hW => by
    unfold CB4 at hW
    rw [hk, hkl, hrl] at hW
    exact hW
  have HPX : Hid (∀ W, Below w.heap.size w W → W.cell? ⟨px, 0, none⟩ = some (.slice s.TA s.tabs.length s.tc) ∧ W.cell? ⟨px, 1, none⟩ = some (.slice s.FA s.fks.length s.fc) ∧ W.cell? ⟨px, 2, none⟩ = some (.slice s.NA s.cns.length s.nc) ∧ W.cell? ⟨px, 4, none⟩ = some (.slice IA rs.length ic) ∧ W.cell? ⟨px, 5, none⟩ = some va) := Lib.hid fun W hW => by
    have h := (h.x.below hW).blk
    unfold exC at h
    exact ⟨cell_of_row _ _ 0 _ _ _ h, cell_of_row _ _ 1 _ _ _ h, cell_of_row _ _ 2 _ _ _ h, cell_of_row _ _ 4 _ _ _ h, cell_of_row _ _ 5 _ _ _ h⟩
  have HCU := Lib.hid fun W (hW : Below w.heap.size w W) => h.curN hs hk hn hW
  have HAP := Lib.hid fun W (hW : Below w.heap.size w W) => h.applyN hs hk hn hW
  have HH := Lib.hid h
  have HFB : Hid (Free px va w1 w.heap.size) := Lib.hid ⟨hs1, fun e => by have := h.x.lt; omega, fun e => by have := (Own.lt h.x.app _ e).2; omega⟩
  have hql := h.len
  obtain ⟨VA, vc, hva, -, -⟩ := h.x.app.form
  obtain ⟨m, hm⟩ : ∃ m, qs.length = m := ⟨_, rfl⟩
  rw [hm] at hva hql
  have HVA := Lib.hid hva
  have hm24 : ((m : Int) == 24) = false := by simp; omega
  have hm24' : ¬ (m : Int) = 24 := by omega
  have HBW := Lib.hid hBw
  have HKD := Lib.hid (And.intro hk (And.intro hkl hrl))
  have HB1 := Lib.hid hb1
  have HW1 := Lib.hid hw1
  obtain ⟨k0, k1, k2, k3⟩ := HCB.out w1 (CB4.of hg1)
  unfold ChM.cells at HW1 HAP HCU ⊢
  rw [hk, hkl, hrl] at HW1 HAP HCU ⊢
  unfold Sc.v Sc.cells at HAP
  clear h hk hkl hrl hb1 hg1 hs1 hw1 hm hs hva hBw hn
  go_enter Tryz.func40, Tryz.ntmps40
  go_upto_region 1 with fail
  rw [← HW1.out]
  go_wp2_with fail
  refine (HCU.out w1 HB1.out).mono ?_
  rintro e w2 ⟨rfl, hb2⟩
  have hEN : ∀ W, (binOp .eql 48 (.slice none 0 0) (.slice none 0 0)).run Tryz.prog W = .ok (.bool true) W := fun W => Lib.run_eql_slice_nil W _ _ _ _ _ _ _ Tryz.underlying48
  have HB2 := Lib.hid (And.intro hb2 (HB1.out.trans (hb2.mono HB1.out.size)))
  clear hb2 k0 k1 k2 k3 HCU
  obtain ⟨k0, k1, k2, k3⟩ := HCB.out w2 (CB4.of (HBX.out w2 HB2.out.1))
  go_upto_region 2 with fail
  go_cut [40] from 19 to 40 (fun v40 wx => v40 = .bool false ∧ w2 = wx)
  case first =>
    go_wp2_with fail
    go_meet
    exact ⟨rfl, rfl⟩
  case rest =>
    obtain ⟨rfl, rfl⟩ := hcut
    obtain ⟨x0, x1, x2, x4, x5⟩ := HPX.out w2 HB2.out.2
    rw [HVA.out] at x5
    go_upto_region 8 with fail
    go_cut [8, 9] from 49 to 62 (fun v8 v9 wx => v8 = .slice none 0 0 ∧ v9 = .int .i64 9 ∧ Below w2.heap.size w2 wx)
    case first =>
      have HSX : Hid (∀ W, Below w2.heap.size w2 W → W.cell? ⟨px, 0, none⟩ = some (.slice s.TA s.tabs.length s.tc) ∧ W.cell? ⟨px, 1, none⟩ = some (.slice s.FA s.fks.length s.fc) ∧ W.cell? ⟨px, 2, none⟩ = some (.slice s.NA s.cns.length s.nc) ∧ W.cell? ⟨px, 4, none⟩ = some (.slice IA rs.length ic) ∧ W.cell? ⟨w.heap.size, 0, none⟩ = some (.int .i64 2) ∧ W.cell? ⟨w.heap.size, 1, none⟩ = some (.string ch.name) ∧ W.cell? ⟨w.heap.size, 2, none⟩ = some (.slice ch.key.A 1 ch.key.c) ∧ W.cell? ⟨w.heap.size, 3, none⟩ = some (.slice ch.row.A 0 ch.row.c)) := Lib.hid fun W hW => by
        obtain ⟨x0, x1, x2, x4, -⟩ := HPX.out W (HB2.out.2.trans (hW.mono HB2.out.2.size))
        exact ⟨x0, x1, x2, x4, HCB.out W (CB4.of (HBX.out W (HB2.out.1.trans (hW.mono HB2.out.1.size))))⟩
      have HAC : Hid (∀ m, Calls Tryz.prog 74 #[.agg #[.slice s.TA s.tabs.length s.tc, .slice s.FA s.fks.length s.fc, .slice s.NA s.cns.length s.nc], .slice IA rs.length ic, .slice (some ⟨w2.heap.size, 0, none⟩) 1 1] ((w2.drewN m).alloc (.cells #[.int .i64 2, .string ch.name, .slice ch.key.A 1 ch.key.c, .slice ch.row.A 0 ch.row.c] 51)) fun e w4 => e = .returned (.tuple #[.slice none 0 0, .int .i64 9]) ∧ Below w2.heap.size w2 w4) := Lib.hid fun m => by
        have hd : Below w2.heap.size w2 (w2.drewN m) := below_drewN (Below.refl _ _) m
        refine (HAP.out (w2.drewN m) (HB2.out.2.trans (hd.mono HB2.out.2.size))).mono ?_
        rintro e w4 ⟨rfl, hb⟩
        exact ⟨rfl, hd.trans hb⟩
      have s2 := HSX.out w2 (Below.refl _ _)
      have hsa : ∀ o, Below w2.heap.size w2 (w2.drew.alloc o) := fun o => (Below.refl _ _).drew.alloc (Nat.le_refl _) o
      have HSA := Lib.hid fun o => HSX.out _ (hsa o)
      clear hsa x0 x1 x2 x4 x5 k0 k1 k2 k3
      go_region_held3 (fun W => W.cell? ⟨px, 0, none⟩ = some (.slice s.TA s.tabs.length s.tc) ∧ W.cell? ⟨px, 1, none⟩ = some (.slice s.FA s.fks.length s.fc) ∧ W.cell? ⟨px, 2, none⟩ = some (.slice s.NA s.cns.length s.nc) ∧ W.cell? ⟨px, 4, none⟩ = some (.slice IA rs.length ic) ∧ W.cell? ⟨w.heap.size, 0, none⟩ = some (.int .i64 2) ∧ W.cell? ⟨w.heap.size, 1, none⟩ = some (.string ch.name) ∧ W.cell? ⟨w.heap.size, 2, none⟩ = some (.slice ch.key.A 1 ch.key.c) ∧ W.cell? ⟨w.heap.size, 3, none⟩ = some (.slice ch.row.A 0 ch.row.c)) (first | exact s2 | exact s4 | exact HSA.out _)
        (first
        | (go_at_call 74; refine (HAC.out 1).mono ?_; rintro e w4 ⟨rfl, hb4⟩; have HB4 := Lib.hid hb4; have s4 := HSX.out w4 hb4))
      all_goals
        clear hb4 s4
        go_wp2_with fail
        go_meet
        exact ⟨rfl, rfl, HB4.out⟩
    case rest =>
      obtain ⟨rfl, rfl, hb4⟩ := hcut
      have HF := Lib.hid ((HB2.out.2.trans (hb4.mono HB2.out.2.size)).mono HBW.out)
      clear hb4
      go_wp2_with fail
      go_ret
      exact ⟨rfl, HF.out⟩

set_option linter.unusedSimpArgs false in
set_option maxRecDepth 100000 in
set_option maxHeartbeats 8000000 in
theorem applyS {B px : Nat} {s : Sc} {TA : Option Addr} {tc : Nat} {ts : List Tr} {ch : ChM} {R : Nat → List Row} {IA : Option Addr} {ic : Nat} {rs : List RelM} {va : Value} {qs : List ChM} {w : World} (hs : BV s) (h : XB B px s TA tc ts ch R IA ic rs va qs w) (hk : ch.kind = 2) (hn : stopN ch R = true) :
    Calls Tryz.prog 40 #[ptr px, .agg ch.cells, .int .i64 1] w fun e w' => e = .returned (.int .i64 0) ∧ Below w.heap.size w w' := by
  obtain ⟨rl, hrl⟩ : ∃ rl, ch.row.row.length = rl := ⟨_, rfl⟩
  have hkl : ch.key.row.length = 1 := by rcases h.fit.fit with ⟨h1, h2, -⟩ | ⟨h1, -, h3, -⟩ <;> first | (rw [h1] at hk; exact absurd hk (by decide)) | (rw [h2]; rfl) | (rw [h3]; rfl)
  have hrl0 : ch.row.row.length = 0 := by rcases h.fit.fit with ⟨h1, -⟩ | ⟨h1, h2, -⟩ <;> first | (rw [h1] at hk; exact absurd hk (by decide)) | (rw [h2]; rfl)
  rw [hrl0] at hrl
  subst hrl
  have hrl := hrl0
  clear hrl0
  have hBw : B ≤ w.heap.size := Nat.le_trans h.x.hB (Nat.le_of_lt h.x.lt)
  obtain ⟨w1, hw1⟩ : ∃ w1, w1 = w.alloc (.cells ch.cells 51) := ⟨_, rfl⟩
  have hb1 : Below w.heap.size w w1 := by rw [hw1]; exact (Below.refl _ _).alloc (Nat.le_refl _) _
  have hg1 : w1.heap[w.heap.size]? = some (.cells ch.cells 51 (0, 0)) := by rw [hw1]; exact heap_alloc_new w _
  have hs1 : w.heap.size < w1.heap.size := by rw [hw1]; simp
  have HBX : Hid (∀ W, Below w1.heap.size w1 W → W.heap[w.heap.size]? = some (.cells ch.cells 51 (0, 0))) := Lib.hid fun W hW => (hW.block _ hs1).trans hg1
  have HCB : Hid (∀ W, CB4 w.heap.size ch W → W.cell? ⟨w.heap.size, 0, none⟩ = some (.int .i64 2) ∧ W.cell? ⟨w.heap.size, 1, none⟩ = some (.string ch.name) ∧ W.cell? ⟨w.heap.size, 2, none⟩ = some (.slice ch.key.A 1 ch.key.c) ∧ W.cell? ⟨w.heap.size, 3, none⟩ = some (.slice ch.row.A 0 ch.row.c)) := Lib.hid fun W hW => by
    unfold CB4 at hW
    rw [hk, hkl, hrl] at hW
    exact hW
  have HPX : Hid (∀ W, Below w.heap.size w W → W.cell? ⟨px, 0, none⟩ = some (.slice s.TA s.tabs.length s.tc) ∧ W.cell? ⟨px, 1, none⟩ = some (.slice s.FA s.fks.length s.fc) ∧ W.cell? ⟨px, 2, none⟩ = some (.slice s.NA s.cns.length s.nc) ∧ W.cell? ⟨px, 4, none⟩ = some (.slice IA rs.length ic) ∧ W.cell? ⟨px, 5, none⟩ = some va) := Lib.hid fun W hW => by
    have h := (h.x.below hW).blk
    unfold exC at h
    exact ⟨cell_of_row _ _ 0 _ _ _ h, cell_of_row _ _ 1 _ _ _ h, cell_of_row _ _ 2 _ _ _ h, cell_of_row _ _ 4 _ _ _ h, cell_of_row _ _ 5 _ _ _ h⟩
  have HCU := Lib.hid fun W (hW : Below w.heap.size w W) => h.curN hs hk hn hW
  have HAP := Lib.hid fun W (hW : Below w.heap.size w W) => h.applyN hs hk hn hW
  have HH := Lib.hid h
  have HFB : Hid (Free px va w1 w.heap.size) := Lib.hid ⟨hs1, fun e => by have := h.x.lt; omega, fun e => by have := (Own.lt h.x.app _ e).2; omega⟩
  have hql := h.len
  obtain ⟨VA, vc, hva, -, -⟩ := h.x.app.form
  obtain ⟨m, hm⟩ : ∃ m, qs.length = m := ⟨_, rfl⟩
  rw [hm] at hva hql
  have HVA := Lib.hid hva
  have hm24 : ((m : Int) == 24) = false := by simp; omega
  have hm24' : ¬ (m : Int) = 24 := by omega
  have HBW := Lib.hid hBw
  have HKD := Lib.hid (And.intro hk (And.intro hkl hrl))
  have HB1 := Lib.hid hb1
  have HW1 := Lib.hid hw1
  obtain ⟨k0, k1, k2, k3⟩ := HCB.out w1 (CB4.of hg1)
  unfold ChM.cells at HW1 HAP HCU ⊢
  rw [hk, hkl, hrl] at HW1 HAP HCU ⊢
  unfold Sc.v Sc.cells at HAP
  clear h hk hkl hrl hb1 hg1 hs1 hw1 hm hs hva hBw hn
  go_enter Tryz.func40, Tryz.ntmps40
  go_upto_region 1 with fail
  rw [← HW1.out]
  go_wp2_with fail
  refine (HCU.out w1 HB1.out).mono ?_
  rintro e w2 ⟨rfl, hb2⟩
  have hEN : ∀ W, (binOp .eql 48 (.slice none 0 0) (.slice none 0 0)).run Tryz.prog W = .ok (.bool true) W := fun W => Lib.run_eql_slice_nil W _ _ _ _ _ _ _ Tryz.underlying48
  have HB2 := Lib.hid (And.intro hb2 (HB1.out.trans (hb2.mono HB1.out.size)))
  clear hb2 k0 k1 k2 k3 HCU
  obtain ⟨k0, k1, k2, k3⟩ := HCB.out w2 (CB4.of (HBX.out w2 HB2.out.1))
  go_wp2_with fail
  go_ret
  exact ⟨rfl, HB2.out.2⟩

/-- Whether the trigger fires. -/
def fires (trig : Bool) (ch : ChM) : Bool := trig && (decide (ch.kind = 2) && decide (ch.name = nItem))
/-- The triggers: none, or deleteOrder. -/
def Trg (trig : Bool) (ts : List Tr) : Prop := (trig = false ∧ ts = []) ∨ (trig = true ∧ ∃ RA RB, ts = [tDel RA RB])
theorem applyAny {B px : Nat} {s : Sc} {TA : Option Addr} {tc : Nat} {ts : List Tr} {ch : ChM} {R : Nat → List Row} {IA : Option Addr} {ic : Nat} {rs : List RelM} {va : Value} {qs : List ChM} {w : World} {trig : Bool} (hT : Trg trig ts) (hs : BV s) (h : XB B px s TA tc ts ch R IA ic rs va qs w) (hq : qs.length ≤ 18) :
    Calls Tryz.prog 40 #[ptr px, .agg ch.cells, .int .i64 0] w fun e w' => (stopN ch R = false ∧ e = .returned (.int .i64 0) ∧ FIN B px s TA tc ts (fires trig ch) ch R qs va w w') ∨ (stopN ch R = true ∧ e = .returned (.int .i64 9) ∧ Below B w w') := by
  have hk : ch.kind = 1 ∨ ch.kind = 2 := by
    rcases h.fit.fit with ⟨h1, -⟩ | ⟨h1, -⟩
    · exact .inl h1
    · exact .inr h1
  rcases hk with hk | hk
  · have hst : stopN ch R = false := by unfold stopN; rw [decide_eq_false (by omega : ¬ ch.kind = 2)]; rfl
    have hfi : fires trig ch = false := by unfold fires; rw [decide_eq_false (by omega : ¬ ch.kind = 2)]; simp
    rw [hfi]
    rcases hT with ⟨rfl, rfl⟩ | ⟨rfl, RA, RB, rfl⟩
    · exact (applyNU hs h hk).mono fun e w' hp => .inl ⟨hst, hp.1, hp.2⟩
    · exact (applyTU hs h hk).mono fun e w' hp => .inl ⟨hst, hp.1, hp.2⟩
  · cases hst : stopN ch R with
    | true => exact (applyX hs h hk hst).mono fun e w' hp => .inr ⟨rfl, hp.1, hp.2⟩
    | false =>
      rcases hT with ⟨rfl, rfl⟩ | ⟨rfl, RA, RB, rfl⟩
      · have hfi : fires false ch = false := rfl
        rw [hfi]
        exact (applyND (D := 0) hs h hk hst (by omega)).mono fun e w' hp => .inl ⟨rfl, hp.1, hp.2⟩
      · have hnm : ch.name = nItem ∨ ch.name = nOrder := by
          obtain ⟨h1, h2⟩ := h.fit.tab
          rcases (by omega : tiOf ch = 0 ∨ tiOf ch = 1) with e | e
          · rw [e] at h1; exact .inl h1
          · rw [e] at h1; exact .inr h1
        rcases hnm with hnm | hnm
        · have hfi : fires true ch = true := by unfold fires; rw [decide_eq_true hk, decide_eq_true hnm]; rfl
          rw [hfi]
          refine (applyTF hs h hk hst hnm hq fun d IA ic rs va qs w hd hdc => ?_).mono fun e w' hp => .inl ⟨rfl, hp.1, hp.2⟩
          cases hs2 : stopN d (nextB ch R) with
          | true => exact (applyS hs hd hdc.kind hs2).mono fun e w' hp => ⟨hp.1, .inl ⟨rfl, hp.2⟩⟩
          | false =>
            refine (applyTO (D := 1) hs hd hdc.kind hs2 hdc.nm (by omega)).mono ?_
            rintro e w' ⟨rfl, ds, R2, hc, hp⟩
            refine ⟨rfl, .inr ⟨rfl, ?_⟩⟩
            rcases hc with ⟨rfl, rfl, -⟩ | ⟨h1, -⟩
            · exact hp
            · cases h1
        · have hfi : fires true ch = false := by unfold fires; rw [hnm, decide_eq_false (fun e => nTab_ne e.symm : ¬ nOrder = nItem)]; simp
          rw [hfi]
          exact (applyTO (D := 0) hs h hk hst hnm (by omega)).mono fun e w' hp => .inl ⟨rfl, hp.1, hp.2⟩
end Go.Proofs.YtefifkleamiabaaGreatDoor

namespace Go.Proofs.YtefifkleamiabaaGreatDoor
open Go.RowKit

theorem take_eq_succ {α : Type} {xs ys : List α} {k : Nat} (h1 : k < xs.length) (h2 : k < ys.length) (h : xs.take k = ys.take k) (he : xs[k] = ys[k]) : xs.take (k + 1) = ys.take (k + 1) := by
  rw [List.take_succ_eq_append_getElem h1, List.take_succ_eq_append_getElem h2, h, he]

/-- Equality of two column values. -/
theorem eq_val (k n k' n' : Int) (s s' : ByteArray) (w : World) :
    (Op.equalIn 10000 60 (.agg #[.int .i64 k, .int .i64 n, .string s]) (.agg #[.int .i64 k', .int .i64 n', .string s'])).run Tryz.prog w = .ok (k == k' && (n == n' && s.toList == s'.toList)) w := by
  have u3 := Tryz.underlying3
  have a3 := Tryz.isAgg3
  have z3 := Tryz.sizeOf3
  have u9 := Tryz.underlying9
  have a9 := Tryz.isAgg9
  have z9 := Tryz.sizeOf9
  have hS : Tryz.prog.underlying 60 = some (.struct (Tryz.prog.fieldsOf 60)) := by kernel_rfl
  have hp : Tryz.prog.stoodInHeld 60 = false := by kernel_rfl
  rw [show (10000 : Nat) = 9999 + 1 from rfl, run_equalIn_agg w 9999 60 _ _ hS hp]
  simp only [Program.fieldsOf, Tryz.underlying60]
  go_simp
  by_cases h1 : k = k' <;> by_cases h2 : n = n' <;> by_cases h3 : s.toList = s'.toList <;> simp [h1, h2, h3]

theorem neq_val (k n k' n' : Int) (s s' : ByteArray) (w : World) :
    (binOp .neq 60 (.agg #[.int .i64 k, .int .i64 n, .string s]) (.agg #[.int .i64 k', .int .i64 n', .string s'])).run Tryz.prog w = .ok (.bool (!(k == k' && (n == n' && s.toList == s'.toList)))) w := by
  rw [run_neq_struct, eq_val]
  rfl

theorem Val.ext_iff' (x y : Val) : (x.kind == y.kind && (x.int == y.int && x.text.toList == y.text.toList)) = decide (x = y) := by
  obtain ⟨a, b, s⟩ := x
  obtain ⟨c, d, t⟩ := y
  have : (s.toList == t.toList) = decide (s = t) := by
    by_cases h : s = t
    · subst h; simp
    · have h' : s.toList ≠ t.toList := by
        intro e
        apply h
        rw [ByteArray.toList_eq, ByteArray.toList_eq] at e
        obtain ⟨⟨x⟩⟩ := s
        obtain ⟨⟨y⟩⟩ := t
        simp at e
        rw [e]
      simp [h, h']
  simp only [Val.mk.injEq, this]
  by_cases h1 : a = c <;> by_cases h2 : b = d <;> by_cases h3 : s = t <;> simp [h1, h2, h3]

end Go.Proofs.YtefifkleamiabaaGreatDoor

namespace Go.Proofs.YtefifkleamiabaaGreatDoor
open Go.RowKit

set_option maxRecDepth 100000 in
set_option maxHeartbeats 400000 in
theorem rowsEqual (A B : Option Addr) (c d : Nat) (xs ys : List Val) (w : World) (S T : Nat → Prop) (hx : Elems 3 Val.cs w S A xs) (hy : Elems 3 Val.cs w T B ys) (hl : xs.length ≤ maxLen) (hl2 : ys.length ≤ maxLen) :
    Calls Tryz.prog 42 #[.slice A xs.length c, .slice B ys.length d] w fun e w' => e = .returned (.bool (decide (xs = ys))) ∧ ∃ n, w' = w.drewN n := by
  unfold maxLen at hl hl2
  have hg : Tryz.prog.eqGuardType Tryz.prog.depth 60 = false := by kernel_rfl
  by_cases hlen : xs.length = ys.length
  · have HL := Lib.hid hlen
    have hll : ys.length ≤ xs.length := by omega
    have hne : ((xs.length : Int) != (ys.length : Int)) = false := by simp [hlen]
    clear hlen
    go_enter Tryz.func42, Tryz.ntmps42
    go_wp2_with fail
    go_loopw [13] (fun i wr => ∃ k n : Nat, k ≤ xs.length ∧ i = .int .i64 k ∧ xs.take k = ys.take k ∧ wr = w.drewN n) (fun i _ => xs.length - (intOf i).toNat)
    case atStart => exact ⟨0, 0, by omega, rfl, rfl, rfl⟩
    case round =>
      obtain ⟨k, n, hk, rfl, ht, rfl⟩ := hrel
      by_cases hlt : k < xs.length
      · obtain ⟨b, off, rfl, _, c0, c1, c2⟩ := hx.val hlt
        obtain ⟨b', off', rfl, _, d0, d1, d2⟩ := hy.val (k := k) (by have := HL.out; omega)
        have hi1 : (k : Int) < (xs.length : Int) := by omega
        have hi2 : (k : Int) < (ys.length : Int) := by have := HL.out; omega
        have hi0 : (0 : Int) ≤ (k : Int) := by omega
        have hv := fun W => neq_val xs[k].kind xs[k].int (ys[k]'(by omega)).kind (ys[k]'(by omega)).int xs[k].text (ys[k]'(by omega)).text W
        rw [Val.ext_iff'] at hv
        by_cases heq : xs[k] = ys[k]'(by omega)
        · have HT := Lib.hid (take_eq_succ hlt (by omega) ht heq)
          have hd : decide (xs[k] = ys[k]'(by omega)) = true := by simp [heq]
          rw [hd] at hv
          clear ht hd
          generalize xs[k] = x at *
          generalize (ys[k]'(by omega)) = y at *
          have HQ := Lib.hid heq
          clear heq
          go_wp2_with fail
          go_quiet (fail)
          go_wp2_with fail
          go_roundw
          case rel => exact ⟨k + 1, _, by omega, by go_num, HT.out, rfl⟩
          case measure => simp [intOf]; omega
        · have hd : decide (xs[k] = ys[k]'(by omega)) = false := by simp [heq]
          have HT : Hid (xs ≠ ys) := by
            intro h
            subst h
            exact heq rfl
          rw [hd] at hv
          clear ht hd
          generalize xs[k] = x at *
          generalize (ys[k]'(by omega)) = y at *
          have HQ := Lib.hid heq
          clear heq
          go_wp2_with fail
          go_quiet (fail)
          go_wp2_with fail
          go_ret
          exact ⟨ret_bool (by simp [HT.out]), _, World.drewN_drewN _ _ _⟩
      · go_wp2_with fail
        go_ret
        exact ⟨ret_bool (by
          have h1 : k = xs.length := by omega
          subst h1
          have h2 := HL.out
          rw [List.take_of_length_le (Nat.le_refl _), h2, List.take_of_length_le (Nat.le_refl _)] at ht
          simp [ht]), _, rfl⟩
  · have hne : ((xs.length : Int) != (ys.length : Int)) = true := by rw [bne_iff_ne]; omega
    have HL := Lib.hid hlen
    clear hlen
    go_enter Tryz.func42, Tryz.ntmps42
    go_wp2_with fail
    go_ret
    exact ⟨ret_bool (by
      have : xs ≠ ys := fun h => HL.out (by rw [h])
      simp [this]), 0, rfl⟩

end Go.Proofs.YtefifkleamiabaaGreatDoor

namespace Go.Proofs.YtefifkleamiabaaGreatDoor
open Go.RowKit Go.Sort

/-- The table's box. -/
def TBx (B : Nat) (t : Tbl) (W : World) : Prop := W.cell? ⟨B, 0, none⟩ = some (.string t.name) ∧ W.cell? ⟨B, 1, none⟩ = some (.slice t.CA t.cols.length t.cc) ∧ W.cell? ⟨B, 2, none⟩ = some (.slice t.PA t.pk.length t.pc)
theorem TBx.below {B : Nat} {t : Tbl} {W W' : World} (h : TBx B t W) (hB : B < W.heap.size) (hb : Below W.heap.size W W') : TBx B t W' :=
  ⟨(hb.cell (p := ⟨B, 0, none⟩) hB).trans h.1, (hb.cell (p := ⟨B, 1, none⟩) hB).trans h.2.1, (hb.cell (p := ⟨B, 2, none⟩) hB).trans h.2.2⟩
/-- The result's box, empty as yet. -/
def RBx (B : Nat) (W : World) : Prop := W.heap[B]? = some (.cells #[.string ⟨#[]⟩, .slice none 0 0, .slice none 0 0] 71 (0, 0))
theorem RBx.cells {B : Nat} {W : World} (h : RBx B W) : W.cell? ⟨B, 0, none⟩ = some (.string ⟨#[]⟩) ∧ W.cell? ⟨B, 1, none⟩ = some (.slice none 0 0) ∧ W.cell? ⟨B, 2, none⟩ = some (.slice none 0 0) ∧ W.frozen? ⟨B, 0, none⟩ = false ∧ W.frozen? ⟨B, 1, none⟩ = false ∧ W.frozen? ⟨B, 2, none⟩ = false :=
  ⟨cell_of_row _ _ 0 _ _ _ h, cell_of_row _ _ 1 _ _ _ h, cell_of_row _ _ 2 _ _ _ h, frozen_of_row _ _ 0 _ _ h, frozen_of_row _ _ 1 _ _ h, frozen_of_row _ _ 2 _ _ h⟩
end Go.Proofs.YtefifkleamiabaaGreatDoor

namespace Go.Proofs.YtefifkleamiabaaGreatDoor
open Go.RowKit Go.Sort

def iv (x : Int) : Val := ⟨1, x, ⟨#[]⟩⟩
end Go.Proofs.YtefifkleamiabaaGreatDoor

namespace Go.Proofs.YtefifkleamiabaaGreatDoor
open Go.RowKit Go.Sort

/-- A violation. -/
structure Vio where
  err : Int
  idx : Int
  key : Key
def Vio.cs (x : Vio) : List Value := [.int .i64 0, .int .i64 x.err, .int .i64 x.idx, .slice x.key.A x.key.row.length x.key.c]
def Vio.d (x : Vio) : Int × Int × Row := (x.err, x.idx, x.key.row)
/-- A list of violations of the call's own. -/
structure VO (base : Nat) (w0 w : World) (v : Value) (vs : List Vio) (ds : List (Int × Int × Row)) : Prop where
  own : Own 4 Vio.cs 64 base w v vs
  dat : vs.map Vio.d = ds
  key : ∀ x ∈ vs, KOk (fun g => base ≤ g ∧ g < w.heap.size ∧ v.ownBlock ≠ some g) w x.key
  bel : Below base w0 w
theorem VO.push {base : Nat} {w0 wo wc w' : World} {v v' : Value} {vs : List Vio} {ds : List (Int × Int × Row)} {x : Vio} (h : VO base w0 wo v vs ds) (hb : Below wo.heap.size wo wc) (hk : KOk (fun g => wo.heap.size ≤ g ∧ g < wc.heap.size) wc x.key)
    (ho : Own 4 Vio.cs 64 base w' v' (vs ++ [x])) (hx : Ext wc v w' v') (hB : base ≤ wo.heap.size) : VO base w0 w' v' (vs ++ [x]) (ds ++ [x.d]) := by
  have hvl : ∀ g, v.ownBlock = some g → base ≤ g ∧ g < wo.heap.size := Own.lt h.own
  have hsz := hx.size
  have hbs := hb.size
  have hne : ∀ g, wo.heap.size ≤ g → v.ownBlock ≠ some g := fun g hg e => by have := (hvl g e).2; omega
  refine ⟨ho, by rw [List.map_append, h.dat]; rfl, fun k hm => ?_, (h.bel.trans (hb.mono hB)).trans (hx.below (by omega) fun g hg => (hvl g hg).1)⟩
  rcases List.mem_append.1 hm with hm | hm
  · have h1 := (h.key k hm).keep (Keeps.of_below hb fun _ h => h.2.1)
    refine (h1.keep (hx.keeps fun g hg => ⟨by omega, fun e => hg.2.2 e.symm⟩)).more fun g hg => ⟨hg.1, by omega, hx.ne hg.2.2 (by omega)⟩
  · rw [List.mem_singleton.1 hm]
    exact (hk.keep (hx.keeps fun g hg => ⟨hg.2, fun e => hne g hg.1 e.symm⟩)).more fun g hg => ⟨by omega, by omega, hx.ne (hne g hg.1) hg.2⟩
theorem VO.below {base : Nat} {w0 w w' : World} {v : Value} {vs : List Vio} {ds : List (Int × Int × Row)} (h : VO base w0 w v vs ds) (hb : Below w.heap.size w w') (hB : base ≤ w.heap.size) : VO base w0 w' v vs ds :=
  ⟨h.own.below hb, h.dat, fun k hk => ((h.key k hk).keep (Keeps.of_below hb fun _ h => h.2.1)).more fun _ hg => ⟨hg.1, Nat.lt_of_lt_of_le hg.2.1 hb.size, hg.2.2⟩, h.bel.trans (hb.mono hB)⟩

end Go.Proofs.YtefifkleamiabaaGreatDoor
