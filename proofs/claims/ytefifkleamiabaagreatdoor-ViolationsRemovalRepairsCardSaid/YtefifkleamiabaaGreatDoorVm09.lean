/-
  The walk of (*executor).apply: an item is put, or deleted; what is derived from it leads to a cycle.
-/
import Derived.Test.YtefifkleamiabaaGreatDoorVm08
import Derived.Lib.SliceRun
namespace Go.Proofs.YtefifkleamiabaaGreatDoor
open Go.RowKit Go.Sort

section
variable {B px : Nat} {s : Sc} {TA : Option Addr} {tc : Nat} {ts : List Tr} {a b : Int} {D : Nat} {ch : ChM} {IA : Option Addr} {ic : Nat} {rs : List RelM} {va : Value} {qs : List ChM} {w W : World}
theorem XSt.currentU (h : XSt B px s TA tc ts a b 1 D ch IA ic rs va qs w) (hs : BsS s a b) (hW : Below w.heap.size w W) :
    Calls Tryz.prog 72 #[ptr px, .agg ch.cells] W fun e w' => e = .returned (.slice none 0 0) ∧ Below W.heap.size W w' := by
  have hx := h.x.below hW
  have hl0 := hs.len
  have h0 : 0 < rs.length := by have := h.rl; omega
  obtain ⟨hn0, hr0⟩ := h.r0 h0
  have hrr : ch.row.row = iRow a b := by
    rcases h.cd with ⟨h1, h2, h3⟩ | ⟨h1, h2, h3⟩
    · exact h3
    · exact absurd h1 (by decide)
  have hr0 : rs[0].rows.map Key.row = [] := hr0
  refine currentUps s px _ va IA ic rs ch 0 W hx.blk hx.scw (by have := hs.val.ntab; omega) hx.inw h0 hs.len (h.co.fr hW).frw (by rw [h.cn]; exact hs.ti) h.ck (by rw [hrr, hs.cols]; rfl) (by rw [hs.pk]; show 1 ≤ 12; omega) (by rw [List.map_eq_nil_iff.1 hr0]; show 0 ≤ 1000; omega) (by rw [hr0]; rfl)
theorem XSt.currentD (h : XSt B px s TA tc ts a b 2 D ch IA ic rs va qs w) (hs : BsS s a b) (hW : Below w.heap.size w W) :
    Calls Tryz.prog 72 #[ptr px, .agg ch.cells] W fun e w' => (∃ oA oc, e = .returned (.slice oA 4 oc) ∧ (∃ oa, oA = some oa) ∧ KOk (Free px va w) w ⟨oA, oc, iRow a b⟩) ∧ Below W.heap.size W w' := by
  have hx := h.x.below hW
  have hl0 := hs.len
  have h0 : 0 < rs.length := by have := h.rl; omega
  obtain ⟨hn0, hr0⟩ := h.r0 h0
  have hkk : ch.key.row = iKey a := by
    rcases h.cd with ⟨h1, h2, h3⟩ | ⟨h1, h2, h3⟩
    · exact absurd h1 (by decide)
    · exact h2
  have hr0 : rs[0].rows.map Key.row = [iRow a b] := hr0
  have hrl : rs[0].rows.length = 1 := by
    have h := congrArg List.length hr0
    rwa [List.length_map] at h
  refine (currentDel s px _ va IA ic rs ch 0 W hx.blk hx.scw (by have := hs.val.ntab; omega) hx.inw h0 hs.len (h.co.fr hW).frw (by rw [h.cn]; exact hs.ti) h.ck (by rw [hkk, hs.pk]; rfl) (by rw [hs.pk]; show 1 ≤ 12; omega) (by rw [hrl]; omega) (by rw [hr0, hkk, hs.pk]; exact (rff_row a b).2)).mono ?_
  rintro e w' ⟨⟨k, hk, rfl⟩, hb⟩
  refine ⟨?_, hb⟩
  have hkr : k.row = iRow a b := by
    have hm := List.mem_map_of_mem (f := Key.row) hk
    rw [hr0] at hm
    exact List.mem_singleton.1 hm
  have hko := (h.x.inst.rel _ (List.getElem_mem h0)).row k hk
  obtain ⟨kA, kc, kr⟩ := k
  have hkr : kr = iRow a b := hkr
  subst hkr
  obtain ⟨bb, off, hA, -⟩ := hko.el.val (k := 0) (by show 0 < 4; omega)
  exact ⟨kA, kc, rfl, ⟨_, hA⟩, hko⟩
end

set_option linter.unusedSimpArgs false in
set_option maxRecDepth 100000 in
set_option maxHeartbeats 8000000 in
theorem applyUp {B px : Nat} {s : Sc} {TA RA RB AA AB : Option Addr} {tc ac : Nat} {a b : Int} {D : Nat} (hs : BsS s a b) (hD : D ≤ 6) (hnext : ApH B px s TA tc [tRem RA RB, tAdd AA AB ac] a b 2 (D + 1)) : ApH B px s TA tc [tRem RA RB, tAdd AA AB ac] a b 1 D := by
  intro ch IA ic rs va qs w h
  have hck := h.ck
  have hcn := h.cn
  have hkl : ch.key.row.length = 0 := by rcases h.cd with ⟨h1, h2, h3⟩ | ⟨h1, h2, h3⟩ <;> first | (exact absurd h1 (by decide)) | (rw [h2]; rfl)
  have hrl : ch.row.row.length = 4 := by rcases h.cd with ⟨h1, h2, h3⟩ | ⟨h1, h2, h3⟩ <;> first | (exact absurd h1 (by decide)) | (rw [h3]; rfl)
  obtain ⟨w1, hw1⟩ : ∃ w1, w1 = w.alloc (.cells ch.cells 51) := ⟨_, rfl⟩
  have hb1 : Below w.heap.size w w1 := by rw [hw1]; exact (Below.refl _ _).alloc (Nat.le_refl _) _
  have hg1 : w1.heap[w.heap.size]? = some (.cells ch.cells 51 (0, 0)) := by rw [hw1]; exact heap_alloc_new w _
  have hs1 : w.heap.size < w1.heap.size := by rw [hw1]; simp
  have HBX : Hid (∀ W, Below w1.heap.size w1 W → W.heap[w.heap.size]? = some (.cells ch.cells 51 (0, 0))) := Lib.hid fun W hW => (hW.block _ hs1).trans hg1
  have HCB : Hid (∀ W, CB4 w.heap.size ch W → W.cell? ⟨w.heap.size, 0, none⟩ = some (.int .i64 1) ∧ W.cell? ⟨w.heap.size, 1, none⟩ = some (.string nItem) ∧ W.cell? ⟨w.heap.size, 2, none⟩ = some (.slice ch.key.A 0 ch.key.c) ∧ W.cell? ⟨w.heap.size, 3, none⟩ = some (.slice ch.row.A 4 ch.row.c)) := Lib.hid fun W hW => by
    unfold CB4 at hW
    rw [hck, hcn, hkl, hrl] at hW
    exact hW
  have HPX : Hid (∀ W, Below w.heap.size w W → W.cell? ⟨px, 0, none⟩ = some (.slice s.TA s.tabs.length s.tc) ∧ W.cell? ⟨px, 1, none⟩ = some (.slice s.FA s.fks.length s.fc) ∧ W.cell? ⟨px, 2, none⟩ = some (.slice s.NA s.cns.length s.nc) ∧ W.cell? ⟨px, 4, none⟩ = some (.slice IA rs.length ic) ∧ W.cell? ⟨px, 5, none⟩ = some va) := Lib.hid fun W hW => by
    have h := (h.x.below hW).blk
    unfold exC at h
    exact ⟨cell_of_row _ _ 0 _ _ _ h, cell_of_row _ _ 1 _ _ _ h, cell_of_row _ _ 2 _ _ _ h, cell_of_row _ _ 4 _ _ _ h, cell_of_row _ _ 5 _ _ _ h⟩
  have HCU := Lib.hid fun W (hW : Below w.heap.size w W) => (h.currentU hs hW)
  have HAP := Lib.hid fun W (hW : Below w.heap.size w W) => h.apply hs hW
  have HH := Lib.hid h
  have HFB : Hid (Free px va w1 w.heap.size) := Lib.hid ⟨hs1, fun e => by have := h.x.lt; omega, fun e => by have := (Own.lt h.x.app _ e).2; omega⟩
  have hql := h.len
  obtain ⟨VA, vc, hva, -, -⟩ := h.x.app.form
  obtain ⟨m, hm⟩ : ∃ m, qs.length = m := ⟨_, rfl⟩
  rw [hm] at hva hql
  have HVA := Lib.hid hva
  have HM := Lib.hid hm
  have hm24 : ((m : Int) == 24) = false := by simp; omega
  have hm24' : ¬ (m : Int) = 24 := by omega
  have HNX := Lib.hid hnext
  have HB1 := Lib.hid hb1
  have HW1 := Lib.hid hw1
  obtain ⟨k0, k1, k2, k3⟩ := HCB.out w1 (CB4.of hg1)
  unfold ChM.cells at HW1 HAP HCU ⊢
  rw [hck, hcn, hkl, hrl] at HW1 HAP HCU ⊢
  unfold Sc.v Sc.cells at HAP
  clear h hck hcn hkl hrl hb1 hg1 hs1 hw1 hm hnext hs hva
  go_enter Tryz.func40, Tryz.ntmps40
  go_upto_region 1 with fail
  rw [← HW1.out]
  go_wp2_with fail
  refine (HCU.out w1 HB1.out).mono ?_
  rintro e w2 ⟨rfl, hb2⟩
  have HB2 := Lib.hid (And.intro hb2 (HB1.out.trans (hb2.mono HB1.out.size)))
  clear hb2 k0 k1 k2 k3 HCU
  obtain ⟨k0, k1, k2, k3⟩ := HCB.out w2 (CB4.of (HBX.out w2 HB2.out.1))
  go_upto_region 2 with fail
  go_cut [40] from 19 to 40 (fun v40 wx => v40 = .bool false ∧ w2 = wx)
  case first =>
    by_cases hD0 : D = 0
    · have hd0 : ¬ (0 : Int) < (D : Int) := by omega
      clear hD0
      go_wp2_with fail
      go_meet
      exact ⟨rfl, rfl⟩
    · have hd0 : (0 : Int) < (D : Int) := by omega
      clear hD0
      go_wp2_with fail
      refine (equalLen none ch.row.A 0 0 4 ch.row.c w2 (by omega)).mono ?_
      rintro e w' ⟨rfl, rfl⟩
      go_wp2_with fail
      go_meet
      exact ⟨rfl, rfl⟩
  case rest =>
    obtain ⟨rfl, rfl⟩ := hcut
    have hD6 : ¬ (6 : Int) < (D : Int) := by omega
    obtain ⟨x0, x1, x2, x4, x5⟩ := HPX.out w2 HB2.out.2
    rw [HVA.out] at x5
    go_upto_region 8 with fail
    go_cut [8, 9] from 49 to 62 (fun v8 v9 wx => v9 = .int .i64 0 ∧ ∃ A4 n4 c4 rs', v8 = .slice A4 n4 c4 ∧ InO w2.heap.size w2 wx (.slice A4 n4 c4) rs' (iData true a b))
    case first =>
      have HSX : Hid (∀ W, Below w2.heap.size w2 W → W.cell? ⟨px, 0, none⟩ = some (.slice s.TA s.tabs.length s.tc) ∧ W.cell? ⟨px, 1, none⟩ = some (.slice s.FA s.fks.length s.fc) ∧ W.cell? ⟨px, 2, none⟩ = some (.slice s.NA s.cns.length s.nc) ∧ W.cell? ⟨px, 4, none⟩ = some (.slice IA rs.length ic) ∧ W.cell? ⟨w.heap.size, 0, none⟩ = some (.int .i64 1) ∧ W.cell? ⟨w.heap.size, 1, none⟩ = some (.string nItem) ∧ W.cell? ⟨w.heap.size, 2, none⟩ = some (.slice ch.key.A 0 ch.key.c) ∧ W.cell? ⟨w.heap.size, 3, none⟩ = some (.slice ch.row.A 4 ch.row.c)) := Lib.hid fun W hW => by
        obtain ⟨x0, x1, x2, x4, -⟩ := HPX.out W (HB2.out.2.trans (hW.mono HB2.out.2.size))
        exact ⟨x0, x1, x2, x4, HCB.out W (CB4.of (HBX.out W (HB2.out.1.trans (hW.mono HB2.out.1.size))))⟩
      have HAC : Hid (∀ m, Calls Tryz.prog 74 #[.agg #[.slice s.TA s.tabs.length s.tc, .slice s.FA s.fks.length s.fc, .slice s.NA s.cns.length s.nc], .slice IA rs.length ic, .slice (some ⟨w2.heap.size, 0, none⟩) 1 1] ((w2.drewN m).alloc (.cells #[.int .i64 1, .string nItem, .slice ch.key.A 0 ch.key.c, .slice ch.row.A 4 ch.row.c] 51)) fun e w4 => ∃ A4 n4 c4 rs', e = .returned (.tuple #[.slice A4 n4 c4, .int .i64 0]) ∧ Below w2.heap.size w2 w4 ∧ Hid (InO w2.heap.size w2 w4 (.slice A4 n4 c4) rs' (iData true a b))) := Lib.hid fun m => by
        have hd : Below w2.heap.size w2 (w2.drewN m) := below_drewN (Below.refl _ _) m
        have hc := HAP.out (w2.drewN m) (HB2.out.2.trans (hd.mono HB2.out.2.size))
        refine hc.mono ?_
        rintro e w4 ⟨v4, rs', rfl, ho⟩
        obtain ⟨A4, c4, rfl, -, -⟩ := ho.own.form
        have ho' : InO w2.heap.size w2 w4 (.slice A4 rs'.length c4) rs' (iData true a b) := ⟨ho.own.mono hd.size, ho.dat, fun r hr => (ho.rel r hr).more fun g hg => ⟨Nat.le_trans hd.size hg.1, hg.2⟩, hd.trans (ho.bel.mono hd.size)⟩
        exact ⟨A4, _, c4, rs', rfl, ho'.bel, Lib.hid ho'⟩
      have s2 := HSX.out w2 (Below.refl _ _)
      have hsa : ∀ o, Below w2.heap.size w2 (w2.drew.alloc o) := fun o => (Below.refl _ _).drew.alloc (Nat.le_refl _) o
      have HSA := Lib.hid fun o => HSX.out _ (hsa o)
      clear hsa x0 x1 x2 x4 x5 k0 k1 k2 k3
      go_region_held3 (fun W => W.cell? ⟨px, 0, none⟩ = some (.slice s.TA s.tabs.length s.tc) ∧ W.cell? ⟨px, 1, none⟩ = some (.slice s.FA s.fks.length s.fc) ∧ W.cell? ⟨px, 2, none⟩ = some (.slice s.NA s.cns.length s.nc) ∧ W.cell? ⟨px, 4, none⟩ = some (.slice IA rs.length ic) ∧ W.cell? ⟨w.heap.size, 0, none⟩ = some (.int .i64 1) ∧ W.cell? ⟨w.heap.size, 1, none⟩ = some (.string nItem) ∧ W.cell? ⟨w.heap.size, 2, none⟩ = some (.slice ch.key.A 0 ch.key.c) ∧ W.cell? ⟨w.heap.size, 3, none⟩ = some (.slice ch.row.A 4 ch.row.c)) (first | exact s2 | exact s4 | exact HSA.out _)
        (first
        | (go_at_call 74; refine (HAC.out 1).mono ?_; rintro e w4 ⟨A4, n4, c4, rs', rfl, hb4, HIO⟩; have s4 := HSX.out w4 hb4))
      all_goals
        clear hb4 s4
        go_wp2_with fail
        go_meet
        exact ⟨rfl, A4, n4, c4, rs', rfl, HIO.out⟩
    case rest =>
      obtain ⟨rfl, A4, n4, c4, rs', rfl, hio⟩ := hcut
      obtain ⟨w4, rfl⟩ : ∃ w4, w4 = wc := ⟨_, rfl⟩
      clear x0 x1 x2 x4 x5 k0 k1 k2 k3 HAP
      have hb24 := hio.bel
      have hb14 := HB2.out.1.trans (hb24.mono HB2.out.1.size)
      have hbw4 := HB2.out.2.trans (hb24.mono HB2.out.2.size)
      obtain ⟨k0, k1, k2, k3⟩ := HCB.out w4 (CB4.of (HBX.out w4 hb14))
      obtain ⟨-, -, -, -, x5⟩ := HPX.out w4 hbw4
      rw [HVA.out] at x5
      have HX2 := Lib.hid (HH.out.x.below HB2.out.2)
      have hd4 : Below w4.heap.size w4 w4.drew := (Below.refl _ _).drew
      have hio' : InO w2.heap.size w2 w4.drew (.slice A4 n4 c4) rs' (iData true a b) := hio.below hd4 hb24.size
      have HAP2 : Hid (∀ ty, ∃ v5 w5, (Builtin.append_ #[32, 32] ty #[.slice VA m vc, .slice (some ⟨w4.heap.size, 0, none⟩) 1 1]).run Tryz.prog (w4.drew.alloc (.cells #[.int .i64 1, .string nItem, .slice ch.key.A 0 ch.key.c, .slice ch.row.A 4 ch.row.c] 51)) = .ok v5 w5
          ∧ ∃ A5 n5 c5, v5 = .slice A5 n5 c5 ∧ Hid (∀ W, (W = w5 ∨ W = w5.setCell ⟨px, 4, none⟩ (.slice A4 n4 c4) ∨ W = (w5.setCell ⟨px, 4, none⟩ (.slice A4 n4 c4)).setCell ⟨px, 5, none⟩ (.slice A5 n5 c5)) → W.cell? ⟨w.heap.size, 0, none⟩ = some (.int .i64 1) ∧ W.cell? ⟨w.heap.size, 1, none⟩ = some (.string nItem) ∧ W.cell? ⟨w.heap.size, 2, none⟩ = some (.slice ch.key.A 0 ch.key.c) ∧ W.cell? ⟨w.heap.size, 3, none⟩ = some (.slice ch.row.A 4 ch.row.c))
            ∧ (∃ q, w5.cell? ⟨px, 4, none⟩ = some q) ∧ (∃ q, w5.cell? ⟨px, 5, none⟩ = some q) ∧ (w5.frozen? ⟨px, 4, none⟩ = false ∧ w5.frozen? ⟨px, 5, none⟩ = false) ∧ Hid (PS B px s TA tc [tRem RA RB, tAdd AA AB ac] a b true (D + 1) va w2 ((w5.setCell ⟨px, 4, none⟩ (.slice A4 n4 c4)).setCell ⟨px, 5, none⟩ (.slice A5 n5 c5)))) := Lib.hid fun ty => by
        have hfb : Free px va w2 w.heap.size := HFB.out.up HB2.out.1.size
        obtain ⟨v5, w5, hrun, A5, n5, c5, rfl, q1, q2, q3, q4, q5, q6, q7⟩ := HX2.out.append hio' (g := w.heap.size) hfb (HBX.out w2 HB2.out.1) (n := D + 1) (by have := HM.out; omega) (by omega) ty
        have hkl : ch.key.row.length = 0 := by rcases HH.out.cd with ⟨h1, h2, h3⟩ | ⟨h1, h2, h3⟩ <;> first | (exact absurd h1 (by decide)) | (rw [h2]; rfl)
        have hrl : ch.row.row.length = 4 := by rcases HH.out.cd with ⟨h1, h2, h3⟩ | ⟨h1, h2, h3⟩ <;> first | (exact absurd h1 (by decide)) | (rw [h3]; rfl)
        rw [HVA.out, HH.out.ck, HH.out.cn, hkl, hrl] at hrun
        refine ⟨_, w5, hrun, A5, n5, c5, rfl, Lib.hid fun W hW => ?_, q4, q5, q6, q7⟩
        rcases hW with rfl | rfl | rfl
        · exact HCB.out _ q1
        · exact HCB.out _ q2
        · exact HCB.out _ q3
      have hsa : ∀ o, Below w4.heap.size w4 (w4.drew.alloc o) := fun o => hd4.alloc (Nat.le_refl _) o
      have x5a : ∀ o, (w4.alloc o).cell? ⟨px, 5, none⟩ = some (.slice VA m vc) := fun o => by rw [← HVA.out]; exact (HPX.out _ (hbw4.alloc hbw4.size o)).2.2.2.2
      have HSA := Lib.hid fun o => HCB.out _ (CB4.of (HBX.out _ (hb14.trans ((hsa o).mono hb14.size))))
      have s4 := And.intro k0 (And.intro k1 (And.intro k2 k3))
      clear hio hb24 hb14 hbw4 hd4 hio' hsa
      go_upto_region 11 with fail
      go_cut [] from 66 to 79 (fun wx => PS B px s TA tc [tRem RA RB, tAdd AA AB ac] a b true (D + 1) va w2 wx ∧ (wx.cell? ⟨w.heap.size, 0, none⟩ = some (.int .i64 1) ∧ wx.cell? ⟨w.heap.size, 1, none⟩ = some (.string nItem) ∧ wx.cell? ⟨w.heap.size, 2, none⟩ = some (.slice ch.key.A 0 ch.key.c) ∧ wx.cell? ⟨w.heap.size, 3, none⟩ = some (.slice ch.row.A 4 ch.row.c)))
      case first =>
        refine wp_region_held_drew (S := (fun wx => wx.cell? ⟨w.heap.size, 0, none⟩ = some (.int .i64 1) ∧ wx.cell? ⟨w.heap.size, 1, none⟩ = some (.string nItem) ∧ wx.cell? ⟨w.heap.size, 2, none⟩ = some (.slice ch.key.A 0 ch.key.c) ∧ wx.cell? ⟨w.heap.size, 3, none⟩ = some (.slice ch.row.A 4 ch.row.c))) (by kernel_rfl) s4 (fun hHeld => ?_)
        refine wpAnyH_take (i := 0) (oi := _) (v := ?_) rfl (by kernel_rfl) (by kernel_rfl) (by kernel_rfl) (fun _ _ _ h => h) (Or.inl ⟨by rfl, ?_⟩) hHeld ?_
        rotate_left
        · intro w hSw; (try dsimp only at hSw); go_simp; with_reducible rfl
        simp only [Act.put, List.setIfInBounds_toArray, List.set_cons_zero, List.set_cons_succ, List.getElem_toArray, List.getElem_cons_succ, List.getElem_cons_zero]
        refine wpAnyH_take (i := 1) (oi := _) (v := ?_) rfl (by kernel_rfl) (by kernel_rfl) (by kernel_rfl) (fun _ _ _ h => h) (Or.inl ⟨by rfl, ?_⟩) hHeld ?_
        rotate_left
        · intro w hSw; (try dsimp only at hSw); go_simp; with_reducible rfl
        simp only [Act.put, List.setIfInBounds_toArray, List.set_cons_zero, List.set_cons_succ, List.getElem_toArray, List.getElem_cons_succ, List.getElem_cons_zero]
        refine wpAnyH_take (i := 2) (oi := _) (v := ?_) rfl (by kernel_rfl) (by kernel_rfl) (by kernel_rfl) (fun _ _ _ h => h) (Or.inl ⟨by rfl, ?_⟩) hHeld ?_
        rotate_left
        · intro w hSw; (try dsimp only at hSw); go_simp; with_reducible rfl
        simp only [Act.put, List.setIfInBounds_toArray, List.set_cons_zero, List.set_cons_succ, List.getElem_toArray, List.getElem_cons_succ, List.getElem_cons_zero]
        refine wpAnyH_take (i := 3) (oi := _) (v := ?_) rfl (by kernel_rfl) (by kernel_rfl) (by kernel_rfl) (fun _ _ _ h => h) (Or.inl ⟨by rfl, ?_⟩) hHeld ?_
        rotate_left
        · intro w hSw; (try dsimp only at hSw); go_simp; with_reducible rfl
        simp only [Act.put, List.setIfInBounds_toArray, List.set_cons_zero, List.set_cons_succ, List.getElem_toArray, List.getElem_cons_succ, List.getElem_cons_zero]
        refine wpAnyH_take (i := 4) (oi := _) (v := ?_) rfl (by kernel_rfl) (by kernel_rfl) (by kernel_rfl) (fun _ _ _ h => h) (Or.inl ⟨by rfl, ?_⟩) hHeld ?_
        rotate_left
        · intro w hSw; (try dsimp only at hSw); go_simp; with_reducible rfl
        simp only [Act.put, List.setIfInBounds_toArray, List.set_cons_zero, List.set_cons_succ, List.getElem_toArray, List.getElem_cons_succ, List.getElem_cons_zero]
        refine wpAnyH_take (i := 5) (oi := _) (v := ?_) rfl (by kernel_rfl) (by kernel_rfl) (by kernel_rfl) (fun _ _ _ h => h) (Or.inl ⟨by rfl, ?_⟩) hHeld ?_
        rotate_left
        · intro w hSw; (try dsimp only at hSw); go_simp; with_reducible rfl
        simp only [Act.put, List.setIfInBounds_toArray, List.set_cons_zero, List.set_cons_succ, List.getElem_toArray, List.getElem_cons_succ, List.getElem_cons_zero]
        refine wpAnyH_take (i := 7) (oi := _) (v := ?_) rfl (by kernel_rfl) (by kernel_rfl) (by kernel_rfl) (fun _ _ _ h => h) (Or.inl ⟨by rfl, ?_⟩) hHeld ?_
        rotate_left
        · intro w hSw; (try dsimp only at hSw); go_simp; with_reducible rfl
        simp only [Act.put, List.setIfInBounds_toArray, List.set_cons_zero, List.set_cons_succ, List.getElem_toArray, List.getElem_cons_succ, List.getElem_cons_zero]
        refine wpAnyH_ready (rs := [6, 8]) (by kernel_rfl) (by simp) ?_
        refine AllReadyH.cons (o := _) rfl (fun K hK => ?_) (AllReadyH.cons (o := _) rfl (fun K hK => ?_) AllReadyH.nil)
        · go_simp
          refine hK.out _ _ hHeld (fun hHeld => ?_)
          clear hK K
          try simp only [Act.put, List.setIfInBounds_toArray, List.set_cons_zero, List.set_cons_succ, List.getElem_toArray, List.getElem_cons_succ, List.getElem_cons_zero]
          refine wpAnyH_ready (rs := [8]) (by kernel_rfl) (by simp) ?_
          refine AllReadyH.cons (o := _) rfl (fun K hK => ?_) AllReadyH.nil
          go_simp
          refine hK.out _ _ (HSA.out _) (fun hHeld => ?_)
          clear hK K
          try simp only [Act.put, List.setIfInBounds_toArray, List.set_cons_zero, List.set_cons_succ, List.getElem_toArray, List.getElem_cons_succ, List.getElem_cons_zero]
          refine wpAnyH_ready (rs := [9]) (by kernel_rfl) (by simp) ?_
          refine AllReadyH.cons (o := _) rfl (fun K hK => ?_) AllReadyH.nil
          (refine step_app (by rfl) (.tmp 72) (.tmp 74) _ _ (by rfl) (by rfl) (by rfl) (HAP2.out _) ?_; rintro v5 w5 ⟨A5, n5, c5, rfl, HC5, ⟨q4, hq4⟩, ⟨q5, hq5⟩, ⟨hf4, hf5⟩, HPS⟩; have s5 := HC5.out _ (.inl rfl); have s6 := HC5.out _ (.inr (.inl rfl)); have s7 := HC5.out _ (.inr (.inr rfl)))
          refine hK.out _ _ s5 (fun hHeld => ?_)
          clear hK K
          try simp only [Act.put, List.setIfInBounds_toArray, List.set_cons_zero, List.set_cons_succ, List.getElem_toArray, List.getElem_cons_succ, List.getElem_cons_zero]
          refine wpAnyH_take (i := 10) (oi := _) (v := ?_) rfl (by kernel_rfl) (by kernel_rfl) (by kernel_rfl) (fun _ _ _ h => h) (Or.inl ⟨by rfl, ?_⟩) hHeld ?_
          rotate_left
          · intro w hSw; (try dsimp only at hSw); go_simp; with_reducible rfl
          simp only [Act.put, List.setIfInBounds_toArray, List.set_cons_zero, List.set_cons_succ, List.getElem_toArray, List.getElem_cons_succ, List.getElem_cons_zero]
          refine wpAnyH_take (i := 11) (oi := _) (v := ?_) rfl (by kernel_rfl) (by kernel_rfl) (by kernel_rfl) (fun _ _ _ h => h) (Or.inl ⟨by rfl, ?_⟩) hHeld ?_
          rotate_left
          · intro w hSw; (try dsimp only at hSw); go_simp; with_reducible rfl
          simp only [Act.put, List.setIfInBounds_toArray, List.set_cons_zero, List.set_cons_succ, List.getElem_toArray, List.getElem_cons_succ, List.getElem_cons_zero]
          refine wpAnyH_ready (rs := [12]) (by kernel_rfl) (by simp) ?_
          refine AllReadyH.cons (o := _) rfl (fun K hK => ?_) AllReadyH.nil
          go_simp
          refine hK.out _ _ s6 (fun hHeld => ?_)
          clear hK K
          try simp only [Act.put, List.setIfInBounds_toArray, List.set_cons_zero, List.set_cons_succ, List.getElem_toArray, List.getElem_cons_succ, List.getElem_cons_zero]
          refine wpAnyH_take (i := 13) (oi := _) (v := ?_) rfl (by kernel_rfl) (by kernel_rfl) (by kernel_rfl) (fun _ _ _ h => h) (Or.inl ⟨by rfl, ?_⟩) hHeld ?_
          rotate_left
          · intro w hSw; (try dsimp only at hSw); go_simp; with_reducible rfl
          simp only [Act.put, List.setIfInBounds_toArray, List.set_cons_zero, List.set_cons_succ, List.getElem_toArray, List.getElem_cons_succ, List.getElem_cons_zero]
          refine wpAnyH_take (i := 14) (oi := _) (v := ?_) rfl (by kernel_rfl) (by kernel_rfl) (by kernel_rfl) (fun _ _ _ h => h) (Or.inl ⟨by rfl, ?_⟩) hHeld ?_
          rotate_left
          · intro w hSw; (try dsimp only at hSw); go_simp; with_reducible rfl
          simp only [Act.put, List.setIfInBounds_toArray, List.set_cons_zero, List.set_cons_succ, List.getElem_toArray, List.getElem_cons_succ, List.getElem_cons_zero]
          refine wpAnyH_ready (rs := [15]) (by kernel_rfl) (by simp) ?_
          refine AllReadyH.cons (o := _) rfl (fun K hK => ?_) AllReadyH.nil
          go_simp
          refine hK.out _ _ s7 (fun hHeld => ?_)
          clear hK K
          try simp only [Act.put, List.setIfInBounds_toArray, List.set_cons_zero, List.set_cons_succ, List.getElem_toArray, List.getElem_cons_succ, List.getElem_cons_zero]
          refine wpAnyH_done (by kernel_rfl) ?_ _
          go_wp2_with fail
          go_meet
          exact ⟨HPS.out, s7⟩
        · go_simp
          refine hK.out _ _ (HSA.out _) (fun hHeld => ?_)
          clear hK K
          try simp only [Act.put, List.setIfInBounds_toArray, List.set_cons_zero, List.set_cons_succ, List.getElem_toArray, List.getElem_cons_succ, List.getElem_cons_zero]
          refine wpAnyH_ready (rs := [6]) (by kernel_rfl) (by simp) ?_
          refine AllReadyH.cons (o := _) rfl (fun K hK => ?_) AllReadyH.nil
          go_simp
          refine hK.out _ _ hHeld (fun hHeld => ?_)
          clear hK K
          try simp only [Act.put, List.setIfInBounds_toArray, List.set_cons_zero, List.set_cons_succ, List.getElem_toArray, List.getElem_cons_succ, List.getElem_cons_zero]
          refine wpAnyH_ready (rs := [9]) (by kernel_rfl) (by simp) ?_
          refine AllReadyH.cons (o := _) rfl (fun K hK => ?_) AllReadyH.nil
          (refine step_app (by rfl) (.tmp 72) (.tmp 74) _ _ (by rfl) (by rfl) (by rfl) (HAP2.out _) ?_; rintro v5 w5 ⟨A5, n5, c5, rfl, HC5, ⟨q4, hq4⟩, ⟨q5, hq5⟩, ⟨hf4, hf5⟩, HPS⟩; have s5 := HC5.out _ (.inl rfl); have s6 := HC5.out _ (.inr (.inl rfl)); have s7 := HC5.out _ (.inr (.inr rfl)))
          refine hK.out _ _ s5 (fun hHeld => ?_)
          clear hK K
          try simp only [Act.put, List.setIfInBounds_toArray, List.set_cons_zero, List.set_cons_succ, List.getElem_toArray, List.getElem_cons_succ, List.getElem_cons_zero]
          refine wpAnyH_take (i := 10) (oi := _) (v := ?_) rfl (by kernel_rfl) (by kernel_rfl) (by kernel_rfl) (fun _ _ _ h => h) (Or.inl ⟨by rfl, ?_⟩) hHeld ?_
          rotate_left
          · intro w hSw; (try dsimp only at hSw); go_simp; with_reducible rfl
          simp only [Act.put, List.setIfInBounds_toArray, List.set_cons_zero, List.set_cons_succ, List.getElem_toArray, List.getElem_cons_succ, List.getElem_cons_zero]
          refine wpAnyH_take (i := 11) (oi := _) (v := ?_) rfl (by kernel_rfl) (by kernel_rfl) (by kernel_rfl) (fun _ _ _ h => h) (Or.inl ⟨by rfl, ?_⟩) hHeld ?_
          rotate_left
          · intro w hSw; (try dsimp only at hSw); go_simp; with_reducible rfl
          simp only [Act.put, List.setIfInBounds_toArray, List.set_cons_zero, List.set_cons_succ, List.getElem_toArray, List.getElem_cons_succ, List.getElem_cons_zero]
          refine wpAnyH_ready (rs := [12]) (by kernel_rfl) (by simp) ?_
          refine AllReadyH.cons (o := _) rfl (fun K hK => ?_) AllReadyH.nil
          go_simp
          refine hK.out _ _ s6 (fun hHeld => ?_)
          clear hK K
          try simp only [Act.put, List.setIfInBounds_toArray, List.set_cons_zero, List.set_cons_succ, List.getElem_toArray, List.getElem_cons_succ, List.getElem_cons_zero]
          refine wpAnyH_take (i := 13) (oi := _) (v := ?_) rfl (by kernel_rfl) (by kernel_rfl) (by kernel_rfl) (fun _ _ _ h => h) (Or.inl ⟨by rfl, ?_⟩) hHeld ?_
          rotate_left
          · intro w hSw; (try dsimp only at hSw); go_simp; with_reducible rfl
          simp only [Act.put, List.setIfInBounds_toArray, List.set_cons_zero, List.set_cons_succ, List.getElem_toArray, List.getElem_cons_succ, List.getElem_cons_zero]
          refine wpAnyH_take (i := 14) (oi := _) (v := ?_) rfl (by kernel_rfl) (by kernel_rfl) (by kernel_rfl) (fun _ _ _ h => h) (Or.inl ⟨by rfl, ?_⟩) hHeld ?_
          rotate_left
          · intro w hSw; (try dsimp only at hSw); go_simp; with_reducible rfl
          simp only [Act.put, List.setIfInBounds_toArray, List.set_cons_zero, List.set_cons_succ, List.getElem_toArray, List.getElem_cons_succ, List.getElem_cons_zero]
          refine wpAnyH_ready (rs := [15]) (by kernel_rfl) (by simp) ?_
          refine AllReadyH.cons (o := _) rfl (fun K hK => ?_) AllReadyH.nil
          go_simp
          refine hK.out _ _ s7 (fun hHeld => ?_)
          clear hK K
          try simp only [Act.put, List.setIfInBounds_toArray, List.set_cons_zero, List.set_cons_succ, List.getElem_toArray, List.getElem_cons_succ, List.getElem_cons_zero]
          refine wpAnyH_done (by kernel_rfl) ?_ _
          go_wp2_with fail
          go_meet
          exact ⟨HPS.out, s7⟩
      case rest =>
        obtain ⟨⟨A6, c6, rs6, va6, qs6, hx6, hd6, hl6, hb6, hk6, hkp6⟩, hc6⟩ := hcut
        obtain ⟨w6, rfl⟩ : ∃ w6, w6 = wc := ⟨_, rfl⟩
        obtain ⟨k0', k1', k2', k3'⟩ := hc6
        clear k0 k1 k2 k3 x5 x5a HAP2 HSA s4 HCB HBX HPX HFB
        obtain ⟨tb, toff, rb, roff, ab, aoff, htg⟩ := hx6.tg.cells
        have htA := htg.t
        have hrA := htg.r
        have haA := htg.a
        subst htA hrA haA
        have y3 : w6.cell? ⟨px, 3, none⟩ = some (.slice (some ⟨tb, toff, none⟩) 2 tc) := by
          have h := hx6.blk
          unfold exC at h
          exact cell_of_row _ _ 3 _ _ _ h
        have hpx6 := hx6.lt
        have HC6 : Hid (∀ W, Below w6.heap.size w6 W → W.cell? ⟨w.heap.size, 0, none⟩ = some (.int .i64 1) ∧ W.cell? ⟨w.heap.size, 1, none⟩ = some (.string nItem)) := Lib.hid fun W hW => by
          have hlt : w.heap.size < w6.heap.size := World.block_lt_of_cell? w6 ⟨w.heap.size, 0, none⟩ k0'
          exact ⟨(hW.cell (p := ⟨w.heap.size, 0, none⟩) hlt).trans k0', (hW.cell (p := ⟨w.heap.size, 1, none⟩) hlt).trans k1'⟩
        have HTG : Hid (∀ W, Below w6.heap.size w6 W → TgC (some ⟨tb, toff, none⟩) (some ⟨rb, roff, none⟩) RB (some ⟨ab, aoff, none⟩) AB ac tb toff rb roff ab aoff (· < W.heap.size) W) := Lib.hid fun W hW => by
          obtain ⟨tb', toff', rb', roff', ab', aoff', h⟩ := ((hx6.below hW).tgw).cells
          have e1 := h.t
          have e2 := h.r
          have e3 := h.a
          injection e1 with e1
          injection e1 with e11 e12
          injection e2 with e2
          injection e2 with e21 e22
          injection e3 with e3
          injection e3 with e31 e32
          subst e11 e12 e21 e22 e31 e32
          exact h
        have hr : ch.row.row = iRow a b := by
          rcases HH.out.cd with ⟨h1, h2, h3⟩ | ⟨h1, h2, h3⟩
          · exact h3
          · exact absurd h1 (by decide)
        have hk7 := hk6 _ (HH.out.co.row.fr HB2.out.2)
        rw [show ch.row = (⟨ch.row.A, ch.row.c, iRow a b⟩ : Key) from by rw [← hr]] at hk7
        have HROW : Hid (KOk (Free px va6 w6) w6 ⟨ch.row.A, ch.row.c, iRow a b⟩) := Lib.hid hk7
        have HX6 := Lib.hid (And.intro hx6 (And.intro hd6 hl6))
        have HB6 : Hid (Below B w w6) := Lib.hid ((HB2.out.2.mono (Nat.le_trans HH.out.x.hB (Nat.le_of_lt HH.out.x.lt))).trans hb6)
        clear htg hx6 hd6 hl6 hb6 hk6 hkp6 HX2 hr hk7
        go_upto_region 15 with fail
        go_wp2_with fail
        go_loopw [91] (fun vi wr => vi = .int .i64 0 ∧ w6 = wr) (fun _ _ => 0)
        case atStart => exact ⟨rfl, rfl⟩
        case round =>
          obtain ⟨rfl, rfl⟩ := hrel
          obtain ⟨t0, t1, t2⟩ := (HTG.out w6 (Below.refl _ _)).t0
          obtain ⟨w7, hw7⟩ : ∃ w7, w7 = w6.alloc (.cells #[.int .i64 1, .string nItem, .slice (some ⟨rb, roff, none⟩) 1 1] 44) := ⟨_, rfl⟩
          have hb7 : Below w6.heap.size w6 w7 := by rw [hw7]; exact (Below.refl _ _).alloc (Nat.le_refl _) _
          have hg7 : w7.heap[w6.heap.size]? = some (.cells #[.int .i64 1, .string nItem, .slice (some ⟨rb, roff, none⟩) 1 1] 44 (0, 0)) := by rw [hw7]; exact heap_alloc_new w6 _
          have u0 := cell_of_row _ _ 0 _ _ _ hg7
          have u1 := cell_of_row _ _ 1 _ _ _ hg7
          have u2 := cell_of_row _ _ 2 _ _ _ hg7
          obtain ⟨k0, k1⟩ := HC6.out w7 hb7
          have HB7 := Lib.hid hb7
          have HW7 := Lib.hid hw7
          clear hw7 hb7 hg7
          go_upto_region 18 with fail
          rw [← HW7.out]
          go_wp2_with fail
          go_loopw [110] (fun vi wr => vi = .int .i64 0 ∧ w7 = wr) (fun _ _ => 0)
          case atStart => exact ⟨rfl, rfl⟩
          case round =>
            obtain ⟨rfl, rfl⟩ := hrel
            obtain ⟨v0, v1, v2⟩ := (HTG.out w7 HB7.out).a0
            obtain ⟨w8, hw8⟩ : ∃ w8, w8 = w7.alloc (.cells #[.int .i64 2, .string nItem, .slice RB 1 1] 105) := ⟨_, rfl⟩
            have hb8 : Below w7.heap.size w7 w8 := by rw [hw8]; exact (Below.refl _ _).alloc (Nat.le_refl _) _
            have hg8 : w8.heap[w7.heap.size]? = some (.cells #[.int .i64 2, .string nItem, .slice RB 1 1] 105 (0, 0)) := by rw [hw8]; exact heap_alloc_new w7 _
            have z0 := cell_of_row _ _ 0 _ _ _ hg8
            have z1 := cell_of_row _ _ 1 _ _ _ hg8
            have z2 := cell_of_row _ _ 2 _ _ _ hg8
            have hb68 := HB7.out.trans (hb8.mono HB7.out.size)
            have hrow8 := HROW.out.fr hb68
            have hder := deriveW ⟨2, nItem, RB, 1, [0]⟩ ch.row.A ch.row.c (iRow a b) w8 (HTG.out w8 hb68).o0 (hrow8.more fun _ hg => hg.1).el (by show 1 ≤ 1000; omega) (by intro k hk; simp only [List.mem_cons, List.not_mem_nil, or_false] at hk; show 0 ≤ k ∧ k < 4; omega) (.inr rfl)
            have HDE : Hid (Calls Tryz.prog 75 #[.agg #[.int .i64 2, .string nItem, .slice RB 1 1], .slice ch.row.A 4 ch.row.c] w8 fun e w9 => ∃ A9 c9, e = .returned (.agg #[.int .i64 2, .string nItem, .slice A9 1 c9, .slice none 0 0]) ∧ Hid (Calls Tryz.prog 40 #[ptr px, .agg #[.int .i64 2, .string nItem, .slice A9 1 c9, .slice none 0 0], .int .i64 ((D : Int) + 1)] w9 fun e w' => e = .returned (.int .i64 14) ∧ Below B w w')) := Lib.hid (by
              refine hder.mono ?_
              rintro e w9 ⟨v9, rfl, ho9, hb9⟩
              obtain ⟨A9, c9, rfl, -, -⟩ := ho9.form
              refine ⟨A9, c9, rfl, Lib.hid ?_⟩
              have hb69 := hb68.trans (hb9.mono hb68.size)
              have hx9 := HX6.out.1.below hb69
              have hva9 := Own.lt HX6.out.1.app
              have hpx9 := HX6.out.1.lt
              have hs69 := hb68.size
              have hk9 : KOk (Free px va6 w9) w9 ⟨A9, c9, iKey a⟩ := ⟨(ho9.elems valLay.len rfl).more fun g hg => by
                have h := Own.lt ho9 g hg
                exact ⟨h.2, by omega, fun e => by have := (hva9 g e).2; omega⟩, by show 1 ≤ 12; omega⟩
              have h := HNX.out ⟨2, nItem, ⟨A9, c9, iKey a⟩, ⟨none, 0, []⟩⟩ _ _ _ _ _ w9 ⟨hx9, HX6.out.2.1, HX6.out.2.2, ⟨hk9, KOk.nil⟩, rfl, rfl, .inr ⟨rfl, rfl, rfl⟩⟩
              have hcast : ((D + 1 : Nat) : Int) = (D : Int) + 1 := by omega
              rw [hcast] at h
              refine h.mono ?_
              rintro e w' ⟨rfl, hb⟩
              exact ⟨rfl, (HB6.out.trans (hb69.mono (by have := HX6.out.1.hB; omega))).trans hb⟩)
            have HW8 := Lib.hid hw8
            clear hw8 hb8 hg8 hb68 hrow8 hder t0 t1 t2 u0 u1 u2
            go_upto_region 22 with fail
            rw [← HW8.out]
            go_wp2_with fail
            refine HDE.out.mono ?_
            rintro e w9 ⟨A9, c9, rfl, HAP9⟩
            go_wp2_with fail
            refine HAP9.out.mono ?_
            rintro e w10 ⟨rfl, hb10⟩
            have HF := Lib.hid hb10
            clear hb10
            go_wp2_with fail
            go_ret
            exact ⟨rfl, HF.out⟩

set_option linter.unusedSimpArgs false in
set_option maxRecDepth 100000 in
set_option maxHeartbeats 8000000 in
theorem applyDn {B px : Nat} {s : Sc} {TA RA RB AA AB : Option Addr} {tc ac : Nat} {a b : Int} {D : Nat} (hs : BsS s a b) (hD : D ≤ 6) (hnext : ApH B px s TA tc [tRem RA RB, tAdd AA AB ac] a b 1 (D + 1)) : ApH B px s TA tc [tRem RA RB, tAdd AA AB ac] a b 2 D := by
  intro ch IA ic rs va qs w h
  have hck := h.ck
  have hcn := h.cn
  have hkl : ch.key.row.length = 1 := by rcases h.cd with ⟨h1, h2, h3⟩ | ⟨h1, h2, h3⟩ <;> first | (exact absurd h1 (by decide)) | (rw [h2]; rfl)
  have hrl : ch.row.row.length = 0 := by rcases h.cd with ⟨h1, h2, h3⟩ | ⟨h1, h2, h3⟩ <;> first | (exact absurd h1 (by decide)) | (rw [h3]; rfl)
  obtain ⟨w1, hw1⟩ : ∃ w1, w1 = w.alloc (.cells ch.cells 51) := ⟨_, rfl⟩
  have hb1 : Below w.heap.size w w1 := by rw [hw1]; exact (Below.refl _ _).alloc (Nat.le_refl _) _
  have hg1 : w1.heap[w.heap.size]? = some (.cells ch.cells 51 (0, 0)) := by rw [hw1]; exact heap_alloc_new w _
  have hs1 : w.heap.size < w1.heap.size := by rw [hw1]; simp
  have HBX : Hid (∀ W, Below w1.heap.size w1 W → W.heap[w.heap.size]? = some (.cells ch.cells 51 (0, 0))) := Lib.hid fun W hW => (hW.block _ hs1).trans hg1
  have HCB : Hid (∀ W, CB4 w.heap.size ch W → W.cell? ⟨w.heap.size, 0, none⟩ = some (.int .i64 2) ∧ W.cell? ⟨w.heap.size, 1, none⟩ = some (.string nItem) ∧ W.cell? ⟨w.heap.size, 2, none⟩ = some (.slice ch.key.A 1 ch.key.c) ∧ W.cell? ⟨w.heap.size, 3, none⟩ = some (.slice ch.row.A 0 ch.row.c)) := Lib.hid fun W hW => by
    unfold CB4 at hW
    rw [hck, hcn, hkl, hrl] at hW
    exact hW
  have HPX : Hid (∀ W, Below w.heap.size w W → W.cell? ⟨px, 0, none⟩ = some (.slice s.TA s.tabs.length s.tc) ∧ W.cell? ⟨px, 1, none⟩ = some (.slice s.FA s.fks.length s.fc) ∧ W.cell? ⟨px, 2, none⟩ = some (.slice s.NA s.cns.length s.nc) ∧ W.cell? ⟨px, 4, none⟩ = some (.slice IA rs.length ic) ∧ W.cell? ⟨px, 5, none⟩ = some va) := Lib.hid fun W hW => by
    have h := (h.x.below hW).blk
    unfold exC at h
    exact ⟨cell_of_row _ _ 0 _ _ _ h, cell_of_row _ _ 1 _ _ _ h, cell_of_row _ _ 2 _ _ _ h, cell_of_row _ _ 4 _ _ _ h, cell_of_row _ _ 5 _ _ _ h⟩
  have HCU := Lib.hid fun W (hW : Below w.heap.size w W) => (h.currentD hs hW)
  have HAP := Lib.hid fun W (hW : Below w.heap.size w W) => h.apply hs hW
  have HH := Lib.hid h
  have HFB : Hid (Free px va w1 w.heap.size) := Lib.hid ⟨hs1, fun e => by have := h.x.lt; omega, fun e => by have := (Own.lt h.x.app _ e).2; omega⟩
  have hql := h.len
  obtain ⟨VA, vc, hva, -, -⟩ := h.x.app.form
  obtain ⟨m, hm⟩ : ∃ m, qs.length = m := ⟨_, rfl⟩
  rw [hm] at hva hql
  have HVA := Lib.hid hva
  have HM := Lib.hid hm
  have hm24 : ((m : Int) == 24) = false := by simp; omega
  have hm24' : ¬ (m : Int) = 24 := by omega
  have HNX := Lib.hid hnext
  have HB1 := Lib.hid hb1
  have HW1 := Lib.hid hw1
  obtain ⟨k0, k1, k2, k3⟩ := HCB.out w1 (CB4.of hg1)
  unfold ChM.cells at HW1 HAP HCU ⊢
  rw [hck, hcn, hkl, hrl] at HW1 HAP HCU ⊢
  unfold Sc.v Sc.cells at HAP
  clear h hck hcn hkl hrl hb1 hg1 hs1 hw1 hm hnext hs hva
  go_enter Tryz.func40, Tryz.ntmps40
  go_upto_region 1 with fail
  rw [← HW1.out]
  go_wp2_with fail
  refine (HCU.out w1 HB1.out).mono ?_
  rintro e w2 ⟨⟨oA, oc, rfl, hoA, hold⟩, hb2⟩
  obtain ⟨oa, rfl⟩ := hoA
  have HOLD := Lib.hid hold
  have hEN : ∀ W, (binOp .eql 48 (.slice (some oa) 4 oc) (.slice none 0 0)).run Tryz.prog W = .ok (.bool false) W := fun W => Lib.run_eql_slice_nil W _ _ _ _ _ _ _ Tryz.underlying48
  clear hold
  have HB2 := Lib.hid (And.intro hb2 (HB1.out.trans (hb2.mono HB1.out.size)))
  clear hb2 k0 k1 k2 k3 HCU
  obtain ⟨k0, k1, k2, k3⟩ := HCB.out w2 (CB4.of (HBX.out w2 HB2.out.1))
  go_upto_region 2 with fail
  go_cut [40] from 19 to 40 (fun v40 wx => v40 = .bool false ∧ w2 = wx)
  case first =>
    by_cases hD0 : D = 0
    · have hd0 : ¬ (0 : Int) < (D : Int) := by omega
      clear hD0
      go_wp2_with fail
      go_meet
      exact ⟨rfl, rfl⟩
    · have hd0 : (0 : Int) < (D : Int) := by omega
      clear hD0
      go_wp2_with fail
      go_meet
      exact ⟨rfl, rfl⟩
  case rest =>
    obtain ⟨rfl, rfl⟩ := hcut
    have hD6 : ¬ (6 : Int) < (D : Int) := by omega
    obtain ⟨x0, x1, x2, x4, x5⟩ := HPX.out w2 HB2.out.2
    rw [HVA.out] at x5
    go_upto_region 8 with fail
    go_cut [8, 9] from 49 to 62 (fun v8 v9 wx => v9 = .int .i64 0 ∧ ∃ A4 n4 c4 rs', v8 = .slice A4 n4 c4 ∧ InO w2.heap.size w2 wx (.slice A4 n4 c4) rs' (iData false a b))
    case first =>
      have HSX : Hid (∀ W, Below w2.heap.size w2 W → W.cell? ⟨px, 0, none⟩ = some (.slice s.TA s.tabs.length s.tc) ∧ W.cell? ⟨px, 1, none⟩ = some (.slice s.FA s.fks.length s.fc) ∧ W.cell? ⟨px, 2, none⟩ = some (.slice s.NA s.cns.length s.nc) ∧ W.cell? ⟨px, 4, none⟩ = some (.slice IA rs.length ic) ∧ W.cell? ⟨w.heap.size, 0, none⟩ = some (.int .i64 2) ∧ W.cell? ⟨w.heap.size, 1, none⟩ = some (.string nItem) ∧ W.cell? ⟨w.heap.size, 2, none⟩ = some (.slice ch.key.A 1 ch.key.c) ∧ W.cell? ⟨w.heap.size, 3, none⟩ = some (.slice ch.row.A 0 ch.row.c)) := Lib.hid fun W hW => by
        obtain ⟨x0, x1, x2, x4, -⟩ := HPX.out W (HB2.out.2.trans (hW.mono HB2.out.2.size))
        exact ⟨x0, x1, x2, x4, HCB.out W (CB4.of (HBX.out W (HB2.out.1.trans (hW.mono HB2.out.1.size))))⟩
      have HAC : Hid (∀ m, Calls Tryz.prog 74 #[.agg #[.slice s.TA s.tabs.length s.tc, .slice s.FA s.fks.length s.fc, .slice s.NA s.cns.length s.nc], .slice IA rs.length ic, .slice (some ⟨w2.heap.size, 0, none⟩) 1 1] ((w2.drewN m).alloc (.cells #[.int .i64 2, .string nItem, .slice ch.key.A 1 ch.key.c, .slice ch.row.A 0 ch.row.c] 51)) fun e w4 => ∃ A4 n4 c4 rs', e = .returned (.tuple #[.slice A4 n4 c4, .int .i64 0]) ∧ Below w2.heap.size w2 w4 ∧ Hid (InO w2.heap.size w2 w4 (.slice A4 n4 c4) rs' (iData false a b))) := Lib.hid fun m => by
        have hd : Below w2.heap.size w2 (w2.drewN m) := below_drewN (Below.refl _ _) m
        have hc := HAP.out (w2.drewN m) (HB2.out.2.trans (hd.mono HB2.out.2.size))
        refine hc.mono ?_
        rintro e w4 ⟨v4, rs', rfl, ho⟩
        obtain ⟨A4, c4, rfl, -, -⟩ := ho.own.form
        have ho' : InO w2.heap.size w2 w4 (.slice A4 rs'.length c4) rs' (iData false a b) := ⟨ho.own.mono hd.size, ho.dat, fun r hr => (ho.rel r hr).more fun g hg => ⟨Nat.le_trans hd.size hg.1, hg.2⟩, hd.trans (ho.bel.mono hd.size)⟩
        exact ⟨A4, _, c4, rs', rfl, ho'.bel, Lib.hid ho'⟩
      have s2 := HSX.out w2 (Below.refl _ _)
      have hsa : ∀ o, Below w2.heap.size w2 (w2.drew.alloc o) := fun o => (Below.refl _ _).drew.alloc (Nat.le_refl _) o
      have HSA := Lib.hid fun o => HSX.out _ (hsa o)
      clear hsa x0 x1 x2 x4 x5 k0 k1 k2 k3
      go_region_held3 (fun W => W.cell? ⟨px, 0, none⟩ = some (.slice s.TA s.tabs.length s.tc) ∧ W.cell? ⟨px, 1, none⟩ = some (.slice s.FA s.fks.length s.fc) ∧ W.cell? ⟨px, 2, none⟩ = some (.slice s.NA s.cns.length s.nc) ∧ W.cell? ⟨px, 4, none⟩ = some (.slice IA rs.length ic) ∧ W.cell? ⟨w.heap.size, 0, none⟩ = some (.int .i64 2) ∧ W.cell? ⟨w.heap.size, 1, none⟩ = some (.string nItem) ∧ W.cell? ⟨w.heap.size, 2, none⟩ = some (.slice ch.key.A 1 ch.key.c) ∧ W.cell? ⟨w.heap.size, 3, none⟩ = some (.slice ch.row.A 0 ch.row.c)) (first | exact s2 | exact s4 | exact HSA.out _)
        (first
        | (go_at_call 74; refine (HAC.out 1).mono ?_; rintro e w4 ⟨A4, n4, c4, rs', rfl, hb4, HIO⟩; have s4 := HSX.out w4 hb4))
      all_goals
        clear hb4 s4
        go_wp2_with fail
        go_meet
        exact ⟨rfl, A4, n4, c4, rs', rfl, HIO.out⟩
    case rest =>
      obtain ⟨rfl, A4, n4, c4, rs', rfl, hio⟩ := hcut
      obtain ⟨w4, rfl⟩ : ∃ w4, w4 = wc := ⟨_, rfl⟩
      clear x0 x1 x2 x4 x5 k0 k1 k2 k3 HAP
      have hb24 := hio.bel
      have hb14 := HB2.out.1.trans (hb24.mono HB2.out.1.size)
      have hbw4 := HB2.out.2.trans (hb24.mono HB2.out.2.size)
      obtain ⟨k0, k1, k2, k3⟩ := HCB.out w4 (CB4.of (HBX.out w4 hb14))
      obtain ⟨-, -, -, -, x5⟩ := HPX.out w4 hbw4
      rw [HVA.out] at x5
      have HX2 := Lib.hid (HH.out.x.below HB2.out.2)
      have hd4 : Below w4.heap.size w4 w4.drew := (Below.refl _ _).drew
      have hio' : InO w2.heap.size w2 w4.drew (.slice A4 n4 c4) rs' (iData false a b) := hio.below hd4 hb24.size
      have HAP2 : Hid (∀ ty, ∃ v5 w5, (Builtin.append_ #[32, 32] ty #[.slice VA m vc, .slice (some ⟨w4.heap.size, 0, none⟩) 1 1]).run Tryz.prog (w4.drew.alloc (.cells #[.int .i64 2, .string nItem, .slice ch.key.A 1 ch.key.c, .slice ch.row.A 0 ch.row.c] 51)) = .ok v5 w5
          ∧ ∃ A5 n5 c5, v5 = .slice A5 n5 c5 ∧ Hid (∀ W, (W = w5 ∨ W = w5.setCell ⟨px, 4, none⟩ (.slice A4 n4 c4) ∨ W = (w5.setCell ⟨px, 4, none⟩ (.slice A4 n4 c4)).setCell ⟨px, 5, none⟩ (.slice A5 n5 c5)) → W.cell? ⟨w.heap.size, 0, none⟩ = some (.int .i64 2) ∧ W.cell? ⟨w.heap.size, 1, none⟩ = some (.string nItem) ∧ W.cell? ⟨w.heap.size, 2, none⟩ = some (.slice ch.key.A 1 ch.key.c) ∧ W.cell? ⟨w.heap.size, 3, none⟩ = some (.slice ch.row.A 0 ch.row.c))
            ∧ (∃ q, w5.cell? ⟨px, 4, none⟩ = some q) ∧ (∃ q, w5.cell? ⟨px, 5, none⟩ = some q) ∧ (w5.frozen? ⟨px, 4, none⟩ = false ∧ w5.frozen? ⟨px, 5, none⟩ = false) ∧ Hid (PS B px s TA tc [tRem RA RB, tAdd AA AB ac] a b false (D + 1) va w2 ((w5.setCell ⟨px, 4, none⟩ (.slice A4 n4 c4)).setCell ⟨px, 5, none⟩ (.slice A5 n5 c5)))) := Lib.hid fun ty => by
        have hfb : Free px va w2 w.heap.size := HFB.out.up HB2.out.1.size
        obtain ⟨v5, w5, hrun, A5, n5, c5, rfl, q1, q2, q3, q4, q5, q6, q7⟩ := HX2.out.append hio' (g := w.heap.size) hfb (HBX.out w2 HB2.out.1) (n := D + 1) (by have := HM.out; omega) (by omega) ty
        have hkl : ch.key.row.length = 1 := by rcases HH.out.cd with ⟨h1, h2, h3⟩ | ⟨h1, h2, h3⟩ <;> first | (exact absurd h1 (by decide)) | (rw [h2]; rfl)
        have hrl : ch.row.row.length = 0 := by rcases HH.out.cd with ⟨h1, h2, h3⟩ | ⟨h1, h2, h3⟩ <;> first | (exact absurd h1 (by decide)) | (rw [h3]; rfl)
        rw [HVA.out, HH.out.ck, HH.out.cn, hkl, hrl] at hrun
        refine ⟨_, w5, hrun, A5, n5, c5, rfl, Lib.hid fun W hW => ?_, q4, q5, q6, q7⟩
        rcases hW with rfl | rfl | rfl
        · exact HCB.out _ q1
        · exact HCB.out _ q2
        · exact HCB.out _ q3
      have hsa : ∀ o, Below w4.heap.size w4 (w4.drew.alloc o) := fun o => hd4.alloc (Nat.le_refl _) o
      have x5a : ∀ o, (w4.alloc o).cell? ⟨px, 5, none⟩ = some (.slice VA m vc) := fun o => by rw [← HVA.out]; exact (HPX.out _ (hbw4.alloc hbw4.size o)).2.2.2.2
      have HSA := Lib.hid fun o => HCB.out _ (CB4.of (HBX.out _ (hb14.trans ((hsa o).mono hb14.size))))
      have s4 := And.intro k0 (And.intro k1 (And.intro k2 k3))
      clear hio hb24 hb14 hbw4 hd4 hio' hsa
      go_upto_region 11 with fail
      go_cut [] from 66 to 79 (fun wx => PS B px s TA tc [tRem RA RB, tAdd AA AB ac] a b false (D + 1) va w2 wx ∧ (wx.cell? ⟨w.heap.size, 0, none⟩ = some (.int .i64 2) ∧ wx.cell? ⟨w.heap.size, 1, none⟩ = some (.string nItem) ∧ wx.cell? ⟨w.heap.size, 2, none⟩ = some (.slice ch.key.A 1 ch.key.c) ∧ wx.cell? ⟨w.heap.size, 3, none⟩ = some (.slice ch.row.A 0 ch.row.c)))
      case first =>
        refine wp_region_held_drew (S := (fun wx => wx.cell? ⟨w.heap.size, 0, none⟩ = some (.int .i64 2) ∧ wx.cell? ⟨w.heap.size, 1, none⟩ = some (.string nItem) ∧ wx.cell? ⟨w.heap.size, 2, none⟩ = some (.slice ch.key.A 1 ch.key.c) ∧ wx.cell? ⟨w.heap.size, 3, none⟩ = some (.slice ch.row.A 0 ch.row.c))) (by kernel_rfl) s4 (fun hHeld => ?_)
        refine wpAnyH_take (i := 0) (oi := _) (v := ?_) rfl (by kernel_rfl) (by kernel_rfl) (by kernel_rfl) (fun _ _ _ h => h) (Or.inl ⟨by rfl, ?_⟩) hHeld ?_
        rotate_left
        · intro w hSw; (try dsimp only at hSw); go_simp; with_reducible rfl
        simp only [Act.put, List.setIfInBounds_toArray, List.set_cons_zero, List.set_cons_succ, List.getElem_toArray, List.getElem_cons_succ, List.getElem_cons_zero]
        refine wpAnyH_take (i := 1) (oi := _) (v := ?_) rfl (by kernel_rfl) (by kernel_rfl) (by kernel_rfl) (fun _ _ _ h => h) (Or.inl ⟨by rfl, ?_⟩) hHeld ?_
        rotate_left
        · intro w hSw; (try dsimp only at hSw); go_simp; with_reducible rfl
        simp only [Act.put, List.setIfInBounds_toArray, List.set_cons_zero, List.set_cons_succ, List.getElem_toArray, List.getElem_cons_succ, List.getElem_cons_zero]
        refine wpAnyH_take (i := 2) (oi := _) (v := ?_) rfl (by kernel_rfl) (by kernel_rfl) (by kernel_rfl) (fun _ _ _ h => h) (Or.inl ⟨by rfl, ?_⟩) hHeld ?_
        rotate_left
        · intro w hSw; (try dsimp only at hSw); go_simp; with_reducible rfl
        simp only [Act.put, List.setIfInBounds_toArray, List.set_cons_zero, List.set_cons_succ, List.getElem_toArray, List.getElem_cons_succ, List.getElem_cons_zero]
        refine wpAnyH_take (i := 3) (oi := _) (v := ?_) rfl (by kernel_rfl) (by kernel_rfl) (by kernel_rfl) (fun _ _ _ h => h) (Or.inl ⟨by rfl, ?_⟩) hHeld ?_
        rotate_left
        · intro w hSw; (try dsimp only at hSw); go_simp; with_reducible rfl
        simp only [Act.put, List.setIfInBounds_toArray, List.set_cons_zero, List.set_cons_succ, List.getElem_toArray, List.getElem_cons_succ, List.getElem_cons_zero]
        refine wpAnyH_take (i := 4) (oi := _) (v := ?_) rfl (by kernel_rfl) (by kernel_rfl) (by kernel_rfl) (fun _ _ _ h => h) (Or.inl ⟨by rfl, ?_⟩) hHeld ?_
        rotate_left
        · intro w hSw; (try dsimp only at hSw); go_simp; with_reducible rfl
        simp only [Act.put, List.setIfInBounds_toArray, List.set_cons_zero, List.set_cons_succ, List.getElem_toArray, List.getElem_cons_succ, List.getElem_cons_zero]
        refine wpAnyH_take (i := 5) (oi := _) (v := ?_) rfl (by kernel_rfl) (by kernel_rfl) (by kernel_rfl) (fun _ _ _ h => h) (Or.inl ⟨by rfl, ?_⟩) hHeld ?_
        rotate_left
        · intro w hSw; (try dsimp only at hSw); go_simp; with_reducible rfl
        simp only [Act.put, List.setIfInBounds_toArray, List.set_cons_zero, List.set_cons_succ, List.getElem_toArray, List.getElem_cons_succ, List.getElem_cons_zero]
        refine wpAnyH_take (i := 7) (oi := _) (v := ?_) rfl (by kernel_rfl) (by kernel_rfl) (by kernel_rfl) (fun _ _ _ h => h) (Or.inl ⟨by rfl, ?_⟩) hHeld ?_
        rotate_left
        · intro w hSw; (try dsimp only at hSw); go_simp; with_reducible rfl
        simp only [Act.put, List.setIfInBounds_toArray, List.set_cons_zero, List.set_cons_succ, List.getElem_toArray, List.getElem_cons_succ, List.getElem_cons_zero]
        refine wpAnyH_ready (rs := [6, 8]) (by kernel_rfl) (by simp) ?_
        refine AllReadyH.cons (o := _) rfl (fun K hK => ?_) (AllReadyH.cons (o := _) rfl (fun K hK => ?_) AllReadyH.nil)
        · go_simp
          refine hK.out _ _ hHeld (fun hHeld => ?_)
          clear hK K
          try simp only [Act.put, List.setIfInBounds_toArray, List.set_cons_zero, List.set_cons_succ, List.getElem_toArray, List.getElem_cons_succ, List.getElem_cons_zero]
          refine wpAnyH_ready (rs := [8]) (by kernel_rfl) (by simp) ?_
          refine AllReadyH.cons (o := _) rfl (fun K hK => ?_) AllReadyH.nil
          go_simp
          refine hK.out _ _ (HSA.out _) (fun hHeld => ?_)
          clear hK K
          try simp only [Act.put, List.setIfInBounds_toArray, List.set_cons_zero, List.set_cons_succ, List.getElem_toArray, List.getElem_cons_succ, List.getElem_cons_zero]
          refine wpAnyH_ready (rs := [9]) (by kernel_rfl) (by simp) ?_
          refine AllReadyH.cons (o := _) rfl (fun K hK => ?_) AllReadyH.nil
          (refine step_app (by rfl) (.tmp 72) (.tmp 74) _ _ (by rfl) (by rfl) (by rfl) (HAP2.out _) ?_; rintro v5 w5 ⟨A5, n5, c5, rfl, HC5, ⟨q4, hq4⟩, ⟨q5, hq5⟩, ⟨hf4, hf5⟩, HPS⟩; have s5 := HC5.out _ (.inl rfl); have s6 := HC5.out _ (.inr (.inl rfl)); have s7 := HC5.out _ (.inr (.inr rfl)))
          refine hK.out _ _ s5 (fun hHeld => ?_)
          clear hK K
          try simp only [Act.put, List.setIfInBounds_toArray, List.set_cons_zero, List.set_cons_succ, List.getElem_toArray, List.getElem_cons_succ, List.getElem_cons_zero]
          refine wpAnyH_take (i := 10) (oi := _) (v := ?_) rfl (by kernel_rfl) (by kernel_rfl) (by kernel_rfl) (fun _ _ _ h => h) (Or.inl ⟨by rfl, ?_⟩) hHeld ?_
          rotate_left
          · intro w hSw; (try dsimp only at hSw); go_simp; with_reducible rfl
          simp only [Act.put, List.setIfInBounds_toArray, List.set_cons_zero, List.set_cons_succ, List.getElem_toArray, List.getElem_cons_succ, List.getElem_cons_zero]
          refine wpAnyH_take (i := 11) (oi := _) (v := ?_) rfl (by kernel_rfl) (by kernel_rfl) (by kernel_rfl) (fun _ _ _ h => h) (Or.inl ⟨by rfl, ?_⟩) hHeld ?_
          rotate_left
          · intro w hSw; (try dsimp only at hSw); go_simp; with_reducible rfl
          simp only [Act.put, List.setIfInBounds_toArray, List.set_cons_zero, List.set_cons_succ, List.getElem_toArray, List.getElem_cons_succ, List.getElem_cons_zero]
          refine wpAnyH_ready (rs := [12]) (by kernel_rfl) (by simp) ?_
          refine AllReadyH.cons (o := _) rfl (fun K hK => ?_) AllReadyH.nil
          go_simp
          refine hK.out _ _ s6 (fun hHeld => ?_)
          clear hK K
          try simp only [Act.put, List.setIfInBounds_toArray, List.set_cons_zero, List.set_cons_succ, List.getElem_toArray, List.getElem_cons_succ, List.getElem_cons_zero]
          refine wpAnyH_take (i := 13) (oi := _) (v := ?_) rfl (by kernel_rfl) (by kernel_rfl) (by kernel_rfl) (fun _ _ _ h => h) (Or.inl ⟨by rfl, ?_⟩) hHeld ?_
          rotate_left
          · intro w hSw; (try dsimp only at hSw); go_simp; with_reducible rfl
          simp only [Act.put, List.setIfInBounds_toArray, List.set_cons_zero, List.set_cons_succ, List.getElem_toArray, List.getElem_cons_succ, List.getElem_cons_zero]
          refine wpAnyH_take (i := 14) (oi := _) (v := ?_) rfl (by kernel_rfl) (by kernel_rfl) (by kernel_rfl) (fun _ _ _ h => h) (Or.inl ⟨by rfl, ?_⟩) hHeld ?_
          rotate_left
          · intro w hSw; (try dsimp only at hSw); go_simp; with_reducible rfl
          simp only [Act.put, List.setIfInBounds_toArray, List.set_cons_zero, List.set_cons_succ, List.getElem_toArray, List.getElem_cons_succ, List.getElem_cons_zero]
          refine wpAnyH_ready (rs := [15]) (by kernel_rfl) (by simp) ?_
          refine AllReadyH.cons (o := _) rfl (fun K hK => ?_) AllReadyH.nil
          go_simp
          refine hK.out _ _ s7 (fun hHeld => ?_)
          clear hK K
          try simp only [Act.put, List.setIfInBounds_toArray, List.set_cons_zero, List.set_cons_succ, List.getElem_toArray, List.getElem_cons_succ, List.getElem_cons_zero]
          refine wpAnyH_done (by kernel_rfl) ?_ _
          go_wp2_with fail
          go_meet
          exact ⟨HPS.out, s7⟩
        · go_simp
          refine hK.out _ _ (HSA.out _) (fun hHeld => ?_)
          clear hK K
          try simp only [Act.put, List.setIfInBounds_toArray, List.set_cons_zero, List.set_cons_succ, List.getElem_toArray, List.getElem_cons_succ, List.getElem_cons_zero]
          refine wpAnyH_ready (rs := [6]) (by kernel_rfl) (by simp) ?_
          refine AllReadyH.cons (o := _) rfl (fun K hK => ?_) AllReadyH.nil
          go_simp
          refine hK.out _ _ hHeld (fun hHeld => ?_)
          clear hK K
          try simp only [Act.put, List.setIfInBounds_toArray, List.set_cons_zero, List.set_cons_succ, List.getElem_toArray, List.getElem_cons_succ, List.getElem_cons_zero]
          refine wpAnyH_ready (rs := [9]) (by kernel_rfl) (by simp) ?_
          refine AllReadyH.cons (o := _) rfl (fun K hK => ?_) AllReadyH.nil
          (refine step_app (by rfl) (.tmp 72) (.tmp 74) _ _ (by rfl) (by rfl) (by rfl) (HAP2.out _) ?_; rintro v5 w5 ⟨A5, n5, c5, rfl, HC5, ⟨q4, hq4⟩, ⟨q5, hq5⟩, ⟨hf4, hf5⟩, HPS⟩; have s5 := HC5.out _ (.inl rfl); have s6 := HC5.out _ (.inr (.inl rfl)); have s7 := HC5.out _ (.inr (.inr rfl)))
          refine hK.out _ _ s5 (fun hHeld => ?_)
          clear hK K
          try simp only [Act.put, List.setIfInBounds_toArray, List.set_cons_zero, List.set_cons_succ, List.getElem_toArray, List.getElem_cons_succ, List.getElem_cons_zero]
          refine wpAnyH_take (i := 10) (oi := _) (v := ?_) rfl (by kernel_rfl) (by kernel_rfl) (by kernel_rfl) (fun _ _ _ h => h) (Or.inl ⟨by rfl, ?_⟩) hHeld ?_
          rotate_left
          · intro w hSw; (try dsimp only at hSw); go_simp; with_reducible rfl
          simp only [Act.put, List.setIfInBounds_toArray, List.set_cons_zero, List.set_cons_succ, List.getElem_toArray, List.getElem_cons_succ, List.getElem_cons_zero]
          refine wpAnyH_take (i := 11) (oi := _) (v := ?_) rfl (by kernel_rfl) (by kernel_rfl) (by kernel_rfl) (fun _ _ _ h => h) (Or.inl ⟨by rfl, ?_⟩) hHeld ?_
          rotate_left
          · intro w hSw; (try dsimp only at hSw); go_simp; with_reducible rfl
          simp only [Act.put, List.setIfInBounds_toArray, List.set_cons_zero, List.set_cons_succ, List.getElem_toArray, List.getElem_cons_succ, List.getElem_cons_zero]
          refine wpAnyH_ready (rs := [12]) (by kernel_rfl) (by simp) ?_
          refine AllReadyH.cons (o := _) rfl (fun K hK => ?_) AllReadyH.nil
          go_simp
          refine hK.out _ _ s6 (fun hHeld => ?_)
          clear hK K
          try simp only [Act.put, List.setIfInBounds_toArray, List.set_cons_zero, List.set_cons_succ, List.getElem_toArray, List.getElem_cons_succ, List.getElem_cons_zero]
          refine wpAnyH_take (i := 13) (oi := _) (v := ?_) rfl (by kernel_rfl) (by kernel_rfl) (by kernel_rfl) (fun _ _ _ h => h) (Or.inl ⟨by rfl, ?_⟩) hHeld ?_
          rotate_left
          · intro w hSw; (try dsimp only at hSw); go_simp; with_reducible rfl
          simp only [Act.put, List.setIfInBounds_toArray, List.set_cons_zero, List.set_cons_succ, List.getElem_toArray, List.getElem_cons_succ, List.getElem_cons_zero]
          refine wpAnyH_take (i := 14) (oi := _) (v := ?_) rfl (by kernel_rfl) (by kernel_rfl) (by kernel_rfl) (fun _ _ _ h => h) (Or.inl ⟨by rfl, ?_⟩) hHeld ?_
          rotate_left
          · intro w hSw; (try dsimp only at hSw); go_simp; with_reducible rfl
          simp only [Act.put, List.setIfInBounds_toArray, List.set_cons_zero, List.set_cons_succ, List.getElem_toArray, List.getElem_cons_succ, List.getElem_cons_zero]
          refine wpAnyH_ready (rs := [15]) (by kernel_rfl) (by simp) ?_
          refine AllReadyH.cons (o := _) rfl (fun K hK => ?_) AllReadyH.nil
          go_simp
          refine hK.out _ _ s7 (fun hHeld => ?_)
          clear hK K
          try simp only [Act.put, List.setIfInBounds_toArray, List.set_cons_zero, List.set_cons_succ, List.getElem_toArray, List.getElem_cons_succ, List.getElem_cons_zero]
          refine wpAnyH_done (by kernel_rfl) ?_ _
          go_wp2_with fail
          go_meet
          exact ⟨HPS.out, s7⟩
      case rest =>
        obtain ⟨⟨A6, c6, rs6, va6, qs6, hx6, hd6, hl6, hb6, hk6, hkp6⟩, hc6⟩ := hcut
        obtain ⟨w6, rfl⟩ : ∃ w6, w6 = wc := ⟨_, rfl⟩
        obtain ⟨k0', k1', k2', k3'⟩ := hc6
        clear k0 k1 k2 k3 x5 x5a HAP2 HSA s4 HCB HBX HPX HFB
        obtain ⟨tb, toff, rb, roff, ab, aoff, htg⟩ := hx6.tg.cells
        have htA := htg.t
        have hrA := htg.r
        have haA := htg.a
        subst htA hrA haA
        have y3 : w6.cell? ⟨px, 3, none⟩ = some (.slice (some ⟨tb, toff, none⟩) 2 tc) := by
          have h := hx6.blk
          unfold exC at h
          exact cell_of_row _ _ 3 _ _ _ h
        have hpx6 := hx6.lt
        have HC6 : Hid (∀ W, Below w6.heap.size w6 W → W.cell? ⟨w.heap.size, 0, none⟩ = some (.int .i64 2) ∧ W.cell? ⟨w.heap.size, 1, none⟩ = some (.string nItem)) := Lib.hid fun W hW => by
          have hlt : w.heap.size < w6.heap.size := World.block_lt_of_cell? w6 ⟨w.heap.size, 0, none⟩ k0'
          exact ⟨(hW.cell (p := ⟨w.heap.size, 0, none⟩) hlt).trans k0', (hW.cell (p := ⟨w.heap.size, 1, none⟩) hlt).trans k1'⟩
        have HTG : Hid (∀ W, Below w6.heap.size w6 W → TgC (some ⟨tb, toff, none⟩) (some ⟨rb, roff, none⟩) RB (some ⟨ab, aoff, none⟩) AB ac tb toff rb roff ab aoff (· < W.heap.size) W) := Lib.hid fun W hW => by
          obtain ⟨tb', toff', rb', roff', ab', aoff', h⟩ := ((hx6.below hW).tgw).cells
          have e1 := h.t
          have e2 := h.r
          have e3 := h.a
          injection e1 with e1
          injection e1 with e11 e12
          injection e2 with e2
          injection e2 with e21 e22
          injection e3 with e3
          injection e3 with e31 e32
          subst e11 e12 e21 e22 e31 e32
          exact h
        have HROW : Hid (KOk (Free px va6 w6) w6 ⟨(some oa), oc, iRow a b⟩) := Lib.hid (hk6 _ (HOLD.out.fr HB2.out.2))
        have HX6 := Lib.hid (And.intro hx6 (And.intro hd6 hl6))
        have HB6 : Hid (Below B w w6) := Lib.hid ((HB2.out.2.mono (Nat.le_trans HH.out.x.hB (Nat.le_of_lt HH.out.x.lt))).trans hb6)
        clear htg hx6 hd6 hl6 hb6 hk6 hkp6 HX2
        go_upto_region 15 with fail
        go_wp2_with fail
        go_loopw [91] (fun vi wr => (vi = .int .i64 0 ∧ w6 = wr) ∨ (vi = .int .i64 1 ∧ Below w6.heap.size w6 wr)) (fun vi _ => 1 - (intOf vi).toNat)
        case atStart => exact .inl ⟨rfl, rfl⟩
        case round =>
          rcases hrel with ⟨rfl, rfl⟩ | ⟨rfl, hbr⟩
          · obtain ⟨t0, t1, t2⟩ := (HTG.out w6 (Below.refl _ _)).t0
            obtain ⟨w7, hw7⟩ : ∃ w7, w7 = w6.alloc (.cells #[.int .i64 1, .string nItem, .slice (some ⟨rb, roff, none⟩) 1 1] 44) := ⟨_, rfl⟩
            have hb7 : Below w6.heap.size w6 w7 := by rw [hw7]; exact (Below.refl _ _).alloc (Nat.le_refl _) _
            have hg7 : w7.heap[w6.heap.size]? = some (.cells #[.int .i64 1, .string nItem, .slice (some ⟨rb, roff, none⟩) 1 1] 44 (0, 0)) := by rw [hw7]; exact heap_alloc_new w6 _
            have u0 := cell_of_row _ _ 0 _ _ _ hg7
            obtain ⟨k0, k1⟩ := HC6.out w7 hb7
            have HB7 := Lib.hid hb7
            have HW7 := Lib.hid hw7
            clear hw7 hb7 hg7
            go_upto_region 18 with fail
            rw [← HW7.out]
            go_wp2_with fail
            go_roundw
            case rel => exact .inr ⟨by go_num, HB7.out⟩
            case measure => simp [intOf]
          obtain ⟨wo, rfl⟩ : ∃ wo, wo = wr := ⟨_, rfl⟩
          obtain ⟨t0, t1, t2⟩ := (HTG.out wo hbr).t1
          obtain ⟨w7, hw7⟩ : ∃ w7, w7 = wo.alloc (.cells #[.int .i64 2, .string nItem, .slice (some ⟨ab, aoff, none⟩) 1 1] 44) := ⟨_, rfl⟩
          have hb7 : Below wo.heap.size wo w7 := by rw [hw7]; exact (Below.refl _ _).alloc (Nat.le_refl _) _
          have hg7 : w7.heap[wo.heap.size]? = some (.cells #[.int .i64 2, .string nItem, .slice (some ⟨ab, aoff, none⟩) 1 1] 44 (0, 0)) := by rw [hw7]; exact heap_alloc_new wo _
          have u0 := cell_of_row _ _ 0 _ _ _ hg7
          have u1 := cell_of_row _ _ 1 _ _ _ hg7
          have u2 := cell_of_row _ _ 2 _ _ _ hg7
          have hb67 := hbr.trans (hb7.mono hbr.size)
          obtain ⟨k0, k1⟩ := HC6.out w7 hb67
          have HB7 := Lib.hid hb67
          have HW7 := Lib.hid hw7
          clear hw7 hb7 hg7 hb67 hbr
          go_upto_region 18 with fail
          rw [← HW7.out]
          go_wp2_with fail
          go_loopw [110] (fun vi wr => vi = .int .i64 0 ∧ w7 = wr) (fun _ _ => 0)
          case atStart => exact ⟨rfl, rfl⟩
          case round =>
            obtain ⟨rfl, rfl⟩ := hrel
            obtain ⟨v0, v1, v2⟩ := (HTG.out w7 HB7.out).a1
            obtain ⟨w8, hw8⟩ : ∃ w8, w8 = w7.alloc (.cells #[.int .i64 1, .string nItem, .slice AB 4 ac] 105) := ⟨_, rfl⟩
            have hb8 : Below w7.heap.size w7 w8 := by rw [hw8]; exact (Below.refl _ _).alloc (Nat.le_refl _) _
            have hg8 : w8.heap[w7.heap.size]? = some (.cells #[.int .i64 1, .string nItem, .slice AB 4 ac] 105 (0, 0)) := by rw [hw8]; exact heap_alloc_new w7 _
            have z0 := cell_of_row _ _ 0 _ _ _ hg8
            have z1 := cell_of_row _ _ 1 _ _ _ hg8
            have z2 := cell_of_row _ _ 2 _ _ _ hg8
            have hb68 := HB7.out.trans (hb8.mono HB7.out.size)
            have hrow8 := HROW.out.fr hb68
            have hder := deriveW ⟨1, nItem, AB, ac, [0, 1, 2, 3]⟩ (some oa) oc (iRow a b) w8 (HTG.out w8 hb68).o1 (hrow8.more fun _ hg => hg.1).el (by show 4 ≤ 1000; omega) (by intro k hk; simp only [List.mem_cons, List.not_mem_nil, or_false] at hk; show 0 ≤ k ∧ k < 4; omega) (.inl rfl)
            have HDE : Hid (Calls Tryz.prog 75 #[.agg #[.int .i64 1, .string nItem, .slice AB 4 ac], .slice (some oa) 4 oc] w8 fun e w9 => ∃ A9 c9, e = .returned (.agg #[.int .i64 1, .string nItem, .slice none 0 0, .slice A9 4 c9]) ∧ Hid (Calls Tryz.prog 40 #[ptr px, .agg #[.int .i64 1, .string nItem, .slice none 0 0, .slice A9 4 c9], .int .i64 ((D : Int) + 1)] w9 fun e w' => e = .returned (.int .i64 14) ∧ Below B w w')) := Lib.hid (by
              refine hder.mono ?_
              rintro e w9 ⟨v9, rfl, ho9, hb9⟩
              obtain ⟨A9, c9, rfl, -, -⟩ := ho9.form
              refine ⟨A9, c9, rfl, Lib.hid ?_⟩
              have hb69 := hb68.trans (hb9.mono hb68.size)
              have hx9 := HX6.out.1.below hb69
              have hva9 := Own.lt HX6.out.1.app
              have hpx9 := HX6.out.1.lt
              have hs69 := hb68.size
              have hk9 : KOk (Free px va6 w9) w9 ⟨A9, c9, iRow a b⟩ := ⟨(ho9.elems valLay.len rfl).more fun g hg => by
                have h := Own.lt ho9 g hg
                exact ⟨h.2, by omega, fun e => by have := (hva9 g e).2; omega⟩, by show 4 ≤ 12; omega⟩
              have h := HNX.out ⟨1, nItem, ⟨none, 0, []⟩, ⟨A9, c9, iRow a b⟩⟩ _ _ _ _ _ w9 ⟨hx9, HX6.out.2.1, HX6.out.2.2, ⟨KOk.nil, hk9⟩, rfl, rfl, .inl ⟨rfl, rfl, rfl⟩⟩
              have hcast : ((D + 1 : Nat) : Int) = (D : Int) + 1 := by omega
              rw [hcast] at h
              refine h.mono ?_
              rintro e w' ⟨rfl, hb⟩
              exact ⟨rfl, (HB6.out.trans (hb69.mono (by have := HX6.out.1.hB; omega))).trans hb⟩)
            have HW8 := Lib.hid hw8
            clear hw8 hb8 hg8 hb68 hrow8 hder t0 t1 t2 u0 u1 u2
            go_upto_region 22 with fail
            rw [← HW8.out]
            go_wp2_with fail
            refine HDE.out.mono ?_
            rintro e w9 ⟨A9, c9, rfl, HAP9⟩
            go_wp2_with fail
            refine HAP9.out.mono ?_
            rintro e w10 ⟨rfl, hb10⟩
            have HF := Lib.hid hb10
            clear hb10
            go_wp2_with fail
            go_ret
            exact ⟨rfl, HF.out⟩
end Go.Proofs.YtefifkleamiabaaGreatDoor
