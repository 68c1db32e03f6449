/-
  The walk of change.Apply with one change: a delete of a key that is not there.
  Triggers in memory, and what Check asks of them here. No program's walk.
  The base schema, rows of items, the two triggers: that they fit. No program's walk.
  The walks of trigger.checkOperand and trigger.derive.
-/
import Derived.Test.YtefifkleamiabaaGreatDoorUm06
namespace Go.Proofs.YtefifkleamiabaaGreatDoor
open Go.RowKit Go.Sort

/-- Behind Delete: the store. -/
def ApDN (S : World → Prop) (w : World) (g i n c : Nat) (ds : List (ByteArray × List Row)) (e : Ending) (w' : World) : Prop :=
  ∃ A9 n9 c9, e = .returned (.tuple #[.slice A9 n9 c9, .bool false]) ∧ S w' ∧ S (w'.setCell ⟨g, i * 2 + 1, none⟩ (.slice A9 n9 c9)) ∧ (∃ q, w'.cell? ⟨g, i * 2 + 1, none⟩ = some q) ∧ w'.frozen? ⟨g, i * 2 + 1, none⟩ = false
    ∧ Hid (∃ rs', InO w.heap.size w (w'.setCell ⟨g, i * 2 + 1, none⟩ (.slice A9 n9 c9)) (.slice (some ⟨g, 0, none⟩) n c) rs' ds)

set_option linter.unusedSimpArgs false in
set_option maxRecDepth 100000 in
set_option maxHeartbeats 8000000 in
theorem applyDelNo (s : Sc) (A : Option Addr) (c : Nat) (rs : List RelM) (B : Option Addr) (d : Nat) (ch : ChM) (i : Nat) (w : World) (h : ApIn s A rs B ch i w) (hk : ch.kind = 2) (hi : i < rs.length) (hit : i < s.tabs.length) (hfd : rff s.tabs[i].pk ch.key.row (rs[i].rows.map Key.row) = false) :
    Calls Tryz.prog 74 #[s.v, .slice A rs.length c, .slice B 1 d] w fun e w' => e = .returned (.tuple #[.slice none 0 0, .int .i64 9]) ∧ Below w.heap.size w w' := by
  have HH := Lib.hid h
  have HFR := Lib.hid hfd
  have HSV := Lib.hid fun W (hW : Below w.heap.size w W) => schemaValidate s W (h.sc.on hW) h.val
  have HCF := Lib.hid fun W (hW : Below w.heap.size w W) => conforms s A c rs W (h.sc.on hW) (h.inst.on hW) h.fit
  have HCL := Lib.hid fun W (hW : Below w.heap.size w W) => instClone A c rs W (h.inst.on hW) (by have h1 := h.fit.len; have h2 := h.fit.max; omega) (fun r hr => by
    obtain ⟨j, hj, rfl⟩ := List.getElem_of_mem hr
    have := (h.fit.rel j hj (by rw [← h.fit.len]; exact hj)).len
    omega)
  have HVC := Lib.hid fun W (hW : Below w.heap.size w W) => validateCh s ch i W (h.sc.on hW) (h.ok.on hW) h.ch (by have := h.val.ntab; omega)
  have HFT := Lib.hid fun W (hW : Below w.heap.size w W) => findTable s ch.name W (h.sc.on hW) (by have := h.val.ntab; omega)
  have HFI := Lib.hid h.ch.fi
  obtain ⟨w1, hw1⟩ : ∃ w1, w1 = w.alloc (.cells s.cells 27) := ⟨_, rfl⟩
  have hb1 : Below w.heap.size w w1 := by rw [hw1]; exact (Below.refl _ _).alloc (Nat.le_refl _) _
  have hg0 : w1.heap[w.heap.size]? = some (.cells s.cells 27 (0, 0)) := by rw [hw1]; exact heap_alloc_new w _
  have hs1 : w.heap.size < w1.heap.size := by rw [hw1]; simp
  have HBK : Hid (∀ W, Below w1.heap.size w1 W → W.cell? ⟨w.heap.size, 0, none⟩ = some (.slice s.TA s.tabs.length s.tc) ∧ W.cell? ⟨w.heap.size, 1, none⟩ = some (.slice s.FA s.fks.length s.fc) ∧ W.cell? ⟨w.heap.size, 2, none⟩ = some (.slice s.NA s.cns.length s.nc)) := Lib.hid fun W hW => by
    have h0 := (hW.block w.heap.size hs1).trans hg0
    unfold Sc.cells at h0
    exact ⟨by rw [cell_of_row _ _ _ _ _ _ h0]; rfl, by rw [cell_of_row _ _ _ _ _ _ h0]; rfl, by rw [cell_of_row _ _ _ _ _ _ h0]; rfl⟩
  have HB1 := Lib.hid hb1
  have HW1 := Lib.hid hw1
  obtain ⟨c0, c1, c2⟩ := HBK.out w1 (Below.refl _ _)
  unfold Sc.cells at HW1
  unfold Sc.v Sc.cells at HSV HCF HVC HFT ⊢
  clear h hw1 hb1 hg0 hs1
  go_enter Tryz.func74, Tryz.ntmps74
  go_upto_region 1 with fail
  rw [← HW1.out]
  go_wp2_with fail
  refine (HSV.out w1 HB1.out).mono ?_
  rintro e w2 ⟨rfl, hb2⟩
  obtain ⟨d0, d1, d2⟩ := HBK.out w2 hb2
  have HB2 := Lib.hid (And.intro hb2 (HB1.out.trans (hb2.mono HB1.out.size)))
  clear hb2 c0 c1 c2
  go_wp2_with fail
  refine (HCF.out w2 HB2.out.2).mono ?_
  rintro e w3 ⟨rfl, hb3⟩
  have HB3 := Lib.hid (And.intro (HB2.out.1.trans (hb3.mono HB2.out.1.size)) (HB2.out.2.trans (hb3.mono HB2.out.2.size)))
  clear hb3 d0 d1 d2
  go_wp2_with fail
  refine (HCL.out w3 HB3.out.2).mono ?_
  rintro e w4 ⟨v4, rs4, rfl, hio⟩
  have hdat := hio.dat
  have hrl : rs4.length = rs.length := by
    have h := congrArg List.length hdat
    rwa [List.length_map, List.length_map] at h
  have hi4 : i < rs4.length := by rw [hrl]; exact hi
  have hdi : rs4[i].d = rs[i].d := by
    have h := congrArg (fun l => l[i]?) hdat
    simp only [List.getElem?_map, List.getElem?_eq_getElem hi4, List.getElem?_eq_getElem hi, Option.map_some] at h
    exact Option.some.inj h
  have hnm : rs4[i].name = s.tabs[i].name := by
    have h := congrArg Prod.fst hdi
    exact h.trans (HH.out.fit.name i hi hit)
  have hrw : rs4[i].rows.map Key.row = rs[i].rows.map Key.row := congrArg Prod.snd hdi
  have hrl24 : rs4[i].rows.length ≤ 24 := by
    have h := congrArg List.length hrw
    rw [List.length_map, List.length_map] at h
    rw [h]
    exact (HH.out.fit.rel i hi hit).len
  obtain ⟨g4, c4, cur4, hv4, -⟩ := hio.own.open_ (by omega)
  subst hv4
  have HIO := Lib.hid hio
  have HB4 := Lib.hid (And.intro (HB3.out.1.trans (hio.bel.mono HB3.out.1.size)) (HB3.out.2.trans (hio.bel.mono HB3.out.2.size)))
  have HD := Lib.hid (And.intro hi4 (And.intro hnm (And.intro hrw hrl24)))
  obtain ⟨n4, hn4⟩ : ∃ n4, rs4.length = n4 := ⟨_, rfl⟩
  rw [hn4]
  have hin4 : (i : Int) < (n4 : Int) := by omega
  have hi1000 : i ≤ 100 := by have := HH.out.val.ntab; omega
  have HN4 := Lib.hid hn4
  clear hio hdat hrl hdi hnm hrw hrl24 hn4
  go_wp2_with fail
  go_loopw [36] (fun vi wr => vi = .int .i64 0 ∧ w4 = wr) (fun vi _ => 1 - (intOf vi).toNat)
  case atStart => exact ⟨rfl, rfl⟩
  case round =>
    obtain ⟨rfl, rfl⟩ := hrel
    · obtain ⟨b, off, rfl, -, e0, e1, e2, e3⟩ := (HH.out.el.on HB4.out.2).chm
      obtain ⟨w5, hw5⟩ : ∃ w5, w5 = w4.alloc (.cells #[.int .i64 ch.kind, .string ch.name, .slice ch.key.A ch.key.row.length ch.key.c, .slice ch.row.A ch.row.row.length ch.row.c] 51) := ⟨_, rfl⟩
      have hb5 : Below w4.heap.size w4 w5 := by rw [hw5]; exact (Below.refl _ _).alloc (Nat.le_refl _) _
      have hg5 : w5.heap[w4.heap.size]? = some (.cells #[.int .i64 ch.kind, .string ch.name, .slice ch.key.A ch.key.row.length ch.key.c, .slice ch.row.A ch.row.row.length ch.row.c] 51 (0, 0)) := by rw [hw5]; exact heap_alloc_new w4 _
      have hs5 : w4.heap.size < w5.heap.size := by rw [hw5]; simp
      have HCB : Hid (∀ W, Below w5.heap.size w5 W → W.cell? ⟨w4.heap.size, 0, none⟩ = some (.int .i64 ch.kind) ∧ W.cell? ⟨w4.heap.size, 1, none⟩ = some (.string ch.name) ∧ W.cell? ⟨w4.heap.size, 2, none⟩ = some (.slice ch.key.A ch.key.row.length ch.key.c) ∧ W.cell? ⟨w4.heap.size, 3, none⟩ = some (.slice ch.row.A ch.row.row.length ch.row.c)) := Lib.hid fun W hW => by
        have h := (hW.block w4.heap.size hs5).trans hg5
        exact ⟨by rw [cell_of_row _ _ _ _ _ _ h]; rfl, by rw [cell_of_row _ _ _ _ _ _ h]; rfl, by rw [cell_of_row _ _ _ _ _ _ h]; rfl, by rw [cell_of_row _ _ _ _ _ _ h]; rfl⟩
      have HB5 := Lib.hid (And.intro (HB4.out.1.trans (hb5.mono HB4.out.1.size)) (And.intro (HB4.out.2.trans (hb5.mono HB4.out.2.size)) hb5))
      have HW5 := Lib.hid hw5
      have HV5 := Lib.hid (HVC.out w5 HB5.out.2.1)
      obtain ⟨k0, k1, k2, k3⟩ := HCB.out w5 (Below.refl _ _)
      obtain ⟨b0, b1, b2⟩ := HBK.out w5 HB5.out.1
      unfold ChM.cells at HV5
      rw [hk] at HV5 HW5 HCB k0 e0
      clear hw5 hb5 hg5 hs5
      go_upto_region 13 with fail
      rw [← HW5.out]
      go_wp2_with fail
      refine HV5.out.mono ?_
      rintro e w6 ⟨rfl, hb6⟩
      have HB6 := Lib.hid (And.intro (HB5.out.1.trans (hb6.mono HB5.out.1.size)) (And.intro (HB5.out.2.1.trans (hb6.mono HB5.out.2.1.size)) hb6))
      obtain ⟨k0, k1, k2, k3⟩ := HCB.out w6 hb6
      obtain ⟨b0, b1, b2⟩ := HBK.out w6 HB6.out.1
      have HF6 := Lib.hid (HFT.out w6 HB6.out.2.1)
      clear hb6
      go_wp2_with fail
      refine HF6.out.mono ?_
      rintro e w7 ⟨rfl, hb7⟩
      rw [HFI.out]
      have hmi : max (i : Int) 0 = (i : Int) := by omega
      have hdi : decide (0 ≤ (i : Int)) = true := decide_eq_true (by omega)
      unfold findV
      rw [hmi, hdi]
      have HB7 := Lib.hid (And.intro (HB6.out.1.trans (hb7.mono HB6.out.1.size)) (And.intro (HB6.out.2.1.trans (hb7.mono HB6.out.2.1.size)) (HB6.out.2.2.trans (hb7.mono HB6.out.2.2.size))))
      clear hb7 hmi hdi k0 k1 k2 k3 b0 b1 b2
      obtain ⟨k0, k1, k2, k3⟩ := HCB.out w7 HB7.out.2.2
      obtain ⟨b0, b1, b2⟩ := HBK.out w7 HB7.out.1
      have hsc7 := HH.out.sc.on HB7.out.2.1
      obtain ⟨tb, toff, hTA, -, t0, t1, t2⟩ := hsc7.tabs.tbl hit
      have htok := hsc7.tab _ (List.getElem_mem hit)
      have hit' : (i : Int) < (s.tabs.length : Int) := by omega
      rw [hTA] at b0
      obtain ⟨w8, hw8⟩ : ∃ w8, w8 = w7.alloc (.cells #[.string s.tabs[i].name, .slice s.tabs[i].CA s.tabs[i].cols.length s.tabs[i].cc, .slice s.tabs[i].PA s.tabs[i].pk.length s.tabs[i].pc] 71) := ⟨_, rfl⟩
      have hb8 : Below w7.heap.size w7 w8 := by rw [hw8]; exact (Below.refl _ _).alloc (Nat.le_refl _) _
      have hg8 : w8.heap[w7.heap.size]? = some (.cells #[.string s.tabs[i].name, .slice s.tabs[i].CA s.tabs[i].cols.length s.tabs[i].cc, .slice s.tabs[i].PA s.tabs[i].pk.length s.tabs[i].pc] 71 (0, 0)) := by rw [hw8]; exact heap_alloc_new w7 _
      have x0 : w8.cell? ⟨w7.heap.size, 0, none⟩ = some (.string s.tabs[i].name) := by rw [cell_of_row _ _ _ _ _ _ hg8]; rfl
      have x1 : w8.cell? ⟨w7.heap.size, 1, none⟩ = some (.slice s.tabs[i].CA s.tabs[i].cols.length s.tabs[i].cc) := by rw [cell_of_row _ _ _ _ _ _ hg8]; rfl
      have x2 : w8.cell? ⟨w7.heap.size, 2, none⟩ = some (.slice s.tabs[i].PA s.tabs[i].pk.length s.tabs[i].pc) := by rw [cell_of_row _ _ _ _ _ _ hg8]; rfl
      have hb58 := HB7.out.2.2.trans (hb8.mono HB7.out.2.2.size)
      have hb48 : Below w4.heap.size w4 w8 := HB5.out.2.2.trans (hb58.mono HB5.out.2.2.size)
      obtain ⟨y0, y1, y2, y3⟩ := HCB.out w8 hb58
      have hbw8 := HB7.out.2.1.trans (hb8.mono HB7.out.2.1.size)
      have hio8 := HIO.out.below hb48 HIO.out.bel.size
      obtain ⟨gb, goff, hge, -, z0, z1⟩ := hio8.inOk.el.rel hi4
      injection hge with hge
      injection hge with hge1 hge2
      subst hge1 hge2
      rw [Nat.zero_add] at z0 z1
      have hg4 : g4 < w4.heap.size := (Own.lt HIO.out.own g4 rfl).2
      have hs48 : w4.heap.size ≤ w7.heap.size := by have := HB5.out.2.2.size; have := HB7.out.2.2.size; omega
      have hs78 : w7.heap.size < w8.heap.size := by rw [hw8]; simp
      have hs58 : w4.heap.size < w8.heap.size := by omega
      have hup : ∀ m, Calls Tryz.prog 109 #[s.tabs[i].val, .slice rs4[i].A rs4[i].rows.length rs4[i].c, .slice ch.key.A ch.key.row.length ch.key.c] (w8.drewN m) (ApDN (fun W => W.cell? ⟨w7.heap.size, 0, none⟩ = some (.string s.tabs[i].name) ∧ W.cell? ⟨w7.heap.size, 1, none⟩ = some (.slice s.tabs[i].CA s.tabs[i].cols.length s.tabs[i].cc) ∧ W.cell? ⟨w7.heap.size, 2, none⟩ = some (.slice s.tabs[i].PA s.tabs[i].pk.length s.tabs[i].pc) ∧ W.cell? ⟨w4.heap.size, 2, none⟩ = some (.slice ch.key.A ch.key.row.length ch.key.c)) w g4 i n4 c4 ((rs.map RelM.d).set i (s.tabs[i].name, delRX s.tabs[i].pk ch.key.row (rs[i].rows.map Key.row)))) := fun m => by
        have hd : Below w8.heap.size w8 (w8.drewN m) := below_drewN (Below.refl _ _) m
        have hiod := hio8.below hd hio8.bel.size
        refine (relDelete s.tabs[i] rs4[i].A rs4[i].c rs4[i].rows ch.key (w8.drewN m) ((htok.on hb8).on hd) (hiod.inOk.rel _ (List.getElem_mem hi4)) ((HH.out.ok.key.on hbw8).on hd) (by have := HD.out.2.2.2; omega) (HH.out.ch.tab.2)).mono ?_
        rintro e w9 ⟨v9, ks9, rfl, hro⟩
        obtain ⟨A9, c9, rfl, -, -⟩ := hro.own.form
        rw [HD.out.2.2.1] at hro
        rw [HD.out.2.2.1, HFR.out]
        obtain ⟨o1, o2, o3⟩ := hiod.set hiod.bel.size hi4 hro s.tabs[i].name (fun r hr => by
          rw [List.getElem?_eq_getElem hi4] at hr
          injection hr with hr
          rw [← hr]
          exact HD.out.2.1)
        have hb89 : Below w8.heap.size w8 w9 := hd.trans hro.bel
        have x0' := (hb89.cell (p := ⟨w7.heap.size, 0, none⟩) hs78).trans x0
        have x1' := (hb89.cell (p := ⟨w7.heap.size, 1, none⟩) hs78).trans x1
        have x2' := (hb89.cell (p := ⟨w7.heap.size, 2, none⟩) hs78).trans x2
        have y2' := (hb89.cell (p := ⟨w4.heap.size, 2, none⟩) hs58).trans y2
        have hn7 : g4 ≠ w7.heap.size := by omega
        have hn4 : g4 ≠ w4.heap.size := by omega
        refine ⟨A9, _, c9, rfl, ⟨x0', x1', x2', y2'⟩, ⟨(World.cell?_setCell_far _ _ _ _ hn7).trans x0', (World.cell?_setCell_far _ _ _ _ hn7).trans x1', (World.cell?_setCell_far _ _ _ _ hn7).trans x2', (World.cell?_setCell_far _ _ _ _ hn4).trans y2'⟩, o2, o3, Lib.hid ⟨_, ⟨by rw [← HN4.out]; exact o1.own.mono HB3.out.2.size, o1.dat, fun r hr => (o1.rel r hr).more fun g hg => ⟨Nat.le_trans HB3.out.2.size hg.1, hg.2⟩, HB3.out.2.trans (o1.bel.mono HB3.out.2.size)⟩⟩⟩
      have HUP := Lib.hid hup
      have HW8 := Lib.hid hw8
      unfold Tbl.val at HUP
      clear hw8 hb8 hg8 hb58 hb48 hbw8 hio8 hup hsc7 htok hTA hg4 hs48 hs58 hs78
      generalize htn : s.tabs[i].name = tn at *
      have HTN := Lib.hid htn
      clear htn
      generalize rs4[i].A = oA at *
      generalize rs4[i].rows.length = on at *
      generalize rs4[i].c = oc at *
      go_upto_region 18 with fail
      rw [← HW8.out]
      go_upto_region 23 with fail
      go_cut [17] from 81 to 96 (fun v17 wx => v17 = .bool false ∧ ∃ rs', InO w.heap.size w wx (.slice (some ⟨g4, 0, none⟩) n4 c4) rs' ((rs.map RelM.d).set i (tn, delRX s.tabs[i].pk ch.key.row (rs[i].rows.map Key.row))))
      case first =>
        refine wp_region_held_drew (S := (fun W => W.cell? ⟨w7.heap.size, 0, none⟩ = some (.string tn) ∧ W.cell? ⟨w7.heap.size, 1, none⟩ = some (.slice s.tabs[i].CA s.tabs[i].cols.length s.tabs[i].cc) ∧ W.cell? ⟨w7.heap.size, 2, none⟩ = some (.slice s.tabs[i].PA s.tabs[i].pk.length s.tabs[i].pc) ∧ W.cell? ⟨w4.heap.size, 2, none⟩ = some (.slice ch.key.A ch.key.row.length ch.key.c))) (by kernel_rfl) ⟨x0, x1, x2, y2⟩ (fun hHeld => ?_)
        refine wpAnyH_take (i := 0) (oi := _) (v := ?_) rfl (by kernel_rfl) (by kernel_rfl) (by kernel_rfl) (fun _ _ _ h => h) (Or.inl ⟨by rfl, ?_⟩) hHeld ?_
        rotate_left
        · intro w hSw; (try dsimp only at hSw); go_simp; with_reducible rfl
        simp only [Act.put, List.setIfInBounds_toArray, List.set_cons_zero, List.set_cons_succ, List.getElem_toArray, List.getElem_cons_succ, List.getElem_cons_zero]
        refine wpAnyH_take (i := 1) (oi := _) (v := ?_) rfl (by kernel_rfl) (by kernel_rfl) (by kernel_rfl) (fun _ _ _ h => h) (Or.inl ⟨by rfl, ?_⟩) hHeld ?_
        rotate_left
        · intro w hSw; (try dsimp only at hSw); go_simp; with_reducible rfl
        simp only [Act.put, List.setIfInBounds_toArray, List.set_cons_zero, List.set_cons_succ, List.getElem_toArray, List.getElem_cons_succ, List.getElem_cons_zero]
        refine wpAnyH_take (i := 2) (oi := _) (v := ?_) rfl (by kernel_rfl) (by kernel_rfl) (by kernel_rfl) (fun _ _ _ h => h) (Or.inl ⟨by rfl, ?_⟩) hHeld ?_
        rotate_left
        · intro w hSw; (try dsimp only at hSw); go_simp; with_reducible rfl
        simp only [Act.put, List.setIfInBounds_toArray, List.set_cons_zero, List.set_cons_succ, List.getElem_toArray, List.getElem_cons_succ, List.getElem_cons_zero]
        refine wpAnyH_take (i := 3) (oi := _) (v := ?_) rfl (by kernel_rfl) (by kernel_rfl) (by kernel_rfl) (fun _ _ _ h => h) (Or.inl ⟨by rfl, ?_⟩) hHeld ?_
        rotate_left
        · intro w hSw; (try dsimp only at hSw); go_simp; with_reducible rfl
        simp only [Act.put, List.setIfInBounds_toArray, List.set_cons_zero, List.set_cons_succ, List.getElem_toArray, List.getElem_cons_succ, List.getElem_cons_zero]
        refine wpAnyH_take (i := 4) (oi := _) (v := ?_) rfl (by kernel_rfl) (by kernel_rfl) (by kernel_rfl) (fun _ _ _ h => h) (Or.inl ⟨by rfl, ?_⟩) hHeld ?_
        rotate_left
        · intro w hSw; (try dsimp only at hSw); go_simp; with_reducible rfl
        simp only [Act.put, List.setIfInBounds_toArray, List.set_cons_zero, List.set_cons_succ, List.getElem_toArray, List.getElem_cons_succ, List.getElem_cons_zero]
        refine wpAnyH_take (i := 5) (oi := _) (v := ?_) rfl (by kernel_rfl) (by kernel_rfl) (by kernel_rfl) (fun _ _ _ h => h) (Or.inl ⟨by rfl, ?_⟩) hHeld ?_
        rotate_left
        · intro w hSw; (try dsimp only at hSw); go_simp; with_reducible rfl
        simp only [Act.put, List.setIfInBounds_toArray, List.set_cons_zero, List.set_cons_succ, List.getElem_toArray, List.getElem_cons_succ, List.getElem_cons_zero]
        refine wpAnyH_take (i := 6) (oi := _) (v := ?_) rfl (by kernel_rfl) (by kernel_rfl) (by kernel_rfl) (fun _ _ _ h => h) (Or.inl ⟨by rfl, ?_⟩) hHeld ?_
        rotate_left
        · intro w hSw; (try dsimp only at hSw); go_simp; with_reducible rfl
        simp only [Act.put, List.setIfInBounds_toArray, List.set_cons_zero, List.set_cons_succ, List.getElem_toArray, List.getElem_cons_succ, List.getElem_cons_zero]
        refine wpAnyH_take (i := 8) (oi := _) (v := ?_) rfl (by kernel_rfl) (by kernel_rfl) (by kernel_rfl) (fun _ _ _ h => h) (Or.inl ⟨by rfl, ?_⟩) hHeld ?_
        rotate_left
        · intro w hSw; (try dsimp only at hSw); go_simp; with_reducible rfl
        simp only [Act.put, List.setIfInBounds_toArray, List.set_cons_zero, List.set_cons_succ, List.getElem_toArray, List.getElem_cons_succ, List.getElem_cons_zero]
        refine wpAnyH_take (i := 9) (oi := _) (v := ?_) rfl (by kernel_rfl) (by kernel_rfl) (by kernel_rfl) (fun _ _ _ h => h) (Or.inl ⟨by rfl, ?_⟩) hHeld ?_
        rotate_left
        · intro w hSw; (try dsimp only at hSw); go_simp; with_reducible rfl
        simp only [Act.put, List.setIfInBounds_toArray, List.set_cons_zero, List.set_cons_succ, List.getElem_toArray, List.getElem_cons_succ, List.getElem_cons_zero]
        refine wpAnyH_ready (rs := [7]) (by kernel_rfl) (by simp) ?_
        refine AllReadyH.cons (o := _) rfl (fun K hK => ?_) AllReadyH.nil
        go_simp
        refine hK.out _ _ hHeld (fun hHeld => ?_)
        clear hK K
        try simp only [Act.put, List.setIfInBounds_toArray, List.set_cons_zero, List.set_cons_succ, List.getElem_toArray, List.getElem_cons_succ, List.getElem_cons_zero]
        refine wpAnyH_ready (rs := [10]) (by kernel_rfl) (by simp) ?_
        refine AllReadyH.cons (o := _) rfl (fun K hK => ?_) AllReadyH.nil
        (go_simp; go_at_call 109; refine (HUP.out 1).mono ?_; rintro e w9 ⟨A9, n9, c9, rfl, s9, s9', ⟨q, v0⟩, v1, HIO9⟩; go_wp2_with fail)
        refine hK.out _ _ s9 (fun hHeld => ?_)
        clear hK K
        try simp only [Act.put, List.setIfInBounds_toArray, List.set_cons_zero, List.set_cons_succ, List.getElem_toArray, List.getElem_cons_succ, List.getElem_cons_zero]
        refine wpAnyH_take (i := 11) (oi := _) (v := ?_) rfl (by kernel_rfl) (by kernel_rfl) (by kernel_rfl) (fun _ _ _ h => h) (Or.inl ⟨by rfl, ?_⟩) hHeld ?_
        rotate_left
        · intro w hSw; (try dsimp only at hSw); go_simp; with_reducible rfl
        simp only [Act.put, List.setIfInBounds_toArray, List.set_cons_zero, List.set_cons_succ, List.getElem_toArray, List.getElem_cons_succ, List.getElem_cons_zero]
        refine wpAnyH_take (i := 12) (oi := _) (v := ?_) rfl (by kernel_rfl) (by kernel_rfl) (by kernel_rfl) (fun _ _ _ h => h) (Or.inl ⟨by rfl, ?_⟩) hHeld ?_
        rotate_left
        · intro w hSw; (try dsimp only at hSw); go_simp; with_reducible rfl
        simp only [Act.put, List.setIfInBounds_toArray, List.set_cons_zero, List.set_cons_succ, List.getElem_toArray, List.getElem_cons_succ, List.getElem_cons_zero]
        refine wpAnyH_take (i := 13) (oi := _) (v := ?_) rfl (by kernel_rfl) (by kernel_rfl) (by kernel_rfl) (fun _ _ _ h => h) (Or.inl ⟨by rfl, ?_⟩) hHeld ?_
        rotate_left
        · intro w hSw; (try dsimp only at hSw); go_simp; with_reducible rfl
        simp only [Act.put, List.setIfInBounds_toArray, List.set_cons_zero, List.set_cons_succ, List.getElem_toArray, List.getElem_cons_succ, List.getElem_cons_zero]
        refine wpAnyH_take (i := 14) (oi := _) (v := ?_) rfl (by kernel_rfl) (by kernel_rfl) (by kernel_rfl) (fun _ _ _ h => h) (Or.inl ⟨by rfl, ?_⟩) hHeld ?_
        rotate_left
        · intro w hSw; (try dsimp only at hSw); go_simp; with_reducible rfl
        simp only [Act.put, List.setIfInBounds_toArray, List.set_cons_zero, List.set_cons_succ, List.getElem_toArray, List.getElem_cons_succ, List.getElem_cons_zero]
        refine wpAnyH_take (i := 15) (oi := _) (v := ?_) rfl (by kernel_rfl) (by kernel_rfl) (by kernel_rfl) (fun _ _ _ h => h) (Or.inl ⟨by rfl, ?_⟩) hHeld ?_
        rotate_left
        · intro w hSw; (try dsimp only at hSw); go_simp; with_reducible rfl
        simp only [Act.put, List.setIfInBounds_toArray, List.set_cons_zero, List.set_cons_succ, List.getElem_toArray, List.getElem_cons_succ, List.getElem_cons_zero]
        refine wpAnyH_ready (rs := [16]) (by kernel_rfl) (by simp) ?_
        refine AllReadyH.cons (o := _) rfl (fun K hK => ?_) AllReadyH.nil
        go_simp
        refine hK.out _ _ s9' (fun hHeld => ?_)
        clear hK K
        try simp only [Act.put, List.setIfInBounds_toArray, List.set_cons_zero, List.set_cons_succ, List.getElem_toArray, List.getElem_cons_succ, List.getElem_cons_zero]
        refine wpAnyH_take (i := 17) (oi := _) (v := ?_) rfl (by kernel_rfl) (by kernel_rfl) (by kernel_rfl) (fun _ _ _ h => h) (Or.inl ⟨by rfl, ?_⟩) hHeld ?_
        rotate_left
        · intro w hSw; (try dsimp only at hSw); go_simp; with_reducible rfl
        simp only [Act.put, List.setIfInBounds_toArray, List.set_cons_zero, List.set_cons_succ, List.getElem_toArray, List.getElem_cons_succ, List.getElem_cons_zero]
        refine wpAnyH_done (by kernel_rfl) ?_ _
        all_goals
          clear s9 s9'
          go_wp2_with fail
          go_meet
          exact ⟨rfl, HIO9.out⟩
      case rest =>
        obtain ⟨rfl, rs', hex⟩ := hcut
        have HF := Lib.hid hex.bel
        clear hex
        go_wp2_with fail
        go_ret2
        exact ⟨rfl, HF.out⟩
end Go.Proofs.YtefifkleamiabaaGreatDoor

namespace Go.Proofs.YtefifkleamiabaaGreatDoor
open Go.RowKit Go.Sort

/-- An operand that names a column. -/
def opdCs (o : Int) : List Value := [.int .i64 o, .int .i64 0, .int .i64 0, .string ⟨#[]⟩]
theorem opdLay : Lay 4 opdCs := ⟨fun _ => rfl, fun x c hc => by simp [opdCs] at hc; rcases hc with rfl | rfl | rfl | rfl <;> rfl⟩
/-- An action. -/
structure Ac where
  kind : Int
  name : ByteArray
  A : Option Addr
  c : Nat
  ops : List Int
def Ac.cs (a : Ac) : List Value := [.int .i64 a.kind, .string a.name, .slice a.A a.ops.length a.c]
def Ac.val (a : Ac) : Value := .agg #[.int .i64 a.kind, .string a.name, .slice a.A a.ops.length a.c]
theorem acLay : Lay 3 Ac.cs := ⟨fun _ => rfl, fun x c hc => by simp [Ac.cs] at hc; rcases hc with rfl | rfl | rfl <;> rfl⟩
/-- A trigger. -/
structure Tr where
  kind : Int
  name : ByteArray
  A : Option Addr
  c : Nat
  acts : List Ac
def Tr.cs (t : Tr) : List Value := [.int .i64 t.kind, .string t.name, .slice t.A t.acts.length t.c]
theorem trLay : Lay 3 Tr.cs := ⟨fun _ => rfl, fun x c hc => by simp [Tr.cs] at hc; rcases hc with rfl | rfl | rfl <;> rfl⟩
structure TrOk (S : Nat → Prop) (w : World) (t : Tr) : Prop where
  el : Elems 3 Ac.cs w S t.A t.acts
  act : ∀ a ∈ t.acts, Elems 4 opdCs w S a.A a.ops
structure TgOk (S : Nat → Prop) (w : World) (A : Option Addr) (ts : List Tr) : Prop where
  el : Elems 3 Tr.cs w S A ts
  tr : ∀ t ∈ ts, TrOk S w t
section
variable {S S' : Nat → Prop} {w w' : World} {t : Tr} {A : Option Addr} {ts : List Tr}
theorem TrOk.keep (h : TrOk S w t) (hk : Keeps S w w') : TrOk S w' t := ⟨h.el.keep hk, fun a ha => (h.act a ha).keep hk⟩
theorem TrOk.more (h : TrOk S w t) (hs : ∀ k, S k → S' k) : TrOk S' w t := ⟨h.el.more hs, fun a ha => (h.act a ha).more hs⟩
theorem TrOk.on (h : TrOk (· < w.heap.size) w t) (hb : Below w.heap.size w w') : TrOk (· < w'.heap.size) w' t := ⟨h.el.on hb, fun a ha => (h.act a ha).on hb⟩
theorem TgOk.keep (h : TgOk S w A ts) (hk : Keeps S w w') : TgOk S w' A ts := ⟨h.el.keep hk, fun a ha => (h.tr a ha).keep hk⟩
theorem TgOk.more (h : TgOk S w A ts) (hs : ∀ k, S k → S' k) : TgOk S' w A ts := ⟨h.el.more hs, fun a ha => (h.tr a ha).more hs⟩
theorem TgOk.on (h : TgOk (· < w.heap.size) w A ts) (hb : Below w.heap.size w w') : TgOk (· < w'.heap.size) w' A ts := ⟨h.el.on hb, fun a ha => (h.tr a ha).on hb⟩
theorem Elems.opd {r : List Int} {k : Nat} (h : Elems 4 opdCs w S A r) (hk : k < r.length) : ∃ b off, A = some ⟨b, off, none⟩ ∧ S b ∧ w.cell? ⟨b, off + k * 4, none⟩ = some (.int .i64 r[k]) ∧ w.cell? ⟨b, off + k * 4 + 1, none⟩ = some (.int .i64 0) ∧ w.cell? ⟨b, off + k * 4 + 2, none⟩ = some (.int .i64 0) ∧ w.cell? ⟨b, off + k * 4 + 3, none⟩ = some (.string ⟨#[]⟩) := by
  obtain ⟨b, off, e, hb, hc⟩ := h.at_ hk
  exact ⟨b, off, e, hb, hc 0 _ rfl, hc 1 _ rfl, hc 2 _ rfl, hc 3 _ rfl⟩
theorem Elems.ac {r : List Ac} {k : Nat} (h : Elems 3 Ac.cs w S A r) (hk : k < r.length) : ∃ b off, A = some ⟨b, off, none⟩ ∧ S b ∧ w.cell? ⟨b, off + k * 3, none⟩ = some (.int .i64 r[k].kind) ∧ w.cell? ⟨b, off + k * 3 + 1, none⟩ = some (.string r[k].name) ∧ w.cell? ⟨b, off + k * 3 + 2, none⟩ = some (.slice r[k].A r[k].ops.length r[k].c) := by
  obtain ⟨b, off, e, hb, hc⟩ := h.at_ hk
  exact ⟨b, off, e, hb, hc 0 _ rfl, hc 1 _ rfl, hc 2 _ rfl⟩
theorem Elems.tr {r : List Tr} {k : Nat} (h : Elems 3 Tr.cs w S A r) (hk : k < r.length) : ∃ b off, A = some ⟨b, off, none⟩ ∧ S b ∧ w.cell? ⟨b, off + k * 3, none⟩ = some (.int .i64 r[k].kind) ∧ w.cell? ⟨b, off + k * 3 + 1, none⟩ = some (.string r[k].name) ∧ w.cell? ⟨b, off + k * 3 + 2, none⟩ = some (.slice r[k].A r[k].acts.length r[k].c) := by
  obtain ⟨b, off, e, hb, hc⟩ := h.at_ hk
  exact ⟨b, off, e, hb, hc 0 _ rfl, hc 1 _ rfl, hc 2 _ rfl⟩
end

/-- An operand that fits column c of the target. -/
structure OpC (t : Tbl) (o : Int) (c : Col) (nl : Bool) : Prop where
  pos : 0 ≤ o
  lt : o.toNat < t.cols.length
  kind : (t.cols.getD o.toNat col0).kind = c.kind
  null : (t.cols.getD o.toNat col0).null = false ∨ nl = true
/-- The columns that an action's operands go to. -/
def acCols (a : Ac) (t : Tbl) : List Col := if a.kind = 2 then t.pk.map fun k => t.cols.getD k.toNat col0 else t.cols
/-- An action that fits a trigger on table t. -/
structure AcC (s : Sc) (t : Tbl) (a : Ac) : Prop where
  kind : a.kind = 1 ∨ a.kind = 2
  tgt : ∃ j : Nat, ∃ h : j < s.tabs.length, tabI a.name s.tabs = (j : Int) ∧ a.ops.length = (acCols a s.tabs[j]).length ∧ a.ops.length ≤ 100
    ∧ (∀ k ∈ s.tabs[j].pk, 0 ≤ k ∧ k.toNat < s.tabs[j].cols.length)
    ∧ ∀ (k : Nat) (h1 : k < a.ops.length) (h2 : k < (acCols a s.tabs[j]).length), OpC t a.ops[k] (acCols a s.tabs[j])[k] (decide (a.kind = 1) && (acCols a s.tabs[j])[k].null)
/-- A trigger that fits. -/
structure TrC (s : Sc) (t : Tr) : Prop where
  kind : t.kind = 1 ∨ t.kind = 2
  tab : ∃ j : Nat, ∃ h : j < s.tabs.length, tabI t.name s.tabs = (j : Int) ∧ ∀ a ∈ t.acts, AcC s s.tabs[j] a
  len : t.acts.length ≤ 4
end Go.Proofs.YtefifkleamiabaaGreatDoor

namespace Go.Proofs.YtefifkleamiabaaGreatDoor
open Go.RowKit Go.Sort

def nItem : ByteArray := ⟨#[105, 116, 101, 109]⟩
def nOrder : ByteArray := ⟨#[111, 114, 100, 101, 114]⟩
def itemCols : List Col := [⟨⟨#[105, 100]⟩, 1, false⟩, ⟨⟨#[115, 105, 122, 101]⟩, 1, true⟩, ⟨⟨#[102, 105, 114, 115, 116]⟩, 3, false⟩, ⟨⟨#[108, 97, 115, 116]⟩, 3, false⟩]
def orderCols : List Col := [⟨⟨#[105, 100]⟩, 1, false⟩, ⟨⟨#[105, 116, 101, 109]⟩, 1, true⟩, ⟨⟨#[112, 97, 105, 100]⟩, 2, false⟩]
def bItem (A P : Option Addr) : Tbl := ⟨nItem, A, 4, itemCols, P, 1, [0]⟩
def bOrder (A P : Option Addr) : Tbl := ⟨nOrder, A, 3, orderCols, P, 1, [0]⟩
def bSc (T IA IP OA OP F FC N : Option Addr) : Sc := ⟨T, 2, [bItem IA IP, bOrder OA OP], F, 1, [⟨nOrder, FC, 1, [1], nItem⟩], N, 1, [⟨nItem, 1, ⟨#[60, 61]⟩, -1, ⟨1, 6, ⟨#[]⟩⟩⟩]⟩

theorem nItem_ok : NameV nItem := ⟨by decide +kernel, by decide +kernel, by decide +kernel, by decide +kernel⟩
theorem nOrder_ok : NameV nOrder := ⟨by decide +kernel, by decide +kernel, by decide +kernel, by decide +kernel⟩
theorem nm_ok (s : ByteArray) (h1 : 1 ≤ s.size := by decide +kernel) (h2 : s.size ≤ 12 := by decide +kernel)
    (h3 : ¬ (48 ≤ (s.data.toList.getD 0 0).toNat ∧ (s.data.toList.getD 0 0).toNat ≤ 57) := by decide +kernel)
    (h4 : ∀ j, j < s.size → (97 ≤ (s.data.toList.getD j 0).toNat ∧ (s.data.toList.getD j 0).toNat ≤ 122) ∨ (48 ≤ (s.data.toList.getD j 0).toNat ∧ (s.data.toList.getD j 0).toNat ≤ 57) := by decide +kernel) : NameV s := ⟨h1, h2, h3, h4⟩
theorem bItem_val (A P : Option Addr) : TabV (bItem A P) where
  name := nItem_ok
  ncols := by show 0 < 4 ∧ 4 ≤ 6; omega
  cname := fun c hc => by
    simp only [bItem, itemCols, List.mem_cons, List.not_mem_nil, or_false] at hc
    rcases hc with rfl | rfl | rfl | rfl <;> exact nm_ok _
  first := by show ∀ (i : Nat) (h : i < itemCols.length), max (colI itemCols[i].name itemCols) 0 = (i : Int); decide +kernel
  kind := by show ∀ c ∈ itemCols, 1 ≤ c.kind ∧ c.kind ≤ 3; decide +kernel
  npk := by show 0 < 1 ∧ 1 ≤ 1000; omega
  pk := by
    intro j h
    have h : j < 1 := h
    obtain rfl : j = 0 := by omega
    exact ⟨by show (0 : Int) ≤ 0; omega, by show 0 < 4; omega, rfl⟩
  ord := by show [(0 : Int)].Pairwise (· < ·); simp
theorem bOrder_val (A P : Option Addr) : TabV (bOrder A P) where
  name := nOrder_ok
  ncols := by show 0 < 3 ∧ 3 ≤ 6; omega
  cname := fun c hc => by
    simp only [bOrder, orderCols, List.mem_cons, List.not_mem_nil, or_false] at hc
    rcases hc with rfl | rfl | rfl <;> exact nm_ok _
  first := by show ∀ (i : Nat) (h : i < orderCols.length), max (colI orderCols[i].name orderCols) 0 = (i : Int); decide +kernel
  kind := by show ∀ c ∈ orderCols, 1 ≤ c.kind ∧ c.kind ≤ 3; decide +kernel
  npk := by show 0 < 1 ∧ 1 ≤ 1000; omega
  pk := by
    intro j h
    have h : j < 1 := h
    obtain rfl : j = 0 := by omega
    exact ⟨by show (0 : Int) ≤ 0; omega, by show 0 < 3; omega, rfl⟩
  ord := by show [(0 : Int)].Pairwise (· < ·); simp
section
variable {T IA IP OA OP F FC N : Option Addr}
theorem bSc_item : tabI nItem (bSc T IA IP OA OP F FC N).tabs = 0 := by
  refine fidx_at (k := 0) (by show 0 < 2; omega) ?_ (by intro x hx; cases hx)
  show (nItem.toList == nItem.toList) = true
  decide +kernel
theorem bSc_order : tabI nOrder (bSc T IA IP OA OP F FC N).tabs = 1 := by
  refine fidx_at (k := 1) (by show 1 < 2; omega) ?_ ?_
  · show (nOrder.toList == nOrder.toList) = true
    decide +kernel
  · intro x hx
    have hx : x ∈ [bItem IA IP] := hx
    rw [List.mem_singleton.1 hx]
    show (nItem.toList == nOrder.toList) = false
    decide +kernel
theorem bSc_val : SchV (bSc T IA IP OA OP F FC N) where
  ntab := by show 2 ≤ 6; omega
  tab := fun t ht => by
    simp only [bSc, List.mem_cons, List.not_mem_nil, or_false] at ht
    rcases ht with rfl | rfl
    · exact bItem_val _ _
    · exact bOrder_val _ _
  ord := by
    intro i h
    have h : i + 1 < 2 := h
    obtain rfl : i = 0 := by omega
    show Op.bytesLess nOrder.toList nItem.toList = false ∧ (nOrder.toList == nItem.toList) = false
    decide +kernel
  nfk := by show 1 ≤ 1; omega
  fk := fun f hf => by
    simp only [bSc, List.mem_cons, List.not_mem_nil, or_false] at hf
    subst hf
    refine ⟨by show 1 ≤ 1000; omega, 1, 0, by show 1 < 2; omega, by show 0 < 2; omega, bSc_order, bSc_item, rfl, ?_⟩
    intro j h h'
    have h : j < 1 := h
    obtain rfl : j = 0 := by omega
    show (0 : Int) ≤ 1 ∧ (1 : Int) < 3 ∧ (0 : Int) ≤ 0 ∧ (0 : Int) < 4 ∧ (1 : Int) = 1
    omega
  ncn := by show 1 ≤ 1; omega
  cn := fun c hc => by
    simp only [bSc, List.mem_cons, List.not_mem_nil, or_false] at hc
    subst hc
    exact ⟨0, 1, by show 0 < 2; omega, bSc_item, rfl, by show 1 < 4; omega, .inr (.inr rfl), rfl, rfl, by decide +kernel⟩
end

/-- An item's row. -/
def iRow (a b : Int) : Row := [⟨1, a, ⟨#[]⟩⟩, ⟨1, b, ⟨#[]⟩⟩, ⟨3, 0, ⟨#[]⟩⟩, ⟨3, 0, ⟨#[]⟩⟩]
theorem iErr {a : Int} (ha : 0 ≤ a ∧ a < 7) : (⟨1, a, ⟨#[]⟩⟩ : Val).err = 0 := by
  show vErr 1 a ⟨#[]⟩ = 0
  unfold vErr
  rw [if_neg (by omega), if_pos (.inl rfl), if_neg (by decide +kernel), if_neg (by omega)]
theorem iRow_ok {a b : Int} (ha : 0 ≤ a ∧ a < 7) (hb : 0 ≤ b ∧ b < 7) : RowC itemCols (iRow a b) where
  len := rfl
  err := fun v hv => by
    simp only [iRow, List.mem_cons, List.not_mem_nil, or_false] at hv
    rcases hv with rfl | rfl | rfl | rfl
    · exact iErr ha
    · exact iErr hb
    · decide +kernel
    · decide +kernel
  col := by
    intro i h
    have h : i < 4 := h
    rcases i with _ | _ | _ | _ | i
    · exact .inl ⟨rfl, by show (1 : Int) ≠ 0; omega⟩
    · exact .inl ⟨rfl, by show (1 : Int) ≠ 0; omega⟩
    · exact .inl ⟨rfl, by show (3 : Int) ≠ 0; omega⟩
    · exact .inl ⟨rfl, by show (3 : Int) ≠ 0; omega⟩
    · omega
def iKey (a : Int) : Row := [⟨1, a, ⟨#[]⟩⟩]
theorem iKey_ok {a : Int} (ha : 0 ≤ a ∧ a < 7) {A P : Option Addr} : KeyC (bItem A P) (iKey a) where
  len := rfl
  err := fun v hv => by
    simp only [iKey, List.mem_cons, List.not_mem_nil, or_false] at hv
    subst hv
    exact iErr ha
  col := by
    intro i h h'
    have h : i < 1 := h
    obtain rfl : i = 0 := by omega
    exact ⟨by show (0 : Int) ≤ 0; omega, by show 0 < 4; omega, rfl⟩
theorem cmpR_eq0 (k : Row) : cmpR k k = 0 := by have := cmpR_neg k k; omega
theorem rff_row (a b : Int) : rfi [0] (iKey a) [iRow a b] = 0 ∧ rff [0] (iKey a) [iRow a b] = true := by
  obtain ⟨h1, h2⟩ := rfi_at (pk := [0]) (key := iKey a) (rs := [iRow a b]) (k := 0) (by show 0 < 1; omega) (by show 0 ≤ cmpR (iKey a) (iKey a); rw [cmpR_eq0]; omega) (by intro r hr; cases hr)
  refine ⟨h1, h2.trans ?_⟩
  show decide (cmpR (iKey a) (iKey a) = 0) = true
  rw [cmpR_eq0]
  rfl
theorem del_item (a b : Int) : delRX [0] (iKey a) [iRow a b] = [] := by
  unfold delRX
  rw [if_pos (rff_row a b).2, (rff_row a b).1]
  rfl
/-- The instance's rows at item. -/
def iRows (full : Bool) (a b : Int) : List Row := if full = true then [iRow a b] else []
/-- An instance with these rows at item, and none at order. -/
def iData (full : Bool) (a b : Int) : List (ByteArray × List Row) := [(nItem, iRows full a b), (nOrder, [])]
/-- The two triggers. -/
def tRem (A B : Option Addr) : Tr := ⟨1, nItem, A, 1, [⟨2, nItem, B, 1, [0]⟩]⟩
def tAdd (A B : Option Addr) (c : Nat) : Tr := ⟨2, nItem, A, 1, [⟨1, nItem, B, c, [0, 1, 2, 3]⟩]⟩
end Go.Proofs.YtefifkleamiabaaGreatDoor

namespace Go.Proofs.YtefifkleamiabaaGreatDoor
open Go.RowKit Go.Sort

set_option maxRecDepth 100000 in
set_option maxHeartbeats 4000000 in
theorem checkOperand (t : Tbl) (o : Int) (c : Col) (nl : Bool) (w : World) (ht : TOk (· < w.heap.size) w t) (hl : t.cols.length ≤ 1000) (ho : OpC t o c nl) :
    Calls Tryz.prog 102 #[t.val, .agg #[.int .i64 o, .int .i64 0, .int .i64 0, .string ⟨#[]⟩], .agg #[.string c.name, .int .i64 c.kind, .bool c.null], .bool nl] w fun e w' => e = .returned (.int .i64 0) ∧ Below w.heap.size w w' := by
  obtain ⟨name, CA, cc, tc, PA, pc, pk⟩ := t
  obtain ⟨h0, h1, h2, h3⟩ := ho
  obtain ⟨j, rfl⟩ := Int.eq_ofNat_of_zero_le h0
  rw [Int.toNat_natCast] at h1 h2 h3
  have hj : j < tc.length := h1
  have hgd : tc.getD j col0 = tc[j] := by rw [List.getD_eq_getElem?_getD, List.getElem?_eq_getElem hj]; rfl
  simp only at h2 h3
  rw [hgd] at h2 h3
  obtain ⟨n, hn⟩ : ∃ n, tc.length = n := ⟨_, rfl⟩
  obtain ⟨w1, hw1⟩ : ∃ w1, w1 = ((w.alloc (.cells #[.string name, .slice CA n cc, .slice PA pk.length pc] 71)).alloc (.cells #[.int .i64 (j : Int), .int .i64 0, .int .i64 0, .string ⟨#[]⟩] 102)).alloc (.cells #[.string c.name, .int .i64 c.kind, .bool c.null] 68) := ⟨_, rfl⟩
  have hb1 : Below w.heap.size w w1 := by rw [hw1]; exact (((Below.refl _ _).alloc (Nat.le_refl _) _).alloc (le_size1 (Nat.le_refl _) _) _).alloc (le_size2 (Nat.le_refl _) _ _) _
  have g0 : w1.heap[w.heap.size]? = some (.cells #[.string name, .slice CA n cc, .slice PA pk.length pc] 71 (0, 0)) := by
    rw [hw1, Below.heap_alloc _ _ _ (by simp; omega), Below.heap_alloc _ _ _ (by simp)]
    exact heap_alloc_new w _
  have g1 : w1.heap[w.heap.size + 1]? = some (.cells #[.int .i64 (j : Int), .int .i64 0, .int .i64 0, .string ⟨#[]⟩] 102 (0, 0)) := by
    rw [hw1, Below.heap_alloc _ _ _ (by simp)]
    exact alloc2_at w _ _
  have g2 : w1.heap[w.heap.size + 1 + 1]? = some (.cells #[.string c.name, .int .i64 c.kind, .bool c.null] 68 (0, 0)) := by
    rw [hw1]
    have h := heap_alloc_new ((w.alloc (.cells #[.string name, .slice CA n cc, .slice PA pk.length pc] 71)).alloc (.cells #[.int .i64 (j : Int), .int .i64 0, .int .i64 0, .string ⟨#[]⟩] 102)) (.cells #[.string c.name, .int .i64 c.kind, .bool c.null] 68)
    simpa using h
  obtain ⟨b, off, hA, -, p0, p1, p2⟩ := (ht.on hb1).cols.col hj
  have p0 : w1.cell? ⟨b, off + j * 3, none⟩ = some (.string tc[j].name) := p0
  have p1 : w1.cell? ⟨b, off + j * 3 + 1, none⟩ = some (.int .i64 tc[j].kind) := p1
  have p2 : w1.cell? ⟨b, off + j * 3 + 2, none⟩ = some (.bool tc[j].null) := p2
  have hA : CA = some ⟨b, off, none⟩ := hA
  rw [h2] at p1
  subst hA
  have x0 := cell_of_row _ _ 1 _ _ _ g0
  have x1 := cell_of_row _ _ 0 _ _ _ g1
  have x2 := cell_of_row _ _ 1 _ _ _ g1
  have x3 := cell_of_row _ _ 2 _ _ _ g1
  have x4 := cell_of_row _ _ 3 _ _ _ g1
  have x5 : ∀ o, (w1.alloc o).cell? ⟨w.heap.size + 1 + 1, 1, none⟩ = some (.int .i64 c.kind) := fun o => by
    have h := (Below.heap_alloc w1 o (w.heap.size + 1 + 1) (Array.getElem?_eq_some_iff.1 g2).1).trans g2
    exact cell_of_row _ _ 1 _ _ _ h
  have hn1 : n ≤ 1000 := by rw [← hn]; exact hl
  have hjn : (j : Int) < (n : Int) := by omega
  have hj0 : ¬ ((j : Int) = -1) := by omega
  have hj1 : ((j : Int) == -1) = false := by simp
  have h3' : (tc[j].null && !nl) = false := by rcases h3 with h | h <;> simp [h]
  have HH := Lib.hid h3
  have HB1 := Lib.hid hb1
  have HW1 := Lib.hid hw1
  unfold Tbl.val
  simp only
  rw [hn]
  clear ht hl h0 h2 h3 hb1 hw1 g0 g1 g2 hgd
  generalize tc[j].name = cn at *
  generalize tc[j].null = cl at *
  go_enter Tryz.func102, Tryz.ntmps102
  go_upto_region 1 with fail
  rw [← HW1.out]
  cases cl with
  | false =>
    go_wp2_with fail
    go_ret
    exact ⟨rfl, HB1.out.alloc HB1.out.size _⟩
  | true =>
    have hnl : nl = true := by simpa using h3'
    subst hnl
    go_wp2_with fail
    go_ret
    exact ⟨rfl, HB1.out.alloc HB1.out.size _⟩

theorem ret_derive {a b c d : Value} {g : Nat} {w : World} (tmps : Array Value) (hp : tmps.getD 4 undef = .pointer (some ⟨g, 0, none⟩)) (hg : w.heap[g]? = some (.cells #[a, b, c, d] 51 (0, 0))) :
    (results Tryz.f75 tmps).run Tryz.prog w = .ok (.agg #[a, b, c, d]) w :=
  results_cell_row (P := Tryz.prog) Tryz.results75 tmps w g 51 _ (0, 0) _ hp hg Tryz.underlying51 rfl (by kernel_rfl)
theorem set4 {w : World} {g : Nat} {t : TypeId} {a b c d a' b' c' d' : Value} (h : w.heap[g]? = some (.cells #[a, b, c, d] t (0, 0))) :
    ((((w.setCell ⟨g, 0, none⟩ a').setCell ⟨g, 1, none⟩ b').setCell ⟨g, 2, none⟩ c').setCell ⟨g, 3, none⟩ d').heap[g]? = some (.cells #[a', b', c', d'] t (0, 0)) := by
  rw [heap_setCell_at (heap_setCell_at (heap_setCell_at (heap_setCell_at h _) _) _) _]
  rfl

set_option maxRecDepth 100000 in
set_option maxHeartbeats 4000000 in
theorem deriveW (a : Ac) (A : Option Addr) (c : Nat) (row : Row) (w : World) (ho : Elems 4 opdCs w (· < w.heap.size) a.A a.ops) (hx : Elems 3 Val.cs w (· < w.heap.size) A row) (hl : a.ops.length ≤ 1000) (hr : ∀ k ∈ a.ops, 0 ≤ k ∧ k < (row.length : Int)) (hk : a.kind = 1 ∨ a.kind = 2) :
    Calls Tryz.prog 75 #[a.val, .slice A row.length c] w fun e w' => ∃ v, e = .returned (.agg #[.int .i64 a.kind, .string a.name, if a.kind = 2 then v else .slice none 0 0, if a.kind = 2 then .slice none 0 0 else v]) ∧ Own 3 Val.cs 60 w.heap.size w' v (keyOf a.ops row) ∧ Below w.heap.size w w' := by
  obtain ⟨kind, name, OA, oc, ops⟩ := a
  obtain ⟨n, hn⟩ : ∃ n, ops.length = n := ⟨_, rfl⟩
  obtain ⟨l, hrl⟩ : ∃ l, row.length = l := ⟨_, rfl⟩
  have hl : n ≤ 1000 := by rw [← hn]; exact hl
  obtain ⟨w1, hw1⟩ : ∃ w1, w1 = (w.alloc (.cells #[.int .i64 kind, .string name, .slice OA n oc] 105)).alloc (.cells #[.int .i64 0, .string ⟨#[]⟩, .slice none 0 0, .slice none 0 0] 51) := ⟨_, rfl⟩
  have hb1 : Below w.heap.size w w1 := by rw [hw1]; exact ((Below.refl _ _).alloc (Nat.le_refl _) _).alloc (le_size1 (Nat.le_refl _) _) _
  have hg0 : w1.heap[w.heap.size]? = some (.cells #[.int .i64 kind, .string name, .slice OA n oc] 105 (0, 0)) := by
    rw [hw1, Below.heap_alloc _ _ _ (by simp)]
    exact heap_alloc_new w _
  have hg1 : w1.heap[w.heap.size + 1]? = some (.cells #[.int .i64 0, .string ⟨#[]⟩, .slice none 0 0, .slice none 0 0] 51 (0, 0)) := by rw [hw1]; exact alloc2_at w _ _
  have hs1 : w1.heap.size = w.heap.size + 2 := by rw [hw1]; simp
  have HBK : Hid (∀ W, Below w1.heap.size w1 W → W.heap[w.heap.size]? = some (.cells #[.int .i64 kind, .string name, .slice OA n oc] 105 (0, 0)) ∧ W.heap[w.heap.size + 1]? = some (.cells #[.int .i64 0, .string ⟨#[]⟩, .slice none 0 0, .slice none 0 0] 51 (0, 0))) := Lib.hid fun W hW =>
    ⟨(hW.block w.heap.size (by omega)).trans hg0, (hW.block (w.heap.size + 1) (by omega)).trans hg1⟩
  have c2 := cell_of_row _ _ 2 _ _ _ hg0
  have HO := Lib.hid (Elems.on ho hb1)
  have HX := Lib.hid (Elems.on hx hb1)
  have HR := Lib.hid hr
  have HK := Lib.hid hk
  have HB1 := Lib.hid hb1
  have HS1 := Lib.hid hs1
  have HW1 := Lib.hid hw1
  have HN := Lib.hid (And.intro hn hrl)
  unfold Ac.val
  simp only at *
  rw [hn, hrl]
  clear ho hx hr hk hw1 hb1 hg0 hg1 hs1 hn hrl
  go_enter Tryz.func75, Tryz.ntmps75
  go_upto_region 1 with fail
  rw [← HW1.out]
  go_wp2_with fail
  go_loopw [5, 11] (fun v5 vi wr => ∃ k : Nat, vi = .int .i64 (k : Int) ∧ k ≤ n ∧ Own 3 Val.cs 60 w1.heap.size wr v5 (keyOf (ops.take k) row) ∧ Below w1.heap.size w1 wr) (fun _ vi _ => n - (intOf vi).toNat)
  case atStart => exact ⟨0, rfl, by omega, Own.nil _, Below.refl _ _⟩
  case round =>
    obtain ⟨k, rfl, hkn, hT⟩ := hrel
    obtain ⟨wo, rfl⟩ : ∃ wo, wo = wr := ⟨_, rfl⟩
    obtain ⟨v5, rfl⟩ : ∃ v5, v5 = u5 := ⟨_, rfl⟩
    obtain ⟨hw, hb⟩ := hT
    by_cases hlt : k < n
    · have hki : k < ops.length := by have := HN.out.1; omega
      obtain ⟨b, off, rfl, -, q0, q1, q2, q3⟩ := (HO.out.on hb).opd hki
      have hlt' : (k : Int) < (n : Int) := by omega
      obtain ⟨hp0, hp1⟩ := HR.out _ (List.getElem_mem hki)
      obtain ⟨j, hj⟩ := Int.eq_ofNat_of_zero_le hp0
      have hjr : j < row.length := by omega
      have hjl : (j : Int) < (l : Int) := by have := HN.out.2; omega
      have hka : keyAt row (ops[k]) = row[j] := by
        rw [hj]
        unfold keyAt
        rw [if_pos ⟨by omega, by omega⟩, Int.toNat_natCast, List.getD_eq_getElem?_getD, List.getElem?_eq_getElem hjr]
        rfl
      have HKO : Hid (keyOf (ops.take (k + 1)) row = keyOf (ops.take k) row ++ [row[j]]) := Lib.hid (by rw [keyOf_take (row := row) hki, hka])
      rw [hj] at q0
      obtain ⟨w2, hw2⟩ : ∃ w2, w2 = wo.alloc (.cells #[.int .i64 (j : Int), .int .i64 0, .int .i64 0, .string ⟨#[]⟩] 102) := ⟨_, rfl⟩
      have hb2 : Below wo.heap.size wo w2 := by rw [hw2]; exact (Below.refl _ _).alloc (Nat.le_refl _) _
      have hg2 : w2.heap[wo.heap.size]? = some (.cells #[.int .i64 (j : Int), .int .i64 0, .int .i64 0, .string ⟨#[]⟩] 102 (0, 0)) := by rw [hw2]; exact heap_alloc_new wo _
      have y0 := cell_of_row _ _ 0 _ _ _ hg2
      have hbw : Below w1.heap.size w1 w2 := hb.trans (hb2.mono hb.size)
      obtain ⟨b', off', rfl, -, e0, e1, e2⟩ := (HX.out.on hbw).val hjr
      have hlen : (keyOf (ops.take k) row).length = k := by
        unfold keyOf
        rw [List.length_map, List.length_take]
        omega
      have HL1 : Hid (((keyOf (ops.take k) row).length + 1) * 32 ≤ 140737488355328) := Lib.hid (by rw [hlen]; omega)
      have HL2 : Hid ((keyOf (ops.take k) row).length + 1 ≤ maxLen) := Lib.hid (by rw [hlen]; unfold maxLen; omega)
      have HO2 := Lib.hid (hw.below hb2)
      have HS2 : Hid (w1.heap.size ≤ w2.heap.size) := Lib.hid hbw.size
      have HFR : Hid (∀ w3 v3, Ext w2 v5 w3 v3 → Below w1.heap.size w1 w3) := Lib.hid fun w3 v3 hx => hbw.trans (hx.below hbw.size fun g hg => (Own.lt hw g hg).1)
      have HW2 := Lib.hid hw2
      have hj0 : ¬ (j : Int) < 0 := by omega
      clear hw2 hb2 hg2 hbw hlen hka hw hb hp0 hp1 hj
      generalize row[j] = x at *
      go_upto_region 5 with fail
      rw [← HW2.out]
      go_wp2_with (at_builtin; refine wpList_app rfl (.tmp 23) (.tmp 29) _ _ rfl rfl rfl (run_push elem_val valLay _ _ _ (keyOf (ops.take k) row) x _ HO2.out rfl HL1.out HL2.out HS2.out rfl) ?_; rintro v2 w3 ⟨ho2, hx2⟩)
      have HF : Hid (Own 3 Val.cs 60 w1.heap.size w3 v2 (keyOf (ops.take (k + 1)) row) ∧ Below w1.heap.size w1 w3) := Lib.hid ⟨by rw [HKO.out]; exact ho2, HFR.out _ _ hx2⟩
      clear ho2 hx2
      go_wp2_with fail
      go_roundw
      case rel => exact ⟨k + 1, by go_num, by omega, HF.out.1, HF.out.2⟩
      case measure => simp [intOf]; omega
    · have hkn' : k = n := by omega
      subst hkn'
      rw [List.take_of_length_le (by have := HN.out.1; omega)] at hw
      obtain ⟨A2, c2, rfl, -, -⟩ := hw.form
      obtain ⟨h0, h1⟩ := HBK.out wo hb
      have x0 := cell_of_row _ _ 0 _ _ _ h0
      have x1 := cell_of_row _ _ 1 _ _ _ h0
      have n0 := cell_of_row _ _ 0 _ _ _ h1
      have n1 := cell_of_row _ _ 1 _ _ _ h1
      have n2 := cell_of_row _ _ 2 _ _ _ h1
      have n3 := cell_of_row _ _ 3 _ _ _ h1
      have f0 := frozen_of_row _ _ 0 _ _ h1
      have f1 := frozen_of_row _ _ 1 _ _ h1
      have f2 := frozen_of_row _ _ 2 _ _ h1
      have f3 := frozen_of_row _ _ 3 _ _ h1
      have hne : ∀ g, (Value.slice A2 (keyOf ops row).length c2).ownBlock = some g → g ≠ w.heap.size + 1 := fun g hg => by have := (Own.lt hw g hg).1; have := HS1.out; omega
      have HF := Lib.hid (And.intro hw (And.intro hb (And.intro h1 hne)))
      have hgs : w.heap.size ≤ w.heap.size + 1 := by omega
      have HBS : Hid (Below w.heap.size w wo) := Lib.hid (HB1.out.trans (hb.mono (by have := HS1.out; omega)))
      clear hw hb h0 h1 hne
      rcases HK.out with rfl | rfl
      · go_wp2_with fail
        refine bodyPost_ret (ret_derive _ rfl (set4 HF.out.2.2.1)) rfl ?_
        exact ⟨_, rfl, ((((HF.out.1.mono (by have := HS1.out; omega)).setCell HF.out.2.2.2 _).setCell HF.out.2.2.2 _).setCell HF.out.2.2.2 _).setCell HF.out.2.2.2 _, (((HBS.out.setCell hgs _).setCell hgs _).setCell hgs _).setCell hgs _⟩
      · go_wp2_with fail
        refine bodyPost_ret (ret_derive _ rfl (set4 HF.out.2.2.1)) rfl ?_
        exact ⟨_, rfl, ((((HF.out.1.mono (by have := HS1.out; omega)).setCell HF.out.2.2.2 _).setCell HF.out.2.2.2 _).setCell HF.out.2.2.2 _).setCell HF.out.2.2.2 _, (((HBS.out.setCell hgs _).setCell hgs _).setCell hgs _).setCell hgs _⟩
end Go.Proofs.YtefifkleamiabaaGreatDoor
