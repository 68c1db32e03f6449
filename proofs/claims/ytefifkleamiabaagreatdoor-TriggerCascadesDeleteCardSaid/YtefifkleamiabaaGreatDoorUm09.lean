/-
  The walks of (*executor).current: an upsert whose key is not there, a delete whose key is.
  The walks of (*executor).current: an upsert or a delete whose key is there (which row), a delete whose key is not.
  Maps with string keys: what a look-up and a store do. No program's walk.
-/
import Derived.Test.YtefifkleamiabaaGreatDoorUm08
import Derived.Test.YtefifkleamiabaaGreatDoorUm01
import Derived.MapKept
namespace Go.Proofs.YtefifkleamiabaaGreatDoor
open Go.RowKit Go.Sort

/-- The executor's cells. -/
def exC (s : Sc) (tv iv av : Value) : Array Value := #[.slice s.TA s.tabs.length s.tc, .slice s.FA s.fks.length s.fc, .slice s.NA s.cns.length s.nc, tv, iv, av]

set_option maxRecDepth 100000 in
set_option maxHeartbeats 8000000 in
theorem currentUps (s : Sc) (px : Nat) (tv av : Value) (IA : Option Addr) (ic : Nat) (rs : List RelM) (ch : ChM) (i : Nat) (w : World) (hx : w.heap[px]? = some (.cells (exC s tv (.slice IA rs.length ic) av) 96 (0, 0))) (hs : ScOk (· < w.heap.size) w s) (hl : s.tabs.length ≤ 1000) (hin : InOk (· < w.heap.size) w IA rs) (hir : i < rs.length) (hit : i < s.tabs.length) (hc : ChOk (· < w.heap.size) w ch) (hn : tabI ch.name s.tabs = (i : Int)) (hk : ch.kind = 1) (hrow : ch.row.row.length = s.tabs[i].cols.length) (hp : s.tabs[i].pk.length ≤ 12) (hr : rs[i].rows.length ≤ 1000) (hf : rff s.tabs[i].pk (keyOf s.tabs[i].pk ch.row.row) (rs[i].rows.map Key.row) = false) :
    Calls Tryz.prog 72 #[ptr px, .agg ch.cells] w fun e w' => e = .returned (.slice none 0 0) ∧ Below w.heap.size w w' := by
  have hpx : px < w.heap.size := (Array.getElem?_eq_some_iff.1 hx).1
  obtain ⟨w1, hw1⟩ : ∃ w1, w1 = w.alloc (.cells ch.cells 51) := ⟨_, rfl⟩
  have hb1 : Below w.heap.size w w1 := by rw [hw1]; exact (Below.refl _ _).alloc (Nat.le_refl _) _
  have hg1 : w1.heap[w.heap.size]? = some (.cells ch.cells 51 (0, 0)) := by rw [hw1]; exact heap_alloc_new w _
  have hs1 : w.heap.size < w1.heap.size := by rw [hw1]; simp
  have HCB : Hid (∀ W, Below w1.heap.size w1 W → W.cell? ⟨w.heap.size, 0, none⟩ = some (.int .i64 1) ∧ W.cell? ⟨w.heap.size, 1, none⟩ = some (.string ch.name) ∧ W.cell? ⟨w.heap.size, 2, none⟩ = some (.slice ch.key.A ch.key.row.length ch.key.c) ∧ W.cell? ⟨w.heap.size, 3, none⟩ = some (.slice ch.row.A ch.row.row.length ch.row.c)) := Lib.hid fun W hW => by
    have h := (hW.block w.heap.size hs1).trans hg1
    unfold ChM.cells at h
    rw [hk] at h
    exact ⟨cell_of_row _ _ 0 _ _ _ h, cell_of_row _ _ 1 _ _ _ h, cell_of_row _ _ 2 _ _ _ h, cell_of_row _ _ 3 _ _ _ h⟩
  have HXB : Hid (∀ W, Below w.heap.size w W → W.cell? ⟨px, 0, none⟩ = some (.slice s.TA s.tabs.length s.tc) ∧ W.cell? ⟨px, 1, none⟩ = some (.slice s.FA s.fks.length s.fc) ∧ W.cell? ⟨px, 2, none⟩ = some (.slice s.NA s.cns.length s.nc) ∧ W.cell? ⟨px, 4, none⟩ = some (.slice IA rs.length ic)) := Lib.hid fun W hW => by
    have h := (hW.block px hpx).trans hx
    unfold exC at h
    exact ⟨cell_of_row _ _ 0 _ _ _ h, cell_of_row _ _ 1 _ _ _ h, cell_of_row _ _ 2 _ _ _ h, cell_of_row _ _ 4 _ _ _ h⟩
  have HFT : Hid (∀ m, Calls Tryz.prog 66 #[s.v, .string ch.name] (w1.drewN m) fun e w' => e = .returned (.tuple #[.int .i64 (i : Int), .bool true]) ∧ Below w1.heap.size w1 w') := Lib.hid fun m => by
    have hd : Below w1.heap.size w1 (w1.drewN m) := below_drewN (Below.refl _ _) m
    refine (findTable s ch.name (w1.drewN m) (hs.on (hb1.trans (hd.mono hb1.size))) hl).mono ?_
    rintro e w' ⟨rfl, hb⟩
    rw [hn]
    have hmi : max (i : Int) 0 = (i : Int) := by omega
    have hdi : decide (0 ≤ (i : Int)) = true := decide_eq_true (by omega)
    unfold findV
    rw [hmi, hdi]
    exact ⟨rfl, hd.trans hb⟩
  have HKY := Lib.hid fun W (hW : Below w.heap.size w W) => relKey s.tabs[i] ch.row.A ch.row.c ch.row.row W ((hs.on hW).tab _ (List.getElem_mem hit)) (hc.row.on hW).el (by omega)
  have HFD := Lib.hid fun W (hW : Below w.heap.size w W) (ky : Key) (hky : KOk (· < W.heap.size) W ky) => relFind s.tabs[i] rs[i].A rs[i].c rs[i].rows ky W ((hs.on hW).tab _ (List.getElem_mem hit)) ((hin.on hW).rel _ (List.getElem_mem hir)) hky hr hp
  have HSC := Lib.hid hs
  have HIN := Lib.hid hin
  have HCO := Lib.hid hc
  have HFF := Lib.hid hf
  have HP := Lib.hid hp
  have HEQ := Lib.hid hrow
  have HR := Lib.hid hr
  have HB1 := Lib.hid hb1
  have HW1 := Lib.hid hw1
  have hit' : (i : Int) < (s.tabs.length : Int) := by omega
  have hir' : (i : Int) < (rs.length : Int) := by omega
  obtain ⟨k0, k1, k2, k3⟩ := HCB.out w1 (Below.refl _ _)
  obtain ⟨x0, x1, x2, x4⟩ := HXB.out w1 hb1
  unfold Sc.v Sc.cells at HFT
  unfold ChM.cells at HW1 ⊢
  rw [hk] at HW1 ⊢
  clear hx hs hl hin hc hn hk hp hr hf hb1 hg1 hs1 hw1 hrow
  go_enter Tryz.func72, Tryz.ntmps72
  go_upto_region 1 with fail
  rw [← HW1.out]
  go_cut [5, 6] from 11 to 20 (fun v5 v6 wx => v5 = .int .i64 (i : Int) ∧ v6 = .bool true ∧ Below w1.heap.size w1 wx)
  case first =>
    go_region_held3 (fun W => W.cell? ⟨px, 0, none⟩ = some (.slice s.TA s.tabs.length s.tc) ∧ W.cell? ⟨px, 1, none⟩ = some (.slice s.FA s.fks.length s.fc) ∧ W.cell? ⟨px, 2, none⟩ = some (.slice s.NA s.cns.length s.nc) ∧ W.cell? ⟨w.heap.size, 1, none⟩ = some (.string ch.name)) (first | exact ⟨x0, x1, x2, k1⟩ | exact s9)
      (first
      | (go_at_call 66; refine (HFT.out 1).mono ?_; rintro e w2 ⟨rfl, hb2⟩; have s9 := And.intro (HXB.out w2 (HB1.out.trans (hb2.mono HB1.out.size))).1 (And.intro (HXB.out w2 (HB1.out.trans (hb2.mono HB1.out.size))).2.1 (And.intro (HXB.out w2 (HB1.out.trans (hb2.mono HB1.out.size))).2.2.1 (HCB.out w2 hb2).2.1))))
    all_goals
      have HB2 := Lib.hid hb2
      clear hb2 s9
      go_wp2_with fail
      go_meet
      exact ⟨rfl, rfl, HB2.out⟩
  case rest =>
    obtain ⟨rfl, rfl, hb2⟩ := hcut
    obtain ⟨w2, rfl⟩ : ∃ w2, w2 = wc := ⟨_, rfl⟩
    clear k0 k1 k2 k3 x0 x1 x2 x4 HFT
    have hbw2 := HB1.out.trans (hb2.mono HB1.out.size)
    obtain ⟨k0, k1, k2, k3⟩ := HCB.out w2 hb2
    obtain ⟨x0, x1, x2, x4⟩ := HXB.out w2 hbw2
    obtain ⟨b, off, hA, -, p0, p1, p2⟩ := (HSC.out.on hbw2).tabs.tbl hit
    rw [hA] at x0
    obtain ⟨w3, hw3⟩ : ∃ w3, w3 = w2.alloc (.cells #[.string s.tabs[i].name, .slice s.tabs[i].CA s.tabs[i].cols.length s.tabs[i].cc, .slice s.tabs[i].PA s.tabs[i].pk.length s.tabs[i].pc] 71) := ⟨_, rfl⟩
    have hb3 : Below w2.heap.size w2 w3 := by rw [hw3]; exact (Below.refl _ _).alloc (Nat.le_refl _) _
    have hg3 : w3.heap[w2.heap.size]? = some (.cells #[.string s.tabs[i].name, .slice s.tabs[i].CA s.tabs[i].cols.length s.tabs[i].cc, .slice s.tabs[i].PA s.tabs[i].pk.length s.tabs[i].pc] 71 (0, 0)) := by rw [hw3]; exact heap_alloc_new w2 _
    have hs3 : w2.heap.size < w3.heap.size := by rw [hw3]; simp
    have HTB : Hid (∀ W, Below w3.heap.size w3 W → W.cell? ⟨w2.heap.size, 0, none⟩ = some (.string s.tabs[i].name) ∧ W.cell? ⟨w2.heap.size, 1, none⟩ = some (.slice s.tabs[i].CA s.tabs[i].cols.length s.tabs[i].cc) ∧ W.cell? ⟨w2.heap.size, 2, none⟩ = some (.slice s.tabs[i].PA s.tabs[i].pk.length s.tabs[i].pc)) := Lib.hid fun W hW => by
      have h := (hW.block w2.heap.size hs3).trans hg3
      exact ⟨cell_of_row _ _ 0 _ _ _ h, cell_of_row _ _ 1 _ _ _ h, cell_of_row _ _ 2 _ _ _ h⟩
    have hb13 := hb2.trans (hb3.mono hb2.size)
    have hbw3 := hbw2.trans (hb3.mono hbw2.size)
    have HB3 := Lib.hid (And.intro hb13 hbw3)
    have HW3 := Lib.hid hw3
    obtain ⟨t0, t1, t2⟩ := HTB.out w3 (Below.refl _ _)
    clear hw3 hb3 hg3 hs3 hb2 hbw2 hA
    go_upto_region 5 with fail
    rw [← HW3.out]
    clear k0 k1 k2 k3 x0 x1 x2 x4 p0 p1 p2
    obtain ⟨k0, k1, k2, k3⟩ := HCB.out w3 hb13
    clear hb13 hbw3
    rw [HEQ.out] at k3
    have HKY3 := Lib.hid (HKY.out w3 HB3.out.2)
    unfold Tbl.val at HKY3
    rw [HEQ.out] at HKY3
    clear HKY
    go_wp2_with fail
    refine HKY3.out.mono ?_
    rintro e w4 ⟨v4, rfl, ho4, hb4⟩
    have hkl : (keyOf s.tabs[i].pk ch.row.row).length = s.tabs[i].pk.length := by unfold keyOf; rw [List.length_map]
    obtain ⟨A4, c4, rfl, -, -⟩ := ho4.form
    have hb34 := HB3.out.2.trans (hb4.mono HB3.out.2.size)
    have HFD4 := Lib.hid fun W (hW : Below w4.heap.size w4 W) => HFD.out W (hb34.trans (hW.mono hb34.size)) ⟨A4, c4, keyOf s.tabs[i].pk ch.row.row⟩ (KOk.on ⟨(ho4.elems valLay.len rfl).more fun g hg => (Own.lt ho4 g hg).2, by show (keyOf s.tabs[i].pk ch.row.row).length ≤ 12; rw [hkl]; exact HP.out⟩ hW)
    simp only [hkl] at HFD4 ⊢
    have HB4 := Lib.hid (And.intro hb4 hb34)
    clear ho4 hb4 hb34 HFD hkl HKY3
    clear t0 t1 t2 k0 k1 k2 k3
    obtain ⟨t0, t1, t2⟩ := HTB.out w4 HB4.out.1
    obtain ⟨x0, x1, x2, x4⟩ := HXB.out w4 HB4.out.2
    obtain ⟨b5, off5, hA5, -, z0, z1⟩ := (HIN.out.on HB4.out.2).el.rel hir
    have HSX : Hid (∀ W, Below w4.heap.size w4 W → W.cell? ⟨w2.heap.size, 0, none⟩ = some (.string s.tabs[i].name) ∧ W.cell? ⟨w2.heap.size, 1, none⟩ = some (.slice s.tabs[i].CA s.tabs[i].cols.length s.tabs[i].cc) ∧ W.cell? ⟨w2.heap.size, 2, none⟩ = some (.slice s.tabs[i].PA s.tabs[i].pk.length s.tabs[i].pc) ∧ W.cell? ⟨px, 4, none⟩ = some (.slice (some ⟨b5, off5, none⟩) rs.length ic) ∧ W.cell? ⟨b5, off5 + i * 2 + 1, none⟩ = some (.slice rs[i].A rs[i].rows.length rs[i].c)) := Lib.hid fun W hW => by
      obtain ⟨t0, t1, t2⟩ := HTB.out W (HB4.out.1.trans (hW.mono HB4.out.1.size))
      have hbw := HB4.out.2.trans (hW.mono HB4.out.2.size)
      obtain ⟨-, -, -, x4⟩ := HXB.out W hbw
      obtain ⟨b6, off6, hA6, -, -, z1⟩ := (HIN.out.on hbw).el.rel hir
      rw [hA5] at hA6 x4
      injection hA6 with hA6
      injection hA6 with e1 e2
      subst e1 e2
      exact ⟨t0, t1, t2, x4, z1⟩
    have HFN : Hid (∀ m, Calls Tryz.prog 106 #[.agg #[.string s.tabs[i].name, .slice s.tabs[i].CA s.tabs[i].cols.length s.tabs[i].cc, .slice s.tabs[i].PA s.tabs[i].pk.length s.tabs[i].pc], .slice rs[i].A rs[i].rows.length rs[i].c, (.slice A4 s.tabs[i].pk.length c4)] (w4.drewN m) fun e w' => e = .returned (.tuple #[.int .i64 (rfi s.tabs[i].pk (keyOf s.tabs[i].pk ch.row.row) (rs[i].rows.map Key.row) : Nat), .bool false]) ∧ Below w4.heap.size w4 w') := Lib.hid fun m => by
      have hd : Below w4.heap.size w4 (w4.drewN m) := below_drewN (Below.refl _ _) m
      refine (HFD4.out (w4.drewN m) hd).mono ?_
      rintro e w' ⟨rfl, hb⟩
      refine ⟨?_, hd.trans hb⟩
      show Ending.returned (.tuple #[_, .bool (rff s.tabs[i].pk (keyOf s.tabs[i].pk ch.row.row) (rs[i].rows.map Key.row))]) = _
      rw [HFF.out]
    have HRW := Lib.hid fun W (hW : Below w.heap.size w W) => (HIN.out.on hW).rel _ (List.getElem_mem hir)
    have HRF : Hid (True) := Lib.hid trivial
    have s4 := HSX.out w4 (Below.refl _ _)
    clear HFD4 x0 x1 x2 x4 z0 z1 hA5
    generalize rfi s.tabs[i].pk (keyOf s.tabs[i].pk ch.row.row) (rs[i].rows.map Key.row) = fi at *
    generalize hrr : rs[i] = r at *
    have HRR := Lib.hid hrr
    clear hrr
    go_upto_region 12 with fail
    go_cut [9, 10] from 53 to 66 (fun v9 v10 wx => v9 = .int .i64 (fi : Int) ∧ v10 = .bool false ∧ Below w4.heap.size w4 wx)
    case first =>
      go_region_held3 (fun W => W.cell? ⟨w2.heap.size, 0, none⟩ = some (.string s.tabs[i].name) ∧ W.cell? ⟨w2.heap.size, 1, none⟩ = some (.slice s.tabs[i].CA s.tabs[i].cols.length s.tabs[i].cc) ∧ W.cell? ⟨w2.heap.size, 2, none⟩ = some (.slice s.tabs[i].PA s.tabs[i].pk.length s.tabs[i].pc) ∧ W.cell? ⟨px, 4, none⟩ = some (.slice (some ⟨b5, off5, none⟩) rs.length ic) ∧ W.cell? ⟨b5, off5 + i * 2 + 1, none⟩ = some (.slice r.A r.rows.length r.c)) (first | exact s4 | exact s9)
        (first
        | (go_at_call 106; refine (HFN.out 1).mono ?_; rintro e w5 ⟨rfl, hb5⟩; have s9 := HSX.out w5 hb5))
      all_goals
        have HB5 := Lib.hid hb5
        clear hb5 s9
        go_wp2_with fail
        go_meet
        exact ⟨rfl, rfl, HB5.out⟩
    case rest =>
      obtain ⟨rfl, rfl, hb5⟩ := hcut
      obtain ⟨w5, rfl⟩ : ∃ w5, w5 = wc := ⟨_, rfl⟩
      have HB5 := Lib.hid (HB4.out.2.trans (hb5.mono HB4.out.2.size))
      clear hb5 s4
      go_wp2_with fail
      go_ret
      exact ⟨rfl, HB5.out⟩

end Go.Proofs.YtefifkleamiabaaGreatDoor

namespace Go.Proofs.YtefifkleamiabaaGreatDoor
open Go.RowKit Go.Sort

set_option maxRecDepth 100000 in
set_option maxHeartbeats 8000000 in
theorem curUpsY (fi : Nat) (s : Sc) (px : Nat) (tv av : Value) (IA : Option Addr) (ic : Nat) (rs : List RelM) (ch : ChM) (i : Nat) (w : World) (hx : w.heap[px]? = some (.cells (exC s tv (.slice IA rs.length ic) av) 96 (0, 0))) (hs : ScOk (· < w.heap.size) w s) (hl : s.tabs.length ≤ 1000) (hin : InOk (· < w.heap.size) w IA rs) (hir : i < rs.length) (hit : i < s.tabs.length) (hc : ChOk (· < w.heap.size) w ch) (hn : tabI ch.name s.tabs = (i : Int)) (hk : ch.kind = 1) (hrow : ch.row.row.length = s.tabs[i].cols.length) (hp : s.tabs[i].pk.length ≤ 12) (hr : rs[i].rows.length ≤ 1000) (hf : rff s.tabs[i].pk (keyOf s.tabs[i].pk ch.row.row) (rs[i].rows.map Key.row) = true) (hfi0 : rfi s.tabs[i].pk (keyOf s.tabs[i].pk ch.row.row) (rs[i].rows.map Key.row) = fi) :
    Calls Tryz.prog 72 #[ptr px, .agg ch.cells] w fun e w' => (∃ hj : fi < rs[i].rows.length, e = .returned (.slice rs[i].rows[fi].A rs[i].rows[fi].row.length rs[i].rows[fi].c)) ∧ Below w.heap.size w w' := by
  have hpx : px < w.heap.size := (Array.getElem?_eq_some_iff.1 hx).1
  obtain ⟨w1, hw1⟩ : ∃ w1, w1 = w.alloc (.cells ch.cells 51) := ⟨_, rfl⟩
  have hb1 : Below w.heap.size w w1 := by rw [hw1]; exact (Below.refl _ _).alloc (Nat.le_refl _) _
  have hg1 : w1.heap[w.heap.size]? = some (.cells ch.cells 51 (0, 0)) := by rw [hw1]; exact heap_alloc_new w _
  have hs1 : w.heap.size < w1.heap.size := by rw [hw1]; simp
  have HCB : Hid (∀ W, Below w1.heap.size w1 W → W.cell? ⟨w.heap.size, 0, none⟩ = some (.int .i64 1) ∧ W.cell? ⟨w.heap.size, 1, none⟩ = some (.string ch.name) ∧ W.cell? ⟨w.heap.size, 2, none⟩ = some (.slice ch.key.A ch.key.row.length ch.key.c) ∧ W.cell? ⟨w.heap.size, 3, none⟩ = some (.slice ch.row.A ch.row.row.length ch.row.c)) := Lib.hid fun W hW => by
    have h := (hW.block w.heap.size hs1).trans hg1
    unfold ChM.cells at h
    rw [hk] at h
    exact ⟨cell_of_row _ _ 0 _ _ _ h, cell_of_row _ _ 1 _ _ _ h, cell_of_row _ _ 2 _ _ _ h, cell_of_row _ _ 3 _ _ _ h⟩
  have HXB : Hid (∀ W, Below w.heap.size w W → W.cell? ⟨px, 0, none⟩ = some (.slice s.TA s.tabs.length s.tc) ∧ W.cell? ⟨px, 1, none⟩ = some (.slice s.FA s.fks.length s.fc) ∧ W.cell? ⟨px, 2, none⟩ = some (.slice s.NA s.cns.length s.nc) ∧ W.cell? ⟨px, 4, none⟩ = some (.slice IA rs.length ic)) := Lib.hid fun W hW => by
    have h := (hW.block px hpx).trans hx
    unfold exC at h
    exact ⟨cell_of_row _ _ 0 _ _ _ h, cell_of_row _ _ 1 _ _ _ h, cell_of_row _ _ 2 _ _ _ h, cell_of_row _ _ 4 _ _ _ h⟩
  have HFT : Hid (∀ m, Calls Tryz.prog 66 #[s.v, .string ch.name] (w1.drewN m) fun e w' => e = .returned (.tuple #[.int .i64 (i : Int), .bool true]) ∧ Below w1.heap.size w1 w') := Lib.hid fun m => by
    have hd : Below w1.heap.size w1 (w1.drewN m) := below_drewN (Below.refl _ _) m
    refine (findTable s ch.name (w1.drewN m) (hs.on (hb1.trans (hd.mono hb1.size))) hl).mono ?_
    rintro e w' ⟨rfl, hb⟩
    rw [hn]
    have hmi : max (i : Int) 0 = (i : Int) := by omega
    have hdi : decide (0 ≤ (i : Int)) = true := decide_eq_true (by omega)
    unfold findV
    rw [hmi, hdi]
    exact ⟨rfl, hd.trans hb⟩
  have HKY := Lib.hid fun W (hW : Below w.heap.size w W) => relKey s.tabs[i] ch.row.A ch.row.c ch.row.row W ((hs.on hW).tab _ (List.getElem_mem hit)) (hc.row.on hW).el (by omega)
  have HFD := Lib.hid fun W (hW : Below w.heap.size w W) (ky : Key) (hky : KOk (· < W.heap.size) W ky) => relFind s.tabs[i] rs[i].A rs[i].c rs[i].rows ky W ((hs.on hW).tab _ (List.getElem_mem hit)) ((hin.on hW).rel _ (List.getElem_mem hir)) hky hr hp
  have HSC := Lib.hid hs
  have HIN := Lib.hid hin
  have HCO := Lib.hid hc
  have HFF := Lib.hid hf
  have HP := Lib.hid hp
  have HI0 := Lib.hid hfi0
  have HEQ := Lib.hid hrow
  have HR := Lib.hid hr
  have HB1 := Lib.hid hb1
  have HW1 := Lib.hid hw1
  have hit' : (i : Int) < (s.tabs.length : Int) := by omega
  have hir' : (i : Int) < (rs.length : Int) := by omega
  obtain ⟨k0, k1, k2, k3⟩ := HCB.out w1 (Below.refl _ _)
  obtain ⟨x0, x1, x2, x4⟩ := HXB.out w1 hb1
  unfold Sc.v Sc.cells at HFT
  unfold ChM.cells at HW1 ⊢
  rw [hk] at HW1 ⊢
  clear hfi0 hx hs hl hin hc hn hk hp hr hf hb1 hg1 hs1 hw1 hrow
  go_enter Tryz.func72, Tryz.ntmps72
  go_upto_region 1 with fail
  rw [← HW1.out]
  go_cut [5, 6] from 11 to 20 (fun v5 v6 wx => v5 = .int .i64 (i : Int) ∧ v6 = .bool true ∧ Below w1.heap.size w1 wx)
  case first =>
    go_region_held3 (fun W => W.cell? ⟨px, 0, none⟩ = some (.slice s.TA s.tabs.length s.tc) ∧ W.cell? ⟨px, 1, none⟩ = some (.slice s.FA s.fks.length s.fc) ∧ W.cell? ⟨px, 2, none⟩ = some (.slice s.NA s.cns.length s.nc) ∧ W.cell? ⟨w.heap.size, 1, none⟩ = some (.string ch.name)) (first | exact ⟨x0, x1, x2, k1⟩ | exact s9)
      (first
      | (go_at_call 66; refine (HFT.out 1).mono ?_; rintro e w2 ⟨rfl, hb2⟩; have s9 := And.intro (HXB.out w2 (HB1.out.trans (hb2.mono HB1.out.size))).1 (And.intro (HXB.out w2 (HB1.out.trans (hb2.mono HB1.out.size))).2.1 (And.intro (HXB.out w2 (HB1.out.trans (hb2.mono HB1.out.size))).2.2.1 (HCB.out w2 hb2).2.1))))
    all_goals
      have HB2 := Lib.hid hb2
      clear hb2 s9
      go_wp2_with fail
      go_meet
      exact ⟨rfl, rfl, HB2.out⟩
  case rest =>
    obtain ⟨rfl, rfl, hb2⟩ := hcut
    obtain ⟨w2, rfl⟩ : ∃ w2, w2 = wc := ⟨_, rfl⟩
    clear k0 k1 k2 k3 x0 x1 x2 x4 HFT
    have hbw2 := HB1.out.trans (hb2.mono HB1.out.size)
    obtain ⟨k0, k1, k2, k3⟩ := HCB.out w2 hb2
    obtain ⟨x0, x1, x2, x4⟩ := HXB.out w2 hbw2
    obtain ⟨b, off, hA, -, p0, p1, p2⟩ := (HSC.out.on hbw2).tabs.tbl hit
    rw [hA] at x0
    obtain ⟨w3, hw3⟩ : ∃ w3, w3 = w2.alloc (.cells #[.string s.tabs[i].name, .slice s.tabs[i].CA s.tabs[i].cols.length s.tabs[i].cc, .slice s.tabs[i].PA s.tabs[i].pk.length s.tabs[i].pc] 71) := ⟨_, rfl⟩
    have hb3 : Below w2.heap.size w2 w3 := by rw [hw3]; exact (Below.refl _ _).alloc (Nat.le_refl _) _
    have hg3 : w3.heap[w2.heap.size]? = some (.cells #[.string s.tabs[i].name, .slice s.tabs[i].CA s.tabs[i].cols.length s.tabs[i].cc, .slice s.tabs[i].PA s.tabs[i].pk.length s.tabs[i].pc] 71 (0, 0)) := by rw [hw3]; exact heap_alloc_new w2 _
    have hs3 : w2.heap.size < w3.heap.size := by rw [hw3]; simp
    have HTB : Hid (∀ W, Below w3.heap.size w3 W → W.cell? ⟨w2.heap.size, 0, none⟩ = some (.string s.tabs[i].name) ∧ W.cell? ⟨w2.heap.size, 1, none⟩ = some (.slice s.tabs[i].CA s.tabs[i].cols.length s.tabs[i].cc) ∧ W.cell? ⟨w2.heap.size, 2, none⟩ = some (.slice s.tabs[i].PA s.tabs[i].pk.length s.tabs[i].pc)) := Lib.hid fun W hW => by
      have h := (hW.block w2.heap.size hs3).trans hg3
      exact ⟨cell_of_row _ _ 0 _ _ _ h, cell_of_row _ _ 1 _ _ _ h, cell_of_row _ _ 2 _ _ _ h⟩
    have hb13 := hb2.trans (hb3.mono hb2.size)
    have hbw3 := hbw2.trans (hb3.mono hbw2.size)
    have HB3 := Lib.hid (And.intro hb13 hbw3)
    have HW3 := Lib.hid hw3
    obtain ⟨t0, t1, t2⟩ := HTB.out w3 (Below.refl _ _)
    clear hw3 hb3 hg3 hs3 hb2 hbw2 hA
    go_upto_region 5 with fail
    rw [← HW3.out]
    clear k0 k1 k2 k3 x0 x1 x2 x4 p0 p1 p2
    obtain ⟨k0, k1, k2, k3⟩ := HCB.out w3 hb13
    clear hb13 hbw3
    rw [HEQ.out] at k3
    have HKY3 := Lib.hid (HKY.out w3 HB3.out.2)
    unfold Tbl.val at HKY3
    rw [HEQ.out] at HKY3
    clear HKY
    go_wp2_with fail
    refine HKY3.out.mono ?_
    rintro e w4 ⟨v4, rfl, ho4, hb4⟩
    have hkl : (keyOf s.tabs[i].pk ch.row.row).length = s.tabs[i].pk.length := by unfold keyOf; rw [List.length_map]
    obtain ⟨A4, c4, rfl, -, -⟩ := ho4.form
    have hb34 := HB3.out.2.trans (hb4.mono HB3.out.2.size)
    have HFD4 := Lib.hid fun W (hW : Below w4.heap.size w4 W) => HFD.out W (hb34.trans (hW.mono hb34.size)) ⟨A4, c4, keyOf s.tabs[i].pk ch.row.row⟩ (KOk.on ⟨(ho4.elems valLay.len rfl).more fun g hg => (Own.lt ho4 g hg).2, by show (keyOf s.tabs[i].pk ch.row.row).length ≤ 12; rw [hkl]; exact HP.out⟩ hW)
    simp only [hkl] at HFD4 ⊢
    have HB4 := Lib.hid (And.intro hb4 hb34)
    clear ho4 hb4 hb34 HFD hkl HKY3
    clear t0 t1 t2 k0 k1 k2 k3
    obtain ⟨t0, t1, t2⟩ := HTB.out w4 HB4.out.1
    obtain ⟨x0, x1, x2, x4⟩ := HXB.out w4 HB4.out.2
    obtain ⟨b5, off5, hA5, -, z0, z1⟩ := (HIN.out.on HB4.out.2).el.rel hir
    have HSX : Hid (∀ W, Below w4.heap.size w4 W → W.cell? ⟨w2.heap.size, 0, none⟩ = some (.string s.tabs[i].name) ∧ W.cell? ⟨w2.heap.size, 1, none⟩ = some (.slice s.tabs[i].CA s.tabs[i].cols.length s.tabs[i].cc) ∧ W.cell? ⟨w2.heap.size, 2, none⟩ = some (.slice s.tabs[i].PA s.tabs[i].pk.length s.tabs[i].pc) ∧ W.cell? ⟨px, 4, none⟩ = some (.slice (some ⟨b5, off5, none⟩) rs.length ic) ∧ W.cell? ⟨b5, off5 + i * 2 + 1, none⟩ = some (.slice rs[i].A rs[i].rows.length rs[i].c)) := Lib.hid fun W hW => by
      obtain ⟨t0, t1, t2⟩ := HTB.out W (HB4.out.1.trans (hW.mono HB4.out.1.size))
      have hbw := HB4.out.2.trans (hW.mono HB4.out.2.size)
      obtain ⟨-, -, -, x4⟩ := HXB.out W hbw
      obtain ⟨b6, off6, hA6, -, -, z1⟩ := (HIN.out.on hbw).el.rel hir
      rw [hA5] at hA6 x4
      injection hA6 with hA6
      injection hA6 with e1 e2
      subst e1 e2
      exact ⟨t0, t1, t2, x4, z1⟩
    have HFN : Hid (∀ m, Calls Tryz.prog 106 #[.agg #[.string s.tabs[i].name, .slice s.tabs[i].CA s.tabs[i].cols.length s.tabs[i].cc, .slice s.tabs[i].PA s.tabs[i].pk.length s.tabs[i].pc], .slice rs[i].A rs[i].rows.length rs[i].c, (.slice A4 s.tabs[i].pk.length c4)] (w4.drewN m) fun e w' => e = .returned (.tuple #[.int .i64 (rfi s.tabs[i].pk (keyOf s.tabs[i].pk ch.row.row) (rs[i].rows.map Key.row) : Nat), .bool true]) ∧ Below w4.heap.size w4 w') := Lib.hid fun m => by
      have hd : Below w4.heap.size w4 (w4.drewN m) := below_drewN (Below.refl _ _) m
      refine (HFD4.out (w4.drewN m) hd).mono ?_
      rintro e w' ⟨rfl, hb⟩
      refine ⟨?_, hd.trans hb⟩
      show Ending.returned (.tuple #[_, .bool (rff s.tabs[i].pk (keyOf s.tabs[i].pk ch.row.row) (rs[i].rows.map Key.row))]) = _
      rw [HFF.out]
    have HRW := Lib.hid fun W (hW : Below w.heap.size w W) => (HIN.out.on hW).rel _ (List.getElem_mem hir)
    have HRF : Hid (fi < rs[i].rows.length) := Lib.hid (by have h := rff_lt HFF.out; rwa [List.length_map, HI0.out] at h)
    have s4 := HSX.out w4 (Below.refl _ _)
    clear HFD4 x0 x1 x2 x4 z0 z1 hA5
    rw [HI0.out] at HFN
    generalize hrr : rs[i] = r at *
    have HRR := Lib.hid hrr
    clear hrr
    go_upto_region 12 with fail
    go_cut [9, 10] from 53 to 66 (fun v9 v10 wx => v9 = .int .i64 (fi : Int) ∧ v10 = .bool true ∧ Below w4.heap.size w4 wx)
    case first =>
      go_region_held3 (fun W => W.cell? ⟨w2.heap.size, 0, none⟩ = some (.string s.tabs[i].name) ∧ W.cell? ⟨w2.heap.size, 1, none⟩ = some (.slice s.tabs[i].CA s.tabs[i].cols.length s.tabs[i].cc) ∧ W.cell? ⟨w2.heap.size, 2, none⟩ = some (.slice s.tabs[i].PA s.tabs[i].pk.length s.tabs[i].pc) ∧ W.cell? ⟨px, 4, none⟩ = some (.slice (some ⟨b5, off5, none⟩) rs.length ic) ∧ W.cell? ⟨b5, off5 + i * 2 + 1, none⟩ = some (.slice r.A r.rows.length r.c)) (first | exact s4 | exact s9)
        (first
        | (go_at_call 106; refine (HFN.out 1).mono ?_; rintro e w5 ⟨rfl, hb5⟩; have s9 := HSX.out w5 hb5))
      all_goals
        have HB5 := Lib.hid hb5
        clear hb5 s9
        go_wp2_with fail
        go_meet
        exact ⟨rfl, rfl, HB5.out⟩
    case rest =>
      obtain ⟨rfl, rfl, hb5⟩ := hcut
      obtain ⟨w5, rfl⟩ : ∃ w5, w5 = wc := ⟨_, rfl⟩
      have HB5 := Lib.hid (HB4.out.2.trans (hb5.mono HB4.out.2.size))
      obtain ⟨-, -, -, y4, y5⟩ := HSX.out w5 hb5
      have hfi := HRF.out
      have hfi' : (fi : Int) < (r.rows.length : Int) := by omega
      obtain ⟨b7, off7, hA7, -, q0⟩ := (HRW.out w5 HB5.out).el.key hfi
      rw [hA7] at y5
      clear hb5 s4
      go_wp2_with fail
      go_ret
      have hr' := HRR.out
      subst hr'
      exact ⟨⟨hfi, rfl⟩, HB5.out⟩

set_option maxRecDepth 100000 in
set_option maxHeartbeats 8000000 in
theorem curDelY (fi : Nat) (s : Sc) (px : Nat) (tv av : Value) (IA : Option Addr) (ic : Nat) (rs : List RelM) (ch : ChM) (i : Nat) (w : World) (hx : w.heap[px]? = some (.cells (exC s tv (.slice IA rs.length ic) av) 96 (0, 0))) (hs : ScOk (· < w.heap.size) w s) (hl : s.tabs.length ≤ 1000) (hin : InOk (· < w.heap.size) w IA rs) (hir : i < rs.length) (hit : i < s.tabs.length) (hc : ChOk (· < w.heap.size) w ch) (hn : tabI ch.name s.tabs = (i : Int)) (hk : ch.kind = 2) (hkey : ch.key.row.length = s.tabs[i].pk.length) (hp : s.tabs[i].pk.length ≤ 12) (hr : rs[i].rows.length ≤ 1000) (hf : rff s.tabs[i].pk ch.key.row (rs[i].rows.map Key.row) = true) (hfi0 : rfi s.tabs[i].pk ch.key.row (rs[i].rows.map Key.row) = fi) :
    Calls Tryz.prog 72 #[ptr px, .agg ch.cells] w fun e w' => (∃ hj : fi < rs[i].rows.length, e = .returned (.slice rs[i].rows[fi].A rs[i].rows[fi].row.length rs[i].rows[fi].c)) ∧ Below w.heap.size w w' := by
  have hpx : px < w.heap.size := (Array.getElem?_eq_some_iff.1 hx).1
  obtain ⟨w1, hw1⟩ : ∃ w1, w1 = w.alloc (.cells ch.cells 51) := ⟨_, rfl⟩
  have hb1 : Below w.heap.size w w1 := by rw [hw1]; exact (Below.refl _ _).alloc (Nat.le_refl _) _
  have hg1 : w1.heap[w.heap.size]? = some (.cells ch.cells 51 (0, 0)) := by rw [hw1]; exact heap_alloc_new w _
  have hs1 : w.heap.size < w1.heap.size := by rw [hw1]; simp
  have HCB : Hid (∀ W, Below w1.heap.size w1 W → W.cell? ⟨w.heap.size, 0, none⟩ = some (.int .i64 2) ∧ W.cell? ⟨w.heap.size, 1, none⟩ = some (.string ch.name) ∧ W.cell? ⟨w.heap.size, 2, none⟩ = some (.slice ch.key.A ch.key.row.length ch.key.c) ∧ W.cell? ⟨w.heap.size, 3, none⟩ = some (.slice ch.row.A ch.row.row.length ch.row.c)) := Lib.hid fun W hW => by
    have h := (hW.block w.heap.size hs1).trans hg1
    unfold ChM.cells at h
    rw [hk] at h
    exact ⟨cell_of_row _ _ 0 _ _ _ h, cell_of_row _ _ 1 _ _ _ h, cell_of_row _ _ 2 _ _ _ h, cell_of_row _ _ 3 _ _ _ h⟩
  have HXB : Hid (∀ W, Below w.heap.size w W → W.cell? ⟨px, 0, none⟩ = some (.slice s.TA s.tabs.length s.tc) ∧ W.cell? ⟨px, 1, none⟩ = some (.slice s.FA s.fks.length s.fc) ∧ W.cell? ⟨px, 2, none⟩ = some (.slice s.NA s.cns.length s.nc) ∧ W.cell? ⟨px, 4, none⟩ = some (.slice IA rs.length ic)) := Lib.hid fun W hW => by
    have h := (hW.block px hpx).trans hx
    unfold exC at h
    exact ⟨cell_of_row _ _ 0 _ _ _ h, cell_of_row _ _ 1 _ _ _ h, cell_of_row _ _ 2 _ _ _ h, cell_of_row _ _ 4 _ _ _ h⟩
  have HFT : Hid (∀ m, Calls Tryz.prog 66 #[s.v, .string ch.name] (w1.drewN m) fun e w' => e = .returned (.tuple #[.int .i64 (i : Int), .bool true]) ∧ Below w1.heap.size w1 w') := Lib.hid fun m => by
    have hd : Below w1.heap.size w1 (w1.drewN m) := below_drewN (Below.refl _ _) m
    refine (findTable s ch.name (w1.drewN m) (hs.on (hb1.trans (hd.mono hb1.size))) hl).mono ?_
    rintro e w' ⟨rfl, hb⟩
    rw [hn]
    have hmi : max (i : Int) 0 = (i : Int) := by omega
    have hdi : decide (0 ≤ (i : Int)) = true := decide_eq_true (by omega)
    unfold findV
    rw [hmi, hdi]
    exact ⟨rfl, hd.trans hb⟩
  have HKY := Lib.hid fun W (hW : Below w.heap.size w W) => relKey s.tabs[i] ch.row.A ch.row.c ch.row.row W ((hs.on hW).tab _ (List.getElem_mem hit)) (hc.row.on hW).el (by omega)
  have HFD := Lib.hid fun W (hW : Below w.heap.size w W) (ky : Key) (hky : KOk (· < W.heap.size) W ky) => relFind s.tabs[i] rs[i].A rs[i].c rs[i].rows ky W ((hs.on hW).tab _ (List.getElem_mem hit)) ((hin.on hW).rel _ (List.getElem_mem hir)) hky hr hp
  have HSC := Lib.hid hs
  have HIN := Lib.hid hin
  have HCO := Lib.hid hc
  have HFF := Lib.hid hf
  have HP := Lib.hid hp
  have HI0 := Lib.hid hfi0
  have HEQ := Lib.hid hkey
  have HR := Lib.hid hr
  have HB1 := Lib.hid hb1
  have HW1 := Lib.hid hw1
  have hit' : (i : Int) < (s.tabs.length : Int) := by omega
  have hir' : (i : Int) < (rs.length : Int) := by omega
  obtain ⟨k0, k1, k2, k3⟩ := HCB.out w1 (Below.refl _ _)
  obtain ⟨x0, x1, x2, x4⟩ := HXB.out w1 hb1
  unfold Sc.v Sc.cells at HFT
  unfold ChM.cells at HW1 ⊢
  rw [hk] at HW1 ⊢
  clear hfi0 hx hs hl hin hc hn hk hp hr hf hb1 hg1 hs1 hw1 hkey
  go_enter Tryz.func72, Tryz.ntmps72
  go_upto_region 1 with fail
  rw [← HW1.out]
  go_cut [5, 6] from 11 to 20 (fun v5 v6 wx => v5 = .int .i64 (i : Int) ∧ v6 = .bool true ∧ Below w1.heap.size w1 wx)
  case first =>
    go_region_held3 (fun W => W.cell? ⟨px, 0, none⟩ = some (.slice s.TA s.tabs.length s.tc) ∧ W.cell? ⟨px, 1, none⟩ = some (.slice s.FA s.fks.length s.fc) ∧ W.cell? ⟨px, 2, none⟩ = some (.slice s.NA s.cns.length s.nc) ∧ W.cell? ⟨w.heap.size, 1, none⟩ = some (.string ch.name)) (first | exact ⟨x0, x1, x2, k1⟩ | exact s9)
      (first
      | (go_at_call 66; refine (HFT.out 1).mono ?_; rintro e w2 ⟨rfl, hb2⟩; have s9 := And.intro (HXB.out w2 (HB1.out.trans (hb2.mono HB1.out.size))).1 (And.intro (HXB.out w2 (HB1.out.trans (hb2.mono HB1.out.size))).2.1 (And.intro (HXB.out w2 (HB1.out.trans (hb2.mono HB1.out.size))).2.2.1 (HCB.out w2 hb2).2.1))))
    all_goals
      have HB2 := Lib.hid hb2
      clear hb2 s9
      go_wp2_with fail
      go_meet
      exact ⟨rfl, rfl, HB2.out⟩
  case rest =>
    obtain ⟨rfl, rfl, hb2⟩ := hcut
    obtain ⟨w2, rfl⟩ : ∃ w2, w2 = wc := ⟨_, rfl⟩
    clear k0 k1 k2 k3 x0 x1 x2 x4 HFT
    have hbw2 := HB1.out.trans (hb2.mono HB1.out.size)
    obtain ⟨k0, k1, k2, k3⟩ := HCB.out w2 hb2
    obtain ⟨x0, x1, x2, x4⟩ := HXB.out w2 hbw2
    obtain ⟨b, off, hA, -, p0, p1, p2⟩ := (HSC.out.on hbw2).tabs.tbl hit
    rw [hA] at x0
    obtain ⟨w3, hw3⟩ : ∃ w3, w3 = w2.alloc (.cells #[.string s.tabs[i].name, .slice s.tabs[i].CA s.tabs[i].cols.length s.tabs[i].cc, .slice s.tabs[i].PA s.tabs[i].pk.length s.tabs[i].pc] 71) := ⟨_, rfl⟩
    have hb3 : Below w2.heap.size w2 w3 := by rw [hw3]; exact (Below.refl _ _).alloc (Nat.le_refl _) _
    have hg3 : w3.heap[w2.heap.size]? = some (.cells #[.string s.tabs[i].name, .slice s.tabs[i].CA s.tabs[i].cols.length s.tabs[i].cc, .slice s.tabs[i].PA s.tabs[i].pk.length s.tabs[i].pc] 71 (0, 0)) := by rw [hw3]; exact heap_alloc_new w2 _
    have hs3 : w2.heap.size < w3.heap.size := by rw [hw3]; simp
    have HTB : Hid (∀ W, Below w3.heap.size w3 W → W.cell? ⟨w2.heap.size, 0, none⟩ = some (.string s.tabs[i].name) ∧ W.cell? ⟨w2.heap.size, 1, none⟩ = some (.slice s.tabs[i].CA s.tabs[i].cols.length s.tabs[i].cc) ∧ W.cell? ⟨w2.heap.size, 2, none⟩ = some (.slice s.tabs[i].PA s.tabs[i].pk.length s.tabs[i].pc)) := Lib.hid fun W hW => by
      have h := (hW.block w2.heap.size hs3).trans hg3
      exact ⟨cell_of_row _ _ 0 _ _ _ h, cell_of_row _ _ 1 _ _ _ h, cell_of_row _ _ 2 _ _ _ h⟩
    have hb13 := hb2.trans (hb3.mono hb2.size)
    have hbw3 := hbw2.trans (hb3.mono hbw2.size)
    have HB3 := Lib.hid (And.intro hb13 hbw3)
    have HW3 := Lib.hid hw3
    obtain ⟨t0, t1, t2⟩ := HTB.out w3 (Below.refl _ _)
    clear hw3 hb3 hg3 hs3 hb2 hbw2 hA
    go_upto_region 5 with fail
    rw [← HW3.out]
    clear k0 k1 k2 k3 x0 x1 x2 x4 p0 p1 p2
    obtain ⟨k0, k1, k2, k3⟩ := HCB.out w3 hb13
    clear hb13 hbw3
    rw [HEQ.out] at k2
    obtain ⟨w4, rfl⟩ : ∃ w4, w4 = w3 := ⟨_, rfl⟩
    have HB4 := Lib.hid (And.intro (Below.refl w4.heap.size w4) HB3.out.2)
    have HFD4 := Lib.hid fun W (hW : Below w4.heap.size w4 W) => HFD.out W (HB3.out.2.trans (hW.mono HB3.out.2.size)) ch.key (HCO.out.key.on (HB3.out.2.trans (hW.mono HB3.out.2.size)))
    rw [HEQ.out] at HFD4
    clear HKY HFD
    obtain ⟨t0, t1, t2⟩ := HTB.out w4 HB4.out.1
    obtain ⟨x0, x1, x2, x4⟩ := HXB.out w4 HB4.out.2
    obtain ⟨b5, off5, hA5, -, z0, z1⟩ := (HIN.out.on HB4.out.2).el.rel hir
    have HSX : Hid (∀ W, Below w4.heap.size w4 W → W.cell? ⟨w2.heap.size, 0, none⟩ = some (.string s.tabs[i].name) ∧ W.cell? ⟨w2.heap.size, 1, none⟩ = some (.slice s.tabs[i].CA s.tabs[i].cols.length s.tabs[i].cc) ∧ W.cell? ⟨w2.heap.size, 2, none⟩ = some (.slice s.tabs[i].PA s.tabs[i].pk.length s.tabs[i].pc) ∧ W.cell? ⟨px, 4, none⟩ = some (.slice (some ⟨b5, off5, none⟩) rs.length ic) ∧ W.cell? ⟨b5, off5 + i * 2 + 1, none⟩ = some (.slice rs[i].A rs[i].rows.length rs[i].c)) := Lib.hid fun W hW => by
      obtain ⟨t0, t1, t2⟩ := HTB.out W (HB4.out.1.trans (hW.mono HB4.out.1.size))
      have hbw := HB4.out.2.trans (hW.mono HB4.out.2.size)
      obtain ⟨-, -, -, x4⟩ := HXB.out W hbw
      obtain ⟨b6, off6, hA6, -, -, z1⟩ := (HIN.out.on hbw).el.rel hir
      rw [hA5] at hA6 x4
      injection hA6 with hA6
      injection hA6 with e1 e2
      subst e1 e2
      exact ⟨t0, t1, t2, x4, z1⟩
    have HFN : Hid (∀ m, Calls Tryz.prog 106 #[.agg #[.string s.tabs[i].name, .slice s.tabs[i].CA s.tabs[i].cols.length s.tabs[i].cc, .slice s.tabs[i].PA s.tabs[i].pk.length s.tabs[i].pc], .slice rs[i].A rs[i].rows.length rs[i].c, (.slice ch.key.A s.tabs[i].pk.length ch.key.c)] (w4.drewN m) fun e w' => e = .returned (.tuple #[.int .i64 (rfi s.tabs[i].pk ch.key.row (rs[i].rows.map Key.row) : Nat), .bool true]) ∧ Below w4.heap.size w4 w') := Lib.hid fun m => by
      have hd : Below w4.heap.size w4 (w4.drewN m) := below_drewN (Below.refl _ _) m
      refine (HFD4.out (w4.drewN m) hd).mono ?_
      rintro e w' ⟨rfl, hb⟩
      refine ⟨?_, hd.trans hb⟩
      show Ending.returned (.tuple #[_, .bool (rff s.tabs[i].pk ch.key.row (rs[i].rows.map Key.row))]) = _
      rw [HFF.out]
    have HRW := Lib.hid fun W (hW : Below w.heap.size w W) => (HIN.out.on hW).rel _ (List.getElem_mem hir)
    have HRF : Hid (fi < rs[i].rows.length) := Lib.hid (by have h := rff_lt HFF.out; rwa [List.length_map, HI0.out] at h)
    have s4 := HSX.out w4 (Below.refl _ _)
    clear HFD4 x0 x1 x2 x4 z0 z1 hA5
    rw [HI0.out] at HFN
    generalize hrr : rs[i] = r at *
    have HRR := Lib.hid hrr
    clear hrr
    go_upto_region 12 with fail
    go_cut [9, 10] from 53 to 66 (fun v9 v10 wx => v9 = .int .i64 (fi : Int) ∧ v10 = .bool true ∧ Below w4.heap.size w4 wx)
    case first =>
      go_region_held3 (fun W => W.cell? ⟨w2.heap.size, 0, none⟩ = some (.string s.tabs[i].name) ∧ W.cell? ⟨w2.heap.size, 1, none⟩ = some (.slice s.tabs[i].CA s.tabs[i].cols.length s.tabs[i].cc) ∧ W.cell? ⟨w2.heap.size, 2, none⟩ = some (.slice s.tabs[i].PA s.tabs[i].pk.length s.tabs[i].pc) ∧ W.cell? ⟨px, 4, none⟩ = some (.slice (some ⟨b5, off5, none⟩) rs.length ic) ∧ W.cell? ⟨b5, off5 + i * 2 + 1, none⟩ = some (.slice r.A r.rows.length r.c)) (first | exact s4 | exact s9)
        (first
        | (go_at_call 106; refine (HFN.out 1).mono ?_; rintro e w5 ⟨rfl, hb5⟩; have s9 := HSX.out w5 hb5))
      all_goals
        have HB5 := Lib.hid hb5
        clear hb5 s9
        go_wp2_with fail
        go_meet
        exact ⟨rfl, rfl, HB5.out⟩
    case rest =>
      obtain ⟨rfl, rfl, hb5⟩ := hcut
      obtain ⟨w5, rfl⟩ : ∃ w5, w5 = wc := ⟨_, rfl⟩
      have HB5 := Lib.hid (HB4.out.2.trans (hb5.mono HB4.out.2.size))
      obtain ⟨-, -, -, y4, y5⟩ := HSX.out w5 hb5
      have hfi := HRF.out
      have hfi' : (fi : Int) < (r.rows.length : Int) := by omega
      obtain ⟨b7, off7, hA7, -, q0⟩ := (HRW.out w5 HB5.out).el.key hfi
      rw [hA7] at y5
      clear hb5 s4
      go_wp2_with fail
      go_ret
      have hr' := HRR.out
      subst hr'
      exact ⟨⟨hfi, rfl⟩, HB5.out⟩

set_option maxRecDepth 100000 in
set_option maxHeartbeats 8000000 in
theorem curDelN (fi : Nat) (s : Sc) (px : Nat) (tv av : Value) (IA : Option Addr) (ic : Nat) (rs : List RelM) (ch : ChM) (i : Nat) (w : World) (hx : w.heap[px]? = some (.cells (exC s tv (.slice IA rs.length ic) av) 96 (0, 0))) (hs : ScOk (· < w.heap.size) w s) (hl : s.tabs.length ≤ 1000) (hin : InOk (· < w.heap.size) w IA rs) (hir : i < rs.length) (hit : i < s.tabs.length) (hc : ChOk (· < w.heap.size) w ch) (hn : tabI ch.name s.tabs = (i : Int)) (hk : ch.kind = 2) (hkey : ch.key.row.length = s.tabs[i].pk.length) (hp : s.tabs[i].pk.length ≤ 12) (hr : rs[i].rows.length ≤ 1000) (hf : rff s.tabs[i].pk ch.key.row (rs[i].rows.map Key.row) = false) (hfi0 : rfi s.tabs[i].pk ch.key.row (rs[i].rows.map Key.row) = fi) :
    Calls Tryz.prog 72 #[ptr px, .agg ch.cells] w fun e w' => e = .returned (.slice none 0 0) ∧ Below w.heap.size w w' := by
  have hpx : px < w.heap.size := (Array.getElem?_eq_some_iff.1 hx).1
  obtain ⟨w1, hw1⟩ : ∃ w1, w1 = w.alloc (.cells ch.cells 51) := ⟨_, rfl⟩
  have hb1 : Below w.heap.size w w1 := by rw [hw1]; exact (Below.refl _ _).alloc (Nat.le_refl _) _
  have hg1 : w1.heap[w.heap.size]? = some (.cells ch.cells 51 (0, 0)) := by rw [hw1]; exact heap_alloc_new w _
  have hs1 : w.heap.size < w1.heap.size := by rw [hw1]; simp
  have HCB : Hid (∀ W, Below w1.heap.size w1 W → W.cell? ⟨w.heap.size, 0, none⟩ = some (.int .i64 2) ∧ W.cell? ⟨w.heap.size, 1, none⟩ = some (.string ch.name) ∧ W.cell? ⟨w.heap.size, 2, none⟩ = some (.slice ch.key.A ch.key.row.length ch.key.c) ∧ W.cell? ⟨w.heap.size, 3, none⟩ = some (.slice ch.row.A ch.row.row.length ch.row.c)) := Lib.hid fun W hW => by
    have h := (hW.block w.heap.size hs1).trans hg1
    unfold ChM.cells at h
    rw [hk] at h
    exact ⟨cell_of_row _ _ 0 _ _ _ h, cell_of_row _ _ 1 _ _ _ h, cell_of_row _ _ 2 _ _ _ h, cell_of_row _ _ 3 _ _ _ h⟩
  have HXB : Hid (∀ W, Below w.heap.size w W → W.cell? ⟨px, 0, none⟩ = some (.slice s.TA s.tabs.length s.tc) ∧ W.cell? ⟨px, 1, none⟩ = some (.slice s.FA s.fks.length s.fc) ∧ W.cell? ⟨px, 2, none⟩ = some (.slice s.NA s.cns.length s.nc) ∧ W.cell? ⟨px, 4, none⟩ = some (.slice IA rs.length ic)) := Lib.hid fun W hW => by
    have h := (hW.block px hpx).trans hx
    unfold exC at h
    exact ⟨cell_of_row _ _ 0 _ _ _ h, cell_of_row _ _ 1 _ _ _ h, cell_of_row _ _ 2 _ _ _ h, cell_of_row _ _ 4 _ _ _ h⟩
  have HFT : Hid (∀ m, Calls Tryz.prog 66 #[s.v, .string ch.name] (w1.drewN m) fun e w' => e = .returned (.tuple #[.int .i64 (i : Int), .bool true]) ∧ Below w1.heap.size w1 w') := Lib.hid fun m => by
    have hd : Below w1.heap.size w1 (w1.drewN m) := below_drewN (Below.refl _ _) m
    refine (findTable s ch.name (w1.drewN m) (hs.on (hb1.trans (hd.mono hb1.size))) hl).mono ?_
    rintro e w' ⟨rfl, hb⟩
    rw [hn]
    have hmi : max (i : Int) 0 = (i : Int) := by omega
    have hdi : decide (0 ≤ (i : Int)) = true := decide_eq_true (by omega)
    unfold findV
    rw [hmi, hdi]
    exact ⟨rfl, hd.trans hb⟩
  have HKY := Lib.hid fun W (hW : Below w.heap.size w W) => relKey s.tabs[i] ch.row.A ch.row.c ch.row.row W ((hs.on hW).tab _ (List.getElem_mem hit)) (hc.row.on hW).el (by omega)
  have HFD := Lib.hid fun W (hW : Below w.heap.size w W) (ky : Key) (hky : KOk (· < W.heap.size) W ky) => relFind s.tabs[i] rs[i].A rs[i].c rs[i].rows ky W ((hs.on hW).tab _ (List.getElem_mem hit)) ((hin.on hW).rel _ (List.getElem_mem hir)) hky hr hp
  have HSC := Lib.hid hs
  have HIN := Lib.hid hin
  have HCO := Lib.hid hc
  have HFF := Lib.hid hf
  have HP := Lib.hid hp
  have HI0 := Lib.hid hfi0
  have HEQ := Lib.hid hkey
  have HR := Lib.hid hr
  have HB1 := Lib.hid hb1
  have HW1 := Lib.hid hw1
  have hit' : (i : Int) < (s.tabs.length : Int) := by omega
  have hir' : (i : Int) < (rs.length : Int) := by omega
  obtain ⟨k0, k1, k2, k3⟩ := HCB.out w1 (Below.refl _ _)
  obtain ⟨x0, x1, x2, x4⟩ := HXB.out w1 hb1
  unfold Sc.v Sc.cells at HFT
  unfold ChM.cells at HW1 ⊢
  rw [hk] at HW1 ⊢
  clear hfi0 hx hs hl hin hc hn hk hp hr hf hb1 hg1 hs1 hw1 hkey
  go_enter Tryz.func72, Tryz.ntmps72
  go_upto_region 1 with fail
  rw [← HW1.out]
  go_cut [5, 6] from 11 to 20 (fun v5 v6 wx => v5 = .int .i64 (i : Int) ∧ v6 = .bool true ∧ Below w1.heap.size w1 wx)
  case first =>
    go_region_held3 (fun W => W.cell? ⟨px, 0, none⟩ = some (.slice s.TA s.tabs.length s.tc) ∧ W.cell? ⟨px, 1, none⟩ = some (.slice s.FA s.fks.length s.fc) ∧ W.cell? ⟨px, 2, none⟩ = some (.slice s.NA s.cns.length s.nc) ∧ W.cell? ⟨w.heap.size, 1, none⟩ = some (.string ch.name)) (first | exact ⟨x0, x1, x2, k1⟩ | exact s9)
      (first
      | (go_at_call 66; refine (HFT.out 1).mono ?_; rintro e w2 ⟨rfl, hb2⟩; have s9 := And.intro (HXB.out w2 (HB1.out.trans (hb2.mono HB1.out.size))).1 (And.intro (HXB.out w2 (HB1.out.trans (hb2.mono HB1.out.size))).2.1 (And.intro (HXB.out w2 (HB1.out.trans (hb2.mono HB1.out.size))).2.2.1 (HCB.out w2 hb2).2.1))))
    all_goals
      have HB2 := Lib.hid hb2
      clear hb2 s9
      go_wp2_with fail
      go_meet
      exact ⟨rfl, rfl, HB2.out⟩
  case rest =>
    obtain ⟨rfl, rfl, hb2⟩ := hcut
    obtain ⟨w2, rfl⟩ : ∃ w2, w2 = wc := ⟨_, rfl⟩
    clear k0 k1 k2 k3 x0 x1 x2 x4 HFT
    have hbw2 := HB1.out.trans (hb2.mono HB1.out.size)
    obtain ⟨k0, k1, k2, k3⟩ := HCB.out w2 hb2
    obtain ⟨x0, x1, x2, x4⟩ := HXB.out w2 hbw2
    obtain ⟨b, off, hA, -, p0, p1, p2⟩ := (HSC.out.on hbw2).tabs.tbl hit
    rw [hA] at x0
    obtain ⟨w3, hw3⟩ : ∃ w3, w3 = w2.alloc (.cells #[.string s.tabs[i].name, .slice s.tabs[i].CA s.tabs[i].cols.length s.tabs[i].cc, .slice s.tabs[i].PA s.tabs[i].pk.length s.tabs[i].pc] 71) := ⟨_, rfl⟩
    have hb3 : Below w2.heap.size w2 w3 := by rw [hw3]; exact (Below.refl _ _).alloc (Nat.le_refl _) _
    have hg3 : w3.heap[w2.heap.size]? = some (.cells #[.string s.tabs[i].name, .slice s.tabs[i].CA s.tabs[i].cols.length s.tabs[i].cc, .slice s.tabs[i].PA s.tabs[i].pk.length s.tabs[i].pc] 71 (0, 0)) := by rw [hw3]; exact heap_alloc_new w2 _
    have hs3 : w2.heap.size < w3.heap.size := by rw [hw3]; simp
    have HTB : Hid (∀ W, Below w3.heap.size w3 W → W.cell? ⟨w2.heap.size, 0, none⟩ = some (.string s.tabs[i].name) ∧ W.cell? ⟨w2.heap.size, 1, none⟩ = some (.slice s.tabs[i].CA s.tabs[i].cols.length s.tabs[i].cc) ∧ W.cell? ⟨w2.heap.size, 2, none⟩ = some (.slice s.tabs[i].PA s.tabs[i].pk.length s.tabs[i].pc)) := Lib.hid fun W hW => by
      have h := (hW.block w2.heap.size hs3).trans hg3
      exact ⟨cell_of_row _ _ 0 _ _ _ h, cell_of_row _ _ 1 _ _ _ h, cell_of_row _ _ 2 _ _ _ h⟩
    have hb13 := hb2.trans (hb3.mono hb2.size)
    have hbw3 := hbw2.trans (hb3.mono hbw2.size)
    have HB3 := Lib.hid (And.intro hb13 hbw3)
    have HW3 := Lib.hid hw3
    obtain ⟨t0, t1, t2⟩ := HTB.out w3 (Below.refl _ _)
    clear hw3 hb3 hg3 hs3 hb2 hbw2 hA
    go_upto_region 5 with fail
    rw [← HW3.out]
    clear k0 k1 k2 k3 x0 x1 x2 x4 p0 p1 p2
    obtain ⟨k0, k1, k2, k3⟩ := HCB.out w3 hb13
    clear hb13 hbw3
    rw [HEQ.out] at k2
    obtain ⟨w4, rfl⟩ : ∃ w4, w4 = w3 := ⟨_, rfl⟩
    have HB4 := Lib.hid (And.intro (Below.refl w4.heap.size w4) HB3.out.2)
    have HFD4 := Lib.hid fun W (hW : Below w4.heap.size w4 W) => HFD.out W (HB3.out.2.trans (hW.mono HB3.out.2.size)) ch.key (HCO.out.key.on (HB3.out.2.trans (hW.mono HB3.out.2.size)))
    rw [HEQ.out] at HFD4
    clear HKY HFD
    obtain ⟨t0, t1, t2⟩ := HTB.out w4 HB4.out.1
    obtain ⟨x0, x1, x2, x4⟩ := HXB.out w4 HB4.out.2
    obtain ⟨b5, off5, hA5, -, z0, z1⟩ := (HIN.out.on HB4.out.2).el.rel hir
    have HSX : Hid (∀ W, Below w4.heap.size w4 W → W.cell? ⟨w2.heap.size, 0, none⟩ = some (.string s.tabs[i].name) ∧ W.cell? ⟨w2.heap.size, 1, none⟩ = some (.slice s.tabs[i].CA s.tabs[i].cols.length s.tabs[i].cc) ∧ W.cell? ⟨w2.heap.size, 2, none⟩ = some (.slice s.tabs[i].PA s.tabs[i].pk.length s.tabs[i].pc) ∧ W.cell? ⟨px, 4, none⟩ = some (.slice (some ⟨b5, off5, none⟩) rs.length ic) ∧ W.cell? ⟨b5, off5 + i * 2 + 1, none⟩ = some (.slice rs[i].A rs[i].rows.length rs[i].c)) := Lib.hid fun W hW => by
      obtain ⟨t0, t1, t2⟩ := HTB.out W (HB4.out.1.trans (hW.mono HB4.out.1.size))
      have hbw := HB4.out.2.trans (hW.mono HB4.out.2.size)
      obtain ⟨-, -, -, x4⟩ := HXB.out W hbw
      obtain ⟨b6, off6, hA6, -, -, z1⟩ := (HIN.out.on hbw).el.rel hir
      rw [hA5] at hA6 x4
      injection hA6 with hA6
      injection hA6 with e1 e2
      subst e1 e2
      exact ⟨t0, t1, t2, x4, z1⟩
    have HFN : Hid (∀ m, Calls Tryz.prog 106 #[.agg #[.string s.tabs[i].name, .slice s.tabs[i].CA s.tabs[i].cols.length s.tabs[i].cc, .slice s.tabs[i].PA s.tabs[i].pk.length s.tabs[i].pc], .slice rs[i].A rs[i].rows.length rs[i].c, (.slice ch.key.A s.tabs[i].pk.length ch.key.c)] (w4.drewN m) fun e w' => e = .returned (.tuple #[.int .i64 (rfi s.tabs[i].pk ch.key.row (rs[i].rows.map Key.row) : Nat), .bool false]) ∧ Below w4.heap.size w4 w') := Lib.hid fun m => by
      have hd : Below w4.heap.size w4 (w4.drewN m) := below_drewN (Below.refl _ _) m
      refine (HFD4.out (w4.drewN m) hd).mono ?_
      rintro e w' ⟨rfl, hb⟩
      refine ⟨?_, hd.trans hb⟩
      show Ending.returned (.tuple #[_, .bool (rff s.tabs[i].pk ch.key.row (rs[i].rows.map Key.row))]) = _
      rw [HFF.out]
    have HRW := Lib.hid fun W (hW : Below w.heap.size w W) => (HIN.out.on hW).rel _ (List.getElem_mem hir)
    have HRF : Hid (True) := Lib.hid trivial
    have s4 := HSX.out w4 (Below.refl _ _)
    clear HFD4 x0 x1 x2 x4 z0 z1 hA5
    rw [HI0.out] at HFN
    generalize hrr : rs[i] = r at *
    have HRR := Lib.hid hrr
    clear hrr
    go_upto_region 12 with fail
    go_cut [9, 10] from 53 to 66 (fun v9 v10 wx => v9 = .int .i64 (fi : Int) ∧ v10 = .bool false ∧ Below w4.heap.size w4 wx)
    case first =>
      go_region_held3 (fun W => W.cell? ⟨w2.heap.size, 0, none⟩ = some (.string s.tabs[i].name) ∧ W.cell? ⟨w2.heap.size, 1, none⟩ = some (.slice s.tabs[i].CA s.tabs[i].cols.length s.tabs[i].cc) ∧ W.cell? ⟨w2.heap.size, 2, none⟩ = some (.slice s.tabs[i].PA s.tabs[i].pk.length s.tabs[i].pc) ∧ W.cell? ⟨px, 4, none⟩ = some (.slice (some ⟨b5, off5, none⟩) rs.length ic) ∧ W.cell? ⟨b5, off5 + i * 2 + 1, none⟩ = some (.slice r.A r.rows.length r.c)) (first | exact s4 | exact s9)
        (first
        | (go_at_call 106; refine (HFN.out 1).mono ?_; rintro e w5 ⟨rfl, hb5⟩; have s9 := HSX.out w5 hb5))
      all_goals
        have HB5 := Lib.hid hb5
        clear hb5 s9
        go_wp2_with fail
        go_meet
        exact ⟨rfl, rfl, HB5.out⟩
    case rest =>
      obtain ⟨rfl, rfl, hb5⟩ := hcut
      obtain ⟨w5, rfl⟩ : ∃ w5, w5 = wc := ⟨_, rfl⟩
      have HB5 := Lib.hid (HB4.out.2.trans (hb5.mono HB4.out.2.size))
      clear hb5 s4
      go_wp2_with fail
      go_ret
      exact ⟨rfl, HB5.out⟩
end Go.Proofs.YtefifkleamiabaaGreatDoor

namespace Go.Proofs.YtefifkleamiabaaGreatDoor
open Go.RowKit

/-- A map with string keys, its entries in the order in which they came. -/
def SMap (w : World) (b : Nat) (l : List (ByteArray × Value)) : Prop :=
  ∃ es clock, w.heap[b]? = some (.map es clock) ∧ es.toList.map (fun e => (e.key, e.val)) = l.map fun p => (Value.string p.1, p.2)
def mget : List (ByteArray × Value) → ByteArray → Option Value
  | [], _ => none
  | p :: l, s => if p.1 = s then some p.2 else mget l s
def mput : List (ByteArray × Value) → ByteArray → Value → List (ByteArray × Value)
  | [], s, v => [(s, v)]
  | p :: l, s, v => if p.1 = s then (s, v) :: l else p :: mput l s v
theorem mget_put_same (l : List (ByteArray × Value)) (s : ByteArray) (v : Value) : mget (mput l s v) s = some v := by
  induction l with
  | nil => simp [mput, mget]
  | cons p l ih =>
    unfold mput
    by_cases h : p.1 = s
    · rw [if_pos h]; simp [mget]
    · rw [if_neg h]; unfold mget; rw [if_neg h]; exact ih
theorem mget_put_other (l : List (ByteArray × Value)) {s t : ByteArray} (v : Value) (hne : s ≠ t) : mget (mput l s v) t = mget l t := by
  induction l with
  | nil => simp [mput, mget, hne]
  | cons p l ih =>
    unfold mput
    by_cases h : p.1 = s
    · rw [if_pos h]
      unfold mget
      rw [if_neg hne, if_neg (fun e => hne (h ▸ e))]
    · rw [if_neg h]
      unfold mget
      rw [ih]

theorem findNow_s (s : ByteArray) : ∀ (es : List MapEntry) (l : List (ByteArray × Value)) (i : Nat), es.map (fun e => (e.key, e.val)) = l.map (fun p => (Value.string p.1, p.2)) →
    (mget l s = none ∧ Instr.findNow .string (.string s) es i = some none ∧ ∀ v, mput l s v = l ++ [(s, v)]) ∨
    ∃ j v, mget l s = some v ∧ Instr.findNow .string (.string s) es i = some (some (i + j, v)) ∧ ((es[j]?).map (·.key)).getD (.string s) = .string s ∧ ∀ v', (es.modify j fun e => { e with key := .string s, val := v' }).map (fun e => (e.key, e.val)) = (mput l s v').map fun p => (Value.string p.1, p.2)
  | [], [], i, _ => .inl ⟨rfl, rfl, fun _ => rfl⟩
  | [], _ :: _, _, h => by simp at h
  | _ :: _, [], _, h => by simp at h
  | e :: es, p :: l, i, h => by
    simp only [List.map_cons, List.cons.injEq, Prod.mk.injEq] at h
    obtain ⟨⟨h1, h2⟩, h3⟩ := h
    by_cases hp : p.1 = s
    · refine .inr ⟨0, p.2, by unfold mget; rw [if_pos hp], ?_, ?_, fun v' => ?_⟩
      · have hs : Instr.sameNow .string (.string s) e.key = some true := by
          rw [h1, hp]
          show some (s == s) = some true
          rw [(MapKept.bytes_beq s s).2 rfl]
        simp [Instr.findNow, hs, h2]
      · simp [h1, hp]
      · unfold mput
        rw [if_pos hp]
        simp [h3]
    · have hs : Instr.sameNow .string (.string s) e.key = some false := by
        rw [h1]
        show some (s == p.1) = some false
        cases hb : (s == p.1) with
        | false => rfl
        | true => exact absurd ((MapKept.bytes_beq _ _).1 hb).symm hp
      rcases findNow_s s es l (i + 1) h3 with ⟨g1, g2, g3⟩ | ⟨j, v, g1, g2, g3, g4⟩
      · refine .inl ⟨by unfold mget; rw [if_neg hp]; exact g1, by simp [Instr.findNow, hs, g2], fun v => ?_⟩
        unfold mput
        rw [if_neg hp, g3 v]
        rfl
      · refine .inr ⟨j + 1, v, by unfold mget; rw [if_neg hp]; exact g1, ?_, by simpa using g3, fun v' => ?_⟩
        · simp only [Instr.findNow, hs, g2]
          congr 3
          omega
        · unfold mput
          rw [if_neg hp]
          simp only [List.modify_succ_cons, List.map_cons, g4 v', h1, h2]

section
variable {P : Program} {T K E : TypeId} {w w' : World} {b : Nat} {l : List (ByteArray × Value)}
theorem SMap.made (w : World) : SMap (w.alloc (.map #[] 0)) w.heap.size [] := ⟨#[], 0, (MapKept.heap_alloc w _).1, rfl⟩
theorem SMap.keep (h : SMap w b l) (hk : w'.heap[b]? = w.heap[b]?) : SMap w' b l := by
  obtain ⟨es, c, h1, h2⟩ := h
  exact ⟨es, c, hk.trans h1, h2⟩
theorem SMap.lt (h : SMap w b l) : b < w.heap.size := by
  obtain ⟨es, c, h1, h2⟩ := h
  exact (Array.getElem?_eq_some_iff.1 h1).1
theorem SMap.below (h : SMap w b l) (hb : Below w.heap.size w w') : SMap w' b l := h.keep (hb.block b h.lt)
theorem SMap.look (h : SMap w b l) (hT : P.underlying T = some (.map K E)) (hK : P.underlying K = some .string) {z : Value} (hz : (zeroValue E).run P w = .ok z w) (s : ByteArray) :
    (Instr.lookup T (.map (some b)) (.string s) false).run P w = .ok ((mget l s).getD z) w := by
  obtain ⟨es, c, h1, h2⟩ := h
  have hk : MapKept.IsKey .string (.string s) := trivial
  rcases findNow_s s es.toList l 0 h2 with ⟨g1, g2, -⟩ | ⟨j, v, g1, g2, -, -⟩
  · simp [Instr.lookup, run_underlying hT, MapKept.run_getObj_map h1, MapKept.run_checkKey hK hk, MapKept.run_findKey hK g2, hz, Result.andThen, g1]
  · simp [Instr.lookup, run_underlying hT, MapKept.run_getObj_map h1, MapKept.run_checkKey hK hk, MapKept.run_findKey hK g2, Result.andThen, g1]
theorem SMap.update (h : SMap w b l) (hT : P.underlying T = some (.map K E)) (hK : P.underlying K = some .string) (s : ByteArray) (v : Value) :
    ∃ w', (Instr.mapUpdate T (.map (some b)) (.string s) v).run P w = .ok () w' ∧ SMap w' b (mput l s v) ∧ w.grownBy w' (some b) := by
  obtain ⟨es, c, h1, h2⟩ := h
  have hk : MapKept.IsKey .string (.string s) := trivial
  have hlt : b < w.heap.size := (Array.getElem?_eq_some_iff.1 h1).1
  have hgr : ∀ o : Obj, w.grownBy { w with heap := w.heap.setIfInBounds b o } (some b) := fun o => ⟨rfl, rfl, rfl, by simp, fun i _ hi => (MapKept.heap_set h1).2 i fun e => hi (by rw [e])⟩
  rcases findNow_s s es.toList l 0 h2 with ⟨g1, g2, g3⟩ | ⟨j, u, g1, g2, g3, g4⟩
  · refine ⟨{ w with heap := w.heap.setIfInBounds b (.map (es.push { key := .string s, val := v, born := c }) (c + 1)) }, ?_, ⟨_, _, (MapKept.heap_set h1).1, ?_⟩, hgr _⟩
    · simp [Instr.mapUpdate, run_underlying hT, MapKept.run_getObj_map h1, MapKept.run_checkKey hK hk, MapKept.run_findKey hK g2, MapKept.run_setObj_map _ h1, Result.andThen]
    · rw [g3 v, Array.toList_push, List.map_append, List.map_append, h2]
      rfl
  · refine ⟨{ w with heap := w.heap.setIfInBounds b (.map (es.modify j fun e => { e with key := .string s, val := v }) c) }, ?_, ⟨_, _, (MapKept.heap_set h1).1, ?_⟩, hgr _⟩
    · have g3' : ((es[j]?).map (·.key)).getD (.string s) = .string s := by simpa using g3
      have hj : (0 + j) = j := by omega
      simp [Instr.mapUpdate, run_underlying hT, MapKept.run_getObj_map h1, MapKept.run_checkKey hK hk, MapKept.run_findKey hK g2, hj, g3', MapKept.run_keyThatStays hk, MapKept.run_setObj_map _ h1, Result.andThen]
    · rw [← g4 v]
      simp
end
end Go.Proofs.YtefifkleamiabaaGreatDoor
