/-
  The walks of relation.Delete, relation.Upsert.
  The walk of relation.Upsert.
  The walk of instance.Conforms, where the instance fits.
  The walk of instance.Clone.
  The walk of change.validateKey, where the key fits.
  Changes in memory; the walk of change.Validate, where the change fits.
-/
import Derived.Test.YtefifkleamiabaaGreatDoorUm04
import Derived.Deep.RegionLaw
namespace Go.Proofs.YtefifkleamiabaaGreatDoor
open Go.RowKit Go.Sort

theorem Own.rebase {α : Type} {sz : Nat} {cs : α → List Value} {e : TypeId} {base base' : Nat} {w : World} {v : Value} {xs : List α} (h : Own sz cs e base w v xs) (hl : ∀ g, v.ownBlock = some g → base' ≤ g) : Own sz cs e base' w v xs := by
  refine ⟨h.1, ?_⟩
  rcases h.2 with h | ⟨g, cap, cur, rfl, h2, h3⟩
  · exact .inl h
  · exact .inr ⟨g, cap, cur, rfl, hl g rfl, h3⟩
theorem Own.set1 {α : Type} {cs : α → List Value} (L : Lay 1 cs) {e : TypeId} {base : Nat} {w : World} {g n c i : Nat} {xs : List α} {y : α} {v : Value} (h : Own 1 cs e base w (.slice (some ⟨g, 0, none⟩) n c) xs) (hi : i < xs.length) (hy : cs y = [v]) :
    Own 1 cs e base (w.setCell ⟨g, i, none⟩ v) (.slice (some ⟨g, 0, none⟩) n c) (xs.set i y) ∧ (∃ q, w.cell? ⟨g, i, none⟩ = some q) ∧ w.frozen? ⟨g, i, none⟩ = false := by
  obtain ⟨g', c', cur, hv, hb, hg, hcl, hcm, hs, ht⟩ := Own.open_ h (by omega)
  injection hv with hv1 hv2 hv3
  injection hv1 with hv1
  injection hv1 with hv1
  subst hv1 hv3
  refine ⟨Own.shut L hb (heap_setCell_at hg _) (by rw [List.length_set]; exact hv2) (by omega) hcm (by simp [hs]) ?_, ?_, frozen_of_row _ _ _ _ _ hg⟩
  · rw [Array.toList_setIfInBounds, List.take_set, hv2, ht]
    have key : ∀ (xs : List α) (i : Nat), (xs.flatMap cs).set i v = (xs.set i y).flatMap cs := by
      intro xs
      induction xs with
      | nil => intro i; rfl
      | cons a l ih =>
        intro i
        have hla := L.len a
        obtain ⟨va, hva⟩ : ∃ va, cs a = [va] := by
          rcases hc : cs a with _ | ⟨x, _ | ⟨x2, l2⟩⟩
          · rw [hc] at hla; cases hla
          · exact ⟨x, rfl⟩
          · rw [hc] at hla; simp at hla
        cases i with
        | zero => rw [List.set_cons_zero, List.flatMap_cons, List.flatMap_cons, hy, hva]; rfl
        | succ i => rw [List.set_cons_succ, List.flatMap_cons, List.flatMap_cons, hva, ← ih i]; rfl
    exact key xs i
  · rw [cell_of_row _ _ _ _ _ _ hg]
    exact ⟨_, Array.getElem?_eq_getElem (by omega)⟩

/-- What Delete leaves of the rows. -/
def delRX (pk : List Int) (key : Row) (rs : List Row) : List Row := if rff pk key rs = true then rs.take (rfi pk key rs) ++ rs.drop (rfi pk key rs + 1) else rs
theorem rff_lt {pk : List Int} {key : Row} {rs : List Row} (h : rff pk key rs = true) : rfi pk key rs < rs.length := by
  unfold rff at h
  rcases Nat.lt_or_ge (rfi pk key rs) rs.length with h' | h'
  · exact h'
  · rw [List.getElem?_eq_none h'] at h
    cases h
theorem rfi_le (pk : List Int) (key : Row) (rs : List Row) : rfi pk key rs ≤ rs.length := List.findIdx_le_length

set_option maxRecDepth 100000 in
set_option maxHeartbeats 4000000 in
theorem relDelete (t : Tbl) (A : Option Addr) (c : Nat) (ks : List Key) (key : Key) (w : World) (ht : TOk (· < w.heap.size) w t) (h : RsOk (· < w.heap.size) w A ks) (hk : KOk (· < w.heap.size) w key) (hl : ks.length ≤ 1000) (hp : t.pk.length ≤ 12) :
    Calls Tryz.prog 109 #[t.val, .slice A ks.length c, .slice key.A key.row.length key.c] w fun e w' => ∃ v ks', e = .returned (.tuple #[v, .bool (rff t.pk key.row (ks.map Key.row))]) ∧ RO w.heap.size w w' v ks' (delRX t.pk key.row (ks.map Key.row)) := by
  obtain ⟨w1, hw1⟩ : ∃ w1, w1 = w.alloc (.cells #[.string t.name, .slice t.CA t.cols.length t.cc, .slice t.PA t.pk.length t.pc] 71) := ⟨_, rfl⟩
  have hbx := heap_alloc_new w (.cells #[.string t.name, .slice t.CA t.cols.length t.cc, .slice t.PA t.pk.length t.pc] 71)
  rw [← hw1] at hbx
  have hb1 : Below w.heap.size w w1 := by rw [hw1]; exact (Below.refl _ _).alloc (Nat.le_refl _) _
  have hs1 : w.heap.size < w1.heap.size := by rw [hw1]; simp
  have HBK : Hid (∀ W, Below w1.heap.size w1 W → W.cell? ⟨w.heap.size, 0, none⟩ = some (.string t.name) ∧ W.cell? ⟨w.heap.size, 1, none⟩ = some (.slice t.CA t.cols.length t.cc) ∧ W.cell? ⟨w.heap.size, 2, none⟩ = some (.slice t.PA t.pk.length t.pc)) := Lib.hid fun W hW => by
    have h := (hW.block w.heap.size hs1).trans hbx
    exact ⟨by rw [cell_of_row _ _ _ _ _ _ h]; rfl, by rw [cell_of_row _ _ _ _ _ _ h]; rfl, by rw [cell_of_row _ _ _ _ _ _ h]; rfl⟩
  have HCL := Lib.hid (relClone A c ks w1 (h.on hb1) hl)
  have HFD := Lib.hid fun W (hW : Below w.heap.size w W) A' c' ks' (h' : RsOk (· < W.heap.size) W A' ks') (hl' : ks'.length ≤ 1000) => relFind t A' c' ks' key W (ht.on hW) h' (hk.on hW) hl' hp
  have HB1 := Lib.hid hb1
  have HW1 := Lib.hid hw1
  obtain ⟨n, hn⟩ : ∃ n, ks.length = n := ⟨_, rfl⟩
  rw [hn] at HCL hl ⊢
  have HN := Lib.hid hn
  obtain ⟨name, CA, cc, tc, PA, pc, pk⟩ := t
  unfold Tbl.val at HFD ⊢
  simp only at *
  generalize hR : ks.map Key.row = R at *
  have HRL : Hid (R.length = n) := Lib.hid (by rw [← hR, List.length_map]; exact HN.out)
  clear ht h hk hn hw1 hbx hb1 hs1 hp hR
  go_enter Tryz.func109, Tryz.ntmps109
  go_upto_region 1 with fail
  rw [← HW1.out]
  go_wp2_with fail
  refine HCL.out.mono ?_
  rintro e w2 ⟨v2, ks2, rfl, hro⟩
  have hkl2 : ks2.length = n := by
    have h := congrArg List.length hro.rows
    rw [List.length_map, HRL.out] at h
    exact h
  obtain ⟨A2, c2, hv2, -, -⟩ := hro.own.form
  rw [hkl2] at hv2
  subst hv2
  have hb02 := HB1.out.trans (hro.bel.mono HB1.out.size)
  have HF2 := HFD.out w2 hb02 A2 c2 ks2 hro.rs (by omega)
  rw [hkl2, hro.rows] at HF2
  have HF := Lib.hid HF2
  have HRO := Lib.hid hro
  have HB02 := Lib.hid hb02
  obtain ⟨y0, y1, y2⟩ := HBK.out w2 hro.bel
  have HKL := Lib.hid hkl2
  clear HF2 hro hb02 hkl2
  go_wp2_with fail
  refine HF.out.mono ?_
  rintro e w3 ⟨rfl, hb3⟩
  have HB03 := Lib.hid (HB02.out.trans (hb3.mono HB02.out.size))
  have HRO3 := Lib.hid (HRO.out.below hb3 HRO.out.bel.size)
  have HW3 := Lib.hid hb3
  clear hb3
  cases hff : rff pk key.row R with
  | false =>
    have HD : Hid (delRX pk key.row R = R) := Lib.hid (by unfold delRX; rw [if_neg (by rw [hff]; simp)])
    have HFF := Lib.hid hff
    clear hff
    go_wp2_with fail
    go_ret2
    rw [HD.out, HFF.out]
    exact ⟨_, ks2, rfl, HRO3.out.own.mono HB1.out.size, HRO3.out.rows, fun k hk => (HRO3.out.el k hk).more fun g hg => ⟨Nat.le_trans HB1.out.size hg.1, hg.2⟩, HB03.out⟩
  | true =>
    have hlt := rff_lt hff
    rw [HRL.out] at hlt
    have HD : Hid (delRX pk key.row R = R.take (rfi pk key.row R) ++ R.drop (rfi pk key.row R + 1)) := Lib.hid (by unfold delRX; rw [if_pos hff])
    have hde := delKey A2 c2 ks2 (rfi pk key.row R) w3 (by have h := HRO3.out.own.mono (Nat.zero_le _); rw [HKL.out]; exact h) (by rw [HKL.out]; exact hlt) (by rw [HKL.out]; exact hl)
    rw [HKL.out] at hde
    have HDE := Lib.hid hde
    have HFF := Lib.hid hff
    clear hff hde
    generalize rfi pk key.row R = i at *
    go_wp2_with fail
    refine HDE.out.mono ?_
    rintro e w4 ⟨v4, rfl, ho4, hx4⟩
    have HX4 := Lib.hid (And.intro ho4 hx4)
    clear ho4 hx4
    go_wp2_with fail
    go_ret2
    rw [HD.out, HFF.out]
    obtain ⟨ho4, hx4⟩ := HX4.out
    have hv2 : ∀ g, (Value.slice A2 n c2).ownBlock = some g → w1.heap.size ≤ g := fun g hg => (Own.lt HRO3.out.own g hg).1
    have hv4 : ∀ g, v4.ownBlock = some g → w.heap.size ≤ g := hx4.own_lt (base := w.heap.size) (fun g hg => Nat.le_trans HB1.out.size (hv2 g hg)) HB03.out.size
    refine ⟨_, ks2.take i ++ ks2.drop (i + 1), rfl, ho4.rebase hv4, by rw [List.map_append, List.map_take, List.map_drop, HRO3.out.rows], fun k hk => ?_, HB03.out.trans (hx4.below (base := w.heap.size) HB03.out.size fun g hg => Nat.le_trans HB1.out.size (hv2 g hg))⟩
    have hm : k ∈ ks2 := by
      rcases List.mem_append.1 hk with h | h
      · exact List.mem_of_mem_take h
      · exact List.mem_of_mem_drop h
    exact ((HRO3.out.el k hm).keep (hx4.keeps fun g hg => ⟨hg.2.1, fun e => hg.2.2 e.symm⟩)).more fun g hg => ⟨Nat.le_trans HB1.out.size hg.1, Nat.lt_of_lt_of_le hg.2.1 hx4.size, hx4.ne hg.2.2 hg.2.1⟩
end Go.Proofs.YtefifkleamiabaaGreatDoor

namespace Go.Proofs.YtefifkleamiabaaGreatDoor
open Go.RowKit Go.Sort

/-- What Upsert leaves of the rows. -/
def upsX (pk : List Int) (row : Row) (rs : List Row) : List Row := if rff pk (keyOf pk row) rs = true then rs.set (rfi pk (keyOf pk row) rs) row else rs.take (rfi pk (keyOf pk row) rs) ++ row :: rs.drop (rfi pk (keyOf pk row) rs)

/-- Behind Key: Find, and the box's cells. -/
def UpK (w3 : World) (fargs : Array Value) (bx : Nat) (x0 x1 x2 : Value) (kl : Nat) (i : Nat) (b : Bool) (e : Ending) (w4 : World) : Prop :=
  ∃ A c, e = .returned (.slice A kl c) ∧ w4.cell? ⟨bx, 0, none⟩ = some x0 ∧ w4.cell? ⟨bx, 1, none⟩ = some x1 ∧ w4.cell? ⟨bx, 2, none⟩ = some x2
    ∧ Hid (Calls Tryz.prog 106 (fargs ++ #[.slice A kl c]) w4 fun e w5 => e = .returned (.tuple #[.int .i64 (i : Nat), .bool b]) ∧ Below w3.heap.size w3 w5)

set_option maxRecDepth 100000 in
set_option maxHeartbeats 4000000 in
theorem relUpsert (t : Tbl) (A : Option Addr) (c : Nat) (ks : List Key) (key : Key) (w : World) (ht : TOk (· < w.heap.size) w t) (h : RsOk (· < w.heap.size) w A ks) (hk : KOk (· < w.heap.size) w key) (hl : ks.length ≤ 999) (hp : t.pk.length ≤ 12) :
    Calls Tryz.prog 108 #[t.val, .slice A ks.length c, .slice key.A key.row.length key.c] w fun e w' => ∃ v ks', e = .returned v ∧ RO w.heap.size w w' v ks' (upsX t.pk key.row (ks.map Key.row)) := by
  obtain ⟨w1, hw1⟩ : ∃ w1, w1 = w.alloc (.cells #[.string t.name, .slice t.CA t.cols.length t.cc, .slice t.PA t.pk.length t.pc] 71) := ⟨_, rfl⟩
  have hbx := heap_alloc_new w (.cells #[.string t.name, .slice t.CA t.cols.length t.cc, .slice t.PA t.pk.length t.pc] 71)
  rw [← hw1] at hbx
  have hb1 : Below w.heap.size w w1 := by rw [hw1]; exact (Below.refl _ _).alloc (Nat.le_refl _) _
  have hs1 : w.heap.size < w1.heap.size := by rw [hw1]; simp
  have HBK : Hid (∀ W, Below w1.heap.size w1 W → W.cell? ⟨w.heap.size, 0, none⟩ = some (.string t.name) ∧ W.cell? ⟨w.heap.size, 1, none⟩ = some (.slice t.CA t.cols.length t.cc) ∧ W.cell? ⟨w.heap.size, 2, none⟩ = some (.slice t.PA t.pk.length t.pc)) := Lib.hid fun W hW => by
    have h := (hW.block w.heap.size hs1).trans hbx
    exact ⟨by rw [cell_of_row _ _ _ _ _ _ h]; rfl, by rw [cell_of_row _ _ _ _ _ _ h]; rfl, by rw [cell_of_row _ _ _ _ _ _ h]; rfl⟩
  have HCL := Lib.hid (relClone A c ks w1 (h.on hb1) (by omega))
  have HCR := Lib.hid fun W (hW : Below w.heap.size w W) => cloneRow key.A key.row.length key.c key.row W _ (hk.on hW).el (fun _ h => h) rfl (by have := hk.len; omega)
  have HKF : Hid (∀ W, Below w1.heap.size w1 W → ∀ A' c' ks' B d n', RsOk (· < W.heap.size) W A' ks' → KOk (· < W.heap.size) W ⟨B, d, key.row⟩ → ks'.length = n' → n' ≤ 1000 → ∀ m, Calls Tryz.prog 70 #[t.val, .slice B key.row.length d] (W.drewN m)
      (UpK W #[t.val, .slice A' n' c'] w.heap.size (.string t.name) (.slice t.CA t.cols.length t.cc) (.slice t.PA t.pk.length t.pc) t.pk.length (rfi t.pk (keyOf t.pk key.row) (ks'.map Key.row)) (rff t.pk (keyOf t.pk key.row) (ks'.map Key.row)))) := Lib.hid fun W hW A' c' ks' B d n' h1 h2 h3 h4 m => by
    have hd : Below W.heap.size W (W.drewN m) := below_drewN (Below.refl _ _) m
    have h0 : Below w.heap.size w (W.drewN m) := (hb1.trans (hW.mono hb1.size)).trans (hd.mono (Nat.le_trans hb1.size hW.size))
    refine (relKey t B d key.row (W.drewN m) (ht.on h0) ((h2.on hd).el) (by omega)).mono ?_
    rintro e w4 ⟨v4, rfl, ho4, hb4⟩
    obtain ⟨A4, c4, rfl, -, -⟩ := ho4.form
    have hb14 : Below W.heap.size W w4 := hd.trans hb4
    have hkl : (keyOf t.pk key.row).length = t.pk.length := by unfold keyOf; rw [List.length_map]
    obtain ⟨y0, y1, y2⟩ := HBK.out w4 (hW.trans (hb14.mono hW.size))
    rw [hkl]
    refine ⟨A4, c4, rfl, y0, y1, y2, Lib.hid ?_⟩
    have hf := relFind t A' c' ks' ⟨A4, c4, keyOf t.pk key.row⟩ w4 (ht.on ((hb1.trans (hW.mono hb1.size)).trans (hb14.mono (Nat.le_trans hb1.size hW.size)))) (h1.on hb14) ⟨(ho4.elems valLay.len rfl).more fun g hg => (Own.lt ho4 g hg).2, by show (keyOf t.pk key.row).length ≤ 12; omega⟩ (by omega) hp
    simp only [hkl, h3] at hf
    exact hf.mono fun e w' h => ⟨h.1, hb14.trans (h.2.mono hb14.size)⟩
  have HB1 := Lib.hid hb1
  have HW1 := Lib.hid hw1
  have HKL := Lib.hid hk.len
  obtain ⟨n, hn⟩ : ∃ n, ks.length = n := ⟨_, rfl⟩
  rw [hn] at HCL hl ⊢
  have HN := Lib.hid hn
  obtain ⟨name, CA, cc, tc, PA, pc, pk⟩ := t
  unfold Tbl.val at HKF ⊢
  obtain ⟨kA, kc, kr⟩ := key
  simp only at *
  generalize hR : ks.map Key.row = R at *
  have HRL : Hid (R.length = n) := Lib.hid (by rw [← hR, List.length_map]; exact HN.out)
  clear ht h hk hn hw1 hbx hb1 hs1 hp hR
  go_enter Tryz.func108, Tryz.ntmps108
  go_upto_region 1 with fail
  rw [← HW1.out]
  go_wp2_with fail
  refine HCL.out.mono ?_
  rintro e w2 ⟨v2, ks2, rfl, hro⟩
  have hkl2 : ks2.length = n := by
    have h := congrArg List.length hro.rows
    rw [List.length_map, HRL.out] at h
    exact h
  obtain ⟨A2, c2, hv2, -, -⟩ := hro.own.form
  rw [hkl2] at hv2
  subst hv2
  have HCR2 := Lib.hid (HCR.out w2 (HB1.out.trans (hro.bel.mono HB1.out.size)))
  have HRO := Lib.hid hro
  have HL2 := Lib.hid hkl2
  clear hro hkl2
  go_wp2_with fail
  refine HCR2.out.mono ?_
  rintro e w3 ⟨v3, rfl, ho3, hb3⟩
  obtain ⟨A3, c3, rfl, -, -⟩ := ho3.form
  have hro3 := HRO.out.below hb3 HRO.out.bel.size
  have hky3 : KOk (fun g => w2.heap.size ≤ g ∧ g < w3.heap.size) w3 ⟨A3, c3, kr⟩ := ⟨(ho3.elems valLay.len rfl).more fun g hg => Own.lt ho3 g hg, HKL.out⟩
  have hkf := HKF.out w3 hro3.bel A2 c2 ks2 A3 c3 n hro3.rs (hky3.more fun g hg => hg.2) HL2.out (by omega)
  rw [hro3.rows] at hkf
  obtain ⟨y0, y1, y2⟩ := HBK.out w3 hro3.bel
  have HKF3 := Lib.hid hkf
  have H3 := Lib.hid (And.intro hro3 (And.intro hky3 hb3))
  clear hkf hro3 hky3 hb3 ho3
  go_upto_region 3 with fail
  go_cut [8, 9] from 15 to 22 (fun v8 v9 wx => v8 = .int .i64 (rfi pk (keyOf pk kr) R : Nat) ∧ v9 = .bool (rff pk (keyOf pk kr) R) ∧ Below w3.heap.size w3 wx)
  case first =>
    go_region_law (first
      | (go_simp; go_at_call 70; refine (HKF3.out 1).mono ?_; rintro e w4 ⟨A4, c4, rfl, z0, z1, z2, HFD⟩)
      | (go_simp; go_at_call 106; refine HFD.out.mono ?_; rintro e w5 ⟨rfl, hb5⟩))
    all_goals
      have HB5 := Lib.hid hb5
      clear hb5
      go_wp2_with fail
      go_meet
      exact ⟨rfl, rfl, HB5.out⟩
  case rest =>
    obtain ⟨rfl, rfl, hb5⟩ := hcut
    obtain ⟨w5, rfl⟩ : ∃ w5, w5 = wc := ⟨_, rfl⟩
    obtain ⟨hro3, hky3, hb3⟩ := H3.out
    have hro5 := hro3.below hb5 hro3.bel.size
    have hky5 : KOk (fun g => w2.heap.size ≤ g ∧ g < w3.heap.size) w5 ⟨A3, c3, kr⟩ := hky3.keep (Keeps.of_below hb5 fun _ h => h.2)
    have hro5' : RO w.heap.size w w5 (.slice A2 n c2) ks2 R := ⟨hro5.own.mono HB1.out.size, hro5.rows, fun k hk => (hro5.el k hk).more fun g hg => ⟨Nat.le_trans HB1.out.size hg.1, hg.2⟩, HB1.out.trans (hro5.bel.mono HB1.out.size)⟩
    have hA2 : ∀ g, (Value.slice A2 n c2).ownBlock = some g → w1.heap.size ≤ g ∧ g < w2.heap.size := fun g hg => Own.lt HRO.out.own g hg
    have H5 := Lib.hid (And.intro hro5' (And.intro hky5 (And.intro hA2 hb5)))
    have H23 : Hid (w2.heap.size ≤ w3.heap.size ∧ w.heap.size ≤ w1.heap.size ∧ w1.heap.size ≤ w2.heap.size) := Lib.hid ⟨hb3.size, HB1.out.size, HRO.out.bel.size⟩
    clear hro3 hky3 hb3 hro5 hky5 hro5' hb5 hA2
    cases hff : rff pk (keyOf pk kr) R with
    | true =>
      have hlt := rff_lt hff
      rw [HRL.out] at hlt
      have HD : Hid (upsX pk kr R = R.set (rfi pk (keyOf pk kr) R) kr) := Lib.hid (by unfold upsX; rw [if_pos hff])
      clear hff
      generalize rfi pk (keyOf pk kr) R = i at *
      obtain ⟨g2, c2', cur2, hv, -⟩ := H5.out.1.own.open_ (by rw [HL2.out]; omega)
      injection hv with hv1 hv2 hv3
      subst hv1
      obtain ⟨hset, ⟨q, z0⟩, z1⟩ := Own.set1 keyLay H5.out.1.own (i := i) (y := ⟨A3, c3, kr⟩) (v := .slice A3 kr.length c3) (by rw [HL2.out]; exact hlt) rfl
      have HSET := Lib.hid hset
      have hlt' : (i : Int) < (n : Int) := by omega
      clear hset hlt hv2 hv3
      go_wp2_with fail
      go_ret
      rw [HD.out]
      obtain ⟨hro, hky, hA2, hb5⟩ := H5.out
      obtain ⟨h23, h01, h12⟩ := H23.out
      obtain ⟨hg1, hg2⟩ := hA2 g2 rfl
      have hsz : (w5.setCell ⟨g2, i, none⟩ (.slice A3 kr.length c3)).heap.size = w5.heap.size := by simp [World.setCell]
      refine ⟨_, ks2.set i ⟨A3, c3, kr⟩, rfl, HSET.out, by rw [List.map_set, hro.rows], fun k hk => ?_, hro.bel.setCell (p := ⟨g2, i, none⟩) (by show w.heap.size ≤ g2; omega) _⟩
      have hoff : ∀ g, g ≠ g2 → (w5.setCell ⟨g2, i, none⟩ (.slice A3 kr.length c3)).heap[g]? = w5.heap[g]? := fun g hg => Below.heap_setCell w5 ⟨g2, i, none⟩ _ g hg
      rcases List.mem_or_eq_of_mem_set hk with hm | rfl
      · refine ((hro.el k hm).keep fun g hg => hoff g fun e => hg.2.2 (by rw [e]; rfl)).more fun g hg => ⟨hg.1, by rw [hsz]; exact hg.2.1, hg.2.2⟩
      · refine (hky.keep fun g hg => hoff g (by omega)).more fun g hg => ⟨by omega, by rw [hsz]; have := hb5.size; omega, fun e => by have e := Option.some.inj (show some g2 = some g from e); omega⟩
    | false =>
      have hle := rfi_le pk (keyOf pk kr) R
      rw [HRL.out] at hle
      have HD : Hid (upsX pk kr R = R.take (rfi pk (keyOf pk kr) R) ++ kr :: R.drop (rfi pk (keyOf pk kr) R)) := Lib.hid (by unfold upsX; rw [if_neg (by rw [hff]; simp)])
      clear hff
      generalize rfi pk (keyOf pk kr) R = i at *
      obtain ⟨w6, hw6⟩ : ∃ w6, w6 = w5.alloc (.cells #[.slice A3 kr.length c3] 48) := ⟨_, rfl⟩
      have hb6 : Below w5.heap.size w5 w6 := by rw [hw6]; exact (Below.refl _ _).alloc (Nat.le_refl _) _
      have hg6 : w6.heap[w5.heap.size]? = some (.cells #[.slice A3 kr.length c3] 48 (0, 0)) := by rw [hw6]; exact heap_alloc_new w5 _
      have hro6 := H5.out.1.below hb6 H5.out.1.bel.size
      have hin := insKey A2 c2 ks2 i ⟨A3, c3, kr⟩ w6 (by have h := hro6.own.mono (Nat.zero_le _); rw [HL2.out]; exact h) (by rw [HL2.out]; exact hle) hg6 rfl (fun e => by have h := (Own.lt H5.out.1.own w5.heap.size (by rw [← e, HL2.out])).2; omega) (by rw [HL2.out]; omega)
      rw [HL2.out] at hin
      have HIN := Lib.hid hin
      have H6 := Lib.hid (And.intro hro6 hb6)
      have HW6 := Lib.hid hw6
      clear hin hro6 hb6 hg6 hw6
      go_upto_region 7 with fail
      go_wp2_with fail
      rw [← HW6.out]
      refine HIN.out.mono ?_
      rintro e w7 ⟨v7, rfl, ho7, hx7⟩
      have H7 := Lib.hid (And.intro ho7 hx7)
      clear ho7 hx7
      go_wp2_with fail
      go_ret
      rw [HD.out]
      obtain ⟨ho7, hx7⟩ := H7.out
      obtain ⟨hro6, hb6⟩ := H6.out
      obtain ⟨-, hky, hA2, hb5⟩ := H5.out
      obtain ⟨h23, h01, h12⟩ := H23.out
      have hv2 : ∀ g, (Value.slice A2 n c2).ownBlock = some g → w.heap.size ≤ g := fun g hg => (Own.lt hro6.own g hg).1
      have hv7 : ∀ g, v7.ownBlock = some g → w.heap.size ≤ g := hx7.own_lt (base := w.heap.size) hv2 hro6.bel.size
      refine ⟨_, ks2.take i ++ ⟨A3, c3, kr⟩ :: ks2.drop i, rfl, ho7.rebase hv7, by rw [List.map_append, List.map_cons, List.map_take, List.map_drop, hro6.rows], fun k hk => ?_, hro6.bel.trans (hx7.below (base := w.heap.size) hro6.bel.size hv2)⟩
      have hm : k ∈ ks2 ∨ k = ⟨A3, c3, kr⟩ := by
        rcases List.mem_append.1 hk with h | h
        · exact .inl (List.mem_of_mem_take h)
        · rcases List.mem_cons.1 h with h | h
          · exact .inr h
          · exact .inl (List.mem_of_mem_drop h)
      rcases hm with hm | rfl
      · exact ((hro6.el k hm).keep (hx7.keeps fun g hg => ⟨hg.2.1, fun e => hg.2.2 e.symm⟩)).more fun g hg => ⟨hg.1, Nat.lt_of_lt_of_le hg.2.1 hx7.size, hx7.ne hg.2.2 hg.2.1⟩
      · have hb56 := hb5.size
        have hb66 := hb6.size
        have hne : ∀ g, w2.heap.size ≤ g → (Value.slice A2 n c2).ownBlock ≠ some g := fun g hg e => by have := (hA2 g e).2; omega
        have hky6 : KOk (fun g => w2.heap.size ≤ g ∧ g < w3.heap.size) w6 ⟨A3, c3, kr⟩ := hky.keep (Keeps.of_below hb6 fun g hg => by omega)
        exact (hky6.keep (hx7.keeps fun g hg => ⟨by omega, fun e => hne g hg.1 e.symm⟩)).more fun g hg => ⟨by omega, by have := hx7.size; omega, hx7.ne (hne g hg.1) (by omega)⟩
end Go.Proofs.YtefifkleamiabaaGreatDoor

namespace Go.Proofs.YtefifkleamiabaaGreatDoor
open Go.RowKit Go.Sort

/-- The rows of a table: they fit, they are sorted by their keys. -/
structure RelC (t : Tbl) (ks : List Key) : Prop where
  len : ks.length ≤ 24
  row : ∀ k ∈ ks, RowC t.cols k.row
  ord : (ks.map fun k => keyOf t.pk k.row).Pairwise fun a b => cmpR a b < 0
structure InC (tabs : List Tbl) (rs : List RelM) : Prop where
  len : rs.length = tabs.length
  max : tabs.length ≤ 6
  tab : ∀ t ∈ tabs, t.cols.length ≤ 6 ∧ t.pk.length ≤ 12
  name : ∀ (i : Nat) (h : i < rs.length) (h' : i < tabs.length), rs[i].name = tabs[i].name
  rel : ∀ (i : Nat) (h : i < rs.length) (h' : i < tabs.length), RelC tabs[i] rs[i].rows

/-- Behind the first Key: the second, and the comparison. -/
def CfK (w3 : World) (tv : Value) (rowv : Value) (kl : Nat) (cv : Int) (e : Ending) (w4 : World) : Prop :=
  ∃ A c, e = .returned (.slice A kl c) ∧ Below w3.heap.size w3 w4
    ∧ Hid (Calls Tryz.prog 70 #[tv, rowv] w4 fun e w5 => ∃ A2 c2, e = .returned (.slice A2 kl c2) ∧ Below w3.heap.size w3 w5
      ∧ Hid (Calls Tryz.prog 69 #[.slice A kl c, .slice A2 kl c2] w5 fun e w6 => e = .returned (.int .i64 cv) ∧ Below w3.heap.size w3 w6))

theorem cfk {t : Tbl} {w3 : World} (ht : TOk (· < w3.heap.size) w3 t) (hp : t.pk.length ≤ 12) {q r : Key} (hq : KOk (· < w3.heap.size) w3 q) (hr : KOk (· < w3.heap.size) w3 r) (m : Nat) :
    Calls Tryz.prog 70 #[t.val, .slice q.A q.row.length q.c] (w3.drewN m) (CfK w3 t.val (.slice r.A r.row.length r.c) t.pk.length (cmpR (keyOf t.pk q.row) (keyOf t.pk r.row))) := by
  have hd : Below w3.heap.size w3 (w3.drewN m) := below_drewN (Below.refl _ _) m
  have hkl : ∀ x : Row, (keyOf t.pk x).length = t.pk.length := fun x => by unfold keyOf; rw [List.length_map]
  refine (relKey t q.A q.c q.row (w3.drewN m) (ht.on hd) ((hq.on hd).el) (by omega)).mono ?_
  rintro e w4 ⟨v4, rfl, ho4, hb4⟩
  obtain ⟨A4, c4, rfl, -, -⟩ := ho4.form
  have hb34 := hd.trans hb4
  rw [hkl]
  refine ⟨A4, c4, rfl, hb34, Lib.hid ?_⟩
  refine (relKey t r.A r.c r.row w4 (ht.on hb34) ((hr.on hb34).el) (by omega)).mono ?_
  rintro e w5 ⟨v5, rfl, ho5, hb5⟩
  obtain ⟨A5, c5, rfl, -, -⟩ := ho5.form
  have hb35 := hb34.trans (hb5.mono hb34.size)
  rw [hkl]
  refine ⟨A5, c5, rfl, hb35, Lib.hid ?_⟩
  have h := cmpKeys ⟨A4, c4, keyOf t.pk q.row⟩ ⟨A5, c5, keyOf t.pk r.row⟩ w5 ⟨((ho4.below hb5).elems valLay.len rfl).more fun g hg => (Own.lt (ho4.below hb5) g hg).2, by show (keyOf t.pk q.row).length ≤ 12; rw [hkl]; exact hp⟩ ⟨(ho5.elems valLay.len rfl).more fun g hg => (Own.lt ho5 g hg).2, by show (keyOf t.pk r.row).length ≤ 12; rw [hkl]; exact hp⟩
  simp only [hkl] at h
  exact h.mono fun e w' hh => ⟨hh.1, hb35.trans (hh.2.mono hb35.size)⟩

set_option maxRecDepth 100000 in
set_option maxHeartbeats 4000000 in
theorem conforms (s : Sc) (A : Option Addr) (c : Nat) (rs : List RelM) (w : World) (hs : ScOk (· < w.heap.size) w s) (hi : InOk (· < w.heap.size) w A rs) (hc : InC s.tabs rs) :
    Calls Tryz.prog 38 #[s.v, .slice A rs.length c] w fun e w' => e = .returned (.int .i64 0) ∧ Below w.heap.size w w' := by
  have HS := Lib.hid hs
  have HI := Lib.hid hi
  have HC := Lib.hid hc
  obtain ⟨w1, hw1⟩ : ∃ w1, w1 = w.alloc (.cells s.cells 27) := ⟨_, rfl⟩
  have hb1 : Below w.heap.size w w1 := by rw [hw1]; exact (Below.refl _ _).alloc (Nat.le_refl _) _
  have hg0 : w1.heap[w.heap.size]? = some (.cells s.cells 27 (0, 0)) := by rw [hw1]; exact heap_alloc_new w _
  have hs1 : w.heap.size < w1.heap.size := by rw [hw1]; simp
  obtain ⟨n, hn⟩ : ∃ n, s.tabs.length = n := ⟨_, rfl⟩
  have hrn : rs.length = n := by rw [hc.len, hn]
  have HBK : Hid (∀ W, Below w1.heap.size w1 W → W.cell? ⟨w.heap.size, 0, none⟩ = some (.slice s.TA n s.tc)) := Lib.hid fun W hW => by
    have h0 := (hW.block w.heap.size hs1).trans hg0
    unfold Sc.cells at h0
    rw [hn] at h0
    rw [cell_of_row _ _ _ _ _ _ h0]
    rfl
  have HB1 := Lib.hid hb1
  have HW1 := Lib.hid hw1
  have HN := Lib.hid (And.intro hn hrn)
  have hn6 : n ≤ 6 := by rw [← hn]; exact hc.max
  have c0 := HBK.out w1 (Below.refl _ _)
  unfold Sc.cells at HW1
  unfold Sc.v Sc.cells
  rw [hn] at HW1
  rw [hn, hrn]
  clear hs hi hc hw1 hb1 hg0 hs1 hn hrn
  obtain ⟨TA, tc, tabs, FA, fc, fks, NA, ncc, cns⟩ := s
  simp only at *
  go_enter Tryz.func38, Tryz.ntmps38
  go_upto_region 1 with fail
  rw [← HW1.out]
  go_wp2_with fail
  go_loopw [20] (fun vi wr => ∃ k : Nat, vi = .int .i64 (k : Int) ∧ k ≤ n ∧ Below w1.heap.size w1 wr) (fun vi _ => n - (intOf vi).toNat)
  case atStart => exact ⟨0, rfl, by omega, Below.refl _ _⟩
  case round =>
    obtain ⟨k, rfl, hkn, hb⟩ := hrel
    obtain ⟨wo, rfl⟩ : ∃ wo, wo = wr := ⟨_, rfl⟩
    have hbw : Below w.heap.size w wo := HB1.out.trans (hb.mono HB1.out.size)
    by_cases hlt : k < n
    · have hkt : k < tabs.length := by have := HN.out.1; omega
      have hkr : k < rs.length := by have := HN.out.2; omega
      obtain ⟨b, off, hA, hbl, e0, e1, e2⟩ := (HS.out.on hbw).tabs.tbl hkt
      have hA : TA = some ⟨b, off, none⟩ := hA
      obtain ⟨b2, off2, hA2, hbl2, p0, p1⟩ := (HI.out.on hbw).el.rel hkr
      have hnm := HC.out.name k hkr hkt
      have hrl := HC.out.rel k hkr hkt
      have htb := HC.out.tab _ (List.getElem_mem hkt)
      have HTK : Hid (∀ W, Below wo.heap.size wo W → TOk (· < W.heap.size) W tabs[k]) := Lib.hid fun W hW => ((HS.out.on hbw).tab _ (List.getElem_mem hkt)).on hW
      have HRK : Hid (∀ W, Below wo.heap.size wo W → RsOk (· < W.heap.size) W rs[k].A rs[k].rows) := Lib.hid fun W hW => ((HI.out.on hbw).rel _ (List.getElem_mem hkr)).on hW
      have f0 := HBK.out wo hb
      have hba : ∀ o, Below wo.heap.size wo (wo.alloc o) := fun o => (Below.refl _ _).alloc (Nat.le_refl _) o
      have f0a := fun o => HBK.out (wo.alloc o) (hb.trans ((hba o).mono hb.size))
      have e0a := fun o => ((hba o).cell (p := ⟨b, off + k * 3, none⟩) hbl).trans e0
      have e1a := fun o => ((hba o).cell (p := ⟨b, off + k * 3 + 1, none⟩) hbl).trans e1
      have e2a := fun o => ((hba o).cell (p := ⟨b, off + k * 3 + 2, none⟩) hbl).trans e2
      have hlt' : (k : Int) < (n : Int) := by omega
      have HBO := Lib.hid (And.intro hb hbw)
      rw [hA] at f0 f0a ⊢
      rw [hA2]
      rw [hnm] at p0
      clear hb hbw hba hbl hbl2 hA hA2 hnm
      generalize tabs[k] = t at *
      generalize rs[k] = rel at *
      obtain ⟨rn, rA, rc, ks⟩ := rel
      simp only at *
      obtain ⟨m, hm⟩ : ∃ m, ks.length = m := ⟨_, rfl⟩
      have hm24 : m ≤ 24 := by rw [← hm]; exact hrl.len
      have hm24' : (m : Int) ≤ 24 := by omega
      rw [hm] at p1
      have HM := Lib.hid hm
      have HRL := Lib.hid hrl
      have HTB := Lib.hid htb
      obtain ⟨w5, hw5⟩ : ∃ w5, w5 = (wo.alloc (.cells #[.string t.name, .slice rA m rc] 78)).alloc (.cells #[.string t.name, .slice t.CA t.cols.length t.cc, .slice t.PA t.pk.length t.pc] 71) := ⟨_, rfl⟩
      have hb5 : Below wo.heap.size wo w5 := by rw [hw5]; exact ((Below.refl _ _).alloc (Nat.le_refl _) _).alloc (le_size1 (Nat.le_refl _) _) _
      have hg6 : w5.heap[wo.heap.size]? = some (.cells #[.string t.name, .slice rA m rc] 78 (0, 0)) := by
        rw [hw5, Below.heap_alloc _ _ _ (by simp)]
        exact heap_alloc_new wo _
      have hg7 : w5.heap[wo.heap.size + 1]? = some (.cells #[.string t.name, .slice t.CA t.cols.length t.cc, .slice t.PA t.pk.length t.pc] 71 (0, 0)) := by rw [hw5]; exact alloc2_at wo _ _
      have hs5 : w5.heap.size = wo.heap.size + 2 := by rw [hw5]; simp
      have HB67 : Hid (∀ W, Below w5.heap.size w5 W → W.cell? ⟨wo.heap.size, 0, none⟩ = some (.string t.name) ∧ W.cell? ⟨wo.heap.size, 1, none⟩ = some (.slice rA m rc) ∧ W.cell? ⟨wo.heap.size + 1, 0, none⟩ = some (.string t.name) ∧ W.cell? ⟨wo.heap.size + 1, 1, none⟩ = some (.slice t.CA t.cols.length t.cc) ∧ W.cell? ⟨wo.heap.size + 1, 2, none⟩ = some (.slice t.PA t.pk.length t.pc)) := Lib.hid fun W hW => by
        have h6 := (hW.block wo.heap.size (by omega)).trans hg6
        have h7 := (hW.block (wo.heap.size + 1) (by omega)).trans hg7
        exact ⟨by rw [cell_of_row _ _ _ _ _ _ h6]; rfl, by rw [cell_of_row _ _ _ _ _ _ h6]; rfl, by rw [cell_of_row _ _ _ _ _ _ h7]; rfl, by rw [cell_of_row _ _ _ _ _ _ h7]; rfl, by rw [cell_of_row _ _ _ _ _ _ h7]; rfl⟩
      have HB5 := Lib.hid hb5
      have HW5 := Lib.hid hw5
      clear hm hrl htb hw5 hb5 hg6 hg7 hs5
      go_wp2_with fail
      rw [← HW5.out]
      go_loopw [42] (fun vi wr => ∃ j : Nat, vi = .int .i64 (j : Int) ∧ j ≤ m ∧ Below w5.heap.size w5 wr) (fun vi _ => m - (intOf vi).toNat)
      case atStart => exact ⟨0, rfl, by omega, Below.refl _ _⟩
      case round =>
        obtain ⟨j, rfl, hjm, hb⟩ := hrel
        obtain ⟨wi, rfl⟩ : ∃ wi, wi = wr := ⟨_, rfl⟩
        have hbi : Below wo.heap.size wo wi := HB5.out.trans (hb.mono HB5.out.size)
        by_cases hlt2 : j < m
        · have hjk : j < ks.length := by have := HM.out; omega
          have hrs := HRK.out wi hbi
          obtain ⟨b3, off3, hA3, hbl3, q0⟩ := hrs.el.key hjk
          have hkok := hrs.row _ (List.getElem_mem hjk)
          have htk := HTK.out wi hbi
          have hrc := HRL.out.row _ (List.getElem_mem hjk)
          have HCR := Lib.hid (conformsRow t ks[j].A ks[j].c ks[j].row wi htk hkok.el (by have := HTB.out.1; omega) hrc)
          obtain ⟨g0, g1, g2, g3, g4⟩ := HB67.out wi hb
          have hlt2' : (j : Int) < (m : Int) := by omega
          have HBI := Lib.hid (And.intro hb hbi)
          by_cases hj0 : j = 0
          · subst hj0
            rw [hA3]
            rw [Nat.add_zero] at q0
            clear hb hbi hrs hbl3 hkok htk hrc hA3
            generalize ks[0] = q at *
            obtain ⟨qA, qc, qr⟩ := q
            unfold Tbl.val at HCR
            simp only at *
            go_wp2_with fail
            refine HCR.out.mono ?_
            rintro e w6 ⟨rfl, hb6⟩
            have HB6 := Lib.hid (HBI.out.1.trans (hb6.mono HBI.out.1.size))
            clear hb6
            go_wp2_with fail
            go_roundw
            case rel => exact ⟨1, by go_num, by omega, HB6.out⟩
            case measure => simp [intOf]; omega
          · obtain ⟨i, rfl⟩ : ∃ i, j = i + 1 := ⟨j - 1, by omega⟩
            have hik : i < ks.length := by omega
            have hor := List.pairwise_iff_getElem.1 HRL.out.ord i (i + 1) (by rw [List.length_map]; exact hik) (by rw [List.length_map]; exact hjk) (by omega)
            rw [List.getElem_map, List.getElem_map] at hor
            have HPV : Hid (∀ W, Below wi.heap.size wi W → W.cell? ⟨b3, off3 + i, none⟩ = some (.slice ks[i].A ks[i].row.length ks[i].c) ∧ ∀ m, Calls Tryz.prog 70 #[t.val, .slice ks[i].A ks[i].row.length ks[i].c] (W.drewN m) (CfK W t.val (.slice ks[i + 1].A ks[i + 1].row.length ks[i + 1].c) t.pk.length (cmpR (keyOf t.pk ks[i].row) (keyOf t.pk ks[i + 1].row)))) := Lib.hid fun W hW => by
              have hrsW := hrs.on hW
              obtain ⟨b4, off4, hA4, -, y0⟩ := hrsW.el.key hik
              rw [hA3] at hA4
              injection hA4 with hA4
              injection hA4 with h1 h2
              subst h1 h2
              exact ⟨y0, cfk (htk.on hW) HTB.out.2 (hrsW.row _ (List.getElem_mem hik)) (hrsW.row _ (List.getElem_mem hjk))⟩
            have hj1 : (((i + 1 : Nat) : Int) == 0) = false := by simp; omega
            have hj2 : ((i + 1 : Nat) : Int) - 1 = (i : Int) := by omega
            have hj3 : (i : Int) < (m : Int) := by omega
            have hwi : IntKind.i64.wrap (i : Int) = (i : Int) := by rw [IntKind.wrap_i64]; omega
            have HA3 := Lib.hid hA3
            rw [hA3]
            clear hb hbi hrs hbl3 hkok htk hrc hA3
            generalize cmpR (keyOf t.pk ks[i].row) (keyOf t.pk ks[i + 1].row) = cv at *
            generalize ks[i + 1] = q at *
            generalize ks[i] = p at *
            obtain ⟨qA, qc, qr⟩ := q
            obtain ⟨pA, pc, pr⟩ := p
            unfold Tbl.val at HCR HPV
            simp only at *
            have hcv0 : (cv == 0) = false := by simp; omega
            have hcv1 : ¬ 0 < cv := by omega
            go_wp2_with fail
            refine HCR.out.mono ?_
            rintro e w6 ⟨rfl, hb6⟩
            obtain ⟨v0, hpv⟩ := HPV.out w6 hb6
            have HK := Lib.hid hpv
            have hb56 := HBI.out.1.trans (hb6.mono HBI.out.1.size)
            obtain ⟨x0, x1, x2, x3, x4⟩ := HB67.out w6 hb56
            rw [HA3.out] at x1
            have HB6 := Lib.hid hb56
            have HSF : Hid (∀ W, Below w6.heap.size w6 W → W.cell? ⟨wo.heap.size, 1, none⟩ = some (.slice (some ⟨b3, off3, none⟩) m rc) ∧ W.cell? ⟨wo.heap.size + 1, 0, none⟩ = some (.string t.name) ∧ W.cell? ⟨wo.heap.size + 1, 1, none⟩ = some (.slice t.CA t.cols.length t.cc) ∧ W.cell? ⟨wo.heap.size + 1, 2, none⟩ = some (.slice t.PA t.pk.length t.pc) ∧ W.cell? ⟨b3, off3 + i, none⟩ = some (.slice pA pr.length pc)) := Lib.hid fun W hW => by
              obtain ⟨-, y1, y2, y3, y4⟩ := HB67.out W (hb56.trans (hW.mono hb56.size))
              rw [HA3.out] at y1
              exact ⟨y1, y2, y3, y4, (HPV.out W (hb6.trans (hW.mono hb6.size))).1⟩
            clear hb6 hpv hb56 x0 g0 g1 g2 g3 g4 q0
            go_upto_region 18 with fail
            go_cut [11] from 55 to 66 (fun v11 wx => v11 = .int .i64 cv ∧ Below w6.heap.size w6 wx)
            case first =>
              go_region_held3 (fun w' => w'.cell? ⟨wo.heap.size, 1, none⟩ = some (.slice (some ⟨b3, off3, none⟩) m rc) ∧ w'.cell? ⟨wo.heap.size + 1, 0, none⟩ = some (.string t.name) ∧ w'.cell? ⟨wo.heap.size + 1, 1, none⟩ = some (.slice t.CA t.cols.length t.cc) ∧ w'.cell? ⟨wo.heap.size + 1, 2, none⟩ = some (.slice t.PA t.pk.length t.pc) ∧ w'.cell? ⟨b3, off3 + i, none⟩ = some (.slice pA pr.length pc)) (first | exact ⟨x1, x2, x3, x4, v0⟩ | exact ⟨z0'', z1'', z2'', z3'', z4''⟩ | exact ⟨z0', z1', z2', z3', z4'⟩ | exact ⟨z0, z1, z2, z3, z4⟩)
                (first
                | (go_at_call 69; refine HCM.out.mono ?_; rintro e w9 ⟨rfl, hb9⟩; obtain ⟨z0'', z1'', z2'', z3'', z4''⟩ := HSF.out _ hb9)
                | (go_at_call 70; refine HK2.out.mono ?_; rintro e w8 ⟨A8, c8, rfl, hb8, HCM⟩; obtain ⟨z0', z1', z2', z3', z4'⟩ := HSF.out _ hb8)
                | (go_at_call 70; refine (HK.out 1).mono ?_; rintro e w7 ⟨A7, c7, rfl, hb7, HK2⟩; obtain ⟨z0, z1, z2, z3, z4⟩ := HSF.out _ hb7))
              all_goals
                have HB9 := Lib.hid hb9
                clear hb9
                go_wp2_with fail
                go_meet
                exact ⟨rfl, HB9.out⟩
            case rest =>
              obtain ⟨rfl, hbc⟩ := hcut
              have HBC := Lib.hid (HB6.out.trans (hbc.mono HB6.out.size))
              clear hbc
              go_wp2_with fail
              go_roundw
              case rel => exact ⟨i + 1 + 1, by go_num, by omega, HBC.out⟩
              case measure => simp [intOf]; omega
        · have hjm' : j = m := by omega
          subst hjm'
          have HE := Lib.hid (HBO.out.1.trans (hbi.mono HBO.out.1.size))
          clear hb hbi
          go_wp2_with fail
          go_roundw
          case rel => exact ⟨k + 1, by go_num, by omega, HE.out⟩
          case measure => simp [intOf]; omega
    · have hkn' : k = n := by omega
      subst hkn'
      have HE := Lib.hid hbw
      clear hb hbw
      go_wp2_with fail
      go_ret
      exact ⟨rfl, HE.out⟩
end Go.Proofs.YtefifkleamiabaaGreatDoor

namespace Go.Proofs.YtefifkleamiabaaGreatDoor
open Go.RowKit Go.Sort

theorem elem_rels : ElemT Tryz.prog 30 78 2 40 := ⟨Tryz.underlying30, by
  have h : (Tryz.prog.info? 78).map (fun i => (i.zero, i.size, i.bytes)) = some (some (.agg #[.string ByteArray.empty, .slice none 0 0]), 2, 40) := by kernel_rfl
  obtain ⟨i0, hi, hz0, hz1, hz2⟩ := info_parts h
  exact ⟨i0, _, hi, hz0, hz1, hz2, rfl⟩, by omega⟩
/-- An instance of the call's own. -/
structure InO (base : Nat) (w0 w : World) (v : Value) (rs : List RelM) (ds : List (ByteArray × List Row)) : Prop where
  own : Own 2 RelM.cs 78 base w v rs
  dat : rs.map RelM.d = ds
  rel : ∀ r ∈ rs, RsOk (fun g => base ≤ g ∧ g < w.heap.size ∧ v.ownBlock ≠ some g) w r.A r.rows
  bel : Below base w0 w
theorem InO.push {base : Nat} {w0 wo wc w' : World} {v v' : Value} {rs : List RelM} {ds : List (ByteArray × List Row)} {r : RelM} (h : InO base w0 wo v rs ds) (hb : Below wo.heap.size wo wc) (hk : RsOk (fun g => wo.heap.size ≤ g ∧ g < wc.heap.size) wc r.A r.rows)
    (ho : Own 2 RelM.cs 78 base w' v' (rs ++ [r])) (hx : Ext wc v w' v') (hB : base ≤ wo.heap.size) : InO base w0 w' v' (rs ++ [r]) (ds ++ [r.d]) := by
  have hvl : ∀ g, v.ownBlock = some g → base ≤ g ∧ g < wo.heap.size := Own.lt h.own
  have hsz := hx.size
  have hbs := hb.size
  have hne : ∀ g, wo.heap.size ≤ g → v.ownBlock ≠ some g := fun g hg e => by have := (hvl g e).2; omega
  refine ⟨ho, by rw [List.map_append, h.dat]; rfl, fun k hm => ?_, (h.bel.trans (hb.mono hB)).trans (hx.below (by omega) fun g hg => (hvl g hg).1)⟩
  rcases List.mem_append.1 hm with hm | hm
  · have h1 := (h.rel k hm).keep (Keeps.of_below hb fun _ h => h.2.1)
    refine (h1.keep (hx.keeps fun g hg => ⟨by omega, fun e => hg.2.2 e.symm⟩)).more fun g hg => ⟨hg.1, by omega, hx.ne hg.2.2 (by omega)⟩
  · rw [List.mem_singleton.1 hm]
    exact (hk.keep (hx.keeps fun g hg => ⟨hg.2, fun e => hne g hg.1 e.symm⟩)).more fun g hg => ⟨by omega, by omega, hx.ne (hne g hg.1) hg.2⟩
theorem RO.rsb {base : Nat} {w0 w : World} {A : Option Addr} {n c : Nat} {ks : List Key} {rs : List Row} (h : RO base w0 w (.slice A n c) ks rs) : RsOk (fun g => base ≤ g ∧ g < w.heap.size) w A ks :=
  ⟨(h.own.elems keyLay.len rfl).more fun g hg => Own.lt h.own g hg, fun k hk => (h.el k hk).more fun _ hg => ⟨hg.1, hg.2.1⟩⟩

/-- Behind the rows' clone: the append. -/
def IcK (w : World) (bx : Nat) (nm : ByteArray) (v3 : Value) (ds : List (ByteArray × List Row)) (n : Nat) (e : Ending) (w2 : World) : Prop :=
  ∃ A2 c2, e = .returned (.slice A2 n c2) ∧ w2.cell? ⟨bx, 0, none⟩ = some (.string nm)
    ∧ Hid (∀ ty, ∃ v4 w4, (Builtin.append_ #[30, 30] ty #[v3, .slice (some ⟨w2.heap.size, 0, none⟩) 1 1]).run Tryz.prog (w2.alloc (.cells #[.string nm, .slice A2 n c2] 78)) = .ok v4 w4 ∧ ∃ rs', InO w.heap.size w w4 v4 rs' ds)

theorem ick {w wo W : World} {v3 : Value} {rs : List RelM} {ds : List (ByteArray × List Row)} (h : InO w.heap.size w wo v3 rs ds) (hW : Below wo.heap.size wo W) {A : Option Addr} {c : Nat} {ks : List Key} (hr : RsOk (· < W.heap.size) W A ks) (hl : ks.length ≤ 1000) (hrl : rs.length ≤ 100) {bx : Nat} {nm : ByteArray} (hbx : W.cell? ⟨bx, 0, none⟩ = some (.string nm)) (m : Nat) :
    Calls Tryz.prog 71 #[.slice A ks.length c] (W.drewN m) (IcK w bx nm v3 (ds ++ [(nm, ks.map Key.row)]) ks.length) := by
  have hlt : bx < W.heap.size := by
    rcases Nat.lt_or_ge bx W.heap.size with h | h
    · exact h
    · rw [World.cell?] at hbx
      simp [Array.getElem?_eq_none h] at hbx
  have hd : Below W.heap.size W (W.drewN m) := below_drewN (Below.refl _ _) m
  refine (relClone A c ks (W.drewN m) (hr.on hd) hl).mono ?_
  rintro e w2 ⟨v2, ks2, rfl, hro⟩
  have hkl : ks2.length = ks.length := by
    have h := congrArg List.length hro.rows
    rwa [List.length_map, List.length_map] at h
  obtain ⟨A2, c2, rfl, -, -⟩ := hro.own.form
  have hb2 : Below W.heap.size W w2 := hd.trans hro.bel
  have hbo : Below wo.heap.size wo w2 := hW.trans (hb2.mono hW.size)
  rw [hkl]
  refine ⟨A2, c2, rfl, (hb2.cell (p := ⟨bx, 0, none⟩) hlt).trans hbx, Lib.hid fun ty => ?_⟩
  obtain ⟨v4, w4, hrun, ho4, hx4⟩ := run_push elem_rels relLay ty w2 v3 rs (⟨nm, A2, c2, ks2⟩ : RelM) #[.string nm, .slice A2 ks2.length c2] (h.own.below hbo) rfl (by omega) (by unfold maxLen; omega) (Nat.le_trans h.bel.size hbo.size) rfl
  rw [hkl] at hrun
  refine ⟨v4, w4, hrun, rs ++ [⟨nm, A2, c2, ks2⟩], ?_⟩
  have hp := h.push hbo (r := ⟨nm, A2, c2, ks2⟩) (hro.rsb.more fun g hg => ⟨Nat.le_trans hW.size hg.1, hg.2⟩) ho4 hx4 h.bel.size
  have e : (⟨nm, A2, c2, ks2⟩ : RelM).d = (nm, ks.map Key.row) := by
    show (nm, ks2.map Key.row) = _
    rw [hro.rows]
  rw [e] at hp
  exact hp

set_option maxRecDepth 100000 in
set_option maxHeartbeats 4000000 in
theorem instClone (A : Option Addr) (c : Nat) (rs : List RelM) (w : World) (h : InOk (· < w.heap.size) w A rs) (hl : rs.length ≤ 100) (hr : ∀ r ∈ rs, r.rows.length ≤ 1000) :
    Calls Tryz.prog 39 #[.slice A rs.length c] w fun e w' => ∃ v rs', e = .returned v ∧ InO w.heap.size w w' v rs' (rs.map RelM.d) := by
  have HX := Lib.hid h
  have HR := Lib.hid hr
  obtain ⟨n, hn⟩ : ∃ n, rs.length = n := ⟨_, rfl⟩
  rw [hn] at hl ⊢
  have HN := Lib.hid hn
  clear h hn hr
  go_enter Tryz.func39, Tryz.ntmps39
  go_wp2_with fail
  go_loopw [3, 8] (fun v3 vi wr => ∃ (k : Nat) (rs' : List RelM), vi = .int .i64 (k : Int) ∧ k ≤ n ∧ InO w.heap.size w wr v3 rs' ((rs.take k).map RelM.d)) (fun _ vi _ => n - (intOf vi).toNat)
  case atStart => exact ⟨0, [], rfl, by omega, Own.nil _, rfl, (fun k hk => by cases hk), Below.refl _ _⟩
  case round =>
    obtain ⟨k, rs', rfl, hkn, hT⟩ := hrel
    obtain ⟨wo, rfl⟩ : ∃ wo, wo = wr := ⟨_, rfl⟩
    obtain ⟨v3, rfl⟩ : ∃ v3, v3 = u3 := ⟨_, rfl⟩
    by_cases hlt : k < n
    · have hki : k < rs.length := by have := HN.out; omega
      have hx := HX.out.on hT.bel
      obtain ⟨b, off, rfl, -, p0, p1⟩ := hx.el.rel hki
      have hlt' : (k : Int) < (n : Int) := by omega
      have hlen : rs'.length = k := by
        have h := congrArg List.length hT.dat
        rw [List.length_map, List.length_map, List.length_take] at h
        omega
      obtain ⟨w1, hw1⟩ : ∃ w1, w1 = wo.alloc (.cells #[.string rs[k].name, .slice rs[k].A rs[k].rows.length rs[k].c] 78) := ⟨_, rfl⟩
      have hb1 : Below wo.heap.size wo w1 := by rw [hw1]; exact (Below.refl _ _).alloc (Nat.le_refl _) _
      have hg1 : w1.heap[wo.heap.size]? = some (.cells #[.string rs[k].name, .slice rs[k].A rs[k].rows.length rs[k].c] 78 (0, 0)) := by rw [hw1]; exact heap_alloc_new wo _
      have c0 : w1.cell? ⟨wo.heap.size, 0, none⟩ = some (.string rs[k].name) := by rw [cell_of_row _ _ _ _ _ _ hg1]; rfl
      have c1 : w1.cell? ⟨wo.heap.size, 1, none⟩ = some (.slice rs[k].A rs[k].rows.length rs[k].c) := by rw [cell_of_row _ _ _ _ _ _ hg1]; rfl
      have hsuc : (rs.take (k + 1)).map RelM.d = (rs.take k).map RelM.d ++ [(rs[k].name, rs[k].rows.map Key.row)] := by rw [List.take_succ_eq_append_getElem hki, List.map_append]; rfl
      have HCL := Lib.hid fun m => ick hT hb1 ((hx.rel _ (List.getElem_mem hki)).on hb1) (c := rs[k].c) (HR.out _ (List.getElem_mem hki)) (by omega) c0 m
      rw [← hsuc] at HCL
      have HW1 := Lib.hid hw1
      clear hT hx hlen hb1 hg1 hw1 hsuc
      generalize rs[k] = q at *
      obtain ⟨qn, qA, qc, qks⟩ := q
      simp only at *
      go_upto_region 5 with fail
      rw [← HW1.out]
      go_region_law (first
        | (go_simp; go_at_call 71; refine (HCL.out 1).mono ?_; rintro e w2 ⟨A2, c2, rfl, z0, HAP⟩)
        | (refine step_app (by rfl) (.tmp 12) (.tmp 19) _ _ (by rfl) (by rfl) (by rfl) (HAP.out _) ?_; rintro v4 w4 ⟨rs4, hio⟩))
      all_goals
        have HF := Lib.hid hio
        clear hio
        go_wp2_with fail
        go_roundw
        case rel => exact ⟨k + 1, _, by go_num, by omega, HF.out⟩
        case measure => simp [intOf]; omega
    · have hkn' : k = n := by omega
      subst hkn'
      have HF : Hid (InO w.heap.size w wo v3 rs' (rs.map RelM.d)) := Lib.hid (by rwa [List.take_of_length_le (by have := HN.out; omega)] at hT)
      clear hT
      go_wp2_with fail
      go_ret
      exact ⟨_, _, rfl, HF.out⟩
end Go.Proofs.YtefifkleamiabaaGreatDoor

namespace Go.Proofs.YtefifkleamiabaaGreatDoor
open Go.RowKit Go.Sort

/-- A key that fits the table. -/
structure KeyC (t : Tbl) (r : Row) : Prop where
  len : r.length = t.pk.length
  err : ∀ v ∈ r, v.err = 0
  col : ∀ (i : Nat) (h : i < r.length) (h' : i < t.pk.length), 0 ≤ t.pk[i] ∧ t.pk[i].toNat < t.cols.length ∧ r[i].kind = (t.cols.getD t.pk[i].toNat col0).kind

set_option maxRecDepth 100000 in
set_option maxHeartbeats 4000000 in
theorem validateKey (t : Tbl) (A : Option Addr) (c : Nat) (r : Row) (w : World) (ht : TOk (· < w.heap.size) w t) (hx : Elems 3 Val.cs w (· < w.heap.size) A r) (h12 : t.pk.length ≤ 12) (hr : KeyC t r) :
    Calls Tryz.prog 125 #[t.val, .slice A r.length c] w fun e w' => e = .returned (.int .i64 0) ∧ Below w.heap.size w w' := by
  obtain ⟨name, CA, cc, tc, PA, pc, pk⟩ := t
  have HC := Lib.hid ht
  have HX := Lib.hid hx
  have HR := Lib.hid hr
  obtain ⟨n, hn⟩ : ∃ n, pk.length = n := ⟨_, rfl⟩
  obtain ⟨l, hl⟩ : ∃ l, tc.length = l := ⟨_, rfl⟩
  have hrn : r.length = n := by rw [← hn]; exact hr.len
  have h12 : n ≤ 12 := by rw [← hn]; exact h12
  unfold Tbl.val
  simp only
  rw [hrn, hn, hl]
  have HN := Lib.hid (And.intro hn (And.intro hrn hl))
  obtain ⟨w1, hw1⟩ : ∃ w1, w1 = w.alloc (.cells #[.string name, .slice CA l cc, .slice PA n pc] 71) := ⟨_, rfl⟩
  have hbx := heap_alloc_new w (.cells #[.string name, .slice CA l cc, .slice PA n pc] 71)
  rw [← hw1] at hbx
  have hb1 : Below w.heap.size w w1 := by rw [hw1]; exact (Below.refl _ _).alloc (Nat.le_refl _) _
  have hs1 : w.heap.size < w1.heap.size := by rw [hw1]; simp
  have HBK : Hid (∀ W, Below w1.heap.size w1 W → W.cell? ⟨w.heap.size, 1, none⟩ = some (.slice CA l cc) ∧ W.cell? ⟨w.heap.size, 2, none⟩ = some (.slice PA n pc)) := Lib.hid fun W hW => by
    have h := (hW.block w.heap.size hs1).trans hbx
    exact ⟨by rw [cell_of_row _ _ _ _ _ _ h]; rfl, by rw [cell_of_row _ _ _ _ _ _ h]; rfl⟩
  have HB1 := Lib.hid hb1
  have HW1 := Lib.hid hw1
  obtain ⟨c1, c2⟩ := HBK.out w1 (Below.refl _ _)
  have HVL := Lib.hid fun k n s W => validate k n s W
  clear ht hx hr hn hrn hl hw1 hbx hb1 hs1
  go_enter Tryz.func125, Tryz.ntmps125
  go_upto_region 1 with fail
  rw [← HW1.out]
  go_wp2_with fail
  go_loopw [16] (fun vi wr => ∃ k : Nat, vi = .int .i64 (k : Int) ∧ k ≤ n ∧ Below w1.heap.size w1 wr) (fun vi _ => n - (intOf vi).toNat)
  case atStart => exact ⟨0, rfl, by omega, Below.refl _ _⟩
  case round =>
    obtain ⟨k, rfl, hkn, hb⟩ := hrel
    obtain ⟨wo, rfl⟩ : ∃ wo, wo = wr := ⟨_, rfl⟩
    have hbw : Below w.heap.size w wo := HB1.out.trans (hb.mono HB1.out.size)
    by_cases hlt : k < n
    · have hkr : k < r.length := by have := HN.out.2.1; omega
      have hkp : k < pk.length := by have := HN.out.1; omega
      have hxr := HX.out.on hbw
      obtain ⟨hp0, hp1, hkd⟩ := HR.out.col k hkr hkp
      have her : vErr r[k].kind r[k].int r[k].text = 0 := HR.out.err _ (List.getElem_mem hkr)
      obtain ⟨p, hp⟩ := Int.eq_ofNat_of_zero_le hp0
      have hpp : pk[k] = (p : Int) := hp
      have hpl : p < tc.length := by
        have h : pk[k].toNat < tc.length := hp1
        rwa [hpp, Int.toNat_natCast] at h
      have hkd' : r[k].kind = tc[p].kind := by
        have h : r[k].kind = (tc.getD pk[k].toNat col0).kind := hkd
        rw [hpp, Int.toNat_natCast, List.getD_eq_getElem?_getD, List.getElem?_eq_getElem hpl] at h
        exact h
      obtain ⟨b', off', hA', -, p0, p1, p2⟩ := hxr.val hkr
      have hba : ∀ o, Below wo.heap.size wo (wo.alloc o) := fun o => (Below.refl _ _).alloc (Nat.le_refl _) o
      have HCC : Hid (∀ W, Below wo.heap.size wo W → ∃ b off b2 off2, CA = some ⟨b, off, none⟩ ∧ PA = some ⟨b2, off2, none⟩ ∧ W.cell? ⟨b, off + p * 3 + 1, none⟩ = some (.int .i64 r[k].kind) ∧ W.cell? ⟨b2, off2 + k, none⟩ = some (.int .i64 (p : Int)) ∧ W.cell? ⟨w.heap.size, 1, none⟩ = some (.slice CA l cc) ∧ W.cell? ⟨w.heap.size, 2, none⟩ = some (.slice PA n pc)) := Lib.hid fun W hW => by
        have htk := HC.out.on (hbw.trans (hW.mono hbw.size))
        obtain ⟨b, off, hA, -, q0, q1, q2⟩ := htk.cols.col hpl
        obtain ⟨b2, off2, hA2, -, y0⟩ := htk.pk.int hkp
        obtain ⟨z1, z2⟩ := HBK.out W (hb.trans (hW.mono hb.size))
        have y0 : W.cell? ⟨b2, off2 + k, none⟩ = some (.int .i64 pk[k]) := y0
        rw [hpp] at y0
        have q1 : W.cell? ⟨b, off + p * 3 + 1, none⟩ = some (.int .i64 tc[p].kind) := q1
        rw [← hkd'] at q1
        exact ⟨b, off, b2, off2, hA, hA2, q1, y0, z1, z2⟩
      have HV := Lib.hid fun o => HVL.out r[k].kind r[k].int r[k].text (wo.alloc o)
      rw [her] at HV
      have hkn' : (k : Int) < (n : Int) := by omega
      have hpl' : (p : Int) < (l : Int) := by have := HN.out.2.2; omega
      have HBO := Lib.hid hb
      have HBA := Lib.hid hba
      rw [hA']
      clear hb hbw hxr her hA' hba HVL hp0 hp1 hkd hp hpp hkd' hpl
      generalize r[k] = v at *
      have g3 : (v.kind != v.kind) = false := by simp
      go_wp2_with fail
      refine (HV.out _).mono ?_
      rintro e w3 ⟨rfl, hb3⟩
      have hbo : Below wo.heap.size wo w3 := (HBA.out _).trans (hb3.mono (HBA.out _).size)
      have hcv : w3.heap[wo.heap.size]? = some (.cells #[.int .i64 v.kind, .int .i64 v.int, .string v.text] 60 (0, 0)) := (hb3.block wo.heap.size (by simp)).trans (heap_alloc_new wo _)
      have v0 : w3.cell? ⟨wo.heap.size, 0, none⟩ = some (.int .i64 v.kind) := by rw [cell_of_row _ _ _ _ _ _ hcv]; rfl
      obtain ⟨b, off, b2, off2, rfl, rfl, q1, q2, q3, q4⟩ := HCC.out w3 hbo
      have HB3 := Lib.hid (HBO.out.trans (hbo.mono HBO.out.size))
      clear hb3 hbo hcv
      go_wp2_with fail
      go_quiet (fail)
      go_wp2_with fail
      go_roundw
      case rel => exact ⟨k + 1, by go_num, by omega, below_drewN HB3.out _⟩
      case measure => simp [intOf]; omega
    · have hkn' : k = n := by omega
      subst hkn'
      have HE := Lib.hid hbw
      clear hb hbw
      go_wp2_with fail
      go_ret
      exact ⟨rfl, HE.out⟩
end Go.Proofs.YtefifkleamiabaaGreatDoor

namespace Go.Proofs.YtefifkleamiabaaGreatDoor
open Go.RowKit Go.Sort

/-- A change: its kind, its table, its key and its row. -/
structure ChM where
  kind : Int
  name : ByteArray
  key : Key
  row : Key
def ChM.cells (c : ChM) : Array Value := #[.int .i64 c.kind, .string c.name, .slice c.key.A c.key.row.length c.key.c, .slice c.row.A c.row.row.length c.row.c]
structure ChOk (S : Nat → Prop) (w : World) (c : ChM) : Prop where
  key : KOk S w c.key
  row : KOk S w c.row
theorem ChOk.on {w w' : World} {c : ChM} (h : ChOk (· < w.heap.size) w c) (hb : Below w.heap.size w w') : ChOk (· < w'.heap.size) w' c := ⟨h.key.on hb, h.row.on hb⟩
/-- A change that fits table i. -/
structure ChC (s : Sc) (c : ChM) (i : Nat) : Prop where
  il : i < s.tabs.length
  fi : tabI c.name s.tabs = (i : Int)
  tab : s.tabs[i].cols.length ≤ 1000 ∧ s.tabs[i].pk.length ≤ 12
  fit : (c.kind = 1 ∧ c.key.row.length = 0 ∧ RowC s.tabs[i].cols c.row.row) ∨ (c.kind = 2 ∧ c.row.row.length = 0 ∧ KeyC s.tabs[i] c.key.row)

set_option maxRecDepth 100000 in
set_option maxHeartbeats 4000000 in
theorem validateCh (s : Sc) (c : ChM) (i : Nat) (w : World) (hs : ScOk (· < w.heap.size) w s) (ho : ChOk (· < w.heap.size) w c) (hc : ChC s c i) (hl : s.tabs.length ≤ 1000) :
    Calls Tryz.prog 107 #[s.v, .agg c.cells] w fun e w' => e = .returned (.int .i64 0) ∧ Below w.heap.size w w' := by
  have hil := hc.il
  have HFT := Lib.hid fun W (hW : Below w.heap.size w W) => findTable s c.name W (hs.on hW) hl
  have HTB := Lib.hid fun W (hW : Below w.heap.size w W) => (hs.on hW).tabs.tbl hil
  have HCR : Hid (RowC (s.tabs[i]'hil).cols c.row.row → ∀ W, Below w.heap.size w W → ∀ m, Calls Tryz.prog 68 #[(s.tabs[i]'hil).val, .slice c.row.A c.row.row.length c.row.c] (W.drewN m) fun e w' => e = .returned (.int .i64 0) ∧ Below W.heap.size W w') := Lib.hid fun hr W hW m => by
    have hd : Below W.heap.size W (W.drewN m) := below_drewN (Below.refl _ _) m
    have h0 := hW.trans (hd.mono hW.size)
    exact (conformsRow _ c.row.A c.row.c c.row.row (W.drewN m) ((hs.on h0).tab _ (List.getElem_mem hil)) (ho.row.on h0).el hc.tab.1 hr).mono fun e w' h => ⟨h.1, hd.trans h.2⟩
  have HVK : Hid (KeyC (s.tabs[i]'hil) c.key.row → ∀ W, Below w.heap.size w W → ∀ m, Calls Tryz.prog 125 #[(s.tabs[i]'hil).val, .slice c.key.A c.key.row.length c.key.c] (W.drewN m) fun e w' => e = .returned (.int .i64 0) ∧ Below W.heap.size W w') := Lib.hid fun hr W hW m => by
    have hd : Below W.heap.size W (W.drewN m) := below_drewN (Below.refl _ _) m
    have h0 := hW.trans (hd.mono hW.size)
    exact (validateKey _ c.key.A c.key.c c.key.row (W.drewN m) ((hs.on h0).tab _ (List.getElem_mem hil)) (ho.key.on h0).el hc.tab.2 hr).mono fun e w' h => ⟨h.1, hd.trans h.2⟩
  obtain ⟨w1, hw1⟩ : ∃ w1, w1 = (w.alloc (.cells s.cells 27)).alloc (.cells c.cells 51) := ⟨_, rfl⟩
  have hb1 : Below w.heap.size w w1 := by rw [hw1]; exact ((Below.refl _ _).alloc (Nat.le_refl _) _).alloc (le_size1 (Nat.le_refl _) _) _
  have hg0 : w1.heap[w.heap.size]? = some (.cells s.cells 27 (0, 0)) := by
    rw [hw1, Below.heap_alloc _ _ _ (by simp)]
    exact heap_alloc_new w _
  have hg1 : w1.heap[w.heap.size + 1]? = some (.cells c.cells 51 (0, 0)) := by rw [hw1]; exact alloc2_at w _ _
  have hs1 : w1.heap.size = w.heap.size + 2 := by rw [hw1]; simp
  obtain ⟨n, hn⟩ : ∃ n, s.tabs.length = n := ⟨_, rfl⟩
  have HBK : Hid (∀ W, Below w1.heap.size w1 W → W.cell? ⟨w.heap.size, 0, none⟩ = some (.slice s.TA n s.tc) ∧ W.cell? ⟨w.heap.size, 1, none⟩ = some (.slice s.FA s.fks.length s.fc) ∧ W.cell? ⟨w.heap.size, 2, none⟩ = some (.slice s.NA s.cns.length s.nc)
      ∧ W.cell? ⟨w.heap.size + 1, 0, none⟩ = some (.int .i64 c.kind) ∧ W.cell? ⟨w.heap.size + 1, 1, none⟩ = some (.string c.name) ∧ W.cell? ⟨w.heap.size + 1, 2, none⟩ = some (.slice c.key.A c.key.row.length c.key.c) ∧ W.cell? ⟨w.heap.size + 1, 3, none⟩ = some (.slice c.row.A c.row.row.length c.row.c)) := Lib.hid fun W hW => by
    have h0 := (hW.block w.heap.size (by omega)).trans hg0
    have h1 := (hW.block (w.heap.size + 1) (by omega)).trans hg1
    unfold Sc.cells at h0
    rw [hn] at h0
    exact ⟨by rw [cell_of_row _ _ _ _ _ _ h0]; rfl, by rw [cell_of_row _ _ _ _ _ _ h0]; rfl, by rw [cell_of_row _ _ _ _ _ _ h0]; rfl, by rw [cell_of_row _ _ _ _ _ _ h1]; rfl, by rw [cell_of_row _ _ _ _ _ _ h1]; rfl, by rw [cell_of_row _ _ _ _ _ _ h1]; rfl, by rw [cell_of_row _ _ _ _ _ _ h1]; rfl⟩
  have HB1 := Lib.hid hb1
  have HW1 := Lib.hid hw1
  have hin : (i : Int) < (n : Int) := by omega
  have HFI := Lib.hid hc.fi
  have hfit : (c.kind = 1 ∧ c.key.row.length = 0 ∧ RowC (s.tabs[i]'hil).cols c.row.row) ∨ (c.kind = 2 ∧ c.row.row.length = 0 ∧ KeyC (s.tabs[i]'hil) c.key.row) := hc.fit
  obtain ⟨c0, c1, c2, c3, c4, c5, c6⟩ := HBK.out w1 (Below.refl _ _)
  unfold Sc.cells ChM.cells at HW1
  unfold Sc.v Sc.cells at HFT ⊢
  unfold ChM.cells
  rw [hn] at HFT HW1 ⊢
  clear hs ho hc hw1 hb1 hg0 hg1 hs1 hn
  obtain ⟨TA, tc, tabs, FA, fc, fks, NA, nc, cns⟩ := s
  obtain ⟨ck, cn, ⟨kA, kc, kr⟩, ⟨rA, rc, rr⟩⟩ := c
  simp only at *
  generalize tabs[i]'hil = ti at *
  rcases hfit with ⟨rfl, hk0, hrc⟩ | ⟨rfl, hk0, hkc⟩
  · have HR := Lib.hid (HCR.out hrc)
    unfold Tbl.val at HR
    clear HCR HVK hrc
    rw [hk0] at HW1 HBK c5 ⊢
    clear hk0
    go_enter Tryz.func107, Tryz.ntmps107
    go_upto_region 1 with fail
    rw [← HW1.out]
    go_wp2_with fail
    refine (HFT.out w1 HB1.out).mono ?_
    rintro e w2 ⟨rfl, hb2⟩
    rw [HFI.out]
    have hmi : max (i : Int) 0 = (i : Int) := by omega
    have hdi : decide (0 ≤ (i : Int)) = true := decide_eq_true (by omega)
    unfold findV
    rw [hmi, hdi]
    have hb02 := HB1.out.trans (hb2.mono HB1.out.size)
    have HB2 := Lib.hid hb02
    obtain ⟨d0, d1, d2, d3, d4, d5, d6⟩ := HBK.out w2 hb2
    obtain ⟨b, off, hA, -, p0, p1, p2⟩ := HTB.out w2 hb02
    rw [hA] at d0
    have HR2 := Lib.hid (HR.out w2 hb02)
    clear hb2 hb02 c0 c1 c2 c3 c4 c5 c6 hmi hdi hA HTB
    go_upto_region 7 with fail
    go_region_law (first
      | (go_simp; go_at_call 68; refine (HR2.out 1).mono ?_; rintro e w3 ⟨rfl, hb3⟩))
    all_goals
      have HB3 := Lib.hid (HB2.out.trans (hb3.mono HB2.out.size))
      clear hb3
      go_wp2_with fail
      go_ret
      exact ⟨rfl, HB3.out⟩
  · have HR := Lib.hid (HVK.out hkc)
    unfold Tbl.val at HR
    clear HCR HVK hkc
    rw [hk0] at HW1 HBK c6 ⊢
    clear hk0
    go_enter Tryz.func107, Tryz.ntmps107
    go_upto_region 1 with fail
    rw [← HW1.out]
    go_wp2_with fail
    refine (HFT.out w1 HB1.out).mono ?_
    rintro e w2 ⟨rfl, hb2⟩
    rw [HFI.out]
    have hmi : max (i : Int) 0 = (i : Int) := by omega
    have hdi : decide (0 ≤ (i : Int)) = true := decide_eq_true (by omega)
    unfold findV
    rw [hmi, hdi]
    have hb02 := HB1.out.trans (hb2.mono HB1.out.size)
    have HB2 := Lib.hid hb02
    obtain ⟨d0, d1, d2, d3, d4, d5, d6⟩ := HBK.out w2 hb2
    obtain ⟨b, off, hA, -, p0, p1, p2⟩ := HTB.out w2 hb02
    rw [hA] at d0
    have HR2 := Lib.hid (HR.out w2 hb02)
    clear hb2 hb02 c0 c1 c2 c3 c4 c5 c6 hmi hdi hA HTB
    go_upto_region 8 with fail
    go_region_law (first
      | (go_simp; go_at_call 125; refine (HR2.out 1).mono ?_; rintro e w3 ⟨rfl, hb3⟩))
    all_goals
      have HB3 := Lib.hid (HB2.out.trans (hb3.mono HB2.out.size))
      clear hb3
      go_wp2_with fail
      go_ret
      exact ⟨rfl, HB3.out⟩
end Go.Proofs.YtefifkleamiabaaGreatDoor
