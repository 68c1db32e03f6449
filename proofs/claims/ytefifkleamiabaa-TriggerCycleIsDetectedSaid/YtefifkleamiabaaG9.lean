/-
  The walks of relation.Delete, relation.Upsert.
-/
import Derived.Test.YtefifkleamiabaaG8
import Derived.Test.YtefifkleamiabaaYio
import Derived.Test.YtefifkleamiabaaYdo
import Derived.Deep.RegionLaw
namespace Go.Proofs.Ytefifkleamiabaa
open Go.RowKit Go.Sort

theorem Own.rebase {α : Type} {sz : Nat} {cs : α → List Value} {e : TypeId} {base base' : Nat} {w : World} {v : Value} {xs : List α} (h : Own sz cs e base w v xs) (hl : ∀ g, v.ownBlock = some g → base' ≤ g) : Own sz cs e base' w v xs := by
  refine ⟨h.1, ?_⟩
  rcases h.2 with h | ⟨g, cap, cur, rfl, h2, h3⟩
  · exact .inl h
  · exact .inr ⟨g, cap, cur, rfl, hl g rfl, h3⟩
theorem Own.set1 {α : Type} {cs : α → List Value} (L : Lay 1 cs) {e : TypeId} {base : Nat} {w : World} {g n c i : Nat} {xs : List α} {y : α} {v : Value} (h : Own 1 cs e base w (.slice (some ⟨g, 0, none⟩) n c) xs) (hi : i < xs.length) (hy : cs y = [v]) :
    Own 1 cs e base (w.setCell ⟨g, i, none⟩ v) (.slice (some ⟨g, 0, none⟩) n c) (xs.set i y) ∧ (∃ q, w.cell? ⟨g, i, none⟩ = some q) ∧ w.frozen? ⟨g, i, none⟩ = false := by
  obtain ⟨g', c', cur, hv, hb, hg, hcl, hcm, hs, ht⟩ := Own.open_ h (by omega)
  injection hv with hv1 hv2 hv3
  injection hv1 with hv1
  injection hv1 with hv1
  subst hv1 hv3
  refine ⟨Own.shut L hb (heap_setCell_at hg _) (by rw [List.length_set]; exact hv2) (by omega) hcm (by simp [hs]) ?_, ?_, frozen_of_row _ _ _ _ _ hg⟩
  · rw [Array.toList_setIfInBounds, List.take_set, hv2, ht]
    have key : ∀ (xs : List α) (i : Nat), (xs.flatMap cs).set i v = (xs.set i y).flatMap cs := by
      intro xs
      induction xs with
      | nil => intro i; rfl
      | cons a l ih =>
        intro i
        have hla := L.len a
        obtain ⟨va, hva⟩ : ∃ va, cs a = [va] := by
          rcases hc : cs a with _ | ⟨x, _ | ⟨x2, l2⟩⟩
          · rw [hc] at hla; cases hla
          · exact ⟨x, rfl⟩
          · rw [hc] at hla; simp at hla
        cases i with
        | zero => rw [List.set_cons_zero, List.flatMap_cons, List.flatMap_cons, hy, hva]; rfl
        | succ i => rw [List.set_cons_succ, List.flatMap_cons, List.flatMap_cons, hva, ← ih i]; rfl
    exact key xs i
  · rw [cell_of_row _ _ _ _ _ _ hg]
    exact ⟨_, Array.getElem?_eq_getElem (by omega)⟩

/-- What Delete leaves of the rows. -/
def delRX (pk : List Int) (key : Row) (rs : List Row) : List Row := if rff pk key rs = true then rs.take (rfi pk key rs) ++ rs.drop (rfi pk key rs + 1) else rs
theorem rff_lt {pk : List Int} {key : Row} {rs : List Row} (h : rff pk key rs = true) : rfi pk key rs < rs.length := by
  unfold rff at h
  rcases Nat.lt_or_ge (rfi pk key rs) rs.length with h' | h'
  · exact h'
  · rw [List.getElem?_eq_none h'] at h
    cases h
theorem rfi_le (pk : List Int) (key : Row) (rs : List Row) : rfi pk key rs ≤ rs.length := List.findIdx_le_length

set_option maxRecDepth 100000 in
set_option maxHeartbeats 4000000 in
theorem relDelete (t : Tbl) (A : Option Addr) (c : Nat) (ks : List Key) (key : Key) (w : World) (ht : TOk (· < w.heap.size) w t) (h : RsOk (· < w.heap.size) w A ks) (hk : KOk (· < w.heap.size) w key) (hl : ks.length ≤ 1000) (hp : t.pk.length ≤ 12) :
    Calls Try.prog 42 #[t.val, .slice A ks.length c, .slice key.A key.row.length key.c] w fun e w' => ∃ v ks', e = .returned (.tuple #[v, .bool (rff t.pk key.row (ks.map Key.row))]) ∧ RO w.heap.size w w' v ks' (delRX t.pk key.row (ks.map Key.row)) := by
  obtain ⟨w1, hw1⟩ : ∃ w1, w1 = w.alloc (.cells #[.string t.name, .slice t.CA t.cols.length t.cc, .slice t.PA t.pk.length t.pc] 58) := ⟨_, rfl⟩
  have hbx := heap_alloc_new w (.cells #[.string t.name, .slice t.CA t.cols.length t.cc, .slice t.PA t.pk.length t.pc] 58)
  rw [← hw1] at hbx
  have hb1 : Below w.heap.size w w1 := by rw [hw1]; exact (Below.refl _ _).alloc (Nat.le_refl _) _
  have hs1 : w.heap.size < w1.heap.size := by rw [hw1]; simp
  have HBK : Hid (∀ W, Below w1.heap.size w1 W → W.cell? ⟨w.heap.size, 0, none⟩ = some (.string t.name) ∧ W.cell? ⟨w.heap.size, 1, none⟩ = some (.slice t.CA t.cols.length t.cc) ∧ W.cell? ⟨w.heap.size, 2, none⟩ = some (.slice t.PA t.pk.length t.pc)) := Lib.hid fun W hW => by
    have h := (hW.block w.heap.size hs1).trans hbx
    exact ⟨by rw [cell_of_row _ _ _ _ _ _ h]; rfl, by rw [cell_of_row _ _ _ _ _ _ h]; rfl, by rw [cell_of_row _ _ _ _ _ _ h]; rfl⟩
  have HCL := Lib.hid (relClone A c ks w1 (h.on hb1) hl)
  have HFD := Lib.hid fun W (hW : Below w.heap.size w W) A' c' ks' (h' : RsOk (· < W.heap.size) W A' ks') (hl' : ks'.length ≤ 1000) => relFind t A' c' ks' key W (ht.on hW) h' (hk.on hW) hl' hp
  have HB1 := Lib.hid hb1
  have HW1 := Lib.hid hw1
  obtain ⟨n, hn⟩ : ∃ n, ks.length = n := ⟨_, rfl⟩
  rw [hn] at HCL hl ⊢
  have HN := Lib.hid hn
  obtain ⟨name, CA, cc, tc, PA, pc, pk⟩ := t
  unfold Tbl.val at HFD ⊢
  simp only at *
  generalize hR : ks.map Key.row = R at *
  have HRL : Hid (R.length = n) := Lib.hid (by rw [← hR, List.length_map]; exact HN.out)
  clear ht h hk hn hw1 hbx hb1 hs1 hp hR
  go_enter Try.func42, Try.ntmps42
  go_upto_region 1 with fail
  rw [← HW1.out]
  go_wp2_with fail
  refine HCL.out.mono ?_
  rintro e w2 ⟨v2, ks2, rfl, hro⟩
  have hkl2 : ks2.length = n := by
    have h := congrArg List.length hro.rows
    rw [List.length_map, HRL.out] at h
    exact h
  obtain ⟨A2, c2, hv2, -, -⟩ := hro.own.form
  rw [hkl2] at hv2
  subst hv2
  have hb02 := HB1.out.trans (hro.bel.mono HB1.out.size)
  have HF2 := HFD.out w2 hb02 A2 c2 ks2 hro.rs (by omega)
  rw [hkl2, hro.rows] at HF2
  have HF := Lib.hid HF2
  have HRO := Lib.hid hro
  have HB02 := Lib.hid hb02
  obtain ⟨y0, y1, y2⟩ := HBK.out w2 hro.bel
  have HKL := Lib.hid hkl2
  clear HF2 hro hb02 hkl2
  go_wp2_with fail
  refine HF.out.mono ?_
  rintro e w3 ⟨rfl, hb3⟩
  have HB03 := Lib.hid (HB02.out.trans (hb3.mono HB02.out.size))
  have HRO3 := Lib.hid (HRO.out.below hb3 HRO.out.bel.size)
  have HW3 := Lib.hid hb3
  clear hb3
  cases hff : rff pk key.row R with
  | false =>
    have HD : Hid (delRX pk key.row R = R) := Lib.hid (by unfold delRX; rw [if_neg (by rw [hff]; simp)])
    have HFF := Lib.hid hff
    clear hff
    go_wp2_with fail
    go_ret2
    rw [HD.out, HFF.out]
    exact ⟨_, ks2, rfl, HRO3.out.own.mono HB1.out.size, HRO3.out.rows, fun k hk => (HRO3.out.el k hk).more fun g hg => ⟨Nat.le_trans HB1.out.size hg.1, hg.2⟩, HB03.out⟩
  | true =>
    have hlt := rff_lt hff
    rw [HRL.out] at hlt
    have HD : Hid (delRX pk key.row R = R.take (rfi pk key.row R) ++ R.drop (rfi pk key.row R + 1)) := Lib.hid (by unfold delRX; rw [if_pos hff])
    have hde := delKey A2 c2 ks2 (rfi pk key.row R) w3 (by have h := HRO3.out.own.mono (Nat.zero_le _); rw [HKL.out]; exact h) (by rw [HKL.out]; exact hlt) (by rw [HKL.out]; exact hl)
    rw [HKL.out] at hde
    have HDE := Lib.hid hde
    have HFF := Lib.hid hff
    clear hff hde
    generalize rfi pk key.row R = i at *
    go_wp2_with fail
    refine HDE.out.mono ?_
    rintro e w4 ⟨v4, rfl, ho4, hx4⟩
    have HX4 := Lib.hid (And.intro ho4 hx4)
    clear ho4 hx4
    go_wp2_with fail
    go_ret2
    rw [HD.out, HFF.out]
    obtain ⟨ho4, hx4⟩ := HX4.out
    have hv2 : ∀ g, (Value.slice A2 n c2).ownBlock = some g → w1.heap.size ≤ g := fun g hg => (Own.lt HRO3.out.own g hg).1
    have hv4 : ∀ g, v4.ownBlock = some g → w.heap.size ≤ g := hx4.own_lt (base := w.heap.size) (fun g hg => Nat.le_trans HB1.out.size (hv2 g hg)) HB03.out.size
    refine ⟨_, ks2.take i ++ ks2.drop (i + 1), rfl, ho4.rebase hv4, by rw [List.map_append, List.map_take, List.map_drop, HRO3.out.rows], fun k hk => ?_, HB03.out.trans (hx4.below (base := w.heap.size) HB03.out.size fun g hg => Nat.le_trans HB1.out.size (hv2 g hg))⟩
    have hm : k ∈ ks2 := by
      rcases List.mem_append.1 hk with h | h
      · exact List.mem_of_mem_take h
      · exact List.mem_of_mem_drop h
    exact ((HRO3.out.el k hm).keep (hx4.keeps fun g hg => ⟨hg.2.1, fun e => hg.2.2 e.symm⟩)).more fun g hg => ⟨Nat.le_trans HB1.out.size hg.1, Nat.lt_of_lt_of_le hg.2.1 hx4.size, hx4.ne hg.2.2 hg.2.1⟩
end Go.Proofs.Ytefifkleamiabaa
