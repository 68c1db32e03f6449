/-
  A copy of an index in the making: whose its blocks are. No program's walk.
  The walks of relation.Clone, relation.Find.
  Slices at the head of a block: copy, append in place, clear, append of zeros, at the level of the block's cells. No program in sight.
  Slices of the call's own: one element laid between others, one taken out: the plain part. No program in sight.
  The walks of slices.Insert with one element: entries and keys of an index. (Printed by secops.py.)
  The walks of slices.Delete of one element: entries and keys of an index. (Printed by secops.py.)
-/
import Derived.Test.YtefifkleamiabaaGreatDoorUm03
import Derived.Test.YtefifkleamiabaaGreatDoorUm01
import Derived.Laws.IdiomCopy
import Derived.Lib.AppendZerosOnto
import Derived.Lib.Overlaps
import Derived.Deep.RegionLaw
import Derived.StillTailTactics
namespace Go.Proofs.YtefifkleamiabaaGreatDoor
open Go.RowKit Go.Sort

theorem elem_keys : ElemT Tryz.prog 76 48 1 24 := ⟨Tryz.underlying76, by
  have h : (Tryz.prog.info? 48).map (fun i => (i.zero, i.size, i.bytes)) = some (some (.slice none 0 0), 1, 24) := by kernel_rfl
  obtain ⟨i0, hi, hz0, hz1, hz2⟩ := info_parts h
  exact ⟨i0, _, hi, hz0, hz1, hz2, rfl⟩, by omega⟩
theorem heap_setCell_at {w : World} {g i : Nat} {cur : Array Value} {e : TypeId} (h : w.heap[g]? = some (.cells cur e (0, 0))) (v : Value) : (w.setCell ⟨g, i, none⟩ v).heap[g]? = some (.cells (cur.setIfInBounds i v) e (0, 0)) := by
  unfold World.setCell
  simp only
  rw [Array.getElem?_modify, if_pos rfl, h]
  simp
theorem KOk.of {K K' : Nat → Prop} {w w' : World} {k : Key} (h : KOk K w k) (hk : ∀ i, K i → w'.heap[i]? = w.heap[i]? ∧ K' i) : KOk K' w' k := (h.keep fun i hi => (hk i hi).1).more fun i hi => (hk i hi).2
theorem Elems.of {α : Type} {sz : Nat} {cs : α → List Value} {K K' : Nat → Prop} {w w' : World} {A : Option Addr} {xs : List α} (h : Elems sz cs w K A xs) (hk : ∀ i, K i → w'.heap[i]? = w.heap[i]? ∧ K' i) : Elems sz cs w' K' A xs := (h.keep fun i hi => (hk i hi).1).more fun i hi => (hk i hi).2
theorem TOk.of {K K' : Nat → Prop} {w w' : World} {t : Tbl} (h : TOk K w t) (hk : ∀ i, K i → w'.heap[i]? = w.heap[i]? ∧ K' i) : TOk K' w' t := ⟨h.cols.of hk, h.pk.of hk⟩

section
variable {lo b : Nat} {w w' : World} {e : EntM}
end

section
variable {base bx : Nat} {w w' : World} {x : Ix} {R : Nat → Prop}
end
end Go.Proofs.YtefifkleamiabaaGreatDoor

namespace Go.Proofs.YtefifkleamiabaaGreatDoor
open Go.RowKit Go.Sort

/-- Rows of the call's own. -/
structure RO (base : Nat) (w0 w : World) (v : Value) (ks : List Key) (rs : List Row) : Prop where
  own : Own 1 Key.cs 48 base w v ks
  rows : ks.map Key.row = rs
  el : ∀ k ∈ ks, KOk (fun g => base ≤ g ∧ g < w.heap.size ∧ v.ownBlock ≠ some g) w k
  bel : Below base w0 w
theorem RO.push {base : Nat} {w0 wo wc w' : World} {v v' : Value} {ks : List Key} {rs : List Row} {key : Key} (h : RO base w0 wo v ks rs) (hb : Below wo.heap.size wo wc) (hk : KOk (fun g => wo.heap.size ≤ g ∧ g < wc.heap.size) wc key)
    (ho : Own 1 Key.cs 48 base w' v' (ks ++ [key])) (hx : Ext wc v w' v') (hB : base ≤ wo.heap.size) : RO base w0 w' v' (ks ++ [key]) (rs ++ [key.row]) := by
  have hvl : ∀ g, v.ownBlock = some g → base ≤ g ∧ g < wo.heap.size := Own.lt h.own
  have hsz := hx.size
  have hbs := hb.size
  have hne : ∀ g, wo.heap.size ≤ g → v.ownBlock ≠ some g := fun g hg e => by have := (hvl g e).2; omega
  refine ⟨ho, by rw [List.map_append, h.rows]; rfl, fun k hm => ?_, (h.bel.trans (hb.mono hB)).trans (hx.below (by omega) fun g hg => (hvl g hg).1)⟩
  rcases List.mem_append.1 hm with hm | hm
  · have h1 := (h.el k hm).keep (Keeps.of_below hb fun _ h => h.2.1)
    refine (h1.keep (hx.keeps fun g hg => ⟨by omega, fun e => hg.2.2 e.symm⟩)).more fun g hg => ⟨hg.1, by omega, hx.ne hg.2.2 (by omega)⟩
  · rw [List.mem_singleton.1 hm]
    exact (hk.keep (hx.keeps fun g hg => ⟨hg.2, fun e => hne g hg.1 e.symm⟩)).more fun g hg => ⟨by omega, by omega, hx.ne (hne g hg.1) hg.2⟩
theorem RO.rs {base : Nat} {w0 w : World} {A : Option Addr} {n c : Nat} {ks : List Key} {rs : List Row} (h : RO base w0 w (.slice A n c) ks rs) : RsOk (· < w.heap.size) w A ks :=
  ⟨(h.own.elems keyLay.len rfl).more fun g hg => (Own.lt h.own g hg).2, fun k hk => (h.el k hk).more fun _ hg => hg.2.1⟩
theorem RO.below {base : Nat} {w0 w w' : World} {v : Value} {ks : List Key} {rs : List Row} (h : RO base w0 w v ks rs) (hb : Below w.heap.size w w') (hB : base ≤ w.heap.size) : RO base w0 w' v ks rs :=
  ⟨h.own.below hb, h.rows, fun k hk => ((h.el k hk).keep (Keeps.of_below hb fun _ h => h.2.1)).more fun _ hg => ⟨hg.1, Nat.lt_of_lt_of_le hg.2.1 hb.size, hg.2.2⟩, h.bel.trans (hb.mono hB)⟩

set_option maxRecDepth 100000 in
set_option maxHeartbeats 4000000 in
theorem relClone (A : Option Addr) (c : Nat) (ks : List Key) (w : World) (h : RsOk (· < w.heap.size) w A ks) (hl : ks.length ≤ 1000) :
    Calls Tryz.prog 71 #[.slice A ks.length c] w fun e w' => ∃ v ks', e = .returned v ∧ RO w.heap.size w w' v ks' (ks.map Key.row) := by
  have HX := Lib.hid h
  obtain ⟨n, hn⟩ : ∃ n, ks.length = n := ⟨_, rfl⟩
  rw [hn] at hl ⊢
  have HN := Lib.hid hn
  clear h hn
  go_enter Tryz.func71, Tryz.ntmps71
  go_wp2_with fail
  go_loopw [3, 8] (fun v3 vi wr => ∃ (k : Nat) (ks' : List Key), vi = .int .i64 (k : Int) ∧ k ≤ n ∧ RO w.heap.size w wr v3 ks' ((ks.take k).map Key.row)) (fun _ vi _ => n - (intOf vi).toNat)
  case atStart => exact ⟨0, [], rfl, by omega, Own.nil _, rfl, (fun k hk => by cases hk), Below.refl _ _⟩
  case round =>
    obtain ⟨k, ks', rfl, hkn, hT⟩ := hrel
    obtain ⟨wo, rfl⟩ : ∃ wo, wo = wr := ⟨_, rfl⟩
    obtain ⟨v3, rfl⟩ : ∃ v3, v3 = u3 := ⟨_, rfl⟩
    by_cases hlt : k < n
    · have hki : k < ks.length := by have := HN.out; omega
      have hx := HX.out.on hT.bel
      obtain ⟨b, off, rfl, -, p0⟩ := hx.el.key hki
      have hrow := hx.row _ (List.getElem_mem hki)
      have hlt' : (k : Int) < (n : Int) := by omega
      have hlen : ks'.length = k := by
        have h := congrArg List.length hT.rows
        rw [List.length_map, List.length_map, List.length_take] at h
        omega
      have HSUC : Hid ((ks.take (k + 1)).map Key.row = (ks.take k).map Key.row ++ [ks[k].row]) := Lib.hid (by rw [List.take_succ_eq_append_getElem hki, List.map_append]; rfl)
      have hrl := hrow.len
      have HCL := Lib.hid (cloneRow ks[k].A ks[k].row.length ks[k].c ks[k].row wo _ hrow.el (fun _ h => h) rfl (by omega))
      have HT := Lib.hid hT
      have HL1 : Hid ((ks'.length + 1) * 24 ≤ 140737488355328) := Lib.hid (by omega)
      have HL2 : Hid (ks'.length + 1 ≤ maxLen) := Lib.hid (by unfold maxLen; omega)
      have HRL := Lib.hid hrl
      clear hT hx hrow hlen hrl
      generalize ks[k] = q at *
      obtain ⟨qA, qc, qr⟩ := q
      simp only at *
      go_wp2_with fail
      refine HCL.out.mono ?_
      rintro e w2 ⟨v2, rfl, ho2, hb2⟩
      obtain ⟨A2, c2, rfl, -, -⟩ := ho2.form
      have hky : KOk (fun g => wo.heap.size ≤ g ∧ g < w2.heap.size) w2 ⟨A2, c2, qr⟩ := ⟨(ho2.elems valLay.len rfl).more fun g hg => Own.lt ho2 g hg, HRL.out⟩
      have HP : Hid (∀ w' v', Own 1 Key.cs 48 w.heap.size w' v' (ks' ++ [⟨A2, c2, qr⟩]) → Ext w2 v3 w' v' → RO w.heap.size w w' v' (ks' ++ [⟨A2, c2, qr⟩]) ((ks.take (k + 1)).map Key.row)) := Lib.hid fun w' v' h1 h2 => by
        rw [HSUC.out]
        exact HT.out.push hb2 hky h1 h2 HT.out.bel.size
      have HO : Hid (Own 1 Key.cs 48 w.heap.size w2 v3 ks' ∧ w.heap.size ≤ w2.heap.size) := Lib.hid ⟨HT.out.own.below hb2, Nat.le_trans HT.out.bel.size hb2.size⟩
      clear ho2 hb2 hky
      go_wp2_with (at_builtin; refine wpList_app rfl (.tmp 12) (.tmp 15) _ _ rfl rfl rfl (run_push elem_keys keyLay _ _ _ ks' ⟨A2, c2, qr⟩ _ HO.out.1 rfl HL1.out HL2.out HO.out.2 rfl) ?_; rintro v4 w4 ⟨ho4, hx4⟩)
      have HF := Lib.hid (HP.out _ _ ho4 hx4)
      clear ho4 hx4
      go_wp2_with fail
      go_roundw
      case rel => exact ⟨k + 1, _, by go_num, by omega, HF.out⟩
      case measure => simp [intOf]; omega
    · have hkn' : k = n := by omega
      subst hkn'
      have HF : Hid (RO w.heap.size w wo v3 ks' (ks.map Key.row)) := Lib.hid (by rwa [List.take_of_length_le (by have := HN.out; omega)] at hT)
      clear hT
      go_wp2_with fail
      go_ret
      exact ⟨_, _, rfl, HF.out⟩

/-- Where a key stands among sorted rows; whether it is there. -/
def rfi (pk : List Int) (key : Row) (rs : List Row) : Nat := rs.findIdx fun r => decide (0 ≤ cmpR (keyOf pk r) key)
def rff (pk : List Int) (key : Row) (rs : List Row) : Bool := match rs[rfi pk key rs]? with
  | some r => decide (cmpR (keyOf pk r) key = 0)
  | none => false
theorem rfi_at {pk : List Int} {key : Row} {rs : List Row} {k : Nat} (hk : k < rs.length) (hp : 0 ≤ cmpR (keyOf pk rs[k]) key) (hb : ∀ r ∈ rs.take k, cmpR (keyOf pk r) key < 0) : rfi pk key rs = k ∧ rff pk key rs = decide (cmpR (keyOf pk rs[k]) key = 0) := by
  have hf : rfi pk key rs = k := by
    unfold rfi
    rw [List.findIdx_eq hk]
    refine ⟨decide_eq_true hp, fun j hj => ?_⟩
    have h := hb rs[j] (by rw [List.mem_take_iff_getElem]; exact ⟨j, by omega, rfl⟩)
    exact decide_eq_false (by omega)
  refine ⟨hf, ?_⟩
  unfold rff
  rw [hf, List.getElem?_eq_getElem hk]
theorem rfi_no {pk : List Int} {key : Row} {rs : List Row} (hb : ∀ r ∈ rs, cmpR (keyOf pk r) key < 0) : rfi pk key rs = rs.length ∧ rff pk key rs = false := by
  have hf : rfi pk key rs = rs.length := by
    unfold rfi
    rw [List.findIdx_eq_length]
    intro r hr
    have h := hb r hr
    exact decide_eq_false (by omega)
  refine ⟨hf, ?_⟩
  unfold rff
  rw [hf, List.getElem?_eq_none (Nat.le_refl _)]

set_option maxRecDepth 100000 in
set_option maxHeartbeats 4000000 in
theorem relFind (t : Tbl) (A : Option Addr) (c : Nat) (ks : List Key) (key : Key) (w : World) (ht : TOk (· < w.heap.size) w t) (h : RsOk (· < w.heap.size) w A ks) (hk : KOk (· < w.heap.size) w key) (hl : ks.length ≤ 1000) (hp : t.pk.length ≤ 12) :
    Calls Tryz.prog 106 #[t.val, .slice A ks.length c, .slice key.A key.row.length key.c] w fun e w' => e = .returned (.tuple #[.int .i64 (rfi t.pk key.row (ks.map Key.row) : Nat), .bool (rff t.pk key.row (ks.map Key.row))]) ∧ Below w.heap.size w w' := by
  have HX := Lib.hid h
  have HK := Lib.hid hk
  have HKY := Lib.hid fun W (hW : Below w.heap.size w W) (q : Key) (hq : Elems 3 Val.cs W (· < W.heap.size) q.A q.row) => relKey t q.A q.c q.row W (ht.on hW) hq (by omega)
  obtain ⟨name, CA, cc, tc, PA, pc, pk⟩ := t
  unfold Tbl.val at HKY ⊢
  simp only at *
  obtain ⟨n, hn⟩ : ∃ n, ks.length = n := ⟨_, rfl⟩
  rw [hn] at hl ⊢
  have HN := Lib.hid hn
  have HP := Lib.hid hp
  obtain ⟨w1, hw1⟩ : ∃ w1, w1 = w.alloc (.cells #[.string name, .slice CA tc.length cc, .slice PA pk.length pc] 71) := ⟨_, rfl⟩
  have hbx := heap_alloc_new w (.cells #[.string name, .slice CA tc.length cc, .slice PA pk.length pc] 71)
  rw [← hw1] at hbx
  have hb1 : Below w.heap.size w w1 := by rw [hw1]; exact (Below.refl _ _).alloc (Nat.le_refl _) _
  have hs1 : w.heap.size < w1.heap.size := by rw [hw1]; simp
  have HBK : Hid (∀ W, Below w1.heap.size w1 W → W.cell? ⟨w.heap.size, 0, none⟩ = some (.string name) ∧ W.cell? ⟨w.heap.size, 1, none⟩ = some (.slice CA tc.length cc) ∧ W.cell? ⟨w.heap.size, 2, none⟩ = some (.slice PA pk.length pc)) := Lib.hid fun W hW => by
    have h := (hW.block w.heap.size hs1).trans hbx
    exact ⟨by rw [cell_of_row _ _ _ _ _ _ h]; rfl, by rw [cell_of_row _ _ _ _ _ _ h]; rfl, by rw [cell_of_row _ _ _ _ _ _ h]; rfl⟩
  have HB1 := Lib.hid hb1
  have HW1 := Lib.hid hw1
  clear ht h hk hn hp hw1 hbx hb1 hs1
  go_enter Tryz.func106, Tryz.ntmps106
  go_upto_region 1 with fail
  rw [← HW1.out]
  go_wp2_with fail
  go_loopw [13] (fun vi wr => ∃ k : Nat, vi = .int .i64 (k : Int) ∧ k ≤ n ∧ (∀ r ∈ (ks.map Key.row).take k, cmpR (keyOf pk r) key.row < 0) ∧ Below w1.heap.size w1 wr) (fun vi _ => n - (intOf vi).toNat)
  case atStart => exact ⟨0, rfl, by omega, (by intro x hx; simp at hx), Below.refl _ _⟩
  case round =>
    obtain ⟨k, rfl, hkn, hbef, hb⟩ := hrel
    obtain ⟨wo, rfl⟩ : ∃ wo, wo = wr := ⟨_, rfl⟩
    have hbw : Below w.heap.size w wo := HB1.out.trans (hb.mono HB1.out.size)
    by_cases hlt : k < n
    · have hki : k < ks.length := by have := HN.out; omega
      have hx := HX.out.on hbw
      obtain ⟨b, off, rfl, -, p0⟩ := hx.el.key hki
      have hrow := hx.row _ (List.getElem_mem hki)
      obtain ⟨c0, c1, c2⟩ := HBK.out wo hb
      have hlt' : (k : Int) < (n : Int) := by omega
      have hkm : k < (ks.map Key.row).length := by rw [List.length_map]; exact hki
      have HAT : Hid (0 ≤ cmpR (keyOf pk ks[k].row) key.row → rfi pk key.row (ks.map Key.row) = k ∧ rff pk key.row (ks.map Key.row) = decide (cmpR (keyOf pk ks[k].row) key.row = 0)) := Lib.hid fun hc => by
        have h := rfi_at (pk := pk) (key := key.row) hkm (by rw [List.getElem_map]; exact hc) hbef
        rw [List.getElem_map] at h
        exact h
      have HSUC : Hid (cmpR (keyOf pk ks[k].row) key.row < 0 → ∀ r ∈ (ks.map Key.row).take (k + 1), cmpR (keyOf pk r) key.row < 0) := Lib.hid fun hc r hr => by
        rw [List.take_succ_eq_append_getElem hkm] at hr
        rcases List.mem_append.1 hr with hr | hr
        · exact hbef r hr
        · rw [List.mem_singleton.1 hr, List.getElem_map]
          exact hc
      have HK1 := Lib.hid (HKY.out wo hbw ks[k] hrow.el)
      have HBO := Lib.hid (And.intro hb hbw)
      clear hx hrow hbef hb hbw hkm
      generalize ks[k] = q at *
      obtain ⟨qA, qc, qr⟩ := q
      simp only at *
      go_wp2_with fail
      refine HK1.out.mono ?_
      rintro e w2 ⟨v2, rfl, ho2, hb2⟩
      obtain ⟨A2, c2', rfl, -, -⟩ := ho2.form
      have hb02 := HBO.out.2.trans (hb2.mono HBO.out.2.size)
      have hkk : (keyOf pk qr).length = pk.length := by unfold keyOf; rw [List.length_map]
      have hky : KOk (· < w2.heap.size) w2 ⟨A2, c2', keyOf pk qr⟩ := ⟨(ho2.elems valLay.len rfl).more fun g hg => (Own.lt ho2 g hg).2, by show (keyOf pk qr).length ≤ 12; have := HP.out; omega⟩
      have HCM := Lib.hid (cmpKeys ⟨A2, c2', keyOf pk qr⟩ key w2 hky (HK.out.on hb02))
      have HB2 := Lib.hid (HBO.out.1.trans (hb2.mono HBO.out.1.size))
      clear ho2 hb2 hb02 hkk hky
      simp only at HCM
      go_wp2_with fail
      refine HCM.out.mono ?_
      rintro e w3 ⟨rfl, hb3⟩
      have HB3 := Lib.hid (HB2.out.trans (hb3.mono HB2.out.size))
      clear hb3
      generalize cmpR (keyOf pk qr) key.row = cv at *
      by_cases hc : 0 ≤ cv
      · obtain ⟨h1, h2⟩ := HAT.out hc
        have H12 := Lib.hid (And.intro h1 h2)
        clear h1 h2 HAT HSUC
        go_wp2_with fail
        go_ret2
        refine ⟨?_, HB1.out.trans (HB3.out.mono HB1.out.size)⟩
        rw [H12.out.1, H12.out.2]
        first | rfl | simp [Int.beq_eq_decide_eq]
      · have HS := Lib.hid (HSUC.out (by omega))
        clear HAT HSUC
        go_wp2_with fail
        go_roundw
        case rel => exact ⟨k + 1, by go_num, by omega, HS.out, HB3.out⟩
        case measure => simp [intOf]; omega
    · have hkn' : k = n := by omega
      subst hkn'
      have hno := rfi_no (pk := pk) (key := key.row) (rs := ks.map Key.row) (by rwa [List.take_of_length_le (by rw [List.length_map]; have := HN.out; omega)] at hbef)
      rw [List.length_map, HN.out] at hno
      have HNO := Lib.hid hno
      have HE := Lib.hid hbw
      clear hbef hb hbw hno
      go_wp2_with fail
      go_ret2
      refine ⟨?_, HE.out⟩
      rw [HNO.out.1, HNO.out.2]
      rfl
end Go.Proofs.YtefifkleamiabaaGreatDoor

namespace Go.Proofs.YtefifkleamiabaaGreatDoor
open Go.RowKit

/-- The cells vs put over cur from place o on. -/
def putL (cur : Array Value) : Nat → List Value → Array Value
  | _, [] => cur
  | o, v :: r => putL (cur.setIfInBounds o v) (o + 1) r
theorem putL_size : ∀ (vs : List Value) (o : Nat) (cur : Array Value), (putL cur o vs).size = cur.size
  | [], _, _ => rfl
  | v :: r, o, cur => by unfold putL; rw [putL_size r]; simp
theorem putL_out : ∀ (vs : List Value) (o : Nat) (cur : Array Value) (k : Nat), k < o ∨ o + vs.length ≤ k → (putL cur o vs)[k]? = cur[k]?
  | [], _, _, _, _ => rfl
  | v :: r, o, cur, k, h => by
    unfold putL
    simp only [List.length_cons] at h
    rw [putL_out r (o + 1) _ k (by omega), Array.getElem?_setIfInBounds_ne (by omega)]
theorem putL_in : ∀ (vs : List Value) (o : Nat) (cur : Array Value) (j : Nat), o + vs.length ≤ cur.size → j < vs.length → (putL cur o vs)[o + j]? = vs[j]?
  | v :: r, o, cur, 0, h, _ => by
    unfold putL
    simp only [List.length_cons] at h
    rw [putL_out r (o + 1) _ _ (by omega), Nat.add_zero, Array.getElem?_setIfInBounds_self_of_lt (by omega)]
    rfl
  | v :: r, o, cur, j + 1, h, hj => by
    unfold putL
    simp only [List.length_cons] at h hj
    have := putL_in r (o + 1) (cur.setIfInBounds o v) j (by simp; omega) (by omega)
    rw [show o + (j + 1) = o + 1 + j by omega, this]
    rfl
theorem putL_list {vs : List Value} {o : Nat} {cur : Array Value} (h : o + vs.length ≤ cur.size) : (putL cur o vs).toList = cur.toList.take o ++ vs ++ cur.toList.drop (o + vs.length) := by
  apply List.ext_getElem?
  intro k
  rw [Array.getElem?_toList]
  by_cases h1 : k < o
  · rw [putL_out vs o cur k (.inl h1), List.append_assoc, List.getElem?_append_left (by simp; omega), List.getElem?_take, if_pos h1, Array.getElem?_toList]
  · by_cases h2 : k < o + vs.length
    · obtain ⟨j, rfl⟩ : ∃ j, k = o + j := ⟨k - o, by omega⟩
      rw [putL_in vs o cur j h (by omega), List.append_assoc, List.getElem?_append_right (by simp; omega), List.getElem?_append_left (by simp; omega)]
      congr 1
      simp
      omega
    · rw [putL_out vs o cur k (.inr (by omega)), List.getElem?_append_right (by simp; omega), List.getElem?_drop, Array.getElem?_toList]
      congr 1
      simp
      omega

theorem heap_setCells_ne {k g : Nat} (hk : k ≠ g) : ∀ (vs : List Value) (o : Nat) (w : World), (w.setCells g o vs).heap[k]? = w.heap[k]?
  | [], _, _ => rfl
  | v :: r, o, w => by
    rw [World.setCells, heap_setCells_ne hk r]
    exact Below.heap_setCell w ⟨g, o, none⟩ v k hk
theorem heap_setCells_eq {g : Nat} {e : TypeId} : ∀ (vs : List Value) (o : Nat) (w : World) (cur : Array Value), w.heap[g]? = some (.cells cur e (0, 0)) → (w.setCells g o vs).heap[g]? = some (.cells (putL cur o vs) e (0, 0))
  | [], _, _, _, h => h
  | v :: r, o, w, cur, h => by
    rw [World.setCells]
    exact heap_setCells_eq r (o + 1) _ _ (heap_setCell_same w g o cur e v h)
theorem setCells_size (g : Nat) : ∀ (vs : List Value) (o : Nat) (w : World), (w.setCells g o vs).heap.size = w.heap.size
  | [], _, _ => rfl
  | v :: r, o, w => by rw [World.setCells, setCells_size g r]; simp [World.setCell]
theorem setCells_rest (g : Nat) : ∀ (vs : List Value) (o : Nat) (w : World), (w.setCells g o vs).os = w.os ∧ (w.setCells g o vs).tape = w.tape ∧ (w.setCells g o vs).output = w.output
  | [], _, _ => ⟨rfl, rfl, rfl⟩
  | v :: r, o, w => by rw [World.setCells]; exact setCells_rest g r _ _
theorem grown_setCells {a w : World} {g : Nat} (h : a.grownBy w (some g)) (o : Nat) (vs : List Value) : a.grownBy (w.setCells g o vs) (some g) := by
  obtain ⟨h1, h2, h3⟩ := setCells_rest g vs o w
  exact ⟨h1.trans h.os, h2.trans h.tape, h3.trans h.output, by rw [setCells_size]; exact h.size, fun k hk hne => (heap_setCells_ne (fun e => hne (by rw [e])) vs o w).trans (h.block k hk hne)⟩
theorem grown_drew' {a w : World} {g : Option Nat} (h : a.grownBy w g) : a.grownBy w.drew g := ⟨h.os, h.tape, h.output, h.size, h.block⟩

section
variable {P : Program} {t e : TypeId} {sz bytes : Nat}

theorem blk_cells {w : World} {g : Nat} {cur : Array Value} (h : w.heap[g]? = some (.cells cur e (0, 0))) {o n : Nat} {vs : List Value} (hv : (cur.toList.drop o).take n = vs) (hl : vs.length = n) : ∀ j v, vs[j]? = some v → w.cell? ((⟨g, o, none⟩ : Addr).add j) = some v := by
  intro j v hj
  rw [Addr.add_lit, cell_of_row _ g _ _ _ (0, 0) h]
  subst hv
  have hjn := (List.getElem?_eq_some_iff.1 hj).1
  rw [List.getElem?_take, if_pos (by omega), List.getElem?_drop, Array.getElem?_toList] at hj
  exact hj
theorem blk_some {w : World} {g : Nat} {cur : Array Value} (h : w.heap[g]? = some (.cells cur e (0, 0))) {k : Nat} (hk : k < cur.size) : (w.cell? ⟨g, k, none⟩).isSome = true := by
  rw [cell_of_row _ g _ _ _ (0, 0) h, Array.getElem?_eq_getElem hk]
  rfl

theorem run_copy_blk (E : ElemT P t e sz bytes) (w : World) (sT ty : TypeId) {g o dLen dCap sLen sCap n : Nat} {a : Addr} {cur : Array Value} {cs : List Value}
    (hg : w.heap[g]? = some (.cells cur e (0, 0))) (hn : n = Nat.min sLen dLen) (hl : cs.length = n * sz) (hsrc : ∀ j v, cs[j]? = some v → w.cell? (a.add j) = some v) (hfit : o + cs.length ≤ cur.size) (h1 : ∀ v ∈ cs, v.oneCell' = true) :
    (Builtin.copy_ #[t, sT] ty #[.slice (some ⟨g, o, none⟩) dLen dCap, .slice (some a) sLen sCap]).run P w = .ok (goInt n) (w.setCells g o cs) := by
  obtain ⟨i, z, hi, hz, h2, h3, h4⟩ := E.info
  have hload := run_loadCells_list (P := P) w a cs hsrc
  rw [hl] at hload
  have hst := run_storeCells_cells (P := P) g o cs 0 w (fun j hj => blk_some hg (by omega)) (fun j hj => frozen_of_row w g _ cur e hg) h1
  simp [Builtin.copy_, run_underlying E.und, Builtin.lenOf, Builtin.firstCells, sizeOf, typeInfo, hi, h2, ← hn, hload, hst]

/-- 'append(s[:i], s[j:]...)' and its like: there is room; all is read before anything is written. -/
theorem run_append_blk (E : ElemT P t e sz bytes) (w : World) (ty : TypeId) {g i c m sCap : Nat} {a : Addr} {cur : Array Value} {cs : List Value}
    (hg : w.heap[g]? = some (.cells cur e (0, 0))) (hl : cs.length = m * sz) (hsrc : ∀ j v, cs[j]? = some v → w.cell? (a.add j) = some v) (hroom : i + m ≤ c) (hfit : i * sz + cs.length ≤ cur.size) (h1 : ∀ v ∈ cs, v.oneCell' = true) :
    (Builtin.append_ #[t, t] ty #[.slice (some ⟨g, 0, none⟩) i c, .slice (some a) m sCap]).run P w = .ok (.slice (some ⟨g, 0, none⟩) (i + m) c) (w.setCells g (i * sz) cs) := by
  obtain ⟨it, z, hi, hz, h2, h3, h4⟩ := E.info
  have hload := run_loadCells_list (P := P) w a cs hsrc
  rw [hl] at hload
  have hst := run_storeCells_cells (P := P) g (i * sz) cs 0 w (fun j hj => blk_some hg (by omega)) (fun j hj => frozen_of_row w g _ cur e hg) h1
  have hadd : (⟨g, 0, none⟩ : Addr).add (i * sz) = ⟨g, i * sz, none⟩ := by rw [Addr.add_lit, Nat.zero_add]
  simp [Builtin.append_, run_underlying E.und, Builtin.lenOf, Builtin.firstCells, sizeOf, typeInfo, hi, h2, hload, hroom, hadd, hst]

theorem zeroCells_one {z : Value} (hz : ∀ v ∈ z.cells, v.oneCell' = true) (n : Nat) : ∀ v ∈ (Builtin.zeroCells z.cells n).toList, v.oneCell' = true := by
  intro v hv
  unfold Builtin.zeroCells at hv
  rw [Array.toList_map, List.mem_map] at hv
  obtain ⟨k, hk, rfl⟩ := hv
  rw [Array.toList_range, List.mem_range] at hk
  have hs : 0 < z.cells.size := by
    rcases Nat.eq_zero_or_pos z.cells.size with h | h
    · rw [h] at hk; omega
    · exact h
  have hlt := Nat.mod_lt k hs
  rw [getElem!_pos z.cells _ hlt]
  exact hz _ (Array.getElem_mem hlt)

theorem run_clear_blk (E : ElemT P t e sz bytes) {z : Value} (hz0 : (P.info? e).bind (·.zero) = some z) (hz1 : ∀ v ∈ z.cells, v.oneCell' = true) (w : World) (ty : TypeId) {g o n c : Nat} {cur : Array Value}
    (hg : w.heap[g]? = some (.cells cur e (0, 0))) (hfit : o + n * sz ≤ cur.size) :
    ∃ vs : List Value, vs.length = n * sz ∧ (Builtin.clear_ #[t] ty #[.slice (some ⟨g, o, none⟩) n c]).run P w = .ok (.tuple #[]) (w.setCells g o vs) := by
  obtain ⟨it, z', hi, hz, h2, h3, h4⟩ := E.info
  have ez : z' = z := by
    rw [hi] at hz0
    simp [hz] at hz0
    exact hz0
  subst ez
  rcases Nat.eq_zero_or_pos n with rfl | hn
  · refine ⟨[], by simp, ?_⟩
    simp [Builtin.clear_, run_underlying E.und, World.setCells]
  · have hlen : (Builtin.zeroCells z'.cells n).toList.length = n * sz := by simp [Builtin.zeroCells, h4]
    have hst := run_storeCells_cells (P := P) g o (Builtin.zeroCells z'.cells n).toList 0 w (fun j hj => blk_some hg (by omega)) (fun j hj => frozen_of_row w g _ cur e hg) (zeroCells_one hz1 n)
    refine ⟨_, hlen, ?_⟩
    obtain ⟨k, rfl⟩ : ∃ k, n = k + 1 := ⟨n - 1, by omega⟩
    simp [Builtin.clear_, run_underlying E.und, zeroValue, typeInfo, hi, hz, hst]

/-- The operation 'copy(d, s)' where its run is known: at the head of a list of operations. -/
theorem wp_copy_r {o : Oper} {a : Act} {K : Act → World → Prop} {Q : Exit → Act → World → Prop} (d s : Operand) (t t' : TypeId)
    (ho : o.op = .call { callee := .builtin .copy, args := #[d, s], argTypes := #[t, t'] }) {w : World} {v u : Value} (hd : a.eval d = v) (hs : a.eval s = u) {v' : Value} {w' : World}
    (hr : (Builtin.copy_ #[t, t'] o.type #[v, u]).run P w = .ok v' w') (h : K (a.put o.dst v') w') : o.wp P a w K Q := by
  unfold Oper.wp execOp
  simp only [ho, resolve, invoke, builtin, Sem.run_bind, Sem.run_pure, Result.andThen_ok, List.map_toArray, List.map_cons, List.map_nil, hd, hs, hr]
  exact h
theorem wpList_copy_r {ops : Array Oper} {rest : List Oper} {o : Oper} {a : Act} {Q : Exit → Act → World → Prop} (hgd : o.guard = none) (d s : Operand) (t t' : TypeId)
    (ho : o.op = .call { callee := .builtin .copy, args := #[d, s], argTypes := #[t, t'] }) {w : World} {v u : Value} (hd : a.eval d = v) (hs : a.eval s = u) {v' : Value} {w' : World}
    (hr : (Builtin.copy_ #[t, t'] o.type #[v, u]).run P w = .ok v' w') (h : wpList P ops Q rest (a.put o.dst v') w') : wpList P ops Q (o :: rest) a w :=
  wpList_plain hgd fun _ hK => wp_copy_r d s t t' ho hd hs hr (hK _ _ h)
end

section
variable {α : Type} {sz : Nat} {cs : α → List Value}
theorem flat_len (L : Lay sz cs) : ∀ xs : List α, (xs.flatMap cs).length = xs.length * sz
  | [] => by simp
  | x :: xs => by rw [List.flatMap_cons, List.length_append, flat_len L xs, L.len, List.length_cons, Nat.succ_mul]; omega
theorem flat_one (L : Lay sz cs) (xs : List α) : ∀ v ∈ xs.flatMap cs, v.oneCell' = true := fun v hv => by
  obtain ⟨x, _, hx⟩ := List.mem_flatMap.1 hv
  exact L.one x v hx
theorem flat_take (L : Lay sz cs) : ∀ (xs : List α) (n : Nat), (xs.flatMap cs).take (n * sz) = (xs.take n).flatMap cs
  | [], n => by simp
  | x :: xs, 0 => by simp
  | x :: xs, n + 1 => by
    rw [List.flatMap_cons, List.take_succ_cons, List.flatMap_cons, Nat.succ_mul, List.take_append, L.len, ← flat_take L xs n, List.take_of_length_le (by rw [L.len]; omega)]
    congr 2
    omega
theorem flat_drop (L : Lay sz cs) : ∀ (xs : List α) (n : Nat), (xs.flatMap cs).drop (n * sz) = (xs.drop n).flatMap cs
  | [], n => by simp
  | x :: xs, 0 => by simp
  | x :: xs, n + 1 => by
    rw [List.flatMap_cons, List.drop_succ_cons, Nat.succ_mul, List.drop_append, L.len, ← flat_drop L xs n, List.drop_of_length_le (by rw [L.len]; omega), List.nil_append]
    congr 1
    omega

/-- An own slice that holds something, or has a block. -/
theorem Own.open_ {e : TypeId} {base : Nat} {w : World} {v : Value} {xs : List α} (h : Own sz cs e base w v xs) (hp : 0 < xs.length) :
    ∃ g c cur, v = .slice (some ⟨g, 0, none⟩) xs.length c ∧ base ≤ g ∧ w.heap[g]? = some (.cells cur e (0, 0)) ∧ xs.length ≤ c ∧ c ≤ maxLen ∧ cur.size = c * sz ∧ cur.toList.take (xs.length * sz) = xs.flatMap cs := by
  rcases h.2 with ⟨_, h0⟩ | ⟨g, c, cur, h1, h2, h3, h4, h5, h6, h7⟩
  · omega
  · exact ⟨g, c, cur, h1, h2, h3, h4, h5, h6, h7⟩
theorem Own.shut {e : TypeId} {base : Nat} {w : World} {xs : List α} {g c n : Nat} {cur : Array Value} (L : Lay sz cs) (hb : base ≤ g) (hg : w.heap[g]? = some (.cells cur e (0, 0))) (hn : n = xs.length) (hc : n ≤ c) (hm : c ≤ maxLen) (hs : cur.size = c * sz) (ht : cur.toList.take (n * sz) = xs.flatMap cs) :
    Own sz cs e base w (.slice (some ⟨g, 0, none⟩) n c) xs := by
  subst hn
  exact ⟨flat_len L xs, .inr ⟨g, c, cur, rfl, hb, hg, hc, hm, hs, ht⟩⟩
end

end Go.Proofs.YtefifkleamiabaaGreatDoor

namespace Go.Proofs.YtefifkleamiabaaGreatDoor
open Go.RowKit

section
variable {α : Type} {sz : Nat} {cs : α → List Value}

theorem tk_mid (L : Lay sz cs) {C : List Value} {xs : List α} (ht : C.take (xs.length * sz) = xs.flatMap cs) {i : Nat} (hi : i ≤ xs.length) :
    C.take (i * sz) = (xs.take i).flatMap cs ∧ (C.drop (i * sz)).take ((xs.length - i) * sz) = (xs.drop i).flatMap cs := by
  have hm : i * sz ≤ xs.length * sz := Nat.mul_le_mul_right _ hi
  refine ⟨?_, ?_⟩
  · rw [← flat_take L, ← ht, List.take_take, Nat.min_eq_left hm]
  · rw [← flat_drop L, ← ht, List.drop_take, Nat.sub_mul]

/-- The cells after both stores, in either order. -/
theorem put_ins (L : Lay sz cs) {xs : List α} {y : α} {cur : Array Value} {i : Nat} (h1 : cur.toList.take (i * sz) = (xs.take i).flatMap cs) (hi : i ≤ xs.length) (hs : (xs.length + 1) * sz ≤ cur.size) :
    (putL (putL cur ((i + 1) * sz) ((xs.drop i).flatMap cs)) (i * sz) (cs y)).toList.take ((xs.length + 1) * sz) = (xs.take i ++ y :: xs.drop i).flatMap cs
    ∧ (putL (putL cur (i * sz) (cs y)) ((i + 1) * sz) ((xs.drop i).flatMap cs)).toList.take ((xs.length + 1) * sz) = (xs.take i ++ y :: xs.drop i).flatMap cs := by
  have hly := L.len y
  have e1 : (i + 1) * sz = i * sz + sz := Nat.succ_mul _ _
  have e2 : (xs.length + 1) * sz = xs.length * sz + sz := Nat.succ_mul _ _
  have hm : i * sz ≤ xs.length * sz := Nat.mul_le_mul_right _ hi
  have hld : ((xs.drop i).flatMap cs).length = xs.length * sz - i * sz := by rw [flat_len L, List.length_drop, Nat.sub_mul]
  have hlt : (cur.toList.take (i * sz)).length = i * sz := by rw [List.length_take, Array.length_toList]; omega
  have hls : cur.toList.length = cur.size := Array.length_toList
  have eR : (xs.take i ++ y :: xs.drop i).flatMap cs = cur.toList.take (i * sz) ++ (cs y ++ (xs.drop i).flatMap cs) := by
    rw [List.flatMap_append, List.flatMap_cons, h1]
  rw [eR]
  clear eR h1
  generalize (xs.drop i).flatMap cs = D at *
  generalize hY : cs y = Y at *
  generalize xs.length * sz = m at *
  generalize i * sz = p at *
  constructor
  · rw [putL_list (by rw [putL_size]; omega), putL_list (by omega)]
    have a1 : (List.take (((i + 1) * sz)) cur.toList ++ D ++ List.drop ((i + 1) * sz + D.length) cur.toList).take p = cur.toList.take p := by
      rw [List.append_assoc, List.take_append_of_le_length (by rw [List.length_take]; omega), List.take_take, Nat.min_eq_left (by omega)]
    have a2 : (List.take (((i + 1) * sz)) cur.toList ++ D ++ List.drop ((i + 1) * sz + D.length) cur.toList).drop (p + Y.length) = D ++ List.drop ((i + 1) * sz + D.length) cur.toList := by
      rw [List.append_assoc, List.drop_append, List.drop_of_length_le (by rw [List.length_take]; omega), List.nil_append]
      have : p + Y.length - (List.take ((i + 1) * sz) cur.toList).length = 0 := by rw [List.length_take]; omega
      rw [this, List.drop_zero]
    rw [a1, a2, List.append_assoc, ← List.append_assoc Y, ← List.append_assoc _ (Y ++ D), List.take_left' (by simp only [List.length_append]; omega)]
  · rw [putL_list (by rw [putL_size]; omega), putL_list (by omega)]
    have a1 : (List.take p cur.toList ++ Y ++ List.drop (p + Y.length) cur.toList).take ((i + 1) * sz) = cur.toList.take p ++ Y := by
      rw [List.take_left' (by simp only [List.length_append]; omega)]
    rw [a1, List.append_assoc _ Y D, List.take_left' (by simp only [List.length_append]; omega)]

/-- The cells after one element is taken out and one place is cleared. -/
theorem put_del (L : Lay sz cs) {xs : List α} {cur : Array Value} {i : Nat} {vs : List Value} (ht : cur.toList.take (xs.length * sz) = xs.flatMap cs) (hi : i < xs.length) (hs : xs.length * sz ≤ cur.size) (hv : vs.length = 1 * sz) :
    (putL (putL cur (i * sz) ((xs.drop (i + 1)).flatMap cs)) ((xs.length - 1) * sz) vs).toList.take ((xs.length - 1) * sz) = (xs.take i ++ xs.drop (i + 1)).flatMap cs := by
  have h1 := (tk_mid L ht (Nat.le_of_lt hi)).1
  have e1 : (i + 1) * sz = i * sz + sz := Nat.succ_mul _ _
  have e2 : xs.length * sz = (xs.length - 1) * sz + sz := by
    conv => lhs; rw [show xs.length = (xs.length - 1) + 1 from by omega]
    exact Nat.succ_mul _ _
  have hm : (i + 1) * sz ≤ xs.length * sz := Nat.mul_le_mul_right _ hi
  have hld : ((xs.drop (i + 1)).flatMap cs).length = xs.length * sz - (i + 1) * sz := by rw [flat_len L, List.length_drop, Nat.sub_mul]
  have hls : cur.toList.length = cur.size := Array.length_toList
  rw [List.flatMap_append, ← h1]
  clear h1 ht
  generalize (xs.drop (i + 1)).flatMap cs = D at *
  generalize xs.length * sz = m at *
  generalize (xs.length - 1) * sz = m1 at *
  generalize i * sz = p at *
  have hlt : (cur.toList.take p).length = p := by rw [List.length_take]; omega
  rw [putL_list (by rw [putL_size]; omega), List.append_assoc, List.take_append_of_le_length (by rw [List.length_take, Array.length_toList, putL_size]; omega), List.take_take, Nat.min_self, putL_list (by omega), List.take_left' (by simp only [List.length_append]; omega)]

variable {e : TypeId} {w : World} {g c : Nat} {cur : Array Value}

theorem own_ins_in (L : Lay sz cs) {xs : List α} {y : α} (hg : w.heap[g]? = some (.cells cur e (0, 0))) (hc : xs.length + 1 ≤ c) (hm : c ≤ maxLen) (hs : cur.size = c * sz) (ht : cur.toList.take (xs.length * sz) = xs.flatMap cs) {i : Nat} (hi : i ≤ xs.length) :
    Own sz cs e 0 ((w.drew.setCells g ((i + 1) * sz) ((xs.drop i).flatMap cs)).setCells g (i * sz) (cs y)) (.slice (some ⟨g, 0, none⟩) (xs.length + 1) c) (xs.take i ++ y :: xs.drop i)
    ∧ Ext w (.slice (some ⟨g, 0, none⟩) xs.length c) ((w.drew.setCells g ((i + 1) * sz) ((xs.drop i).flatMap cs)).setCells g (i * sz) (cs y)) (.slice (some ⟨g, 0, none⟩) (xs.length + 1) c) := by
  have hcs : (xs.length + 1) * sz ≤ cur.size := by rw [hs]; exact Nat.mul_le_mul_right _ hc
  refine ⟨Own.shut (cur := putL (putL cur ((i + 1) * sz) ((xs.drop i).flatMap cs)) (i * sz) (cs y)) L (Nat.zero_le _) (heap_setCells_eq _ _ _ _ (heap_setCells_eq _ _ _ _ hg)) (by simp; omega) hc hm (by rw [putL_size, putL_size, hs]) ?_, ⟨?_, .inl rfl⟩⟩
  · exact (put_ins L (tk_mid L ht hi).1 hi hcs).1
  · exact grown_setCells (grown_setCells (grown_drew' (World.grownBy.refl w _)) _ _) _ _

theorem own_ins_grow (L : Lay sz cs) {xs : List α} {y : α} {A : Option Addr} {n0 c0 : Nat} {i : Nat} (hc : xs.length + 1 ≤ c) (hm : c ≤ maxLen) (hs : cur.size = c * sz) (h1 : cur.toList.take (i * sz) = (xs.take i).flatMap cs) (hi : i ≤ xs.length) :
    Own sz cs e 0 ((((w.drew.alloc (.cells cur e)).setCells w.heap.size (i * sz) (cs y)).drew).setCells w.heap.size ((i + 1) * sz) ((xs.drop i).flatMap cs)) (.slice (some ⟨w.heap.size, 0, none⟩) (xs.length + 1) c) (xs.take i ++ y :: xs.drop i)
    ∧ Ext w (.slice A n0 c0) ((((w.drew.alloc (.cells cur e)).setCells w.heap.size (i * sz) (cs y)).drew).setCells w.heap.size ((i + 1) * sz) ((xs.drop i).flatMap cs)) (.slice (some ⟨w.heap.size, 0, none⟩) (xs.length + 1) c) := by
  have hcs : (xs.length + 1) * sz ≤ cur.size := by rw [hs]; exact Nat.mul_le_mul_right _ hc
  have hg : (w.drew.alloc (.cells cur e)).heap[w.heap.size]? = some (.cells cur e (0, 0)) := heap_alloc_new w.drew _
  refine ⟨Own.shut (cur := putL (putL cur (i * sz) (cs y)) ((i + 1) * sz) ((xs.drop i).flatMap cs)) L (Nat.zero_le _) (heap_setCells_eq _ _ _ _ (heap_setCells_eq _ _ _ _ hg)) (by simp; omega) hc hm (by rw [putL_size, putL_size, hs]) ?_, ⟨?_, .inr ⟨_, rfl, Nat.le_refl _⟩⟩⟩
  · exact (put_ins L h1 hi hcs).2
  · have hb : Below w.heap.size w (w.drew.alloc (.cells cur e)) := (Below.refl _ _).drew.alloc (Nat.le_refl _) _
    have hx := (Ext.of_below hb (.slice A n0 c0)).grown
    have hsz : w.heap.size < (w.drew.alloc (.cells cur e)).heap.size := by have := size1 w.drew (.cells cur e); have h2 : w.drew.heap.size = w.heap.size := rfl; omega
    refine ⟨?_, ?_, ?_, ?_, ?_⟩
    · exact ((setCells_rest _ _ _ _).1.trans (setCells_rest _ _ _ (w.drew.alloc (.cells cur e))).1)
    · exact ((setCells_rest _ _ _ _).2.1.trans (setCells_rest _ _ _ (w.drew.alloc (.cells cur e))).2.1)
    · exact ((setCells_rest _ _ _ _).2.2.trans (setCells_rest _ _ _ (w.drew.alloc (.cells cur e))).2.2)
    · rw [setCells_size]
      show _ ≤ (World.setCells _ _ _ _).heap.size
      rw [setCells_size]
      exact Nat.le_of_lt hsz
    · intro k hk _
      rw [heap_setCells_ne (by omega)]
      show (World.setCells _ _ _ _).heap[k]? = _
      rw [heap_setCells_ne (by omega)]
      exact hb.block k hk

theorem own_del (L : Lay sz cs) {xs : List α} (hg : w.heap[g]? = some (.cells cur e (0, 0))) (hc : xs.length ≤ c) (hm : c ≤ maxLen) (hs : cur.size = c * sz) (ht : cur.toList.take (xs.length * sz) = xs.flatMap cs) {i : Nat} (hi : i < xs.length) {vs : List Value} (hv : vs.length = 1 * sz) {n1 : Nat} (hn1 : n1 = xs.length - 1) :
    Own sz cs e 0 ((w.drew.setCells g (i * sz) ((xs.drop (i + 1)).flatMap cs)).setCells g (n1 * sz) vs) (.slice (some ⟨g, 0, none⟩) n1 c) (xs.take i ++ xs.drop (i + 1))
    ∧ Ext w (.slice (some ⟨g, 0, none⟩) xs.length c) ((w.drew.setCells g (i * sz) ((xs.drop (i + 1)).flatMap cs)).setCells g (n1 * sz) vs) (.slice (some ⟨g, 0, none⟩) n1 c) := by
  subst hn1
  have hcs : xs.length * sz ≤ cur.size := by rw [hs]; exact Nat.mul_le_mul_right _ hc
  refine ⟨Own.shut (cur := putL (putL cur (i * sz) ((xs.drop (i + 1)).flatMap cs)) ((xs.length - 1) * sz) vs) L (Nat.zero_le _) (heap_setCells_eq _ _ _ _ (heap_setCells_eq _ _ _ _ hg)) (by simp; omega) (by omega) hm (by rw [putL_size, putL_size, hs]) ?_, ⟨?_, .inl rfl⟩⟩
  · exact put_del L ht hi hcs hv
  · exact grown_setCells (grown_setCells (grown_drew' (World.grownBy.refl w _)) _ _) _ _
end

end Go.Proofs.YtefifkleamiabaaGreatDoor

namespace Go.Proofs.YtefifkleamiabaaGreatDoor
open Go.RowKit

theorem sizeOf_of {P : Program} {t e : TypeId} {sz bytes : Nat} (E : ElemT P t e sz bytes) (w : World) : (Go.sizeOf e).run P w = .ok sz w := by
  obtain ⟨i, z, hi, hz, h2, h3, h4⟩ := E.info
  simp [sizeOf, typeInfo, hi, h2]
set_option maxRecDepth 100000 in
set_option maxHeartbeats 2000000 in
theorem insKey_end (base : Nat) (A : Option Addr) (c : Nat) (xs : List Key) (y : Key) (w : World) {gv : Nat} {u : Array Value} (hown : Own 1 Key.cs 48 base w (.slice A xs.length c) xs) (hcl : xs.length ≤ c) (hcm : c ≤ 9223372036854775807)
    (hgv : w.heap[gv]? = some (.cells u 48 (0, 0))) (hu : u.toList = Key.cs y) (hB : base ≤ w.heap.size) (hl : xs.length ≤ 1000) :
    Calls Tryz.prog 126 #[.slice A xs.length c, .int .i64 xs.length, .slice (some ⟨gv, 0, none⟩) 1 1] w fun e w' => ∃ v', e = .returned v' ∧ Own 1 Key.cs 48 base w' v' (xs ++ [y]) ∧ Ext w (.slice A xs.length c) w' v' := by
  have hel : Elems 1 Key.cs w (fun k => k = gv) (some ⟨gv, 0, none⟩) [y] := fun _ => ⟨gv, 0, rfl, rfl, fun i x hx j v hv => by
    have hi : i = 0 := by
      have := (List.getElem?_eq_some_iff.1 hx).1
      simpa using this
    subst hi
    simp at hx
    subst hx
    rw [cell_of_row _ gv _ _ _ (0, 0) hgv, ← Array.getElem?_toList, hu]
    simpa using hv⟩
  have HR := Lib.hid (run_pushs elem_keys keyLay 76 w _ xs (c := 1) (n := 1) hown hel rfl (by simp; omega) (by unfold maxLen; simp; omega) hB)
  clear hown hel hgv hu
  rcases Nat.eq_or_lt_of_le hcl with h | h
  · have h2 : (c : Int) = (xs.length : Int) := by omega
    subst h
    go_enter Tryz.func126, Tryz.ntmps126
    go_wp2_with (at_builtin; refine wpList_app rfl (.tmp 23) (.tmp 24) _ _ rfl rfl rfl HR.out ?_; rintro v1 w1 ⟨ho1, hx1⟩)
    go_ret
    exact ⟨_, rfl, ho1, hx1⟩
  · have h2 : ¬ (c = xs.length) := by omega
    go_enter Tryz.func126, Tryz.ntmps126
    go_wp2_with (at_builtin; refine wpList_app rfl (.tmp 23) (.tmp 24) _ _ rfl rfl rfl HR.out ?_; rintro v1 w1 ⟨ho1, hx1⟩)
    go_ret
    exact ⟨_, rfl, ho1, hx1⟩

set_option maxRecDepth 100000 in
set_option maxHeartbeats 2000000 in
theorem insKey_in (g n c i : Nat) (w : World) {gv : Nat} {u cur : Array Value} {D : List Value} (hg : w.heap[g]? = some (.cells cur 48 (0, 0))) (hs : cur.size = c) (hin : i < n) (hnc : n + 1 ≤ c) (_hcm : c ≤ 9223372036854775807)
    (hgv : w.heap[gv]? = some (.cells u 48 (0, 0))) (hu : u.toList.length = 1) (hu1 : ∀ v ∈ u.toList, v.oneCell' = true) (hD : (cur.toList.drop (i)).take ((n - i)) = D) (hDl : D.length = (n - i)) (hD1 : ∀ v ∈ D, v.oneCell' = true) (hne : gv ≠ g) (hl : n ≤ 1000) :
    Calls Tryz.prog 126 #[.slice (some ⟨g, 0, none⟩) n c, .int .i64 i, .slice (some ⟨gv, 0, none⟩) 1 1] w fun e w' => e = .returned (.slice (some ⟨g, 0, none⟩) (n + 1) c) ∧ w' = (w.drew.setCells g ((i + 1)) D).setCells g (i) u.toList := by
  have h2 : ¬ (c = i) := by omega
  have h3 : ¬ ((i : Int) = (n : Int)) := by omega
  have h4 : ¬ ((c : Int) < (n : Int) + 1) := by omega
  have h5 : ¬ (c = i + 1) := by omega
  have hw1 : IntKind.i64.wrap ((i : Int) + 1) = (i : Int) + 1 := by rw [IntKind.wrap_i64]; omega
  have hb1 : (0 : Int) ≤ (i : Int) + 1 := by omega
  have hb2 : (i : Int) ≤ (n : Int) := by omega
  have hb3 : (i : Int) + 1 ≤ (n : Int) + 1 := by omega
  have hb4 : (i : Int) ≤ (n : Int) + 1 := by omega
  have htn : ((i : Int) + 1).toNat = i + 1 := by omega
  have HOV := Lib.hid fun lb cb => Lib.run_overlaps_apart (P := Tryz.prog) w 76 4 48 Tryz.underlying76 1 (sizeOf_of elem_keys) ⟨gv, 0, none⟩ ⟨g, (i + 1), none⟩ 1 1 lb cb hne 48 48 1 (c) (by simp [World.shape?, hgv]; simpa using hu) (by simp [World.shape?, hg, hs]) (by omega) (frozen_of_row w gv _ u _ hgv) (frozen_of_row w gv _ u _ hgv)
  have HC1 := Lib.hid fun ty dc sc => run_copy_blk elem_keys w.drew 76 ty (g := g) (o := (i + 1)) (dLen := n - i) (dCap := dc) (sLen := n + 1 - i) (sCap := sc) (n := n - i) (a := ⟨g, i, none⟩) (cs := D) hg (by show _ = min _ _; omega) (by omega) (blk_cells (w := w) hg hD hDl) (by omega) hD1
  have HC2 := Lib.hid fun ty dc sc => run_copy_blk elem_keys (w.drew.setCells g ((i + 1)) D) 76 ty (g := g) (o := i) (dLen := n + 1 - i) (dCap := dc) (sLen := 1) (sCap := sc) (n := 1) (a := ⟨gv, 0, none⟩) (cs := u.toList) (heap_setCells_eq D _ w.drew cur hg) (by show _ = min _ _; omega) (by simpa using hu)
    (blk_cells (w := w.drew.setCells g ((i + 1)) D) (n := u.toList.length) ((heap_setCells_ne hne D _ w.drew).trans hgv) (by rw [List.drop_zero]; exact List.take_of_length_le (Nat.le_refl _)) rfl) (by rw [putL_size]; omega) hu1
  clear hg hgv hu hu1 hD hDl hD1 hs
  go_enter Tryz.func126, Tryz.ntmps126
  go_wp2_with fail
  rw [run_callFunc_extern Tryz.func146 (by kernel_rfl) (by kernel_rfl) (by kernel_rfl) (e := Extern.SlicesOverlaps.overlaps #[76, 76] #[4]) (by kernel_rfl), HOV.out]
  simp only [Result.andThen]
  rw [Oper.upon_value]
  go_wp2_with fail
  go_still_tail 8, (by kernel_rfl)
  change wpList _ _ _ _ _ w.drew
  refine wpList_copy_r rfl (.tmp 73) (.tmp 76) _ _ rfl rfl rfl (HC1.out _ _ _) ?_
  go_wp2_with fail
  rw [HC2.out]
  simp only [Result.andThen]
  rw [Oper.upon_value]
  go_wp2_with fail
  go_ret
  exact ⟨rfl, rfl⟩

set_option maxRecDepth 100000 in
set_option maxHeartbeats 2000000 in
theorem insKey_grow (g n c i : Nat) (w : World) {gv : Nat} {u cur : Array Value} {D F : List Value} (hg : w.heap[g]? = some (.cells cur 48 (0, 0))) (hin : i < n) (hnc : c < n + 1) (hcn : n ≤ c)
    (hgv : w.heap[gv]? = some (.cells u 48 (0, 0))) (hu : u.toList.length = 1) (hu1 : ∀ v ∈ u.toList, v.oneCell' = true) (hF : cur.toList.take (i) = F) (hFl : F.length = i) (hD : (cur.toList.drop (i)).take ((n - i)) = D) (hDl : D.length = (n - i)) (hD1 : ∀ v ∈ D, v.oneCell' = true) (hl : n ≤ 1000) :
    Calls Tryz.prog 126 #[.slice (some ⟨g, 0, none⟩) n c, .int .i64 i, .slice (some ⟨gv, 0, none⟩) 1 1] w fun e w' => ∃ (c' : Nat) (cur' : Array Value), e = .returned (.slice (some ⟨w.heap.size, 0, none⟩) (n + 1) c') ∧ n + 1 ≤ c' ∧ c' ≤ maxLen ∧ cur'.size = c' ∧ cur'.toList.take (i) = F
      ∧ w' = (((w.drew.alloc (.cells cur' 48)).setCells w.heap.size (i) u.toList).drew).setCells w.heap.size ((i + 1)) D := by
  have h2 : ¬ (c = i) := by omega
  have h3 : ¬ ((i : Int) = (n : Int)) := by omega
  have h4 : (c : Int) < (n : Int) + 1 := by omega
  have h5 : ¬ (c = i + 1) ∨ c = i + 1 := by omega
  have hw1 : IntKind.i64.wrap ((i : Int) + 1) = (i : Int) + 1 := by rw [IntKind.wrap_i64]; omega
  have hb1 : (0 : Int) ≤ (i : Int) + 1 := by omega
  have hb2 : (i : Int) ≤ (n : Int) := by omega
  have hb3 : (i : Int) + 1 ≤ (n : Int) + 1 := by omega
  have hb4 : (i : Int) ≤ (n : Int) + 1 := by omega
  have htn : ((i : Int) + 1).toNat = i + 1 := by omega
  obtain ⟨gc, hgc⟩ : ∃ gc, gc = grownCap w (n + 1) c 48 := ⟨_, rfl⟩
  have hg1 : n + 1 ≤ gc := by rw [hgc]; exact grownCap_ge _ _ _ _
  have hg2 : gc ≤ maxLen := by rw [hgc]; exact grownCap_le_maxLen _ _ _ _ (by unfold maxLen; omega)
  have h6 : ¬ (gc = i) := by omega
  have h7 : ¬ (gc = i + 1) := by omega
  obtain ⟨it, z, hi, hz, hisz, hiby, hzc⟩ := elem_keys.info
  obtain ⟨cur', hcur'⟩ : ∃ cur' : Array Value, cur' = F.toArray ++ Builtin.zeroCells z.cells (n + 1 - i) ++ Builtin.zeroCells z.cells (gc - (n + 1)) := ⟨_, rfl⟩
  have hsz : cur'.size = gc := by
    rw [hcur']
    simp [Builtin.zeroCells, hzc, hFl]
    omega
  have hcF : cur'.toList.take (i) = F := by
    rw [hcur', Array.toList_append, Array.toList_append, List.append_assoc, ← hFl]
    exact List.take_left
  have hgn : (w.drew.alloc (.cells cur' 48)).heap[w.heap.size]? = some (.cells cur' 48 (0, 0)) := heap_alloc_new w.drew _
  have hgo : ∀ k, k < w.heap.size → (w.drew.alloc (.cells cur' 48)).heap[k]? = w.heap[k]? := fun k hk => Below.heap_alloc w.drew _ _ hk
  have hgl : g < w.heap.size := (Array.getElem?_eq_some_iff.1 hg).1
  have hgvl : gv < w.heap.size := (Array.getElem?_eq_some_iff.1 hgv).1
  have HAP : Hid (∀ ty, (Builtin.append_ #[76, 3] ty #[.slice (some ⟨g, 0, none⟩) i c, .int .i64 ((n : Int) + 1 - i)]).run Tryz.prog w = .ok (.slice (some ⟨w.heap.size, 0, none⟩) (n + 1) gc) (w.drew.alloc (.cells cur' 48))) := Lib.hid fun ty => by
    have hbc := blk_cells (w := w.drew) (o := 0) hg (by rw [List.drop_zero]; exact hF) hFl
    have hld := run_loadCells_list (P := Tryz.prog) w.drew ⟨g, 0, none⟩ F hbc
    have hk := Lib.run_append_grow_zeros (P := Tryz.prog) w 76 3 ty 48 it z .i64 .i64 Tryz.underlying76 (by kernel_rfl) hi hz (some ⟨g, 0, none⟩) i c F
      (by simp only [Builtin.firstCells]; rw [hisz, show i *  1 = F.length from by omega]; exact hld) (n + 1 - i) (by omega) (by omega) (by omega) (by omega) (by rw [hiby]; omega)
      (by rw [hiby]; exact growslice_fits (by omega) (by omega))
    have e1 : ((n + 1 - i : Nat) : Int) = (n : Int) + 1 - i := by omega
    have e2 : i + (n + 1 - i) = n + 1 := by omega
    rw [e1, e2, ← hgc] at hk
    rw [hk, hcur']
  have HC1 := Lib.hid fun ty dc sc => run_copy_blk elem_keys (w.drew.alloc (.cells cur' 48)) 76 ty (g := w.heap.size) (o := i) (dLen := n + 1 - i) (dCap := dc) (sLen := 1) (sCap := sc) (n := 1) (a := ⟨gv, 0, none⟩) (cs := u.toList) hgn (by show _ = min _ _; omega) (by simpa using hu)
    (blk_cells (w := w.drew.alloc (.cells cur' 48)) (n := u.toList.length) ((hgo gv hgvl).trans hgv) (by rw [List.drop_zero]; exact List.take_of_length_le (Nat.le_refl _)) rfl) (by omega) hu1
  have HC2 := Lib.hid fun ty dc sc => run_copy_blk elem_keys (((w.drew.alloc (.cells cur' 48)).setCells w.heap.size (i) u.toList).drew) 76 ty (g := w.heap.size) (o := (i + 1)) (dLen := n - i) (dCap := dc) (sLen := n - i) (sCap := sc) (n := n - i) (a := ⟨g, i, none⟩) (cs := D) (heap_setCells_eq u.toList _ _ _ hgn) (by show _ = min _ _; omega) (by omega)
    (blk_cells (w := ((w.drew.alloc (.cells cur' 48)).setCells w.heap.size (i) u.toList).drew) ((heap_setCells_ne (by omega) u.toList _ _).trans ((hgo g hgl).trans hg)) hD hDl) (by rw [putL_size]; omega) hD1
  have HQ : Hid (n + 1 ≤ gc ∧ gc ≤ maxLen ∧ cur'.size = gc ∧ cur'.toList.take (i) = F) := Lib.hid ⟨hg1, hg2, hsz, hcF⟩
  have hgcm : gc ≤ 9223372036854775807 := hg2
  clear hg hgv hu hu1 hD hDl hD1 hF hFl hgn hgo hgl hgvl hcF hsz hcur' hgc hi hz hisz hiby hzc hg2
  generalize w.heap.size = G at *
  generalize hw1e : w.drew.alloc (.cells cur' 48) = w1 at *
  have HW1 := Lib.hid hw1e
  clear hw1e
  go_enter Tryz.func126, Tryz.ntmps126
  go_wp2_with (at_builtin; refine wpList_app (R := fun v' w' => v' = _ ∧ w' = _) rfl (.tmp 34) (.tmp 39) _ _ rfl rfl rfl ⟨_, _, HAP.out _, rfl, rfl⟩ ?_; rintro _ _ ⟨rfl, rfl⟩)
  rw [HC1.out]
  simp only [Result.andThen]
  rw [Oper.upon_value]
  go_wp2_with fail
  go_still_tail 8, (by kernel_rfl)
  change wpList _ _ _ _ _ (World.drew _)
  refine wpList_copy_r rfl (.tmp 50) (.tmp 53) _ _ rfl rfl rfl (HC2.out _ _ _) ?_
  go_wp2_with fail
  go_ret
  exact ⟨gc, cur', rfl, HQ.out.1, HQ.out.2.1, HQ.out.2.2.1, HQ.out.2.2.2, by rw [HW1.out]⟩

/-- One element is laid between others. -/
theorem insKey (A : Option Addr) (c : Nat) (xs : List Key) (i : Nat) (y : Key) (w : World) {gv : Nat} {u : Array Value} (hown : Own 1 Key.cs 48 0 w (.slice A xs.length c) xs) (hi : i ≤ xs.length)
    (hgv : w.heap[gv]? = some (.cells u 48 (0, 0))) (hu : u.toList = Key.cs y) (hne : (Value.slice A xs.length c).ownBlock ≠ some gv) (hl : xs.length ≤ 1000) :
    Calls Tryz.prog 126 #[.slice A xs.length c, .int .i64 i, .slice (some ⟨gv, 0, none⟩) 1 1] w fun e w' => ∃ v', e = .returned v' ∧ Own 1 Key.cs 48 0 w' v' (xs.take i ++ y :: xs.drop i) ∧ Ext w (.slice A xs.length c) w' v' := by
  obtain ⟨A', c', hv, hcl, hcm⟩ := hown.form
  injection hv with h1 _ h2
  subst h1 h2
  rcases Nat.eq_or_lt_of_le hi with h | h
  · subst h
    rw [List.take_of_length_le (Nat.le_refl _), List.drop_of_length_le (Nat.le_refl _)]
    exact insKey_end 0 A c xs y w hown hcl hcm hgv hu (Nat.zero_le _) hl
  · obtain ⟨g, c', cur, hv, _, hg, _, _, hs, ht⟩ := hown.open_ (by omega)
    injection hv with h1 _ h2
    subst h1 h2
    have hud : u.toList.length = 1 := by rw [hu]; rfl
    have hu1 : ∀ v ∈ u.toList, v.oneCell' = true := by rw [hu]; exact keyLay.one y
    have hm := tk_mid keyLay ht hi
    have hDl : ((xs.drop i).flatMap Key.cs).length = (xs.length - i) * 1 := by rw [flat_len keyLay, List.length_drop]
    have hD1 := flat_one keyLay (xs.drop i)
    have hFl : ((xs.take i).flatMap Key.cs).length = i * 1 := by rw [flat_len keyLay, List.length_take, Nat.min_eq_left hi]
    simp only [Nat.mul_one] at hs hm hDl hFl
    rcases Nat.lt_or_ge c (xs.length + 1) with h5 | h5
    · refine (insKey_grow g xs.length c i w hg h h5 hcl hgv hud hu1 hm.1 hFl hm.2 hDl hD1 hl).mono ?_
      rintro e w' ⟨c', cur', rfl, k1, k2, k3, k4, rfl⟩
      rw [hu]
      exact ⟨_, rfl, (by have h := own_ins_grow (w := w) (e := 48) (y := y) (A := some ⟨g, 0, none⟩) (n0 := xs.length) (c0 := c) keyLay k1 k2 (by rw [Nat.mul_one]; exact k3) (by rw [Nat.mul_one]; exact k4) hi; simp only [Nat.mul_one] at h; exact h)⟩
    · refine (insKey_in g xs.length c i w hg hs h h5 hcm hgv hud hu1 hm.2 hDl hD1 (fun hh => hne (by rw [hh]; rfl)) hl).mono ?_
      rintro e w' ⟨rfl, rfl⟩
      rw [hu]
      exact ⟨_, rfl, (by have h := own_ins_in (y := y) keyLay hg h5 hcm (by rw [Nat.mul_one]; exact hs) ht hi; simp only [Nat.mul_one] at h; exact h)⟩

end Go.Proofs.YtefifkleamiabaaGreatDoor

namespace Go.Proofs.YtefifkleamiabaaGreatDoor
open Go.RowKit

set_option maxRecDepth 100000 in
set_option maxHeartbeats 2000000 in
theorem delKey_in (g n c i : Nat) (w : World) {cur : Array Value} {D : List Value} (hg : w.heap[g]? = some (.cells cur 48 (0, 0))) (hs : cur.size = c) (hin : i < n) (hnc : n ≤ c) (hcm : c ≤ 9223372036854775807)
    (hD : (cur.toList.drop ((i + 1))).take ((n - (i + 1))) = D) (hDl : D.length = (n - (i + 1))) (hD1 : ∀ v ∈ D, v.oneCell' = true) (hl : n ≤ 1000) :
    Calls Tryz.prog 127 #[.slice (some ⟨g, 0, none⟩) n c, .int .i64 i, .int .i64 ((i : Int) + 1)] w fun e w' => ∃ vs : List Value, vs.length = 1 ∧ e = .returned (.slice (some ⟨g, 0, none⟩) (n - 1) c) ∧ w' = (w.drew.setCells g (i) D).setCells g ((n - 1)) vs := by
  obtain ⟨m, hm⟩ : ∃ m, m = n - 1 := ⟨_, rfl⟩
  obtain rfl : n = m + 1 := by omega
  have h2 : ¬ (c = i) := by omega
  have h3 : ¬ ((i : Int) = (i : Int) + 1) := by omega
  have h5 : ¬ (c = m) := by omega
  have hb1 : (0 : Int) ≤ (i : Int) + 1 := by omega
  have hb2 : (i : Int) + 1 ≤ (m : Int) + 1 := by omega
  have hb3 : (i : Int) ≤ (m : Int) + 1 := by omega
  have hb4 : (m : Int) + 1 ≤ (c : Int) := by omega
  have hb5 : (i : Int) ≤ (i : Int) + 1 := by omega
  have hb6 : (i : Int) ≤ (c : Int) := by omega
  have htn : ((i : Int) + 1).toNat = i + 1 := by omega
  have e0 : m + 1 - 1 = m := rfl
  have HA : Hid (∀ ty A k sc, k = m + 1 - (i + 1) → (D = [] ∨ A = (⟨g, (i + 1), none⟩ : Addr)) → (Builtin.append_ #[76, 76] ty #[.slice (some ⟨g, 0, none⟩) i c,   .slice (some A) k sc]).run Tryz.prog w.drew = .ok (.slice (some ⟨g, 0, none⟩) m c) (w.drew.setCells g (i) D)) := Lib.hid fun ty A k sc hk hA => by
    subst hk
    have e3 : i + (m + 1 - (i + 1)) = m := by omega
    have hsrc : ∀ j v, D[j]? = some v → w.drew.cell? (A.add j) = some v := by
      rcases hA with h | h
      · subst h
        intro j v hj
        simp at hj
      · rw [h]
        exact blk_cells (w := w.drew) hg hD hDl
    have := run_append_blk (P := Tryz.prog) elem_keys w.drew ty (g := g) (i := i) (c := c) (m := m + 1 - (i + 1)) (sCap := sc) (a := A) (cs := D) hg (by omega) hsrc (by omega) (by rw [hDl, hs]; omega) hD1
    rw [e3, Nat.mul_one] at this
    exact this
  obtain ⟨it, z, hi, hz, hisz, hiby, hzc⟩ := elem_keys.info
  have HC : Hid (∃ vs : List Value, vs.length = 1 ∧ ∀ ty sc, (Builtin.clear_ #[76] ty #[.slice (some ⟨g, m, none⟩) 1 sc]).run Tryz.prog (w.drew.setCells g (i) D) = .ok (.tuple #[]) ((w.drew.setCells g (i) D).setCells g (m) vs)) := Lib.hid (by
    have hz0 : (Tryz.prog.info? 48).bind (·.zero) = some (.slice none 0 0) := by kernel_rfl
    obtain ⟨vs, h1, h2⟩ := run_clear_blk (P := Tryz.prog) elem_keys hz0 (by intro v hv; simp [Value.cells] at hv; (try rcases hv with rfl | rfl) <;> (try subst hv) <;> rfl) (w.drew.setCells g (i) D) 0 (g := g) (o := m) (n := 1) (c := 0) (heap_setCells_eq D _ w.drew cur hg) (by rw [putL_size, hs]; omega)
    exact ⟨vs, h1, fun ty sc => h2⟩)
  obtain ⟨vs, hvs, hcl⟩ := HC.out
  have HCL := Lib.hid hcl
  have HD0 : Hid (c = i + 1 → D = []) := Lib.hid fun h => List.eq_nil_of_length_eq_zero (by
    omega)
  have HV := Lib.hid hvs
  clear HC hcl hvs hg hs hD hDl hD1 hi hz hisz hiby hzc hm
  rcases Decidable.em (c = i + 1) with h6 | h6
  · have HD := Lib.hid (HD0.out h6)
    clear HD0
    subst h6
    have h7 : m = i := by omega
    subst h7
    go_enter Tryz.func127, Tryz.ntmps127
    go_wp2_with fail
    go_still_tail 6, (by kernel_rfl)
    change wpList _ _ _ _ _ w.drew
    refine wpList_app (R := fun v' w' => v' = _ ∧ w' = _) rfl (.tmp 22) (.tmp 25) _ _ rfl rfl rfl ⟨_, _, HA.out _ _ _ _ (by omega) (.inl HD.out), rfl, rfl⟩ ?_
    rintro _ _ ⟨rfl, rfl⟩
    go_wp2_with fail
    rw [HCL.out]
    simp only [Result.andThen]
    rw [Oper.upon_value]
    go_wp2_with fail
    go_ret
    exact ⟨vs, HV.out, rfl, rfl⟩
  · go_enter Tryz.func127, Tryz.ntmps127
    go_wp2_with fail
    go_still_tail 6, (by kernel_rfl)
    change wpList _ _ _ _ _ w.drew
    refine wpList_app (R := fun v' w' => v' = _ ∧ w' = _) rfl (.tmp 22) (.tmp 25) _ _ rfl rfl rfl ⟨_, _, HA.out _ _ _ _ (by omega) (.inr rfl), rfl, rfl⟩ ?_
    rintro _ _ ⟨rfl, rfl⟩
    go_wp2_with fail
    rw [HCL.out]
    simp only [Result.andThen]
    rw [Oper.upon_value]
    go_wp2_with fail
    go_ret
    exact ⟨vs, HV.out, rfl, rfl⟩

/-- One element is taken out. -/
theorem delKey (A : Option Addr) (c : Nat) (xs : List Key) (i : Nat) (w : World) (hown : Own 1 Key.cs 48 0 w (.slice A xs.length c) xs) (hi : i < xs.length) (hl : xs.length ≤ 1000) :
    Calls Tryz.prog 127 #[.slice A xs.length c, .int .i64 i, .int .i64 ((i : Int) + 1)] w fun e w' => ∃ v', e = .returned v' ∧ Own 1 Key.cs 48 0 w' v' (xs.take i ++ xs.drop (i + 1)) ∧ Ext w (.slice A xs.length c) w' v' := by
  obtain ⟨g, c', cur, hv, _, hg, hcl, hcm, hs, ht⟩ := hown.open_ (by omega)
  injection hv with h1 _ h2
  subst h1 h2
  have hm := tk_mid keyLay ht hi
  have hDl : ((xs.drop (i + 1)).flatMap Key.cs).length = (xs.length - (i + 1)) * 1 := by rw [flat_len keyLay, List.length_drop]
  simp only [Nat.mul_one] at hs hm hDl
  refine (delKey_in g xs.length c i w hg hs hi hcl hcm hm.2 hDl (flat_one keyLay _) hl).mono ?_
  rintro e w' ⟨vs, h1, rfl, rfl⟩
  exact ⟨_, rfl, (by have h := own_del keyLay hg hcl hcm (by rw [Nat.mul_one]; exact hs) ht hi h1 rfl; simp only [Nat.mul_one] at h; exact h)⟩


end Go.Proofs.YtefifkleamiabaaGreatDoor
