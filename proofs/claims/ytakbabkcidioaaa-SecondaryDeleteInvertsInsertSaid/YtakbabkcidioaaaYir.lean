/-
  The walk of ref.IndexedRows.
-/
import Derived.Test.YtakbabkcidioaaaYd1
import Derived.Test.YtakbabkcidioaaaYc
import Derived.Test.YtakbabkcidioaaaYh
namespace Go.Proofs.Ytakbabkcidioaaa
open Go.RowKit Go.Sort

/-- A row as an index sees it: indexed values and key. -/
structure IR where
  v : Key
  k : Key
def IR.cs (p : IR) : List Value := [.slice p.v.A p.v.row.length p.v.c, .slice p.k.A p.k.row.length p.k.c]
theorem irLay : Lay 2 IR.cs := ⟨fun _ => rfl, fun x c hc => by simp [IR.cs] at hc; rcases hc with rfl | rfl <;> rfl⟩
theorem Elems.ir {w : World} {S : Nat → Prop} {A : Option Addr} {r : List IR} {k : Nat} (h : Elems 2 IR.cs w S A r) (hk : k < r.length) :
    ∃ b off, A = some ⟨b, off, none⟩ ∧ S b ∧ w.cell? ⟨b, off + k * 2, none⟩ = some (.slice r[k].v.A r[k].v.row.length r[k].v.c) ∧ w.cell? ⟨b, off + k * 2 + 1, none⟩ = some (.slice r[k].k.A r[k].k.row.length r[k].k.c) := by
  obtain ⟨b, off, e, hb, hc⟩ := h.at_ hk
  exact ⟨b, off, e, hb, hc 0 _ rfl, hc 1 _ rfl⟩
theorem elem_ir : ElemT Try.prog 39 57 2 48 := ⟨Try.underlying39, by
  have h : (Try.prog.info? 57).map (fun i => (i.zero, i.size, i.bytes)) = some (some (.agg #[.slice none 0 0, .slice none 0 0]), 2, 48) := by kernel_rfl
  obtain ⟨i0, hi, hz0, hz1, hz2⟩ := info_parts h
  exact ⟨i0, _, hi, hz0, hz1, hz2, rfl⟩, by omega⟩
/-- The rows of an index. -/
def irs (es : List EntM) : List IR := es.flatMap fun e => e.keys.map (IR.mk e.vals)
theorem irs_take {es : List EntM} {k : Nat} (hk : k < es.length) : irs (es.take (k + 1)) = irs (es.take k) ++ es[k].keys.map (IR.mk es[k].vals) := by
  unfold irs
  rw [List.take_succ_eq_append_getElem hk, List.flatMap_append]
  simp
theorem irs_flat (es : List EntM) : (irs es).map (fun p => (p.v.row, p.k.row)) = flatX (es.map EntM.xe) := by
  unfold irs flatX
  induction es with
  | nil => rfl
  | cons e es ih =>
    rw [List.flatMap_cons, List.map_append, List.map_cons, List.flatMap_cons, ih]
    congr 1
    simp only [EntM.xe, List.map_map]
    rfl
theorem irs_len (es : List EntM) (k : Nat) : (irs (es.take k)).length ≤ (irs es).length := by
  conv => rhs; rw [← List.take_append_drop k es]
  unfold irs
  rw [List.flatMap_append, List.length_append]
  omega
theorem irs_mem {es : List EntM} {p : IR} (h : p ∈ irs es) : ∃ e ∈ es, p.v = e.vals ∧ p.k ∈ e.keys := by
  obtain ⟨e, he, h⟩ := List.mem_flatMap.1 h
  obtain ⟨k, hk, rfl⟩ := List.mem_map.1 h
  exact ⟨e, he, rfl, hk⟩

set_option maxRecDepth 100000 in
set_option maxHeartbeats 1000000 in
theorem indexedRowsW (x : Ix) (w : World) (hx : IOk (· < w.heap.size) w x) (he : x.ents.length ≤ 1000) (hl : (irs x.ents).length ≤ 1000) :
    Calls Try.prog 12 #[x.val] w fun e w' => ∃ v, e = .returned v ∧ Own 2 IR.cs 57 w.heap.size w' v (irs x.ents) ∧ Below w.heap.size w w' := by
  obtain ⟨W1, hW1⟩ : ∃ W1, W1 = w.alloc (.cells x.cells 30) := ⟨_, rfl⟩
  have hb1 : Below w.heap.size w W1 := by rw [hW1]; exact (Below.refl _ _).alloc (Nat.le_refl _) _
  have hg0 : W1.heap[w.heap.size]? = some (.cells x.cells 30 (0, 0)) := by rw [hW1]; exact heap_alloc_new w _
  obtain ⟨-, -, -, -, x4⟩ := Ix.box (w' := W1) hg0 rfl
  have HX := Lib.hid (hx.on hb1)
  have HB1 := Lib.hid hb1
  have HW1 := Lib.hid hW1
  have HL := Lib.hid hl
  obtain ⟨n, hn⟩ : ∃ n, x.ents.length = n := ⟨_, rfl⟩
  rw [hn] at x4 he
  have HN := Lib.hid hn
  clear hx hb1 hg0 hW1 hn hl
  obtain ⟨⟨name, CA, cc, tc, PA, pc, pk⟩, XA, xc, cols, EA, ec, ents⟩ := x
  unfold Ix.val
  unfold Ix.cells at HW1 ⊢
  simp only at HX HW1 HL HN x4 ⊢
  go_enter Try.func12, Try.ntmps12
  go_upto_region 1 with fail
  rw [← HW1.out]
  go_upto_region 3 with fail
  go_wp2_with fail
  go_loopw [3, 11] (fun v3 vi wr => ∃ k : Nat, vi = .int .i64 (k : Int) ∧ k ≤ n ∧ Own 2 IR.cs 57 W1.heap.size wr v3 (irs (ents.take k)) ∧ Below W1.heap.size W1 wr) (fun _ vi _ => n - (intOf vi).toNat)
  case atStart => exact ⟨0, rfl, by omega, Own.nil _, Below.refl _ _⟩
  case round =>
    obtain ⟨k, rfl, hkn, ho, hb⟩ := hrel
    obtain ⟨wo, rfl⟩ : ∃ wo, wo = wr := ⟨_, rfl⟩
    obtain ⟨v3, rfl⟩ : ∃ v3, v3 = u3 := ⟨_, rfl⟩
    by_cases hlt : k < n
    · have hki : k < ents.length := by have := HN.out; omega
      have hxo := HX.out.on hb
      obtain ⟨b, off, rfl, hbs, e0c, e1c⟩ := hxo.ents.entM hki
      have hkn' : (k : Int) < (n : Int) := by omega
      have HKT := Lib.hid (irs_take hki)
      have HTOT : Hid ((irs (ents.take k)).length + ents[k].keys.length ≤ 1000) := Lib.hid (by
        have h1 := irs_len ents (k + 1)
        rw [irs_take hki, List.length_append, List.length_map] at h1
        have := HL.out
        omega)
      have HE := Lib.hid (hxo.ent _ (List.getElem_mem hki))
      have HO := Lib.hid ho
      have HB := Lib.hid hb
      obtain ⟨W5, hW5⟩ : ∃ W5, W5 = wo.alloc (.cells #[.slice ents[k].vals.A ents[k].vals.row.length ents[k].vals.c, .slice ents[k].KA ents[k].keys.length ents[k].kc] 59) := ⟨_, rfl⟩
      have hb5 : Below wo.heap.size wo W5 := by rw [hW5]; exact (Below.refl _ _).alloc (Nat.le_refl _) _
      have hbk5 : W5.heap[wo.heap.size]? = some (.cells #[.slice ents[k].vals.A ents[k].vals.row.length ents[k].vals.c, .slice ents[k].KA ents[k].keys.length ents[k].kc] 59 (0, 0)) := by rw [hW5]; exact heap_alloc_new wo _
      have hwo5 : wo.heap.size < W5.heap.size := by rw [hW5]; simp
      have HST : Hid (Own 2 IR.cs 57 W1.heap.size W5 v3 (irs (ents.take k)) ∧ Below W1.heap.size W1 W5) := Lib.hid ⟨ho.below hb5, hb.trans (hb5.mono hb.size)⟩
      have HNE : Hid (v3.ownBlock ≠ some wo.heap.size ∧ ∀ g, v3.ownBlock = some g → W1.heap.size ≤ g) := Lib.hid ⟨fun e => by have := (Own.lt ho _ e).2; omega, fun g hg => (Own.lt ho g hg).1⟩
      have c0 : W5.cell? ⟨wo.heap.size, 0, none⟩ = some (.slice ents[k].vals.A ents[k].vals.row.length ents[k].vals.c) := by rw [cell_of_row _ _ _ _ _ _ hbk5]; rfl
      have c1 : W5.cell? ⟨wo.heap.size, 1, none⟩ = some (.slice ents[k].KA ents[k].keys.length ents[k].kc) := by rw [cell_of_row _ _ _ _ _ _ hbk5]; rfl
      have HW5 := Lib.hid hW5
      have HBK := Lib.hid (And.intro hbk5 hwo5)
      have HEW : Hid (∀ W, Below W1.heap.size W1 W → EOk (· < W.heap.size) W ents[k]) := Lib.hid fun W hW => (HX.out.on hW).ent _ (List.getElem_mem hki)
      clear ho hb hbs hxo hW5 hb5 hbk5 hwo5
      generalize ents[k] = e0 at *
      obtain ⟨⟨VA, vc, vr⟩, KA, kc, ks⟩ := e0
      simp only at HKT HTOT e0c e1c HW5 HBK HEW c0 c1
      obtain ⟨m, hm⟩ : ∃ m, ks.length = m := ⟨_, rfl⟩
      rw [hm] at e1c HW5 HBK c1
      have HM := Lib.hid hm
      clear hm
      go_upto_region 5 with fail
      rw [← HW5.out]
      go_upto_region 6 with fail
      go_wp2_with fail
      go_loopw [3, 18] (fun v vj wr => ∃ j : Nat, vj = .int .i64 (j : Int) ∧ j ≤ m ∧ Own 2 IR.cs 57 W1.heap.size wr v (irs (ents.take k) ++ (ks.take j).map (IR.mk ⟨VA, vc, vr⟩)) ∧ Ext W5 v3 wr v) (fun _ vj _ => m - (intOf vj).toNat)
      case atStart => exact ⟨0, rfl, by omega, by simpa using HST.out.1, Ext.refl _ _⟩
      case round =>
        obtain ⟨j, rfl, hjm, ho, hex⟩ := hrel
        have y0 := hex.old_cell c0 HNE.out.1
        have hb : Below W1.heap.size W1 wr := HST.out.2.trans (hex.below HST.out.2.size HNE.out.2)
        have hm1 : m ≤ 1000 := by have := HM.out; have := HTOT.out; omega
        by_cases hlt2 : j < m
        · have hji : j < ks.length := by have := HM.out; omega
          have hjm' : (j : Int) < (m : Int) := by omega
          obtain ⟨kb, koff, rfl, hkb, y1⟩ := (HEW.out wr hb).keys.key hji
          have HTK : Hid (irs (ents.take k) ++ (ks.take (j + 1)).map (IR.mk ⟨VA, vc, vr⟩) = (irs (ents.take k) ++ (ks.take j).map (IR.mk ⟨VA, vc, vr⟩)) ++ [IR.mk ⟨VA, vc, vr⟩ ks[j]]) := Lib.hid (by rw [List.take_succ_eq_append_getElem hji, List.map_append, List.append_assoc]; rfl)
          have HLN : Hid ((irs (ents.take k) ++ (ks.take j).map (IR.mk ⟨VA, vc, vr⟩)).length + 1 ≤ 1000) := Lib.hid (by rw [List.length_append, List.length_map, List.length_take]; have := HTOT.out; omega)
          have HL1 : Hid (((irs (ents.take k) ++ (ks.take j).map (IR.mk ⟨VA, vc, vr⟩)).length + 1) * 48 ≤ 140737488355328) := Lib.hid (by have := HLN.out; omega)
          have HL2 : Hid ((irs (ents.take k) ++ (ks.take j).map (IR.mk ⟨VA, vc, vr⟩)).length + 1 ≤ maxLen) := Lib.hid (by have := HLN.out; unfold maxLen; omega)
          have HO1 := Lib.hid ho
          have HX2 := Lib.hid hex
          have hbs := hb.size
          clear ho hex hb hkb
          generalize ks[j] = q at *
          go_wp2_with (at_builtin; refine wpList_app rfl (.tmp 22) (.tmp 27) _ _ rfl rfl rfl (run_push elem_ir irLay _ _ _ (irs (ents.take k) ++ (ks.take j).map (IR.mk ⟨VA, vc, vr⟩)) ⟨⟨VA, vc, vr⟩, q⟩ _ HO1.out rfl HL1.out HL2.out hbs rfl) ?_; rintro v2 w2 ⟨ho2, hx2⟩)
          have HF : Hid (Own 2 IR.cs 57 W1.heap.size w2 v2 (irs (ents.take k) ++ (ks.take (j + 1)).map (IR.mk ⟨VA, vc, vr⟩)) ∧ Ext W5 v3 w2 v2) := Lib.hid ⟨by rw [HTK.out]; exact ho2, HX2.out.trans hx2⟩
          clear ho2 hx2
          go_wp2_with fail
          go_roundw
          case rel => exact ⟨j + 1, by go_num, by omega, HF.out.1, HF.out.2⟩
          case measure => simp [intOf]; omega
        · have hjm' : j = m := by omega
          subst hjm'
          have HF : Hid (Own 2 IR.cs 57 W1.heap.size wr u3 (irs (ents.take (k + 1))) ∧ Below W1.heap.size W1 wr) := Lib.hid ⟨by
            rw [HKT.out]
            rwa [List.take_of_length_le (l := ks) (by have := HM.out; omega)] at ho, hb⟩
          clear ho hb
          go_wp2_with fail
          go_roundw
          case rel => exact ⟨k + 1, by go_num, by omega, HF.out.1, HF.out.2⟩
          case measure => simp [intOf]; omega
    · have hkn' : k = n := by omega
      subst hkn'
      have HF : Hid (Own 2 IR.cs 57 w.heap.size wo v3 (irs ents) ∧ Below w.heap.size w wo) := Lib.hid ⟨by
        have h := ho.mono HB1.out.size
        rwa [List.take_of_length_le (by have := HN.out; omega)] at h, HB1.out.trans (hb.mono HB1.out.size)⟩
      clear ho hb
      go_wp2_with fail
      go_ret
      exact ⟨_, rfl, HF.out.1, HF.out.2⟩
end Go.Proofs.Ytakbabkcidioaaa
