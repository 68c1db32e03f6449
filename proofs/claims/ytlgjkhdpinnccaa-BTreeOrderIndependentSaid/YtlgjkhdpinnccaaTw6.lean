/-
  The walk of insert at a leaf.
-/
import Derived.Test.YtlgjkhdpinnccaaTw5
import Derived.StillTailTactics
import Derived.Deep.RegionLaw
namespace Go.Proofs.Ytlgjkhdpinnccaa
open Go.RowKit Go.Sort

theorem setCell_same {w : World} {a i : Nat} {cur : Array Value} {e : TypeId} {v : Value} (h : w.heap[a]? = some (.cells cur e (0, 0))) (hv : cur[i]? = some v) : w.setCell ⟨a, i, none⟩ v = w := by
  have hc : cur.setIfInBounds i v = cur := by
    obtain ⟨h1, h2⟩ := Array.getElem?_eq_some_iff.1 hv
    subst h2
    apply Array.ext (by simp)
    intro j hj1 hj2
    rw [Array.getElem_setIfInBounds]
    split
    · subst_vars; rfl
    · rfl
  unfold World.setCell
  refine (congrArg (fun h => ({ w with heap := h } : World)) ?_ : _ = ({ w with heap := w.heap } : World))
  apply Array.ext (by simp)
  intro j hj1 hj2
  rw [Array.getElem_modify]
  split
  · rename_i hj
    subst hj
    have h3 := (Array.getElem?_eq_some_iff.1 h).2
    rw [h3]
    simp [hc]
  · rfl

theorem flat_set {xs : List Ent} {i : Nat} {x : Ent} (h : xs[i]? = some x) (v : Int) : (xs.take i ++ ⟨x.key, v⟩ :: xs.drop (i + 1)).flatMap Ent.cs = (xs.flatMap Ent.cs).set (i * 2 + 1) (.int .i64 v) := by
  obtain ⟨h1, h2⟩ := List.getElem?_eq_some_iff.1 h
  have e : xs = xs.take i ++ x :: xs.drop (i + 1) := by rw [← h2, ← List.drop_eq_getElem_cons h1, List.take_append_drop]
  conv => rhs; rw [e]
  rw [List.flatMap_append, List.flatMap_append, List.flatMap_cons, List.flatMap_cons]
  have hl : ((xs.take i).flatMap Ent.cs).length = i * 2 := by rw [flat_len entLay, List.length_take]; congr 1; omega
  rw [List.set_append_right _ _ (by omega), hl, show i * 2 + 1 - i * 2 = 1 from by omega]
  rfl

theorem own_setVal {base : Nat} {w : World} {g n c i : Nat} {xs : List Ent} {x : Ent} (h : Own 2 Ent.cs 45 base w (.slice (some ⟨g, 0, none⟩) n c) xs) (hx : xs[i]? = some x) (v : Int) :
    Own 2 Ent.cs 45 base (w.setCell ⟨g, i * 2 + 1, none⟩ (.int .i64 v)) (.slice (some ⟨g, 0, none⟩) n c) (xs.take i ++ ⟨x.key, v⟩ :: xs.drop (i + 1)) := by
  obtain ⟨h1, h2⟩ := List.getElem?_eq_some_iff.1 hx
  obtain ⟨g', c', cur, hv, hb, hg, hcl, hcm, hs, ht⟩ := h.open_ (by omega)
  injection hv with hv1 hv2 hv3
  injection hv1 with hv1
  injection hv1 with hv1
  subst hv1 hv3
  refine Own.shut entLay hb (heap_setCell_at hg _) ?_ (by omega) hcm (by simp [hs]) ?_
  · simp only [List.length_append, List.length_cons, List.length_take, List.length_drop]; omega
  · rw [Array.toList_setIfInBounds, List.take_set, hv2, ht, flat_set hx]

/-- What insert leaves. -/
def InsPost (w : World) (M : Nodes) (O : Own') (m o d a : Nat) (t : T d) (fp : List Nat) (x : Ent) (e : Ending) (w' : World) : Prop :=
  ∃ (M' : Nodes) (O' : Own') (t' : T d) (fp' : List Nat), e = .returned (.bool (getF x.key.row (flat d t)).isNone) ∧ St w O w' M' O' ∧ Rep M' d a t' fp' ∧ Chg w.heap.size M M' fp fp'
    ∧ Ok m o d t' ∧ flat d t' = insF x (flat d t) ∧ fill d t ≤ fill d t' ∧ fill d t' ≤ fill d t + 1
abbrev entV (x : Ent) : Value := .agg #[.slice x.key.A x.key.row.length x.key.c, .int .i64 x.val]

set_option maxRecDepth 100000 in
set_option maxHeartbeats 4000000 in
theorem insLeafW {m o a tb : Nat} {es : List Ent} {fp : List Nat} (w : World) (M : Nodes) (O : Own') (hs : Store w M O) (hr : Rep M 0 a es fp) (hn' : fp.Nodup) (x : Ent) (hx : KOk (fun k => O k = .row) w x.key) (ho : Ord es) (hl : es.length ≤ 40) :
    Calls Try.prog 29 #[ptr tb, ptr a, entV x] w (InsPost w M O m o 0 a es fp x) := by
  obtain ⟨es', he', hm, rfl⟩ := hr
  rw [show es' = es from he'] at hm
  clear he'
  have hal := hs.lt hm
  obtain ⟨V, hV⟩ := hs.at_ a _ hm
  obtain ⟨w0, hw0⟩ : ∃ w0, w0 = w.alloc (.cells #[.slice x.key.A x.key.row.length x.key.c, .int .i64 x.val] 45) := ⟨_, rfl⟩
  have hb0 : Below w.heap.size w w0 := by rw [hw0]; exact (Below.refl _ _).alloc (Nat.le_refl _) _
  have hS0 : St w O w0 M O := by rw [hw0]; exact (St.refl hs).alloc _
  have hbox : w0.heap[w.heap.size]? = some (.cells #[.slice x.key.A x.key.row.length x.key.c, .int .i64 x.val] 45 (0, 0)) := by rw [hw0]; exact heap_alloc_new w _
  have hV0 : NodeAt w0 O a ⟨es, [], []⟩ V := hV.below hs.free hb0 fun _ _ => rfl
  have hx0 : KOk (fun k => O k = .row) w0 x.key := hS0.kok hs hx
  obtain ⟨A0, c0, A1, c1, A2, c2, e0, e1, e2, h0, h1, h2, hfr, o0, o1, o2⟩ := hV0.cells
  simp only at h0 h2 o0 e0
  have hrl : ∀ k, O k = .row → k < w0.heap.size := fun k hk => hS0.store.lt' (by rw [hk]; simp)
  have HLF := Lib.hid (leafW a w0 A2 0 c2 h2)
  have HSE := Lib.hid (searchW a w0 A0 c0 es x.key.A x.key.c x.key.row _ _ h0 ((o0.elems entLay.len rfl).more fun k hk => (Own.lt o0 k hk).2) hrl hrl hV0.rowe ho hx0.el (by omega))
  have hk0 : w0.cell? ⟨w.heap.size, 0, none⟩ = some (.slice x.key.A x.key.row.length x.key.c) := by rw [cell_of_row _ _ _ _ _ _ hbox]; rfl
  have hk1 : w0.cell? ⟨w.heap.size, 1, none⟩ = some (.int .i64 x.val) := by rw [cell_of_row _ _ _ _ _ _ hbox]; rfl
  have hbl : w.heap.size < w0.heap.size := by rw [hw0]; simp
  have hal0 : a < w0.heap.size := by omega
  have HS0 := Lib.hid hS0
  have HV0 := Lib.hid hV0
  have HO0 := Lib.hid o0
  have HE0 := Lib.hid e0
  have HM := Lib.hid hm
  have HW0 := Lib.hid hw0
  have HX0 := Lib.hid hx0
  have HO := Lib.hid ho
  have HBX := Lib.hid hbox
  clear hw0 hS0 hV0 hV hs hm hx hx0 ho o0 o1 o2 e0 e1 e2 hb0 hbox hrl hfr h1
  go_enter Try.func29, Try.ntmps29
  go_wp2_with fail
  rw [← HW0.out]
  refine HLF.out.mono ?_
  rintro e w' ⟨rfl, rfl⟩
  go_wp2_with fail
  refine HSE.out.mono ?_
  rintro e w1 ⟨i, fnd, rfl, hA, hb1⟩
  have hil := hA.le
  have HA := Lib.hid hA
  have h0a := (hb1.cell (p := ⟨a, 0, none⟩) hal0).trans h0
  have k0a := (hb1.cell (p := ⟨w.heap.size, 0, none⟩) hbl).trans hk0
  have k1a := (hb1.cell (p := ⟨w.heap.size, 1, none⟩) hbl).trans hk1
  have HV1 : Hid (NodeAt w1 O a ⟨es, [], []⟩ V) := Lib.hid (HV0.out.below HS0.out.store.free hb1 fun _ _ => rfl)
  have HS1 := Lib.hid (HS0.out.below hb1)
  have HO1 := Lib.hid (HO0.out.below hb1)
  have HX1 : Hid (KOk (fun k => O k = .row) w1 x.key) := Lib.hid (((St.refl HS0.out.store).below hb1).kok HS0.out.store HX0.out)
  have HBX1 := Lib.hid ((hb1.block _ hbl).trans HBX.out)
  clear hA h0 hk0 hk1 h2 HLF HSE HV0 HO0 HX0 HBX HW0
  cases fnd with
  | true =>
    have hlt : i < es.length := by
      obtain ⟨z, r, hd, -⟩ := HA.out.eq.1 rfl
      have := congrArg List.length hd
      simp at this
      omega
    obtain ⟨g, c, cur, hv, -, hg, hcl, hcm, hcs, hct⟩ := HO1.out.open_ (by omega)
    injection hv with hv1 _ hv2
    subst hv1 hv2
    obtain ⟨y, hy, hyk, hins, -, hget⟩ := at_upd HA.out
    have hci : w1.cell? ⟨g, i * 2 + 1, none⟩ = some (.int .i64 y.val) := by
      obtain ⟨b', o', he, -, -, hc1⟩ := (HO1.out.elems entLay.len rfl).ent hlt
      injection he with he
      injection he with he1 he2
      subst he1 he2
      rw [Nat.zero_add] at hc1
      have : es[i] = y := by
        have := List.getElem?_eq_getElem hlt
        rw [hy] at this
        exact (Option.some.inj this).symm
      rw [this] at hc1
      exact hc1
    have hfz : w1.frozen? ⟨g, i * 2 + 1, none⟩ = false := frozen_of_row w1 g _ _ _ hg
    have hi0 : (0 : Int) ≤ (i : Int) := by omega
    have hi1 : (i : Int) < (es.length : Int) := by omega
    have HY := Lib.hid hy
    have HI := Lib.hid hins
    have HG := Lib.hid hget
    clear hy hins hget hyk hg hct hcs
    generalize hn : es.length = n at *
    have HE : Hid (∀ k, InsPost w M O m o 0 a es [a] x (.returned (.bool false)) ((w1.setCell ⟨g, i * 2 + 1, none⟩ (.int .i64 x.val)).drewN k)) := Lib.hid fun k => by
      have hk : (x.key.row : Row) = x.key.row := rfl
      have hgw := HV1.out.whose 0 (by omega) g (by rw [HE0.out]; rfl)
      have hgr : w1.grownBy (w1.setCell ⟨g, i * 2 + 1, none⟩ (.int .i64 x.val)) (V 0).ownBlock := by
        rw [HE0.out]
        exact ⟨rfl, rfl, rfl, by simp [World.setCell], fun k _ hk => Below.heap_setCell w1 _ _ k (fun e => hk (by rw [e]; rfl))⟩
      obtain ⟨t1, t2⟩ := HS1.out.field (n' := ⟨es.take i ++ ⟨y.key, x.val⟩ :: es.drop (i + 1), [], []⟩) HM.out HV1.out (i := 0) (by omega) hgr (own_setVal HO1.out HY.out x.val) (fun g' hg' => .inl (by injection hg' with hg'; rw [← hg']; exact hgw)) same0
        (fun e he => by
          rcases List.mem_append.1 he with h | h
          · exact HV1.out.rowe e (List.mem_of_mem_take h)
          · rcases List.mem_cons.1 h with rfl | h
            · exact HV1.out.rowe y (List.mem_of_getElem? HY.out)
            · exact HV1.out.rowe e (List.mem_of_mem_drop h)) (fun k hk => by cases hk)
      have hag : a ≠ g := fun e => by
        have h1 := HV1.out.own
        rw [e, hgw] at h1
        cases h1
      have hb3 : (w1.setCell ⟨g, i * 2 + 1, none⟩ (.int .i64 x.val)).heap[a]? = some (.cells #[V 0, V 1, V 2] 70 (0, 0)) := (heap_setCell_off hag _).trans HV1.out.blk
      rw [setCell_same hb3 (by rw [HE0.out]; rfl)] at t1
      have hins := HI.out
      refine ⟨_, _, (es.take i ++ ⟨y.key, x.val⟩ :: es.drop (i + 1) : List Ent), [a], ?_, t1.drewN k, ⟨_, rfl, upd_same _ _ _, rfl⟩, ⟨hn', fun z hz _ => upd_ne (by simpa using hz), fun z hz => .inl hz⟩, ?_, hins.symm, ?_⟩
      · show _ = Ending.returned (.bool (getF x.key.row es).isNone)
        rw [HG.out]; rfl
      · show Ord _
        rw [← hins]
        exact ord_ins HO.out
      · have hlen : (es.take i ++ ⟨y.key, x.val⟩ :: es.drop (i + 1)).length = es.length := by
          simp only [List.length_append, List.length_cons, List.length_take, List.length_drop]; omega
        exact ⟨Nat.le_of_eq hlen.symm, by show List.length _ ≤ List.length es + 1; omega⟩
    go_wp2_with fail
    go_region
    go_wp2_with fail
    go_ret
    exact HE.out _
  | false =>
    have hins := at_ins HA.out
    have hget := (at_none HA.out).2
    have hA2 : Below w1.heap.size w1 (w1.drew.alloc (.cells #[.slice x.key.A x.key.row.length x.key.c, .int .i64 x.val] 45)) := ((Below.refl _ _).drew).alloc (Nat.le_refl _) _
    have HII := Lib.hid (insEnt (gv := w1.heap.size) A0 c0 es i x (w1.drew.alloc (.cells #[.slice x.key.A x.key.row.length x.key.c, .int .i64 x.val] 45)) (HO1.out.below hA2) hil (heap_alloc_new w1.drew _) rfl (fun e => by have := (Own.lt HO1.out _ e).2; omega) (by omega))
    have HV2 : Hid (NodeAt (w1.drew.alloc (.cells #[.slice x.key.A x.key.row.length x.key.c, .int .i64 x.val] 45)) O a ⟨es, [], []⟩ V) := Lib.hid (HV1.out.below HS1.out.store.free hA2 fun _ _ => rfl)
    have HS2 := Lib.hid (HS1.out.below hA2)
    have HX2 : Hid (KOk (fun k => O k = .row) (w1.drew.alloc (.cells #[.slice x.key.A x.key.row.length x.key.c, .int .i64 x.val] 45)) x.key) := Lib.hid (((St.refl HS1.out.store).below hA2).kok HS1.out.store HX1.out)
    have HI := Lib.hid hins
    have HG := Lib.hid hget
    have hi0 : (0 : Int) ≤ (i : Int) := by omega
    have hA2s : a < (w1.drew.alloc (.cells #[.slice x.key.A x.key.row.length x.key.c, .int .i64 x.val] 45)).heap.size := by have := hb1.size; simp; omega
    clear hins hget hA2
    generalize hn : es.length = n at *
    have HF : Hid (∀ w2 v2, Own 2 Ent.cs 45 0 w2 v2 (es.take i ++ x :: es.drop i) → Ext (w1.drew.alloc (.cells #[.slice x.key.A x.key.row.length x.key.c, .int .i64 x.val] 45)) (.slice A0 n c0) w2 v2 → ∃ A3 n3 c3, v2 = .slice A3 n3 c3 ∧ w2.frozen? ⟨a, 0, none⟩ = false ∧ w2.cell? ⟨a, 0, none⟩ = some (.slice A0 n c0) ∧ ∀ k, InsPost w M O m o 0 a es [a] x (.returned (.bool true)) ((w2.setCell ⟨a, 0, none⟩ (.slice A3 n3 c3)).drewN k)) := Lib.hid fun w2 v2 ho2 hx2 => by
      obtain ⟨A3, c3, rfl, hc3, hc3m⟩ := ho2.form
      have hne2 : (Value.slice A0 n c0).ownBlock ≠ some a := fun e => by
        have h1 := HV2.out.whose 0 (by omega) a (by rw [HE0.out]; exact e)
        rw [HV2.out.own] at h1
        cases h1
      have hb3 : w2.heap[a]? = some (.cells #[V 0, V 1, V 2] 70 (0, 0)) := (hx2.grown.block a hA2s (fun e => hne2 e.symm)).trans HV2.out.blk
      have fz3 := frozen_of_row w2 a 0 _ _ hb3
      have cz3 : w2.cell? ⟨a, 0, none⟩ = some (.slice A0 n c0) := by rw [cell_of_row _ _ _ _ _ _ hb3, ← HE0.out]; rfl
      refine ⟨A3, _, c3, rfl, fz3, cz3, fun k => ?_⟩
      obtain ⟨t1, t2⟩ := HS2.out.field_ext (n' := ⟨es.take i ++ x :: es.drop i, [], []⟩) HM.out HV2.out (i := 0) (by omega) (by rw [HE0.out]; exact hx2) ho2 same0
        (fun e he => by
          rcases List.mem_append.1 he with h | h
          · exact HV2.out.rowe e (List.mem_of_mem_take h)
          · rcases List.mem_cons.1 h with rfl | h
            · exact HX2.out
            · exact HV2.out.rowe e (List.mem_of_mem_drop h)) (fun k hk => by cases hk)
      have hins := HI.out
      refine ⟨_, _, (es.take i ++ x :: es.drop i : List Ent), [a], ?_, t1.drewN k, ⟨_, rfl, upd_same _ _ _, rfl⟩, ⟨hn', fun z hz _ => upd_ne (by simpa using hz), fun z hz => .inl hz⟩, ?_, hins.symm, ?_⟩
      · show _ = Ending.returned (.bool (getF x.key.row es).isNone)
        rw [HG.out]; rfl
      · show Ord _
        rw [← hins]
        exact ord_ins HO.out
      · have hlen : (es.take i ++ x :: es.drop i).length = es.length + 1 := by
          simp only [List.length_append, List.length_cons, List.length_take, List.length_drop]; omega
        exact ⟨by show List.length es ≤ List.length _; omega, Nat.le_of_eq hlen⟩
    have h0b : (w1.alloc (.cells #[.slice x.key.A x.key.row.length x.key.c, .int .i64 x.val] 45)).cell? ⟨a, 0, none⟩ = some (.slice A0 n c0) := HV2.out.cell (i := 0) (by omega) HE0.out
    clear hA2s
    go_wp2_with fail
    go_region_law (first | (go_simp; go_at_call 45; refine HII.out.mono ?_; rintro e w2 ⟨v2, rfl, ho2, hx2⟩; obtain ⟨A3, n3, c3, rfl, fz3, cz3, hE⟩ := HF.out _ _ ho2 hx2; have HE := Lib.hid hE; clear hE ho2 hx2))
    all_goals
      go_wp2_with fail
      go_ret
      exact HE.out 0
end Go.Proofs.Ytlgjkhdpinnccaa
