/-
  One field of a node grows; two fields grow. No program's walk.
-/
import Derived.Test.YtlgjkhdpinnccaaTw5
namespace Go.Proofs.Ytlgjkhdpinnccaa
open Go.RowKit Go.Sort

theorem upd_self {β : Type} {f : Nat → β} {a : Nat} {x : β} (h : f a = x) : upd f a x = f := by
  funext k
  unfold upd
  split
  · rename_i e; rw [e]; exact h.symm
  · rfl
theorem upd_upd {β : Type} {f : Nat → β} {a : Nat} {x y : β} : upd (upd f a x) a y = upd f a y := by
  funext k
  unfold upd
  split <;> rfl

theorem Fld.form {i : Nat} {n : NC} {w : World} {v : Value} (h : Fld i n w v) : ∃ A k c, v = .slice A k c := by
  rcases i with _ | _ | i
  · obtain ⟨A, c, e, -, -⟩ := Own.form (show Own 2 Ent.cs 45 0 w v n.es from h); exact ⟨_, _, _, e⟩
  · obtain ⟨A, c, e, -, -⟩ := Own.form (show Own 1 Key.cs 30 0 w v n.ks from h); exact ⟨_, _, _, e⟩
  · obtain ⟨A, c, e, -, -⟩ := Own.form (show Own 1 Nid.cs 60 0 w v n.cs from h); exact ⟨_, _, _, e⟩

theorem NodeAt.fld_ne {w : World} {O : Own'} {a b : Nat} {n nb : NC} {V Vb : Nat → Value} (h : NodeAt w O a n V) (hb : NodeAt w O b nb Vb) {i : Nat} (hi : i < 3) : (V i).ownBlock ≠ some b := fun e => by
  have h1 := h.whose i hi b e
  rw [hb.own] at h1
  cases h1

/-- The cells of a node behind a change of one field's block. -/
theorem NodeAt.behind {w w' : World} {O : Own'} {a b : Nat} {n nb : NC} {V Vb : Nat → Value} {v' : Value} (h : NodeAt w O a n V) (hb : NodeAt w O b nb Vb) {i : Nat} (hi : i < 3) (hE : Ext w (V i) w' v') : w'.heap[b]? = some (.cells #[Vb 0, Vb 1, Vb 2] 70 (0, 0)) :=
  (hE.grown.block b (Array.getElem?_eq_some_iff.1 hb.blk).1 fun e => h.fld_ne hb hi e.symm).trans hb.blk

/-- What an append to a field leaves, its store ahead. -/
def Grown (w0 : World) (O0 : Own') (M : Nodes) (b i : Nat) (n' : NC) (v : Value) (v' : Value) (w' : World) : Prop :=
  (∃ A k c, v' = .slice A k c) ∧ w'.cell? ⟨b, i, none⟩ = some v ∧ w'.frozen? ⟨b, i, none⟩ = false ∧ Hid (∃ O', St w0 O0 (w'.setCell ⟨b, i, none⟩ v') (upd M b (some n')) O')

theorem St.grow1 {w0 W W1 w' : World} {O0 O : Own'} {M : Nodes} (h : St w0 O0 W M O) {b : Nat} {n n' : NC} {V : Nat → Value} (ha : M b = some n) (hV : NodeAt W O b n V) {i : Nat} (hi : i < 3) (hW1 : Below W.heap.size W W1) {v v' : Value} (ev : V i = v)
    (hE : Ext W1 v w' v') (hF : Fld i n' w' v') (hsame : ∀ j, j < 3 → j ≠ i → ∀ w v, Fld j n w v → Fld j n' w v)
    (hre : ∀ e ∈ n'.es, KOk (fun k => O k = .row) W e.key) (hrk : ∀ k ∈ n'.ks, KOk (fun k => O k = .row) W k) : Grown w0 O0 M b i n' v v' w' := by
  subst ev
  have h1 := h.below hW1
  have hV1 : NodeAt W1 O b n V := hV.below h.store.free hW1 fun _ _ => rfl
  have hb := hV1.behind hV1 hi hE
  have hk : ∀ k, KOk (fun k => O k = .row) W k → KOk (fun k => O k = .row) W1 k := fun k hk => hk.of fun i hi => ⟨hW1.block i (h.store.lt' (by rw [hi]; simp)), hi⟩
  obtain ⟨h2, -⟩ := h1.field_ext (n' := n') ha hV1 hi hE hF hsame (fun e he => hk _ (hre e he)) (fun k hk' => hk _ (hrk k hk'))
  refine ⟨hF.form, ?_, frozen_of_row _ _ _ _ _ hb, Lib.hid ⟨_, h2⟩⟩
  rw [cell_of_row _ _ _ _ _ _ hb]
  rcases i with _ | _ | _ | i
  · rfl
  · rfl
  · rfl
  · omega

/-- A store into a node, on both sides. -/
theorem Ext.set_both {w w' : World} {v v' : Value} (h : Ext w v w' v') {b i : Nat} {cur : Array Value} {e : TypeId} (hb : w.heap[b]? = some (.cells cur e (0, 0))) (hne : v.ownBlock ≠ some b) (u : Value) : Ext (w.setCell ⟨b, i, none⟩ u) v (w'.setCell ⟨b, i, none⟩ u) v' := by
  have hb' : w'.heap[b]? = some (.cells cur e (0, 0)) := (h.grown.block b (Array.getElem?_eq_some_iff.1 hb).1 fun e => hne e.symm).trans hb
  refine ⟨⟨h.grown.os, h.grown.tape, h.grown.output, by rw [setCell_size, setCell_size]; exact h.grown.size, fun k hk hn => ?_⟩, ?_⟩
  · rw [setCell_size] at hk
    by_cases hkb : k = b
    · subst hkb
      rw [heap_setCell_at hb', heap_setCell_at hb]
    · rw [heap_setCell_off hkb, heap_setCell_off hkb]
      exact h.grown.block k hk hn
  · rcases h.block with e | ⟨g, e, hg⟩
    · exact .inl e
    · exact .inr ⟨g, e, by rw [setCell_size]; exact hg⟩

/-- Children and keys grow, then both are stored. -/
theorem St.grow2 {w0 W w1 w2 : World} {O0 O : Own'} {M : Nodes} (h : St w0 O0 W M O) {b : Nat} {es : List Ent} {ks ks' : List Key} {cs cs' : List Nat} {V : Nat → Value} (ha : M b = some ⟨es, ks, cs⟩) (hV : NodeAt W O b ⟨es, ks, cs⟩ V) {v1 v2 u1 u2 : Value} (e1 : V 1 = u1) (e2 : V 2 = u2)
    (hE2 : Ext W u2 w1 v2) (hF2 : Own 1 Nid.cs 60 0 w1 v2 cs') (hE1 : Ext w1 u1 w2 v1) (hF1 : Own 1 Key.cs 30 0 w2 v1 ks') (hrk : ∀ k ∈ ks', KOk (fun k => O k = .row) W k) :
    w2.cell? ⟨b, 1, none⟩ = some u1 ∧ w2.cell? ⟨b, 2, none⟩ = some u2 ∧ w2.frozen? ⟨b, 1, none⟩ = false ∧ w2.frozen? ⟨b, 2, none⟩ = false
      ∧ Hid (∃ O', St w0 O0 ((w2.setCell ⟨b, 2, none⟩ v2).setCell ⟨b, 1, none⟩ v1) (upd M b (some ⟨es, ks', cs'⟩)) O') := by
  subst e1 e2
  have hb1 := hV.behind hV (i := 2) (by omega) hE2
  have hn1 : (V 1).ownBlock ≠ some b := hV.fld_ne hV (by omega)
  have hbl := (Array.getElem?_eq_some_iff.1 hb1).1
  have hb2 : w2.heap[b]? = _ := (hE1.grown.block b hbl fun e => hn1 e.symm).trans hb1
  obtain ⟨s1, n1⟩ := h.field_ext (n' := ⟨es, ks, cs'⟩) ha hV (i := 2) (by omega) hE2 hF2 same2 hV.rowe hV.rowk
  have r1 := ((St.refl h.store).field_ext (n' := ⟨es, ks, cs'⟩) ha hV (i := 2) (by omega) hE2 hF2 same2 hV.rowe hV.rowk).1
  have hE1' : Ext (w1.setCell ⟨b, 2, none⟩ v2) (V 1) (w2.setCell ⟨b, 2, none⟩ v2) v1 := hE1.set_both hb1 hn1 v2
  have hv1b : ∀ g, v1.ownBlock = some g → g ≠ b := fun g hg e => by
    rcases hE1.block with e' | ⟨g', e', hg'⟩
    · exact hn1 (by rw [← e', hg, e])
    · rw [e'] at hg
      injection hg with hg
      omega
  have hF1' : Own 1 Key.cs 30 0 (w2.setCell ⟨b, 2, none⟩ v2) v1 ks' := hF1.setCell (p := ⟨b, 2, none⟩) hv1b v2
  obtain ⟨s2, n2⟩ := s1.field_ext (n' := ⟨es, ks', cs'⟩) (upd_same _ _ _) n1 (i := 1) (by omega) hE1' hF1' same1 n1.rowe (fun k hk => r1.kok h.store (hrk k hk))
  rw [upd_upd] at s2
  refine ⟨?_, ?_, frozen_of_row _ _ _ _ _ hb2, frozen_of_row _ _ _ _ _ hb2, Lib.hid ⟨_, s2⟩⟩
  · rw [cell_of_row _ _ _ _ _ _ hb2]; rfl
  · rw [cell_of_row _ _ _ _ _ _ hb2]; rfl

theorem NodeAt.disj {w : World} {O : Own'} {a b : Nat} {n nb : NC} {V Vb : Nat → Value} (h : NodeAt w O a n V) (hb : NodeAt w O b nb Vb) {i j : Nat} (hi : i < 3) (hj : j < 3) (hne : i ≠ j) : (V i).ownBlock = none ∨ (V i).ownBlock ≠ (Vb j).ownBlock := by
  cases hv : (V i).ownBlock with
  | none => exact .inl rfl
  | some g =>
    refine .inr fun e => ?_
    have h1 := h.whose i hi g hv
    have h2 := hb.whose j hj g e.symm
    rw [h1] at h2
    injection h2 with h2
    exact hne h2

/-- Two appends of one statement. -/
theorem St.app2 {w0 W : World} {O0 O : Own'} {M : Nodes} (h : St w0 O0 W M O) {b c : Nat} {eb ec : List Ent} {kb kc : List Key} {cb cc : List Nat} {V Vc : Nat → Value} (ha : M b = some ⟨eb, kb, cb⟩) (hV : NodeAt W O b ⟨eb, kb, cb⟩ V) (hVc : NodeAt W O c ⟨ec, kc, cc⟩ Vc)
    {A1 A2 B1 B2 : Option Addr} {c1 c2 d1 d2 : Nat} (e1 : V 1 = .slice A1 kb.length c1) (e2 : V 2 = .slice A2 cb.length c2) (s1 : Vc 1 = .slice B1 kc.length d1) (s2 : Vc 2 = .slice B2 cc.length d2) (hlk : kb.length + kc.length ≤ 1000) (hlc : cb.length + cc.length ≤ 1000) (ty : TypeId) :
    ∃ v2 w4, (Builtin.append_ #[67, 67] ty #[.slice A2 cb.length c2, .slice B2 cc.length d2]).run Try.prog W.drew = .ok v2 w4
            ∧ (∃ A k c, v2 = .slice A k c) ∧ w4.cell? ⟨b, 1, none⟩ = some (.slice A1 kb.length c1) ∧ w4.cell? ⟨c, 1, none⟩ = some (.slice B1 kc.length d1)
            ∧ Hid (∀ ty, ∃ v1 w5, (Builtin.append_ #[68, 68] ty #[.slice A1 kb.length c1, .slice B1 kc.length d1]).run Try.prog w4 = .ok v1 w5
              ∧ (∃ A k c, v1 = .slice A k c) ∧ w5.cell? ⟨b, 1, none⟩ = some (.slice A1 kb.length c1) ∧ w5.cell? ⟨b, 2, none⟩ = some (.slice A2 cb.length c2) ∧ w5.frozen? ⟨b, 1, none⟩ = false ∧ w5.frozen? ⟨b, 2, none⟩ = false
              ∧ Hid (∃ O', St w0 O0 ((w5.setCell ⟨b, 2, none⟩ v2).setCell ⟨b, 1, none⟩ v1) (upd M b (some ⟨eb, kb ++ kc, cb ++ cc⟩)) O')) := by
  have hd : Below W.heap.size W W.drew := (Below.refl _ _).drew
  have hVd : NodeAt W.drew O b ⟨eb, kb, cb⟩ V := hV.below h.store.free hd fun _ _ => rfl
  have hVcd : NodeAt W.drew O c ⟨ec, kc, cc⟩ Vc := hVc.below h.store.free hd fun _ _ => rfl
  have o1 : Own 1 Key.cs 30 0 W.drew (.slice A1 kb.length c1) kb := by have := hVd.fld 1 (by omega); rw [e1] at this; exact this
  have o2 : Own 1 Nid.cs 60 0 W.drew (.slice A2 cb.length c2) cb := by have := hVd.fld 2 (by omega); rw [e2] at this; exact this
  have q1 : Own 1 Key.cs 30 0 W.drew (.slice B1 kc.length d1) kc := by have := hVcd.fld 1 (by omega); rw [s1] at this; exact this
  have q2 : Own 1 Nid.cs 60 0 W.drew (.slice B2 cc.length d2) cc := by have := hVcd.fld 2 (by omega); rw [s2] at this; exact this
  obtain ⟨v2, w4, hr, ho, hx⟩ := run_pushs (P := Try.prog) elem_nids nidLay ty W.drew (.slice A2 cb.length c2) cb (c := d2) o2 (q2.elems nidLay.len rfl) rfl (by omega) (by unfold maxLen; omega) (Nat.zero_le _)
  have hb4 := hVd.behind hVd (i := 2) (by omega) (by rw [e2]; exact hx)
  have hc4 := hVd.behind hVcd (i := 2) (by omega) (by rw [e2]; exact hx)
  have o1' := o1.kept hx.grown (by have := hVd.disj hVd (i := 1) (j := 2) (by omega) (by omega) (by omega); rw [e1, e2] at this; exact this)
  have q1' := q1.kept hx.grown (by have := hVcd.disj hVd (i := 1) (j := 2) (by omega) (by omega) (by omega); rw [s1, e2] at this; exact this)
  refine ⟨v2, w4, hr, Fld.form (i := 2) (n := ⟨[], [], cb ++ cc⟩) ho, ?_, ?_, Lib.hid fun ty' => ?_⟩
  · rw [cell_of_row _ _ _ _ _ _ hb4, e1]; rfl
  · rw [cell_of_row _ _ _ _ _ _ hc4, s1]; rfl
  · obtain ⟨v1, w5, hr5, ho5, hx5⟩ := run_pushs (P := Try.prog) elem_keys keyLay ty' w4 (.slice A1 kb.length c1) kb (c := d1) o1' (q1'.elems keyLay.len rfl) rfl (by omega) (by unfold maxLen; omega) (Nat.zero_le _)
    exact ⟨v1, w5, hr5, Fld.form (i := 1) (n := ⟨[], kb ++ kc, []⟩) ho5, (h.below hd).grow2 ha hVd e1 e2 hx ho hx5 ho5 fun k hk => by
      rcases List.mem_append.1 hk with h | h
      · exact hVd.rowk k h
      · exact hVcd.rowk k h⟩
end Go.Proofs.Ytlgjkhdpinnccaa
