/-
  An index of the call's own: its entries and an entry's keys change. No program's walk.
-/
import Derived.Test.YtakbabkcidioaaaYd1
import Derived.Test.YtakbabkcidioaaaSm
namespace Go.Proofs.Ytakbabkcidioaaa
open Go.RowKit Go.Sort

theorem Own.rebase {α : Type} {sz : Nat} {cs : α → List Value} {e : TypeId} {base base' : Nat} {w : World} {v : Value} {xs : List α} (h : Own sz cs e base w v xs) (hb : ∀ g, v.ownBlock = some g → base' ≤ g) : Own sz cs e base' w v xs := by
  refine ⟨h.1, ?_⟩
  rcases h.2 with h | ⟨g, cap, cur, h1, h2, h3⟩
  · exact .inl h
  · exact .inr ⟨g, cap, cur, h1, hb g (by rw [h1]; rfl), h3⟩

theorem flat2_set {α : Type} {cs : α → List Value} (hcs : ∀ x, (cs x).length = 2) : ∀ (xs : List α) (i : Nat) (y : α) (v : Value), i < xs.length → (∀ x, xs[i]? = some x → cs y = [(cs x)[0]?.getD undef, v]) → (xs.flatMap cs).set (i * 2 + 1) v = (xs.set i y).flatMap cs
  | [], i, _, _, h, _ => by simp at h
  | x :: xs, 0, y, v, _, h => by
    have h1 := h x rfl
    have h2 := hcs x
    rw [List.flatMap_cons, List.set_cons_zero, List.flatMap_cons, h1]
    match hc : cs x, h2 with
    | [a, b], _ => rfl
  | x :: xs, i + 1, y, v, hi, h => by
    rw [List.flatMap_cons, List.set_cons_succ, List.flatMap_cons]
    have h2 := hcs x
    rw [List.set_append_right _ _ (by rw [h2]; omega), h2, show (i + 1) * 2 + 1 - 2 = i * 2 + 1 from by omega, flat2_set hcs xs i y v (by simpa using hi) (fun z hz => h z (by simpa using hz))]

/-- A cell of an own slice of pairs is written. -/
theorem Own.set2 {α : Type} {cs : α → List Value} (L : Lay 2 cs) {e : TypeId} {base : Nat} {w : World} {g n c i : Nat} {xs : List α} {y : α} {v : Value} (h : Own 2 cs e base w (.slice (some ⟨g, 0, none⟩) n c) xs) (hi : i < xs.length) (hy : ∀ x, xs[i]? = some x → cs y = [(cs x)[0]?.getD undef, v]) :
    Own 2 cs e base (w.setCell ⟨g, i * 2 + 1, none⟩ v) (.slice (some ⟨g, 0, none⟩) n c) (xs.set i y) := by
  obtain ⟨g', c', cur, hv, hb, hg, hcl, hcm, hs, ht⟩ := h.open_ (by omega)
  injection hv with hv1 hv2 hv3
  injection hv1 with hv1
  injection hv1 with hv1
  subst hv1 hv3
  refine Own.shut L hb (heap_setCell_at hg _) ?_ (by omega) hcm (by simp [hs]) ?_
  · rw [List.length_set]; exact hv2
  · rw [Array.toList_setIfInBounds, List.take_set, hv2, ht]
    exact flat2_set L.len xs i y v hi hy

theorem IxOwn.okLo {base : Nat} {w : World} {x : Ix} {R : Nat → Prop} (h : IxOwn base w x R) (hlo : ∀ g, R g → base ≤ g) : IOk (fun g => base ≤ g ∧ g < w.heap.size) w x :=
  have hk : ∀ i, R i → w.heap[i]? = w.heap[i]? ∧ (base ≤ i ∧ i < w.heap.size) := fun i hi => ⟨rfl, hlo i hi, h.lt i hi⟩
  ⟨h.t.of hk, h.cols.of hk, (h.ents.elems entMLay.len rfl).more fun g hg => Own.lt h.ents g hg, fun e he => ⟨(h.rows e he).1.of hk, ((h.keys e he).1.elems keyLay.len rfl).more fun g hg => Own.lt (h.keys e he).1 g hg, fun k hk' => ((h.rows e he).2 k hk').of hk⟩⟩
/-- An index of the call's own in its variable's block, wherever that lies. -/
structure CB (base bx : Nat) (w : World) (x : Ix) (R : Nat → Prop) : Prop where
  box : w.heap[bx]? = some (.cells x.cells 30 (0, 0))
  own : IxOwn base w x R
  nR : ¬ R bx
  hbx : base ≤ bx
  ne : (Value.slice x.EA x.ents.length x.ec).ownBlock ≠ some bx
  nk : ∀ e ∈ x.ents, e.kv.ownBlock ≠ some bx
section
variable {base bx : Nat} {w w' : World} {x : Ix} {R : Nat → Prop}
theorem CB.lt (h : CB base bx w x R) : bx < w.heap.size := (Array.getElem?_eq_some_iff.1 h.box).1
theorem CB.below (h : CB base bx w x R) (hb : Below w.heap.size w w') : CB base bx w' x R := ⟨(hb.block bx h.lt).trans h.box, h.own.below hb, h.nR, h.hbx, h.ne, h.nk⟩

/-- The entries change: those that were there, and new ones without keys. -/
theorem cs_ents {R2 : Nat → Prop} {v' : Value} {ys : List EntM} (h : CB base bx w x R) (hx : Ext w (.slice x.EA x.ents.length x.ec) w' v') (ho : Own 2 EntM.cs 59 0 w' v' ys)
    (hR2 : ∀ g, R2 g → g < w.heap.size ∧ g ≠ bx ∧ (Value.slice x.EA x.ents.length x.ec).ownBlock ≠ some g ∧ ∀ e ∈ x.ents, e.kv.ownBlock ≠ some g)
    (hys : ∀ y ∈ ys, y ∈ x.ents ∨ (y.KA = none ∧ y.kc = 0 ∧ y.keys = [] ∧ KOk R2 w y.vals)) (hsep : ys.Pairwise fun a b => ∀ g, a.kv.ownBlock = some g → b.kv.ownBlock ≠ some g) :
    ∃ A c, v' = .slice A ys.length c ∧ w'.cell? ⟨bx, 4, none⟩ = some (.slice x.EA x.ents.length x.ec) ∧ w'.frozen? ⟨bx, 4, none⟩ = false ∧ CB base bx (w'.setCell ⟨bx, 4, none⟩ v') ⟨x.t, x.XA, x.xc, x.cols, A, c, ys⟩ (fun g => R g ∨ R2 g) ∧ Below base w (w'.setCell ⟨bx, 4, none⟩ v') := by
  have hob := h.lt
  have hsz := hx.size
  obtain ⟨A, c, hform, -, -⟩ := ho.form
  have hvne := h.ne
  have hbx := h.hbx
  have hb3 : w'.heap[bx]? = some (.cells x.cells 30 (0, 0)) := (hx.grown.block bx hob (fun e => hvne e.symm)).trans h.box
  have hv' : ∀ g, v'.ownBlock = some g → base ≤ g ∧ g ≠ bx := fun g hg => by
    rcases hx.block with he | ⟨g', he, hg'⟩
    · rw [hg] at he
      exact ⟨(Own.lt h.own.ents g he.symm).1, fun e => hvne (by rw [← he, e])⟩
    · rw [hg] at he
      injection he with he
      exact ⟨by omega, by omega⟩
  have hRR : ∀ g, (R g ∨ R2 g) → g < w.heap.size ∧ g ≠ bx ∧ (Value.slice x.EA x.ents.length x.ec).ownBlock ≠ some g := fun g hg => by
    rcases hg with hg | hg
    · exact ⟨h.own.lt g hg, fun e => h.nR (e ▸ hg), fun e => (h.own.entsN g e).1 hg⟩
    · have := hR2 g hg
      exact ⟨this.1, this.2.1, this.2.2.1⟩
  have hkeep : ∀ g, (R g ∨ R2 g) → (w'.setCell ⟨bx, 4, none⟩ v').heap[g]? = w.heap[g]? ∧ (R g ∨ R2 g) := fun g hg => by
    obtain ⟨h1, h2, h3⟩ := hRR g hg
    exact ⟨(heap_setCell_off h2 v').trans (hx.grown.block g h1 (fun e => h3 e.symm)), hg⟩
  have hkR : ∀ g, R g → (w'.setCell ⟨bx, 4, none⟩ v').heap[g]? = w.heap[g]? ∧ (R g ∨ R2 g) := fun g hg => hkeep g (.inl hg)
  have hk2 : ∀ g, R2 g → (w'.setCell ⟨bx, 4, none⟩ v').heap[g]? = w.heap[g]? ∧ (R g ∨ R2 g) := fun g hg => hkeep g (.inr hg)
  have hyb : ∀ y ∈ ys, ∀ g, y.kv.ownBlock = some g → y ∈ x.ents := fun y hy g hg => by
    rcases hys y hy with h1 | ⟨h1, -, -, -⟩
    · exact h1
    · unfold EntM.kv at hg
      rw [h1] at hg
      cases hg
  refine ⟨A, c, hform, by rw [cell_of_row _ _ _ _ _ _ hb3]; rfl, frozen_of_row _ _ _ _ _ hb3, ⟨?_, ⟨h.own.t.of hkR, h.own.cols.of hkR, ?_, ?_, ?_, hsep, ?_, ?_⟩, fun hr => (hRR bx hr).2.1 rfl, hbx, fun e => (hv' bx (by rw [hform]; exact e)).2 rfl, fun y hy e => h.nk y (hyb y hy bx e) e⟩, ?_⟩
  · rw [heap_setCell_at hb3]
    unfold Ix.cells
    rw [hform]
    rfl
  · show Own 2 EntM.cs _ _ _ (Value.slice A ys.length c) _
    rw [← hform]
    exact (ho.rebase fun g hg => (hv' g hg).1).setCell (fun g hg e => (hv' g hg).2 e) v'
  · intro g hg
    have hg' : v'.ownBlock = some g := by rw [hform]; exact hg
    rcases hx.block with he | ⟨g', he, hlt⟩
    · rw [hg'] at he
      refine ⟨fun hr => (hRR g hr).2.2 he.symm, fun y hy e2 => ?_⟩
      exact (h.own.entsN g he.symm).2 y (hyb y hy g e2) e2
    · rw [hg'] at he
      injection he with he
      subst he
      refine ⟨fun hr => by have := (hRR g hr).1; omega, fun y hy e2 => ?_⟩
      have := (Own.lt (h.own.keys y (hyb y hy g e2)).1 g e2).2
      omega
  · intro y hy
    refine ⟨?_, fun g hg hr => ?_⟩
    · rcases hys y hy with h1 | ⟨h1, h2, h3, -⟩
      · have ho1 := (h.own.keys y h1).1
        refine Own.setCell ?_ (fun g hg e => h.nk y h1 (by rw [hg]; exact congrArg some e)) v'
        refine ho1.kept hx.grown ?_
        cases hb : y.kv.ownBlock with
        | none => exact .inl rfl
        | some g => exact .inr fun e2 => (h.own.entsN g e2.symm).2 y h1 hb
      · unfold EntM.kv
        rw [h1, h2, h3]
        exact Own.nil _
    · have h1 := hyb y hy g hg
      rcases hr with hr | hr
      · exact (h.own.keys y h1).2 g hg hr
      · exact (hR2 g hr).2.2.2 y h1 hg
  · intro y hy
    rcases hys y hy with h1 | ⟨-, -, h3, h4⟩
    · exact ⟨((h.own.rows y h1).1).of hkR, fun k hk => ((h.own.rows y h1).2 k hk).of hkR⟩
    · exact ⟨h4.of hk2, fun k hk => by rw [h3] at hk; cases hk⟩
  · intro g hg
    rw [setCell_size]
    exact Nat.lt_of_lt_of_le (hRR g hg).1 hsz
  · refine (show Below base w w' from ?_).setCell (p := ⟨bx, 4, none⟩) hbx v'
    exact hx.below (by omega) fun g hg => (Own.lt h.own.ents g hg).1

/-- The keys of an entry change. -/
theorem cs_keys {R2 : Nat → Prop} {v' : Value} {ks : List Key} {i : Nat} {e : EntM} (h : CB base bx w x R) (hi : x.ents[i]? = some e) (hx : Ext w e.kv w' v') (ho : Own 1 Key.cs 37 0 w' v' ks)
    (hR2 : ∀ g, R2 g → g < w.heap.size ∧ g ≠ bx ∧ (Value.slice x.EA x.ents.length x.ec).ownBlock ≠ some g ∧ ∀ e ∈ x.ents, e.kv.ownBlock ≠ some g)
    (hks : ∀ k ∈ ks, k ∈ e.keys ∨ KOk R2 w k) :
    ∃ A c eb, v' = .slice A ks.length c ∧ x.EA = some ⟨eb, 0, none⟩ ∧ w'.cell? ⟨eb, i * 2 + 1, none⟩ = some e.kv ∧ w'.frozen? ⟨eb, i * 2 + 1, none⟩ = false ∧ CB base bx (w'.setCell ⟨eb, i * 2 + 1, none⟩ v') ⟨x.t, x.XA, x.xc, x.cols, x.EA, x.ec, x.ents.set i ⟨e.vals, A, c, ks⟩⟩ (fun g => R g ∨ R2 g) ∧ Below base w (w'.setCell ⟨eb, i * 2 + 1, none⟩ v') := by
  have hob := h.lt
  have hsz := hx.size
  have hin : i < x.ents.length := (List.getElem?_eq_some_iff.1 hi).1
  have hme : e ∈ x.ents := List.mem_of_getElem? hi
  obtain ⟨A, c, hform, -, -⟩ := ho.form
  obtain ⟨eb, cap, cur, hv, hbeb, hgeb, hcl, hcm, hs, ht⟩ := h.own.ents.open_ (by omega)
  injection hv with hEA _ hcap
  have hebn : (Value.slice x.EA x.ents.length x.ec).ownBlock = some eb := by rw [hEA]; rfl
  have heN := h.own.entsN eb hebn
  have hebl : eb < w.heap.size := (Array.getElem?_eq_some_iff.1 hgeb).1
  have hekne : e.kv.ownBlock ≠ some eb := heN.2 e hme
  have hko := (h.own.keys e hme).1
  have hob2 : e.kv.ownBlock ≠ some bx := h.nk e hme
  have hbx := h.hbx
  have hebx : eb ≠ bx := fun e2 => h.ne (by rw [hebn, e2])
  have hv' : ∀ g, v'.ownBlock = some g → base ≤ g ∧ g ≠ eb ∧ g ≠ bx := fun g hg => by
    rcases hx.block with he | ⟨g', he, hg'⟩
    · rw [hg] at he
      exact ⟨(Own.lt hko g he.symm).1, fun e2 => hekne (by rw [← he, e2]), fun e2 => hob2 (by rw [← he, e2])⟩
    · rw [hg] at he
      injection he with he
      exact ⟨by omega, by omega, by omega⟩
  have hRR : ∀ g, (R g ∨ R2 g) → g < w.heap.size ∧ g ≠ bx ∧ g ≠ eb ∧ e.kv.ownBlock ≠ some g := fun g hg => by
    rcases hg with hg | hg
    · exact ⟨h.own.lt g hg, fun e2 => h.nR (e2 ▸ hg), fun e2 => heN.1 (e2 ▸ hg), fun e2 => (h.own.keys e hme).2 g e2 hg⟩
    · have := hR2 g hg
      exact ⟨this.1, this.2.1, fun e2 => this.2.2.1 (by rw [hebn, e2]), this.2.2.2 e hme⟩
  have hkeep : ∀ g, (R g ∨ R2 g) → (w'.setCell ⟨eb, i * 2 + 1, none⟩ v').heap[g]? = w.heap[g]? ∧ (R g ∨ R2 g) := fun g hg => by
    obtain ⟨h1, h2, h3, h4⟩ := hRR g hg
    exact ⟨(heap_setCell_off h3 v').trans (hx.grown.block g h1 (fun e => h4 e.symm)), hg⟩
  have hkR : ∀ g, R g → (w'.setCell ⟨eb, i * 2 + 1, none⟩ v').heap[g]? = w.heap[g]? ∧ (R g ∨ R2 g) := fun g hg => hkeep g (.inl hg)
  have hk2 : ∀ g, R2 g → (w'.setCell ⟨eb, i * 2 + 1, none⟩ v').heap[g]? = w.heap[g]? ∧ (R g ∨ R2 g) := fun g hg => hkeep g (.inr hg)
  have hb3 : w'.heap[bx]? = some (.cells x.cells 30 (0, 0)) := (hx.grown.block bx hob (fun e => hob2 e.symm)).trans h.box
  have hoe : Own 2 EntM.cs 59 base w' (.slice x.EA x.ents.length x.ec) x.ents := h.own.ents.kept hx.grown (.inr fun e2 => hekne (by rw [← hebn, e2]))
  have hoe' := hoe
  rw [hEA] at hoe'
  obtain ⟨b2, o2, e2, -, hc2⟩ := (hoe'.elems entMLay.len rfl).at_ hin
  injection e2 with e2
  injection e2 with e2 e3
  subst e2 e3
  have hei : x.ents[i] = e := by
    rw [List.getElem?_eq_getElem hin] at hi
    exact Option.some.inj hi
  have hcell := hc2 1 _ rfl
  rw [hei] at hcell
  simp only [Nat.zero_add] at hcell
  obtain ⟨g2, cp2, cur2, hv2, -, hg2, -, -, -, -⟩ := hoe'.open_ (by omega)
  injection hv2 with hv2 _ _
  injection hv2 with hv2
  injection hv2 with hv2
  subst hv2
  obtain ⟨e', he'⟩ : ∃ e' : EntM, e' = ⟨e.vals, A, c, ks⟩ := ⟨_, rfl⟩
  have hek : e'.kv = v' := by rw [he', hform]; rfl
  have hcase : ∀ y ∈ x.ents.set i e', y = e' ∨ (y ∈ x.ents ∧ ∀ g, y.kv.ownBlock = some g → e.kv.ownBlock ≠ some g) := fun y hy => by
    obtain ⟨j, hj, hjy⟩ := List.getElem_of_mem hy
    rw [List.length_set] at hj
    rw [List.getElem_set] at hjy
    by_cases hij : i = j
    · rw [if_pos hij] at hjy
      exact .inl hjy.symm
    · rw [if_neg hij] at hjy
      refine .inr ⟨hjy ▸ List.getElem_mem hj, fun g hg hge => ?_⟩
      rcases Nat.lt_or_gt_of_ne hij with h' | h'
      · exact List.pairwise_iff_getElem.1 h.own.sep i j hin hj h' g (by rw [hei]; exact hge) (by rw [hjy]; exact hg)
      · exact List.pairwise_iff_getElem.1 h.own.sep j i hj hin h' g (by rw [hjy]; exact hg) (by rw [hei]; exact hge)
  -- a block that some other entry's keys lie in is not v''s
  have hother : ∀ y, y ∈ x.ents → (∀ g, y.kv.ownBlock = some g → e.kv.ownBlock ≠ some g) → ∀ g, y.kv.ownBlock = some g → v'.ownBlock ≠ some g := fun y hy hne g hg e2 => by
    rcases hx.block with h1 | ⟨g', h1, hlt⟩
    · rw [e2] at h1
      exact hne g hg h1.symm
    · rw [e2] at h1
      injection h1 with h1
      have := (Own.lt (h.own.keys y hy).1 g hg).2
      omega
  refine ⟨A, c, eb, hform, hEA, hcell, frozen_of_row _ _ _ _ _ hg2, ?_⟩
  rw [← he']
  refine ⟨⟨?_, ⟨h.own.t.of hkR, h.own.cols.of hkR, ?_, ?_, ?_, ?_, ?_, ?_⟩, fun hr => (hRR bx hr).2.1 rfl, hbx, ?_, ?_⟩, ?_⟩
  · rw [heap_setCell_off (fun e2 => hebx e2.symm)]
    unfold Ix.cells at hb3 ⊢
    simp only [List.length_set]
    exact hb3
  · show Own 2 EntM.cs _ _ _ (Value.slice x.EA (x.ents.set i _).length x.ec) _
    rw [List.length_set, hEA]
    refine hoe'.set2 entMLay hin fun z hz => ?_
    rw [hi] at hz
    injection hz with hz
    subst hz
    rw [he', hform]
    rfl
  · intro g hg
    have hg' : (Value.slice x.EA x.ents.length x.ec).ownBlock = some g := by
      have : (Value.slice x.EA (x.ents.set i e').length x.ec).ownBlock = some g := hg
      rwa [List.length_set] at this
    rw [hebn] at hg'
    injection hg' with hg'
    subst hg'
    refine ⟨fun hr => (hRR eb hr).2.2.1 rfl, fun y hy e2 => ?_⟩
    rcases hcase y hy with h1 | ⟨h1, -⟩
    · subst h1
      exact (hv' eb (by rw [← hek]; exact e2)).2.1 rfl
    · exact heN.2 y h1 e2
  · intro y hy
    rcases hcase y hy with h1 | ⟨h1, h2⟩
    · subst h1
      refine ⟨?_, fun g hg hr => ?_⟩
      · rw [hek]
        have hks' : y.keys = ks := by rw [he']
        rw [hks']
        exact (ho.rebase fun g hg => (hv' g hg).1).setCell (fun g hg e3 => (hv' g hg).2.1 e3) v'
      · have hg2 : v'.ownBlock = some g := by rw [← hek]; exact hg
        rcases hx.block with h3 | ⟨g', h3, hlt⟩
        · rw [hg2] at h3
          exact (hRR g hr).2.2.2 h3.symm
        · rw [hg2] at h3
          injection h3 with h3
          have := (hRR g hr).1
          omega
    · have ho1 := (h.own.keys y h1).1
      refine ⟨(ho1.kept hx.grown ?_).setCell (fun g hg e3 => heN.2 y h1 (by rw [hg]; exact congrArg some e3)) v', fun g hg hr => ?_⟩
      · cases hb : y.kv.ownBlock with
        | none => exact .inl rfl
        | some g => exact .inr fun e3 => h2 g hb e3.symm
      · rcases hr with hr | hr
        · exact (h.own.keys y h1).2 g hg hr
        · exact (hR2 g hr).2.2.2 y h1 hg
  · rw [List.pairwise_iff_getElem]
    intro a b ha hb hab g hga hgb
    rw [List.length_set] at ha hb
    simp only [List.getElem_set] at hga hgb
    by_cases h1 : i = a
    · rw [if_pos h1, hek] at hga
      rw [if_neg (by omega)] at hgb
      exact hother _ (List.getElem_mem hb) (fun g' hg' hge => List.pairwise_iff_getElem.1 h.own.sep i b hin hb (by omega) g' (by rw [hei]; exact hge) hg') g hgb hga
    · rw [if_neg h1] at hga
      by_cases h2 : i = b
      · rw [if_pos h2, hek] at hgb
        exact hother _ (List.getElem_mem ha) (fun g' hg' hge => List.pairwise_iff_getElem.1 h.own.sep a i ha hin (by omega) g' hg' (by rw [hei]; exact hge)) g hga hgb
      · rw [if_neg h2] at hgb
        exact List.pairwise_iff_getElem.1 h.own.sep a b ha hb hab g hga hgb
  · intro y hy
    rcases hcase y hy with h1 | ⟨h1, -⟩
    · subst h1
      rw [he']
      refine ⟨((h.own.rows e hme).1).of hkR, fun k hk => ?_⟩
      rcases hks k hk with hk' | hk'
      · exact ((h.own.rows e hme).2 k hk').of hkR
      · exact hk'.of hk2
    · exact ⟨((h.own.rows y h1).1).of hkR, fun k hk => ((h.own.rows y h1).2 k hk).of hkR⟩
  · intro g hg
    rw [setCell_size]
    exact Nat.lt_of_lt_of_le (hRR g hg).1 hsz
  · show (Value.slice x.EA (x.ents.set i e').length x.ec).ownBlock ≠ some bx
    rw [List.length_set]
    exact h.ne
  · intro y hy e2
    rcases hcase y hy with h1 | ⟨h1, -⟩
    · subst h1
      rw [hek] at e2
      exact (hv' bx e2).2.2 rfl
    · exact h.nk y h1 e2
  · refine (show Below base w w' from ?_).setCell (p := ⟨eb, i * 2 + 1, none⟩) (show base ≤ eb from hbeb) v'
    exact hx.below (by omega) fun g hg => (Own.lt hko g hg).1
end
end Go.Proofs.Ytakbabkcidioaaa
