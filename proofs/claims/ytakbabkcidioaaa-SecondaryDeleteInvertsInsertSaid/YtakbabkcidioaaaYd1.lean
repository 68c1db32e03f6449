/-
  A copy of an index in the making: whose its blocks are. No program's walk.
-/
import Derived.Test.YtakbabkcidioaaaYd0
namespace Go.Proofs.Ytakbabkcidioaaa
open Go.RowKit Go.Sort

theorem elem_keys : ElemT Try.prog 23 37 1 24 := ⟨Try.underlying23, by
  have h : (Try.prog.info? 37).map (fun i => (i.zero, i.size, i.bytes)) = some (some (.slice none 0 0), 1, 24) := by kernel_rfl
  obtain ⟨i0, hi, hz0, hz1, hz2⟩ := info_parts h
  exact ⟨i0, _, hi, hz0, hz1, hz2, rfl⟩, by omega⟩
theorem elem_entMs : ElemT Try.prog 28 59 2 48 := ⟨Try.underlying28, by
  have h : (Try.prog.info? 59).map (fun i => (i.zero, i.size, i.bytes)) = some (some (.agg #[.slice none 0 0, .slice none 0 0]), 2, 48) := by kernel_rfl
  obtain ⟨i0, hi, hz0, hz1, hz2⟩ := info_parts h
  exact ⟨i0, _, hi, hz0, hz1, hz2, rfl⟩, by omega⟩

theorem setCell_size (w : World) (p : Addr) (v : Value) : (w.setCell p v).heap.size = w.heap.size := by simp [World.setCell]
theorem heap_setCell_off {w : World} {p : Addr} {k : Nat} (h : k ≠ p.block) (v : Value) : (w.setCell p v).heap[k]? = w.heap[k]? := Below.heap_setCell w p v k h
theorem heap_setCell_at {w : World} {g i : Nat} {cur : Array Value} {e : TypeId} (h : w.heap[g]? = some (.cells cur e (0, 0))) (v : Value) : (w.setCell ⟨g, i, none⟩ v).heap[g]? = some (.cells (cur.setIfInBounds i v) e (0, 0)) := by
  unfold World.setCell
  simp only
  rw [Array.getElem?_modify, if_pos rfl, h]
  simp
theorem KOk.of {K K' : Nat → Prop} {w w' : World} {k : Key} (h : KOk K w k) (hk : ∀ i, K i → w'.heap[i]? = w.heap[i]? ∧ K' i) : KOk K' w' k := (h.keep fun i hi => (hk i hi).1).more fun i hi => (hk i hi).2
theorem Elems.of {α : Type} {sz : Nat} {cs : α → List Value} {K K' : Nat → Prop} {w w' : World} {A : Option Addr} {xs : List α} (h : Elems sz cs w K A xs) (hk : ∀ i, K i → w'.heap[i]? = w.heap[i]? ∧ K' i) : Elems sz cs w' K' A xs := (h.keep fun i hi => (hk i hi).1).more fun i hi => (hk i hi).2
theorem TOk.of {K K' : Nat → Prop} {w w' : World} {t : Tbl} (h : TOk K w t) (hk : ∀ i, K i → w'.heap[i]? = w.heap[i]? ∧ K' i) : TOk K' w' t := ⟨h.cols.of hk, h.pk.of hk⟩

def EntM.vv (e : EntM) : Value := .slice e.vals.A e.vals.row.length e.vals.c
def EntM.kv (e : EntM) : Value := .slice e.KA e.keys.length e.kc
/-- The blocks of an entry's rows. -/
def RK (lo b : Nat) (w : World) (e : EntM) (g : Nat) : Prop := lo ≤ g ∧ g < w.heap.size ∧ g ≠ b ∧ e.kv.ownBlock ≠ some g
/-- The entry that is being copied, in its block b. -/
structure CK (lo b : Nat) (w : World) (e : EntM) : Prop where
  blk : w.heap[b]? = some (.cells #[e.vv, e.kv] 59 (0, 0))
  hlo : lo ≤ b
  own : Own 1 Key.cs 37 (b + 1) w e.kv e.keys
  vals : KOk (RK lo b w e) w e.vals
  key : ∀ k ∈ e.keys, KOk (RK lo b w e) w k
section
variable {lo b : Nat} {w w' : World} {e : EntM}
theorem CK.lt (h : CK lo b w e) : b < w.heap.size := (Array.getElem?_eq_some_iff.1 h.blk).1
theorem CK.below (h : CK lo b w e) (hb : Below w.heap.size w w') : CK lo b w' e :=
  ⟨(hb.block b h.lt).trans h.blk, h.hlo, h.own.below hb, h.vals.of fun g hg => ⟨hb.block g hg.2.1, hg.1, Nat.lt_of_lt_of_le hg.2.1 hb.size, hg.2.2⟩, fun k hk => (h.key k hk).of fun g hg => ⟨hb.block g hg.2.1, hg.1, Nat.lt_of_lt_of_le hg.2.1 hb.size, hg.2.2⟩⟩

/-- One more key, its row cloned. -/
theorem ck_push {lo b : Nat} {W1 w2 : World} {e : EntM} (h : CK lo b W1 e) (hn : e.keys.length < 1000) {key : Row} {A : Option Addr} {c : Nat}
    (hk : Own 3 Val.cs 43 W1.heap.size w2 (.slice A key.length c) key) (hl : key.length ≤ 12) (hb2 : Below W1.heap.size W1 w2) (ty : TypeId) :
    ∃ v3 w3, (Builtin.append_ #[23, 23] ty #[e.kv, .slice (some ⟨w2.heap.size, 0, none⟩) 1 1]).run Try.prog (w2.alloc (.cells #[.slice A key.length c] 37)) = .ok v3 w3
      ∧ (∃ A3 n3 c3, v3 = .slice A3 n3 c3) ∧ w3.cell? ⟨b, 1, none⟩ = some e.kv ∧ w3.frozen? ⟨b, 1, none⟩ = false ∧ (∃ A3 c3, CK lo b (w3.setCell ⟨b, 1, none⟩ v3) ⟨e.vals, A3, c3, e.keys ++ [⟨A, c, key⟩]⟩) ∧ Below lo W1 (w3.setCell ⟨b, 1, none⟩ v3) := by
  have hc2 := h.below hb2
  have hob := h.lt
  obtain ⟨v3, w3, hrun, ho3, hx3⟩ := run_push elem_keys keyLay ty w2 e.kv e.keys (⟨A, c, key⟩ : Key) #[.slice A key.length c] hc2.own rfl (by omega) (by unfold maxLen; omega) (by have := hb2.size; omega) rfl
  have hvne : e.kv.ownBlock ≠ some b := fun e => by
    have := (Own.lt h.own b e).1
    omega
  have hb3 : w3.heap[b]? = some (.cells #[e.vv, e.kv] 59 (0, 0)) := (hx3.grown.block b (Nat.lt_of_lt_of_le hob hb2.size) (fun e => hvne e.symm)).trans ((hb2.block b hob).trans h.blk)
  have hv3 : ∀ g, v3.ownBlock = some g → b + 1 ≤ g := fun g hg => (Own.lt ho3 g hg).1
  have hlo := h.hlo
  have hbelow : Below lo W1 (w3.setCell ⟨b, 1, none⟩ v3) := by
    refine Below.setCell ?_ hlo v3
    refine (hb2.mono (by omega)).trans (hx3.below (by have := hb2.size; omega) fun g hg => ?_)
    have := (Own.lt h.own g hg).1
    omega
  obtain ⟨A3, c3, hform, -, -⟩ := ho3.form
  have hsz3 : w2.heap.size ≤ w3.heap.size := hx3.size
  refine ⟨v3, w3, hrun, ⟨A3, _, c3, hform⟩, by rw [cell_of_row _ _ _ _ _ _ hb3]; rfl, frozen_of_row _ _ _ _ _ hb3, ⟨A3, c3, ?_⟩, hbelow⟩
  have hkv : (⟨e.vals, A3, c3, e.keys ++ [⟨A, c, key⟩]⟩ : EntM).kv = v3 := hform.symm
  have hkeep : ∀ k, RK lo b w2 e k → (w3.setCell ⟨b, 1, none⟩ v3).heap[k]? = w2.heap[k]? ∧ RK lo b (w3.setCell ⟨b, 1, none⟩ v3) ⟨e.vals, A3, c3, e.keys ++ [⟨A, c, key⟩]⟩ k := fun k hk => by
    obtain ⟨h1, h2, h3, h4⟩ := hk
    refine ⟨(heap_setCell_off h3 v3).trans (hx3.grown.block k h2 (fun e => h4 e.symm)), h1, ?_, h3, ?_⟩
    · rw [setCell_size]; exact Nat.lt_of_lt_of_le h2 hsz3
    · rw [hkv]; exact hx3.ne h4 h2
  refine ⟨?_, hlo, ?_, hc2.vals.of hkeep, ?_⟩
  · rw [hkv, heap_setCell_at hb3]; rfl
  · rw [hkv]
    exact ho3.setCell (fun g hg e => by have := hv3 g hg; simp only at e; omega) v3
  · intro k hk'
    rcases List.mem_append.1 hk' with hm | hm
    · exact (hc2.key k hm).of hkeep
    · rw [List.mem_singleton.1 hm]
      have hkk : KOk (fun g => (Value.slice A key.length c).ownBlock = some g) w2 ⟨A, c, key⟩ := ⟨hk.elems valLay.len rfl, hl⟩
      exact hkk.of fun g hg => by
        have h1 := Own.lt hk g hg
        exact hkeep g ⟨by omega, h1.2, by omega, fun e => by have := (Own.lt h.own g e).2; omega⟩
end

/-- An index of the call's own: whose its blocks are; its rows, columns and table lie in R. -/
structure IxOwn (base : Nat) (w : World) (x : Ix) (R : Nat → Prop) : Prop where
  t : TOk R w x.t
  cols : Elems 1 intCs w R x.XA x.cols
  ents : Own 2 EntM.cs 59 base w (.slice x.EA x.ents.length x.ec) x.ents
  entsN : ∀ g, (Value.slice x.EA x.ents.length x.ec).ownBlock = some g → ¬ R g ∧ ∀ e ∈ x.ents, e.kv.ownBlock ≠ some g
  keys : ∀ e ∈ x.ents, Own 1 Key.cs 37 base w e.kv e.keys ∧ ∀ g, e.kv.ownBlock = some g → ¬ R g
  sep : x.ents.Pairwise fun a b => ∀ g, a.kv.ownBlock = some g → b.kv.ownBlock ≠ some g
  rows : ∀ e ∈ x.ents, KOk R w e.vals ∧ ∀ k ∈ e.keys, KOk R w k
  lt : ∀ g, R g → g < w.heap.size
/-- .. in its variable's block. -/
structure CS (bx : Nat) (w : World) (x : Ix) (R : Nat → Prop) : Prop where
  box : w.heap[bx]? = some (.cells x.cells 30 (0, 0))
  own : IxOwn (bx + 1) w x R
  nR : ¬ R bx
section
variable {base bx : Nat} {w w' : World} {x : Ix} {R : Nat → Prop}
theorem IxOwn.below (h : IxOwn base w x R) (hb : Below w.heap.size w w') : IxOwn base w' x R :=
  have hk : ∀ i, R i → w'.heap[i]? = w.heap[i]? ∧ R i := fun i hi => ⟨hb.block i (h.lt i hi), hi⟩
  ⟨h.t.of hk, h.cols.of hk, h.ents.below hb, h.entsN, fun e he => ⟨(h.keys e he).1.below hb, (h.keys e he).2⟩, h.sep, fun e he => ⟨(h.rows e he).1.of hk, fun k hk' => ((h.rows e he).2 k hk').of hk⟩, fun g hg => Nat.lt_of_lt_of_le (h.lt g hg) hb.size⟩
theorem IxOwn.ok (h : IxOwn base w x R) : IOk (· < w.heap.size) w x :=
  have hk : ∀ i, R i → w.heap[i]? = w.heap[i]? ∧ i < w.heap.size := fun i hi => ⟨rfl, h.lt i hi⟩
  ⟨h.t.of hk, h.cols.of hk, (h.ents.elems entMLay.len rfl).more fun g hg => (Own.lt h.ents g hg).2, fun e he => ⟨(h.rows e he).1.of hk, ((h.keys e he).1.elems keyLay.len rfl).more fun g hg => (Own.lt (h.keys e he).1 g hg).2, fun k hk' => ((h.rows e he).2 k hk').of hk⟩⟩
theorem IxOwn.mono {base' : Nat} (h : IxOwn base w x R) (hb : base' ≤ base) : IxOwn base' w x R :=
  ⟨h.t, h.cols, h.ents.mono hb, h.entsN, fun e he => ⟨(h.keys e he).1.mono hb, (h.keys e he).2⟩, h.sep, h.rows, h.lt⟩
theorem IxOwn.setCell (h : IxOwn base w x R) {p : Addr} (hp : p.block < base) (hR : ¬ R p.block) (u : Value) : IxOwn base (w.setCell p u) x R :=
  have hk : ∀ i, R i → (w.setCell p u).heap[i]? = w.heap[i]? ∧ R i := fun i hi => ⟨heap_setCell_off (fun e => hR (e ▸ hi)) u, hi⟩
  ⟨h.t.of hk, h.cols.of hk, h.ents.setCell (fun g hg e => by have := (Own.lt h.ents g hg).1; omega) u, h.entsN, fun e he => ⟨(h.keys e he).1.setCell (fun g hg e' => by have := (Own.lt (h.keys e he).1 g hg).1; omega) u, (h.keys e he).2⟩, h.sep, fun e he => ⟨(h.rows e he).1.of hk, fun k hk' => ((h.rows e he).2 k hk').of hk⟩, fun g hg => by rw [setCell_size]; exact h.lt g hg⟩
theorem CS.lt (h : CS bx w x R) : bx < w.heap.size := (Array.getElem?_eq_some_iff.1 h.box).1
theorem CS.below (h : CS bx w x R) (hb : Below w.heap.size w w') : CS bx w' x R := ⟨(hb.block bx h.lt).trans h.box, h.own.below hb, h.nR⟩

/-- The copied entry is appended. -/
theorem cs_push {b : Nat} {W1 w2 : World} {e : EntM} (h : CS bx W1 x R) (hn : x.ents.length < 1000) (hk : CK W1.heap.size b w2 e) (hb2 : Below W1.heap.size W1 w2) (ty : TypeId) :
    ∃ v3 w3, (Builtin.append_ #[28, 28] ty #[.slice x.EA x.ents.length x.ec, .slice (some ⟨w2.heap.size, 0, none⟩) 1 1]).run Try.prog (w2.alloc (.cells #[e.vv, e.kv] 59)) = .ok v3 w3
      ∧ (∃ A3 n3 c3, v3 = .slice A3 n3 c3) ∧ w3.cell? ⟨bx, 4, none⟩ = some (.slice x.EA x.ents.length x.ec) ∧ w3.frozen? ⟨bx, 4, none⟩ = false ∧ (∃ A3 c3 R', CS bx (w3.setCell ⟨bx, 4, none⟩ v3) ⟨x.t, x.XA, x.xc, x.cols, A3, c3, x.ents ++ [e]⟩ R' ∧ ∀ g, R' g → R g ∨ W1.heap.size ≤ g) ∧ Below bx W1 (w3.setCell ⟨bx, 4, none⟩ v3) := by
  have hs2 := h.below hb2
  have hob := h.lt
  have hsz := hb2.size
  obtain ⟨v3, w3, hrun, ho3, hx3⟩ := run_push elem_entMs entMLay ty w2 (.slice x.EA x.ents.length x.ec) x.ents e #[e.vv, e.kv] hs2.own.ents rfl (by omega) (by unfold maxLen; omega) (by omega) rfl
  have hvne : (Value.slice x.EA x.ents.length x.ec).ownBlock ≠ some bx := fun e => by
    have := (Own.lt h.own.ents bx e).1
    omega
  have hb3 : w3.heap[bx]? = some (.cells x.cells 30 (0, 0)) := (hx3.grown.block bx (by omega) (fun e => hvne e.symm)).trans hs2.box
  have hbelow : Below bx W1 (w3.setCell ⟨bx, 4, none⟩ v3) := by
    refine (show Below bx W1 w3 from ?_).setCell (p := ⟨bx, 4, none⟩) (Nat.le_refl bx) v3
    refine (hb2.mono (by omega)).trans (hx3.below (by omega) fun g hg => ?_)
    have := (Own.lt h.own.ents g hg).1
    omega
  obtain ⟨A3, c3, hform, -, -⟩ := ho3.form
  have hsz3 : w2.heap.size ≤ w3.heap.size := hx3.size
  obtain ⟨R', hR'⟩ : ∃ R' : Nat → Prop, R' = fun g => R g ∨ RK W1.heap.size b w2 e g := ⟨_, rfl⟩
  have hR1 : ∀ g, R' g ↔ R g ∨ RK W1.heap.size b w2 e g := fun g => by rw [hR']
  refine ⟨v3, w3, hrun, ⟨A3, _, c3, hform⟩, by rw [cell_of_row _ _ _ _ _ _ hb3]; rfl, frozen_of_row _ _ _ _ _ hb3, ⟨A3, c3, R', ?_, fun g hg => ((hR1 g).1 hg).imp id fun h => h.1⟩, hbelow⟩
  have hev : (Value.slice A3 (x.ents ++ [e]).length c3) = v3 := hform.symm
  have hneR : ∀ g, R' g → (Value.slice x.EA x.ents.length x.ec).ownBlock ≠ some g := fun g hg e' => by
    rcases (hR1 g).1 hg with hg | hg
    · exact (h.own.entsN g e').1 hg
    · have h1 := (Own.lt h.own.ents g e').2
      have := hg.1
      omega
  have hltR : ∀ g, R' g → g < w2.heap.size ∧ g ≠ bx := fun g hg => by
    rcases (hR1 g).1 hg with hg | hg
    · exact ⟨Nat.lt_of_lt_of_le (h.own.lt g hg) hsz, fun e => h.nR (e ▸ hg)⟩
    · exact ⟨hg.2.1, by have := hg.1; omega⟩
  have hkeep : ∀ g, R' g → (w3.setCell ⟨bx, 4, none⟩ v3).heap[g]? = w2.heap[g]? ∧ R' g := fun g hg =>
    ⟨(heap_setCell_off (hltR g hg).2 v3).trans (hx3.grown.block g (hltR g hg).1 (fun e => hneR g hg e.symm)), hg⟩
  have hkeepR : ∀ g, R g → (w3.setCell ⟨bx, 4, none⟩ v3).heap[g]? = w2.heap[g]? ∧ R' g := fun g hg => hkeep g ((hR1 g).2 (.inl hg))
  have hkeepK : ∀ g, RK W1.heap.size b w2 e g → (w3.setCell ⟨bx, 4, none⟩ v3).heap[g]? = w2.heap[g]? ∧ R' g := fun g hg => hkeep g ((hR1 g).2 (.inr hg))
  have hblo : ∀ g, e.kv.ownBlock = some g → W1.heap.size ≤ g ∧ g < w2.heap.size := fun g hg => by
    have h1 := Own.lt hk.own g hg
    have := hk.hlo
    exact ⟨by omega, h1.2⟩
  have hv3 : ∀ g, v3.ownBlock = some g → ¬ R' g ∧ g ≠ bx ∧ ∀ e' ∈ x.ents ++ [e], e'.kv.ownBlock ≠ some g := fun g hg => by
    rcases hx3.block with he | ⟨g', he, hg'⟩
    · rw [hg] at he
      have h1 := Own.lt h.own.ents g he.symm
      have h2 := h.own.entsN g he.symm
      refine ⟨fun hr => hneR g hr he.symm, by omega, fun e' he' e2 => ?_⟩
      rcases List.mem_append.1 he' with hm | hm
      · exact h2.2 e' hm e2
      · rw [List.mem_singleton.1 hm] at e2
        have := (hblo g e2).1
        omega
    · rw [hg] at he
      injection he with he
      subst he
      refine ⟨fun hr => by have := (hltR g hr).1; omega, by omega, fun e' he' e2 => ?_⟩
      rcases List.mem_append.1 he' with hm | hm
      · have := (Own.lt (h.own.keys e' hm).1 g e2).2
        omega
      · rw [List.mem_singleton.1 hm] at e2
        have := (hblo g e2).2
        omega
  have hkown : ∀ e' ∈ x.ents ++ [e], Own 1 Key.cs 37 (bx + 1) w2 e'.kv e'.keys ∧ (∀ g, e'.kv.ownBlock = some g → ¬ R' g) := fun e' he' => by
    rcases List.mem_append.1 he' with hm | hm
    · refine ⟨(hs2.own.keys e' hm).1, fun g hg hr => ?_⟩
      rcases (hR1 g).1 hr with hr | hr
      · exact (h.own.keys e' hm).2 g hg hr
      · have := (Own.lt (h.own.keys e' hm).1 g hg).2
        have := hr.1
        omega
    · rw [List.mem_singleton.1 hm]
      refine ⟨hk.own.mono (by have := hk.hlo; omega), fun g hg hr => ?_⟩
      rcases (hR1 g).1 hr with hr | hr
      · have := h.own.lt g hr
        have := (hblo g hg).1
        omega
      · exact hr.2.2.2 hg
  refine ⟨?_, ⟨hs2.own.t.of hkeepR, hs2.own.cols.of hkeepR, ?_, ?_, fun e' he' => ⟨?_, (hkown e' he').2⟩, ?_, fun e' he' => ?_, fun g hg => ?_⟩, fun hr => (hltR bx hr).2 rfl⟩
  · rw [heap_setCell_at hb3]
    unfold Ix.cells
    rw [hev]
    rfl
  · show Own 2 EntM.cs _ _ _ (Value.slice A3 (x.ents ++ [e]).length c3) _
    rw [hev]
    exact ho3.setCell (fun g hg => (hv3 g hg).2.1) v3
  · intro g hg
    have hg' : (Value.slice A3 (x.ents ++ [e]).length c3).ownBlock = some g := hg
    rw [hev] at hg'
    exact ⟨(hv3 g hg').1, (hv3 g hg').2.2⟩
  · refine Own.setCell ?_ (fun g hg e2 => ?_) v3
    · refine (hkown e' he').1.kept hx3.grown ?_
      cases hb : e'.kv.ownBlock with
      | none => exact .inl rfl
      | some g =>
        refine .inr fun e2 => ?_
        rcases List.mem_append.1 he' with hm | hm
        · exact (h.own.entsN g e2.symm).2 e' hm hb
        · rw [List.mem_singleton.1 hm] at hb
          have := (hblo g hb).1
          have := (Own.lt h.own.ents g e2.symm).2
          omega
    · have := (Own.lt (hkown e' he').1 g hg).1
      simp only at e2
      omega
  · rw [List.pairwise_append]
    refine ⟨h.own.sep, List.pairwise_singleton _ _, fun a ha b' hb' g hg e2 => ?_⟩
    rw [List.mem_singleton.1 hb'] at e2
    have := (Own.lt (h.own.keys a ha).1 g hg).2
    have := (hblo g e2).1
    omega
  · rcases List.mem_append.1 he' with hm | hm
    · exact ⟨((hs2.own.rows e' hm).1).of hkeepR, fun k hk' => ((hs2.own.rows e' hm).2 k hk').of hkeepR⟩
    · rw [List.mem_singleton.1 hm]
      exact ⟨hk.vals.of hkeepK, fun k hk' => (hk.key k hk').of hkeepK⟩
  · rw [setCell_size]
    exact Nat.lt_of_lt_of_le (hltR g hg).1 hsz3
end
end Go.Proofs.Ytakbabkcidioaaa
