/-
  Words on memory: slices whose elements lie in blocks of a set S; frames. No program in sight.
  Slices of the call's own that grow by append: the words and the laws. No program in sight.
  From a law's walk ('it returns true, and nothing that was there has turned') to its row; the reading of arguments: rows of values, slices of bytes.
  Column values and rows as plain data; what value.Validate and encoding.CheckRow answer. No program in sight.
  The order of values and of rows. No program in sight.
  The walks of the comparison of values and rows.
  Keys and entries in memory; the binary search, plain. No program's walk.
-/
import Derived.WalkKit
import Derived.WalkSpells
import Derived.WalkLawsBesides
import Derived.Lib.Hide
import Derived.Deep.Slices
import Derived.Deep.Fields
import Derived.Deep.Draws
import Derived.ProofKit
import Derived.Maps.AppendAt
import Derived.Lib.AppendStr
import Derived.Test.YtefifkleamiabaaGreatDoorRows
import Derived.OpenShut
import Derived.Lib.Bytealg
import Derived.Lib.Walk
import Derived.Deep.Cut
import Derived.Deep.CutRange
import Derived.Shelf.SlSortCmp.QuietGrown
namespace Go.Proofs.YtefifkleamiabaaGreatDoor
open Go.RowKit

/-- The elements xs, each of sz cells, lie at the address A, in a block of S. -/
def Elems {α : Type} (sz : Nat) (cs : α → List Value) (w : World) (S : Nat → Prop) (A : Option Addr) (xs : List α) : Prop :=
  0 < xs.length → ∃ b off, A = some ⟨b, off, none⟩ ∧ S b ∧ ∀ i x, xs[i]? = some x → ∀ j u, (cs x)[j]? = some u → w.cell? ⟨b, off + i * sz + j, none⟩ = some u

/-- The blocks of S are in w' as they were in w. -/
def Keeps (S : Nat → Prop) (w w' : World) : Prop := ∀ k, S k → w'.heap[k]? = w.heap[k]?

section
variable {α : Type} {sz : Nat} {cs : α → List Value} {w w' : World} {S S' : Nat → Prop} {A : Option Addr} {xs : List α}

theorem Elems.keep (h : Elems sz cs w S A xs) (hk : Keeps S w w') : Elems sz cs w' S A xs := fun hn => by
  obtain ⟨b, off, e, hs, hc⟩ := h hn
  exact ⟨b, off, e, hs, fun i x hx j u hu => (World.cell?_of_block (w := w) (hk b hs)).trans (hc i x hx j u hu)⟩

theorem Elems.more (h : Elems sz cs w S A xs) (hs : ∀ k, S k → S' k) : Elems sz cs w S' A xs := fun hn => by
  obtain ⟨b, off, e, hb, hc⟩ := h hn
  exact ⟨b, off, e, hs b hb, hc⟩

theorem Elems.drewN (h : Elems sz cs w S A xs) (n : Nat) : Elems sz cs (w.drewN n) S A xs := h
theorem Elems.drew (h : Elems sz cs w S A xs) : Elems sz cs w.drew S A xs := h
theorem Elems.nil (w : World) (S : Nat → Prop) (A : Option Addr) : Elems sz cs w S A ([] : List α) := fun h => absurd h (by simp)

theorem Elems.at_ {k : Nat} (h : Elems sz cs w S A xs) (hk : k < xs.length) : ∃ b off, A = some ⟨b, off, none⟩ ∧ S b ∧ ∀ j u, (cs xs[k])[j]? = some u → w.cell? ⟨b, off + k * sz + j, none⟩ = some u := by
  obtain ⟨b, off, e, hb, hc⟩ := h (by omega)
  exact ⟨b, off, e, hb, hc k _ (List.getElem?_eq_getElem hk)⟩

theorem Elems.take (h : Elems sz cs w S A xs) (n : Nat) : Elems sz cs w S A (xs.take n) := fun hn => by
  obtain ⟨b, off, e, hb, hc⟩ := h (by rw [List.length_take] at hn; omega)
  refine ⟨b, off, e, hb, fun i x hx => hc i x ?_⟩
  rw [List.getElem?_take] at hx
  split at hx
  · exact hx
  · cases hx
theorem Keeps.refl (S : Nat → Prop) (w : World) : Keeps S w w := fun _ _ => rfl
theorem Keeps.trans {a b c : World} (h : Keeps S a b) (k : Keeps S b c) : Keeps S a c := fun i hi => (k i hi).trans (h i hi)
theorem Keeps.mono (h : Keeps S w w') (hs : ∀ k, S' k → S k) : Keeps S' w w' := fun i hi => h i (hs i hi)
theorem Keeps.of_below {B : Nat} (h : Below B w w') (hs : ∀ k, S k → k < B) : Keeps S w w' := fun i hi => h.block i (hs i hi)
theorem Keeps.of_grown {row : Option Nat} (h : w.grownBy w' row) (hs : ∀ k, S k → k < w.heap.size ∧ some k ≠ row) : Keeps S w w' := fun i hi => h.block i (hs i hi).1 (hs i hi).2
end

theorem below_of_grown {w w' : World} {row : Option Nat} {B : Nat} (hg : w.grownBy w' row) (hB : B ≤ w.heap.size) (hr : ∀ g, row = some g → B ≤ g) : Below B w w' :=
  ⟨hg.os, hg.tape, hg.output, hg.size, fun k hk => hg.block k (by omega) (fun e => by have := hr k e.symm; omega)⟩
theorem below_drewN {B : Nat} {a w : World} (h : Below B a w) (n : Nat) : Below B a (w.drewN n) := ⟨h.os, h.tape, h.output, h.size, h.block⟩

theorem val_int {k : IntKind} {a b : Int} (h : a = b) : Value.int k a = .int k b := by rw [h]
theorem ret_int {k : IntKind} {a b : Int} (h : a = b) : Ending.returned (.int k a) = .returned (.int k b) := by rw [h]
theorem ret_bool {a b : Bool} (h : a = b) : Ending.returned (.bool a) = .returned (.bool b) := by rw [h]

end Go.Proofs.YtefifkleamiabaaGreatDoor

namespace Go.Proofs.YtefifkleamiabaaGreatDoor
open Go.RowKit

/-- The element type e of the slice type t: sz cells, so many bytes. -/
structure ElemT (P : Program) (t e : TypeId) (sz bytes : Nat) : Prop where
  und : P.underlying t = some (.slice e)
  info : ∃ (i : TypeInfo) (z : Value), P.info? e = some i ∧ i.zero = some z ∧ i.size = sz ∧ i.bytes = bytes ∧ z.cells.size = sz
  pos : 0 < sz

/-- What each element lies in: sz cells, each of one cell's kind. -/
structure Lay {α : Type} (sz : Nat) (cs : α → List Value) : Prop where
  len : ∀ x, (cs x).length = sz
  one : ∀ x, ∀ c ∈ cs x, c.oneCell' = true

/-- The slice v is nil or lies at the head of a block of the call's own, from base on; its elements are xs. -/
def Own {α : Type} (sz : Nat) (cs : α → List Value) (e : TypeId) (base : Nat) (w : World) (v : Value) (xs : List α) : Prop :=
  w.ownsRow base e sz v xs.length (xs.flatMap cs)

/-- From w to w': no old block but that of v has turned; v' lies where v lay, or in a new block. -/
structure Ext (w : World) (v : Value) (w' : World) (v' : Value) : Prop where
  grown : w.grownBy w' v.ownBlock
  block : v'.ownBlock = v.ownBlock ∨ ∃ g, v'.ownBlock = some g ∧ w.heap.size ≤ g

section
variable {a b c w w' : World} {va vb vc v v' : Value}

theorem Ext.refl (w : World) (v : Value) : Ext w v w v := ⟨World.grownBy.refl w _, .inl rfl⟩
theorem Ext.trans (h : Ext a va b vb) (k : Ext b vb c vc) : Ext a va c vc := by
  refine ⟨⟨k.grown.os.trans h.grown.os, k.grown.tape.trans h.grown.tape, k.grown.output.trans h.grown.output, Nat.le_trans h.grown.size k.grown.size, fun i hi hne => ?_⟩, ?_⟩
  · refine (k.grown.block i (Nat.lt_of_lt_of_le hi h.grown.size) ?_).trans (h.grown.block i hi hne)
    rcases h.block with e | ⟨g, e, hg⟩
    · rw [e]; exact hne
    · rw [e]; intro he; injection he with he; omega
  · rcases k.block with e | ⟨g, e, hg⟩
    · rcases h.block with e' | ⟨g', e', hg'⟩
      · exact .inl (e.trans e')
      · exact .inr ⟨g', e.trans e', hg'⟩
    · exact .inr ⟨g, e, Nat.le_trans h.grown.size hg⟩
theorem Ext.of_below (h : Below w.heap.size w w') (v : Value) : Ext w v w' v :=
  ⟨⟨h.os, h.tape, h.output, h.size, fun i hi _ => h.block i hi⟩, .inl rfl⟩
theorem Ext.alloc (h : Ext a va b vb) (o : Obj) : Ext a va (b.alloc o) vb := h.trans (Ext.of_below ((Below.refl _ _).alloc (Nat.le_refl _) _) _)
theorem Ext.drewN (h : Ext a va b vb) (n : Nat) : Ext a va (b.drewN n) vb := h.trans (Ext.of_below (below_drewN (Below.refl _ _) n) _)
theorem Ext.drew (h : Ext a va b vb) : Ext a va b.drew vb := h.trans (Ext.of_below (Below.refl _ _).drew _)
theorem Ext.then_below (h : Ext a va b vb) (k : Below b.heap.size b c) : Ext a va c vb := h.trans (Ext.of_below k _)
theorem Ext.setCell (h : Ext a va b vb) {p : Addr} (hp : a.heap.size ≤ p.block) (u : Value) : Ext a va (b.setCell p u) vb :=
  ⟨⟨h.grown.os, h.grown.tape, h.grown.output, by simpa [World.setCell] using h.grown.size, fun i hi hne => (Below.heap_setCell b p u i (by omega)).trans (h.grown.block i hi hne)⟩, h.block⟩
/-- What lies below a base, where v is the call's own from base on. -/
theorem Ext.below {base : Nat} (h : Ext a va b vb) (hB : base ≤ a.heap.size) (hv : ∀ g, va.ownBlock = some g → base ≤ g) : Below base a b := below_of_grown h.grown hB hv
theorem Ext.size (h : Ext a va b vb) : a.heap.size ≤ b.heap.size := h.grown.size
theorem Ext.keeps {S : Nat → Prop} (h : Ext a va b vb) (hs : ∀ k, S k → k < a.heap.size ∧ some k ≠ va.ownBlock) : Keeps S a b := Keeps.of_grown h.grown hs
/-- A block that was there and is not v's is not v''s. -/
theorem Ext.ne (h : Ext a va b vb) {g : Nat} (hne : va.ownBlock ≠ some g) (hg : g < a.heap.size) : vb.ownBlock ≠ some g := by
  rcases h.block with e | ⟨g', e, hg'⟩
  · rw [e]; exact hne
  · rw [e]; intro he; injection he with he; omega
theorem size1 (w : World) (o : Obj) : (w.alloc o).heap.size = w.heap.size + 1 := by simp
theorem alloc2_at (w : World) (a b : Obj) : ((w.alloc a).alloc b).heap[w.heap.size + 1]? = some b := by
  have := heap_alloc_new (w.alloc a) b
  rwa [size1] at this
theorem le_size2 {n : Nat} {w : World} (h : n ≤ w.heap.size) (a b : Obj) : n ≤ ((w.alloc a).alloc b).heap.size := by simp; omega
theorem le_size1 {n : Nat} {w : World} (h : n ≤ w.heap.size) (o : Obj) : n ≤ (w.alloc o).heap.size := by simp; omega
theorem Ext.base {n : Nat} (h : Ext a va b vb) (hB : n ≤ a.heap.size) : n ≤ b.heap.size := Nat.le_trans hB h.size
theorem Ext.own_lt {base : Nat} (h : Ext a va b vb) (hv : ∀ g, va.ownBlock = some g → base ≤ g) (hB : base ≤ a.heap.size) : ∀ g, vb.ownBlock = some g → base ≤ g := by
  intro g hg
  rcases h.block with e | ⟨g', e, hg'⟩
  · exact hv g (e ▸ hg)
  · rw [e] at hg; injection hg with hg; omega
end

section
variable {α : Type} {sz : Nat} {cs : α → List Value} {e : TypeId} {base : Nat} {w w' : World} {v v' : Value} {xs : List α}

theorem Own.nil (w : World) : Own sz cs e base w (.slice none 0 0) ([] : List α) := World.ownsRow_nil w base e sz
theorem Own.lt (h : Own sz cs e base w v xs) : ∀ g, v.ownBlock = some g → base ≤ g ∧ g < w.heap.size := World.ownsRow.lt h
theorem Own.kept {row : Option Nat} (h : Own sz cs e base w v xs) (hg : w.grownBy w' row) (hne : v.ownBlock = none ∨ v.ownBlock ≠ row) : Own sz cs e base w' v xs := World.ownsRow.kept h hg hne
theorem Own.alloc (h : Own sz cs e base w v xs) (o : Obj) : Own sz cs e base (w.alloc o) v xs := World.ownsRow.alloc h o
theorem Own.below (h : Own sz cs e base w v xs) (hb : Below w.heap.size w w') : Own sz cs e base w' v xs :=
  h.kept (row := none) ⟨hb.os, hb.tape, hb.output, hb.size, fun k hk _ => hb.block k hk⟩ (by cases hv : v.ownBlock <;> simp)
theorem Own.drewN (h : Own sz cs e base w v xs) (n : Nat) : Own sz cs e base (w.drewN n) v xs := h.below (below_drewN (Below.refl _ _) n)
theorem Own.drew (h : Own sz cs e base w v xs) : Own sz cs e base w.drew v xs := h.below (Below.refl _ _).drew
/-- A store into another block. -/
theorem Own.setCell (h : Own sz cs e base w v xs) {p : Addr} (hp : ∀ g, v.ownBlock = some g → g ≠ p.block) (u : Value) : Own sz cs e base (w.setCell p u) v xs := by
  refine h.kept (row := some p.block) ⟨rfl, rfl, rfl, by simp [World.setCell], fun k _ hk => Below.heap_setCell w p u k (fun e => hk (by rw [e]))⟩ ?_
  cases hv : v.ownBlock with
  | none => exact .inl rfl
  | some g => exact .inr (fun e => hp g hv (by injection e))
theorem Own.mono {base' : Nat} (h : Own sz cs e base w v xs) (hb : base' ≤ base) : Own sz cs e base' w v xs := by
  refine ⟨h.1, ?_⟩
  rcases h.2 with h | ⟨g, cap, cur, h1, h2, h3⟩
  · exact .inl h
  · exact .inr ⟨g, cap, cur, h1, Nat.le_trans hb h2, h3⟩
/-- Its form: a slice with so many elements. -/
theorem Own.form (h : Own sz cs e base w v xs) : ∃ A c, v = .slice A xs.length c ∧ xs.length ≤ c ∧ c ≤ maxLen := by
  rcases h.2 with ⟨rfl, hn⟩ | ⟨g, cap, cur, rfl, _, _, hnc, hcm, _⟩
  · exact ⟨none, 0, by rw [hn], by omega, by unfold maxLen; omega⟩
  · exact ⟨_, cap, rfl, hnc, hcm⟩

theorem flatMap_getElem? (hcs : ∀ x, (cs x).length = sz) : ∀ (xs : List α) (i : Nat) (x : α), xs[i]? = some x → ∀ j, j < sz → (xs.flatMap cs)[i * sz + j]? = (cs x)[j]?
  | [], i, x, h, j, hj => by simp at h
  | y :: ys, 0, x, h, j, hj => by
    simp at h
    subst h
    rw [List.flatMap_cons, List.getElem?_append_left (by rw [hcs]; omega)]
    congr 1
    omega
  | y :: ys, i + 1, x, h, j, hj => by
    simp at h
    have e : (i + 1) * sz = sz + i * sz := by rw [Nat.succ_mul]; omega
    rw [List.flatMap_cons, List.getElem?_append_right (by rw [hcs]; omega), hcs, ← flatMap_getElem? hcs ys i x h j hj]
    congr 1
    omega

/-- An own slice read as elements. -/
theorem Own.elems (h : Own sz cs e base w v xs) (hcs : ∀ x, (cs x).length = sz) {A : Option Addr} {n c : Nat} (hv : v = .slice A n c) : Elems sz cs w (fun k => v.ownBlock = some k) A xs := fun hn => by
  subst hv
  rcases h.2 with ⟨hv, hz⟩ | ⟨g, cap, cur, hv, _⟩
  · omega
  · injection hv with hA _ _
    subst hA
    refine ⟨g, 0, rfl, rfl, fun i x hx j u hu => ?_⟩
    have hj : j < sz := by rw [← hcs x]; exact (List.getElem?_eq_some_iff.1 hu).1
    have := World.ownsRow.cells h (g := g) rfl (i * sz + j) u (by rw [flatMap_getElem? hcs xs i x hx j hj]; exact hu)
    rw [Addr.add_lit] at this
    simpa [Nat.add_assoc] using this
end

section
variable {α : Type} {P : Program} {t e : TypeId} {sz bytes : Nat} {cs : α → List Value} {base : Nat}

/-- 'append(v, y)': one element, laid ahead of it in a new block. -/
theorem run_push (E : ElemT P t e sz bytes) (L : Lay sz cs) (ty : TypeId) (w : World) (v : Value) (xs : List α) (y : α) (u : Array Value)
    (hown : Own sz cs e base w v xs) (hu : u.toList = cs y) (hlen : (xs.length + 1) * bytes ≤ 140737488355328) (hmax : xs.length + 1 ≤ maxLen) (hbase : base ≤ w.heap.size) {g : Nat} (hg : w.heap.size = g) :
    ∃ v' w', (Builtin.append_ #[t, t] ty #[v, .slice (some ⟨g, 0, none⟩) 1 1]).run P (w.alloc (.cells u e)) = .ok v' w' ∧ Own sz cs e base w' v' (xs ++ [y]) ∧ Ext w v w' v' := by
  subst hg
  obtain ⟨i, z, hi, hz, h2, h3, h4⟩ := E.info
  obtain ⟨v', w', hr, hown', hg, _, hat⟩ := Go.run_append_own_at (P := P) (w.alloc (.cells u e)) base t ty e i z sz bytes E.und hi hz h2 h3 h4 E.pos v xs.length (xs.flatMap cs) (World.ownsRow.alloc hown _) ⟨w.heap.size, 0, none⟩ 1 1 u.toList (by rw [hu, L.len]; omega)
    (fun j c hj => by
      rw [Addr.add_lit, cell_of_row _ w.heap.size _ u e (0, 0) (heap_alloc_new w _)]
      simpa using hj) (by rw [hu]; exact L.one y) hmax hlen (by simp; omega)
  have hsz : (w.alloc (.cells u e)).heap.size = w.heap.size + 1 := by simp
  refine ⟨v', w', hr, ?_, ?_⟩
  · show w'.ownsRow base e sz v' _ _
    rw [List.length_append, List.flatMap_append]
    simpa [hu] using hown'
  · exact ((Ext.refl w v).alloc (.cells u e)).trans ⟨hg, hat.imp id (fun hh => ⟨_, hh, Nat.le_refl _⟩)⟩

theorem run_append_of_nil (ty : TypeId) (E : ElemT P t e sz bytes) (w : World) (v : Value) (n : Nat) (xs : List Value) (hown : w.ownsRow base e sz v n xs) (c : Nat) :
    (Builtin.append_ #[t, t] ty #[v, .slice none 0 c]).run P w = .ok v w := by
  obtain ⟨i, z, hi, _⟩ := E.info
  rcases hown.2 with ⟨rfl, rfl⟩ | ⟨g, cap, cur, rfl, _, _, hnc, _⟩
  · simp [Builtin.append_, run_underlying E.und, sizeOf, typeInfo, hi, Builtin.lenOf, Builtin.firstCells]
  · simp [Builtin.append_, run_underlying E.und, sizeOf, typeInfo, hi, Builtin.lenOf, Builtin.firstCells, hnc, storeCells]

theorem flatMap_at (L : Lay sz cs) (hsz : 0 < sz) {xs : List α} {j : Nat} {u : Value} (h : (xs.flatMap cs)[j]? = some u) : ∃ i x, xs[i]? = some x ∧ (cs x)[j % sz]? = some u ∧ j = i * sz + j % sz := by
  have hl : (xs.flatMap cs).length = xs.length * sz := by
    clear h
    induction xs with
    | nil => simp
    | cons x xs ih => rw [List.flatMap_cons, List.length_append, ih, L.len, List.length_cons, Nat.succ_mul]; omega
  have hj : j < xs.length * sz := by rw [← hl]; exact (List.getElem?_eq_some_iff.1 h).1
  have hi : j / sz < xs.length := Nat.div_lt_of_lt_mul (by rw [Nat.mul_comm]; exact hj)
  have e : j = j / sz * sz + j % sz := by rw [Nat.mul_comm]; exact (Nat.div_add_mod j sz).symm
  refine ⟨j / sz, xs[j / sz], List.getElem?_eq_getElem hi, ?_, e⟩
  rw [← flatMap_getElem? L.len xs (j / sz) _ (List.getElem?_eq_getElem hi) _ (Nat.mod_lt _ hsz), ← e]
  exact h

/-- 'append(v, ys...)': a slice, wherever it lies. -/
theorem run_pushs (E : ElemT P t e sz bytes) (L : Lay sz cs) (ty : TypeId) (w : World) (v : Value) (xs : List α) {S : Nat → Prop} {A : Option Addr} {c n : Nat} {ys : List α}
    (hown : Own sz cs e base w v xs) (hr : Elems sz cs w S A ys) (hn : n = ys.length) (hlen : (xs.length + ys.length) * bytes ≤ 140737488355328) (hmax : xs.length + ys.length ≤ maxLen) (hbase : base ≤ w.heap.size) :
    ∃ v' w', (Builtin.append_ #[t, t] ty #[v, .slice A n c]).run P w = .ok v' w' ∧ Own sz cs e base w' v' (xs ++ ys) ∧ Ext w v w' v' := by
  subst hn
  rcases A with _ | ad
  · rcases Nat.eq_zero_or_pos ys.length with h0 | h0
    · have hy : ys = [] := List.eq_nil_of_length_eq_zero h0
      subst hy
      exact ⟨v, w, run_append_of_nil ty E w v _ _ hown c, by simpa using hown, Ext.refl _ _⟩
    · obtain ⟨_, _, h, _⟩ := hr h0
      cases h
  · obtain ⟨i, z, hi, hz, h2, h3, h4⟩ := E.info
    obtain ⟨v', w', hrun, hown', hg, _, hat⟩ := Go.run_append_own_at (P := P) w base t ty e i z sz bytes E.und hi hz h2 h3 h4 E.pos v xs.length (xs.flatMap cs) hown ad ys.length c (ys.flatMap cs)
      (by
        clear hr hlen hmax
        induction ys with
        | nil => simp
        | cons x xs ih => rw [List.flatMap_cons, List.length_append, ih, L.len, List.length_cons, Nat.succ_mul]; omega)
      (fun j u hj => by
        obtain ⟨k, x, hx, hu, hjk⟩ := flatMap_at L E.pos hj
        obtain ⟨b, off, hA, _, hc⟩ := hr (by have := (List.getElem?_eq_some_iff.1 hx).1; omega)
        injection hA with hA
        subst hA
        rw [Addr.add_lit, hjk, ← Nat.add_assoc]
        exact hc k x hx _ u hu)
      (fun u hu => by
        obtain ⟨x, _, hx⟩ := List.mem_flatMap.1 hu
        exact L.one x u hx) hmax hlen hbase
    refine ⟨v', w', hrun, ?_, hg, hat.imp id (fun hh => ⟨_, hh, Nat.le_refl _⟩)⟩
    show w'.ownsRow base e sz v' _ _
    rw [List.length_append, List.flatMap_append]
    exact hown'

end

/-- An empty slice literal's block. -/
theorem Own.lit0 {α : Type} {sz : Nat} {cs : α → List Value} {e : TypeId} (w : World) : Own sz cs e w.heap.size (w.alloc (.cells #[] e)) (.slice (some ⟨w.heap.size, 0, none⟩) 0 0) ([] : List α) :=
  World.ownsRow_lit w #[] 0 (Nat.le_refl _) (by unfold maxLen; omega) (by simp)

/-- A bound far below what memory bears. (Behind a name: walks and numerals.) -/
def Small (n : Nat) : Prop := n ≤ 1000000000
theorem Small.le {n k : Nat} (h : Small n) (hk : k ≤ n) : Small k := Nat.le_trans hk h
theorem Small.bytes {n : Nat} (h : Small n) : n * 1 ≤ 140737488355328 := by unfold Small at h; omega
theorem Small.maxLen {n : Nat} (h : Small n) : n ≤ maxLen := by unfold Small at h; unfold Go.maxLen; omega

/-- A number that fits 64 bits. (Behind a name: a walk does not return under the numeral.) -/
def IsU64 (n : Nat) : Prop := n < 18446744073709551616
theorem IsU64.le {n k : Nat} (h : IsU64 n) (hk : k ≤ n) : IsU64 k := Nat.lt_of_le_of_lt hk h

section
variable {P : Program} {ops : Array Oper} {rest : List Oper} {o : Oper} {a : Act} {K : Act → World → Prop} {Q : Exit → Act → World → Prop} {E : Prop}
/-- An append whose run is known: at the operation. -/
theorem wp_app (s x : Operand) (t u : TypeId) (ho : o.op = .call { callee := .builtin .append, args := #[s, x], argTypes := #[t, u] })
    {w : World} {v y : Value} {R : Value → World → Prop} (hs : a.eval s = v) (hx : a.eval x = y)
    (hr : ∃ v' w', (Builtin.append_ #[t, u] o.type #[v, y]).run P w = .ok v' w' ∧ R v' w') (h : ∀ v' w', R v' w' → K (a.put o.dst v') w') : o.wp P a w K Q := by
  obtain ⟨v', w', hr, hR⟩ := hr
  unfold Oper.wp execOp
  simp only [ho, resolve, invoke, builtin, Sem.run_bind, Sem.run_pure, Result.andThen_ok, List.map_toArray, List.map_cons, List.map_nil, hs, hx, hr]
  exact h v' w' hR
/-- .. at the head of a list of operations (a plain region). -/
theorem wpList_app (hgd : o.guard = none) (s x : Operand) (t u : TypeId) (ho : o.op = .call { callee := .builtin .append, args := #[s, x], argTypes := #[t, u] })
    {w : World} {v y : Value} {R : Value → World → Prop} (hs : a.eval s = v) (hx : a.eval x = y)
    (hr : ∃ v' w', (Builtin.append_ #[t, u] o.type #[v, y]).run P w = .ok v' w' ∧ R v' w') (h : ∀ v' w', R v' w' → wpList P ops Q rest (a.put o.dst v') w') : wpList P ops Q (o :: rest) a w :=
  wpList_plain hgd fun _ hK => wp_app s x t u ho hs hx hr fun v' w' hR => hK _ _ (h v' w' hR)
/-- .. at a step of a region that draws its order. -/
theorem step_app (hgd : o.guard = none) (s x : Operand) (t u : TypeId) (ho : o.op = .call { callee := .builtin .append, args := #[s, x], argTypes := #[t, u] })
    {w : World} {v y : Value} {R : Value → World → Prop} (hs : a.eval s = v) (hx : a.eval x = y)
    (hr : ∃ v' w', (Builtin.append_ #[t, u] o.type #[v, y]).run P w = .ok v' w' ∧ R v' w') (h : ∀ v' w', R v' w' → K (a.put o.dst v') w') :
    if Region.wanted o (yielded ops a.tmps) = true then Oper.wp P o a w K Q else E := by
  have hw : Region.wanted o (yielded ops a.tmps) = true := by simp [Region.wanted, hgd]
  rw [if_pos hw]
  exact wp_app s x t u ho hs hx hr h
end

end Go.Proofs.YtefifkleamiabaaGreatDoor

namespace Go.Proofs.YtefifkleamiabaaGreatDoor
open Go.ChangeShapes Go.WideShapes Go.ChangeAt Go.RowKit Go.Deep

theorem Tryz.own : ownKnob Tryz.prog.godebug = none := by kernel_rfl
theorem Tryz.laidOut : laidOutB Tryz.prog = true := by kernel_rfl

section
variable {H : Type} {enc : TypeId × Value → H} {P : Program}

theorem trodAll_below (laid : laidOutB P = true) {W W' : World} (hb : Below W.heap.size W W') : ∀ (ts : List TypeId) (vs : List Value) (ds : List (DataW H)) (ps : List MemPlace),
    (∀ t ∈ ts, P.readableRec t = true ∧ t < P.types.size) → DataW.TrodAll enc P W 0 (fun _ => true) true ts vs ds ps → (∀ x ∈ ps, x.block < W.heap.size) →
    DataW.TrodAll enc P W' 0 (fun b => decide (b < W.heap.size)) true ts vs ds ps
  | [], [], [], ps, _, h, _ => h
  | t :: ts, v :: vs, d :: ds, ps, hr, h, hlt => by
    obtain ⟨p, q, h1, h2, rfl⟩ := h
    exact ⟨p, q, Below.trod laid (hr t (by simp)).1 (hr t (by simp)).2 h1 hb (fun x hx => hlt x (by simp [hx])), trodAll_below laid hb ts vs ds q (fun t ht => hr t (by simp [ht])) h2 (fun x hx => hlt x (by simp [hx])), rfl⟩

/-- A law's row out of its walk. -/
theorem law_post {f : Func} {s : ChangeSpec} {apart fresh handsOn : Bool} {W W' : World} {args : Array Value} {ds gs : List (DataW H)} {before : List MemPlace} {tb : TypeId}
    (laid : laidOutB P = true) (hr : ∀ t ∈ f.params.toList, P.readableRec t = true ∧ t < P.types.size) (hrt : f.resultTypes = #[tb]) (htb : P.underlying tb = some .bool)
    (hv : s.vars = []) (hW : DataW.Whole enc P f.params.toList s.vars apart W args.toList ds gs before)
    (h1 : (s.fn H (ds ++ gs)).results = [.lit (.bool true)]) (h2 : (s.fn H (ds ++ gs)).args = ds) (h3 : (s.fn H (ds ++ gs)).vars = []) (hb : Below W.heap.size W W') :
    s.post enc P f apart fresh handsOn false W args (.bool true) W' := by
  have hlt := hW.lt
  have hW0 := hW
  obtain ⟨p, q, hA, hV, rfl, _, _⟩ := hW
  rw [hv] at hV
  obtain ⟨rfl, rfl⟩ := trodVars_none hV
  refine ⟨ds, [], p ++ [], [], p, [], hW0, ?_, ?_, ?_, hb.frame _, fun h => by cases h⟩
  · rw [h1, hrt]
    exact trodAll_mk1 (shut_bool htb true)
  · rw [h2]
    exact trodAll_below laid hb _ _ _ _ hr hA (fun x hx => hlt x (by simp [hx]))
  · rw [h3, hv]
    exact rfl
end

theorem cellsOf_int : Tryz.prog.cellsOf 3 = 1 := by kernel_rfl

theorem wf_i64 {n : Int} (h : (Lit.int .i64 n).wf = true) : -9223372036854775808 ≤ n ∧ n ≤ 9223372036854775807 := by
  exact bounds_i64 h

/-- An integer of a slice of integers. -/
def intCs (n : Int) : List Value := [.int .i64 n]
theorem intLay : Lay 1 intCs := ⟨fun _ => rfl, fun x c hc => by simp [intCs] at hc; subst hc; rfl⟩
def I64 (n : Int) : Prop := -9223372036854775808 ≤ n ∧ n ≤ 9223372036854775807

section
variable {H : Type} {enc : TypeId × Value → H} {w : World} {base : Nat} {spare : Nat → Bool} {held : Bool} {fuel : Nat}

/-- Any slice that came in, its elements read by 'R'. -/
theorem open_elems {α : Type} {t e : TypeId} {sz : Nat} {csf : α → List Value} {ok : α → Prop} (ht : Tryz.prog.underlying t = some (.slice e)) (hC : Tryz.prog.cellsOf e = sz) (hsz : 0 < sz) (hlen : ∀ a, (csf a).length = sz)
    (R : ∀ (n : Nat) (cs : List Value) (x : DataW H × List MemPlace), DataW.trod enc Tryz.prog w base spare held n e cs = some x → ∃ a, cs = csf a ∧ ok a)
    {cs : List Value} {x : DataW H × List MemPlace} (h : DataW.trod enc Tryz.prog w base spare held fuel t cs = some x) :
    ∃ (A : Option Addr) (c : Nat) (r : List α), cs = [.slice A r.length c] ∧ r.length ≤ c ∧ c ≤ maxLen ∧ Elems sz csf w (fun k => base ≤ k ∧ k < w.heap.size) A r ∧ ∀ a ∈ r, ok a := by
  rcases open_slice ht h with ⟨rfl, _⟩ | ⟨a, len, cap, m, n, D, Pl, rfl, hb, hl, hm, hmm, _, hi⟩
  · exact ⟨none, 0, [], rfl, by simp, by unfold maxLen; omega, Elems.nil _ _ _, by simp⟩
  · have hml : len ≤ m := by rw [hmm]; split <;> omega
    have key : ∀ i, i < len → ∃ y : α, ok y ∧ ∀ j u, (csf y)[j]? = some u → w.cell? (a.add (i * sz + j)) = some u := by
      intro i hil
      obtain ⟨cs', hc, ht'⟩ := hi i (by omega)
      rw [hC] at hc
      obtain ⟨y, rfl, hok⟩ := R _ _ _ ht'
      obtain ⟨_, _, hat⟩ := World.cells?_some hc
      refine ⟨y, hok, fun j u hu => ?_⟩
      have hj : j < sz := by rw [← hlen y]; exact (List.getElem?_eq_some_iff.1 hu).1
      rw [← Go.Deep.add_add, hat j hj]
      exact hu
    have build : ∀ k, k ≤ len → ∃ r : List α, r.length = k ∧ (∀ y ∈ r, ok y) ∧ ∀ i y, r[i]? = some y → ∀ j u, (csf y)[j]? = some u → w.cell? (a.add (i * sz + j)) = some u := by
      intro k
      induction k with
      | zero => exact fun _ => ⟨[], rfl, by simp, by simp⟩
      | succ k ih =>
        intro hk
        obtain ⟨r, hr, hok, hc⟩ := ih (by omega)
        obtain ⟨y, hy, hyc⟩ := key k (by omega)
        refine ⟨r ++ [y], by simp [hr], fun z hz => ?_, fun i z hz j u hu => ?_⟩
        · rcases List.mem_append.1 hz with hz | hz
          · exact hok z hz
          · simp at hz; subst hz; exact hy
        · by_cases hik : i < r.length
          · rw [List.getElem?_append_left hik] at hz
            exact hc i z hz j u hu
          · rw [List.getElem?_append_right (by omega)] at hz
            have hi0 : i - r.length = 0 := by
              rcases Nat.eq_zero_or_pos (i - r.length) with h0 | h0
              · exact h0
              · rw [List.getElem?_eq_none (by simp; omega)] at hz; cases hz
            rw [hi0] at hz
            simp at hz
            subst hz
            have : i = k := by omega
            subst this
            exact hyc j u hu
    obtain ⟨r, hr, hok, hc⟩ := build len (Nat.le_refl _)
    refine ⟨some a, cap, r, by rw [hr], by omega, hm, fun hn => ?_, hok⟩
    have hc0 : ∃ u, w.cell? a = some u := by
      have h0 : r[0]? = some r[0] := List.getElem?_eq_getElem hn
      have hl0 : 0 < (csf r[0]).length := by rw [hlen]; exact hsz
      have := hc 0 _ h0 0 _ (List.getElem?_eq_getElem hl0)
      rw [Nat.zero_mul, Nat.add_zero] at this
      exact ⟨_, by simpa [Addr.add] using this⟩
    obtain ⟨u, hu⟩ := hc0
    have hlt := World.block_lt_of_cell? w a hu
    obtain ⟨b, off, sp⟩ := a
    have hsp : sp = none := by
      cases sp with
      | none => rfl
      | some z =>
        unfold World.cell? at hu
        split at hu
        · simp at hu
        · cases hu
    subst hsp
    refine ⟨b, off, rfl, ⟨hb, hlt⟩, fun i y hy j v hv => ?_⟩
    have := hc i y hy j v hv
    rw [Addr.add_lit] at this
    rw [Nat.add_assoc]
    exact this

theorem open_int_el {cs : List Value} {x : DataW H × List MemPlace} (h : DataW.trod enc Tryz.prog w base spare held fuel 3 cs = some x) : ∃ n : Int, cs = intCs n ∧ I64 n := by
  obtain ⟨n, rfl, _, hw⟩ := DataW.trod_int Tryz.underlying3 h
  exact ⟨n, rfl, wf_i64 hw⟩
/-- A slice of integers that came in. -/
theorem open_ints_ {t : TypeId} (ht : Tryz.prog.underlying t = some (.slice 3)) {cs : List Value} {x : DataW H × List MemPlace} (h : DataW.trod enc Tryz.prog w base spare held fuel t cs = some x) :
    ∃ (A : Option Addr) (c : Nat) (r : List Int), cs = [.slice A r.length c] ∧ r.length ≤ c ∧ c ≤ maxLen ∧ Elems 1 intCs w (fun k => base ≤ k ∧ k < w.heap.size) A r ∧ ∀ a ∈ r, I64 a :=
  open_elems (sz := 1) (csf := intCs) ht cellsOf_int (by omega) (fun _ => rfl) (fun _ _ _ hx => open_int_el hx) h
end

end Go.Proofs.YtefifkleamiabaaGreatDoor

namespace Go.Proofs.YtefifkleamiabaaGreatDoor

structure Val where
  kind : Int
  int : Int
  text : ByteArray
  deriving DecidableEq

def Val.cs (v : Val) : List Value := [.int .i64 v.kind, .int .i64 v.int, .string v.text]

/-- What Validate answers. -/
def vErr (k n : Int) (s : ByteArray) : Int :=
  if k = 0 then (if n = 0 ∧ s.toList.isEmpty = true then 0 else 3)
  else if k = 1 ∨ k = 2 then
    (if s.toList.isEmpty = false then 3 else if (k = 2 ∧ n ≠ 0 ∧ n ≠ 1) ∨ n < -1000000000000 ∨ 1000000000000 < n then 1 else 0)
  else if k = 3 then (if n ≠ 0 then 3 else if 24 < s.size then 2 else 0)
  else 7
def Val.err (v : Val) : Int := vErr v.kind v.int v.text

/-- The three cells of element k of a row. -/
theorem Elems.val {w : World} {S : Nat → Prop} {A : Option Addr} {r : List Val} {k : Nat} (h : Elems 3 Val.cs w S A r) (hk : k < r.length) :
    ∃ b off, A = some ⟨b, off, none⟩ ∧ S b ∧ w.cell? ⟨b, off + k * 3, none⟩ = some (.int .i64 r[k].kind) ∧ w.cell? ⟨b, off + k * 3 + 1, none⟩ = some (.int .i64 r[k].int) ∧ w.cell? ⟨b, off + k * 3 + 2, none⟩ = some (.string r[k].text) := by
  obtain ⟨b, off, e, hb, hc⟩ := h.at_ hk
  exact ⟨b, off, e, hb, hc 0 _ rfl, hc 1 _ rfl, hc 2 _ rfl⟩

end Go.Proofs.YtefifkleamiabaaGreatDoor

namespace Go.Proofs.YtefifkleamiabaaGreatDoor

theorem cb_neg : ∀ (a b : List UInt8), Lib.compareBytes b a = -Lib.compareBytes a b
  | [], [] => rfl
  | [], _ :: _ => rfl
  | _ :: _, [] => rfl
  | x :: a, y :: b => by
    unfold Lib.compareBytes
    by_cases h1 : x < y
    · rw [if_pos h1, if_neg (fun h => UInt8.lt_asymm h1 h), if_pos h1]
      rfl
    · by_cases h2 : y < x
      · rw [if_pos h2, if_neg h1, if_pos h2]
      · rw [if_neg h2, if_neg h1, if_neg h1, if_neg h2]
        exact cb_neg a b
theorem cb_zero : ∀ (a b : List UInt8), Lib.compareBytes a b = 0 → a = b
  | [], [], _ => rfl
  | [], _ :: _, h => by simp [Lib.compareBytes] at h
  | _ :: _, [], h => by simp [Lib.compareBytes] at h
  | x :: a, y :: b, h => by
    unfold Lib.compareBytes at h
    by_cases h1 : x < y
    · rw [if_pos h1] at h; omega
    · by_cases h2 : y < x
      · rw [if_neg h1, if_pos h2] at h; omega
      · rw [if_neg h1, if_neg h2] at h
        have e : x = y := by
          apply UInt8.toNat_inj.1
          rw [UInt8.lt_iff_toNat_lt] at h1 h2
          omega
        rw [e, cb_zero a b h]
theorem cb_trans : ∀ (a b c : List UInt8), Lib.compareBytes a b ≤ 0 → Lib.compareBytes b c ≤ 0 → Lib.compareBytes a c ≤ 0
  | [], _, [], _, _ => by simp [Lib.compareBytes]
  | [], _, _ :: _, _, _ => by simp [Lib.compareBytes]
  | _ :: _, [], _, h, _ => by simp [Lib.compareBytes] at h
  | _ :: _, _ :: _, [], _, h => by simp [Lib.compareBytes] at h
  | x :: a, y :: b, z :: c, h1, h2 => by
    unfold Lib.compareBytes at h1 h2 ⊢
    simp only [UInt8.lt_iff_toNat_lt] at h1 h2 ⊢
    by_cases c1 : x.toNat < y.toNat
    · by_cases c2 : y.toNat < z.toNat
      · rw [if_pos (by omega)]; omega
      · rw [if_neg c2] at h2
        by_cases c3 : z.toNat < y.toNat
        · rw [if_pos c3] at h2; omega
        · rw [if_pos (by omega)]; omega
    · rw [if_neg c1] at h1
      by_cases c2 : y.toNat < x.toNat
      · rw [if_pos c2] at h1; omega
      · rw [if_neg c2] at h1
        by_cases c3 : y.toNat < z.toNat
        · rw [if_pos (by omega)]; omega
        · rw [if_neg c3] at h2
          by_cases c4 : z.toNat < y.toNat
          · rw [if_pos c4] at h2; omega
          · rw [if_neg c4] at h2
            rw [if_neg (by omega), if_neg (by omega)]
            exact cb_trans a b c h1 h2

def cmpI (x y : Int) : Int := if x < y then -1 else if y < x then 1 else 0
def cmpV (a b : Val) : Int := if cmpI a.kind b.kind = 0 then (if cmpI a.int b.int = 0 then Lib.compareBytes a.text.data.toList b.text.data.toList else cmpI a.int b.int) else cmpI a.kind b.kind
theorem cmpI_neg (x y : Int) : cmpI y x = -cmpI x y := by
  unfold cmpI
  (repeat' split) <;> omega
theorem cmpI_zero {x y : Int} : cmpI x y = 0 ↔ x = y := by
  unfold cmpI
  (repeat' split) <;> omega
theorem cmpI_le {x y : Int} : cmpI x y ≤ 0 ↔ x ≤ y := by
  unfold cmpI
  (repeat' split) <;> omega
theorem cmpV_neg (a b : Val) : cmpV b a = -cmpV a b := by
  unfold cmpV
  rw [cmpI_neg a.kind b.kind, cmpI_neg a.int b.int, cb_neg a.text.data.toList b.text.data.toList]
  (repeat' split) <;> omega
theorem cmpV_zero {a b : Val} (h : cmpV a b = 0) : a = b := by
  unfold cmpV at h
  by_cases h1 : cmpI a.kind b.kind = 0
  · rw [if_pos h1] at h
    by_cases h2 : cmpI a.int b.int = 0
    · rw [if_pos h2] at h
      have h3 := cb_zero _ _ h
      obtain ⟨k, n, ⟨⟨t⟩⟩⟩ := a
      obtain ⟨k', n', ⟨⟨t'⟩⟩⟩ := b
      have e1 := cmpI_zero.1 h1
      have e2 := cmpI_zero.1 h2
      simp only at e1 e2 h3
      rw [e1, e2, h3]
    · rw [if_neg h2] at h
      exact absurd h h2
  · rw [if_neg h1] at h
    exact absurd h h1
theorem cmpV_trans {a b c : Val} (h1 : cmpV a b ≤ 0) (h2 : cmpV b c ≤ 0) : cmpV a c ≤ 0 := by
  unfold cmpV at *
  by_cases k1 : cmpI a.kind b.kind = 0
  · rw [if_pos k1] at h1
    have e1 := cmpI_zero.1 k1
    by_cases k2 : cmpI b.kind c.kind = 0
    · rw [if_pos k2] at h2
      rw [e1, if_pos k2]
      by_cases n1 : cmpI a.int b.int = 0
      · rw [if_pos n1] at h1
        have e2 := cmpI_zero.1 n1
        rw [e2]
        by_cases n2 : cmpI b.int c.int = 0
        · rw [if_pos n2] at h2 ⊢
          exact cb_trans _ _ _ h1 h2
        · rw [if_neg n2] at h2 ⊢
          exact h2
      · rw [if_neg n1] at h1
        have e2 := cmpI_le.1 h1
        have e3 : a.int ≠ b.int := fun e => n1 (cmpI_zero.2 e)
        by_cases n2 : cmpI b.int c.int = 0
        · have e4 := cmpI_zero.1 n2
          rw [← e4, if_neg n1]
          exact h1
        · rw [if_neg n2] at h2
          have e4 := cmpI_le.1 h2
          rw [if_neg (fun e => by have := cmpI_zero.1 e; omega)]
          exact cmpI_le.2 (by omega)
    · rw [if_neg k2] at h2
      rw [e1, if_neg k2]
      exact h2
  · rw [if_neg k1] at h1
    have e1 := cmpI_le.1 h1
    have e2 : a.kind ≠ b.kind := fun e => k1 (cmpI_zero.2 e)
    by_cases k2 : cmpI b.kind c.kind = 0
    · have e3 := cmpI_zero.1 k2
      rw [← e3, if_neg k1]
      exact h1
    · rw [if_neg k2] at h2
      have e3 := cmpI_le.1 h2
      rw [if_neg (fun e => by have := cmpI_zero.1 e; omega)]
      exact cmpI_le.2 (by omega)


abbrev Row := List Val
/-- What CompareRows answers. -/
def cmpR : Row → Row → Int
  | a :: as1, b :: bs => if cmpV a b = 0 then cmpR as1 bs else cmpV a b
  | as1, bs => cmpI as1.length bs.length
theorem cmpR_nil_left (b : Row) : cmpR [] b = cmpI (([] : Row).length) b.length := by cases b <;> rfl
theorem cmpR_nil_right (a : Row) : cmpR a [] = cmpI a.length (([] : Row).length) := by cases a <;> rfl
theorem cmpR_cons (a : Val) (as1 : Row) (b : Val) (bs : Row) : cmpR (a :: as1) (b :: bs) = if cmpV a b = 0 then cmpR as1 bs else cmpV a b := rfl
theorem cmpR_neg : ∀ (a b : Row), cmpR b a = -cmpR a b
  | [], b => by rw [cmpR_nil_left, cmpR_nil_right, cmpI_neg]
  | a :: as1, [] => by rw [cmpR_nil_left, cmpR_nil_right, cmpI_neg]
  | a :: as1, b :: bs => by
    rw [cmpR_cons, cmpR_cons, cmpV_neg a b, cmpR_neg as1 bs]
    (repeat' split) <;> omega
theorem cmpR_zero : ∀ {a b : Row}, cmpR a b = 0 → a = b
  | [], b, h => by
    rw [cmpR_nil_left, cmpI_zero] at h
    exact (List.eq_nil_of_length_eq_zero (by simpa using h.symm)).symm
  | a :: as1, [], h => by
    rw [cmpR_nil_right, cmpI_zero] at h
    simp at h
    omega
  | a :: as1, b :: bs, h => by
    rw [cmpR_cons] at h
    by_cases h1 : cmpV a b = 0
    · rw [if_pos h1] at h
      rw [cmpV_zero h1, cmpR_zero h]
    · rw [if_neg h1] at h
      exact absurd h h1
theorem cmpR_trans : ∀ {a b c : Row}, cmpR a b ≤ 0 → cmpR b c ≤ 0 → cmpR a c ≤ 0
  | [], b, c, _, _ => by rw [cmpR_nil_left, cmpI_le]; simp
  | a :: as1, [], c, h, _ => by
    rw [cmpR_nil_right, cmpI_le] at h
    simp at h
    omega
  | a :: as1, b :: bs, [], _, h => by
    rw [cmpR_nil_right, cmpI_le] at h
    simp at h
    omega
  | a :: as1, b :: bs, c :: cs, h1, h2 => by
    rw [cmpR_cons] at h1 h2 ⊢
    by_cases k1 : cmpV a b = 0
    · rw [if_pos k1] at h1
      have e1 := cmpV_zero k1
      subst e1
      by_cases k2 : cmpV a c = 0
      · rw [if_pos k2] at h2 ⊢
        exact cmpR_trans h1 h2
      · rw [if_neg k2] at h2 ⊢
        exact h2
    · rw [if_neg k1] at h1
      by_cases k2 : cmpV b c = 0
      · have e1 := cmpV_zero k2
        subst e1
        rw [if_neg k1]
        exact h1
      · rw [if_neg k2] at h2
        have h3 := cmpV_trans h1 h2
        have k3 : cmpV a c ≠ 0 := fun e => by
          have e1 := cmpV_zero e
          subst e1
          have := cmpV_neg a b
          omega
        rw [if_neg k3]
        exact h3
/-- The rows' order. -/
def rl (a b : Row) : Prop := cmpR a b < 0
theorem rl_trans {a b c : Row} (h1 : rl a b) (h2 : rl b c) : rl a c := by
  unfold rl at *
  have h3 := cmpR_trans (a := a) (b := b) (c := c) (by omega) (by omega)
  rcases Int.lt_or_eq_of_le h3 with h | h
  · exact h
  · have e := cmpR_zero h
    subst e
    have := cmpR_neg a b
    omega
/-- Behind k equal values. -/
theorem cmpR_drop {a b : Row} {k : Nat} (ha : k < a.length) (hb : k < b.length) : cmpR (a.drop k) (b.drop k) = if cmpV a[k] b[k] = 0 then cmpR (a.drop (k + 1)) (b.drop (k + 1)) else cmpV a[k] b[k] := by
  rw [List.drop_eq_getElem_cons ha, List.drop_eq_getElem_cons hb]
  rfl
theorem cmpR_end {a b : Row} {k : Nat} (h : k = a.length ∨ k = b.length) (ha : k ≤ a.length) (hb : k ≤ b.length) : cmpR (a.drop k) (b.drop k) = cmpI a.length b.length := by
  rcases h with h | h
  · subst h
    rw [List.drop_length, cmpR_nil_left]
    unfold cmpI
    simp only [List.length_nil, List.length_drop]
    (repeat' split) <;> omega
  · subst h
    rw [List.drop_length, cmpR_nil_right]
    unfold cmpI
    simp only [List.length_nil, List.length_drop]
    (repeat' split) <;> omega

end Go.Proofs.YtefifkleamiabaaGreatDoor

namespace Go.Proofs.YtefifkleamiabaaGreatDoor
open Go.RowKit Go.Sort

theorem compareInts (x y : Int) (w : World) :
    Calls Tryz.prog 105 #[.int .i64 x, .int .i64 y] w fun e w' => e = .returned (.int .i64 (cmpI x y)) ∧ w = w' := by
  go_enter Tryz.func105, Tryz.ntmps105
  go_wp2_with fail
  all_goals
    go_ret
    refine ⟨?_, rfl⟩
    unfold cmpI
    (repeat' split) <;> first | rfl | (exfalso; omega)

set_option maxHeartbeats 1000000 in
set_option maxRecDepth 100000 in
theorem compareString (a b : ByteArray) (w : World) :
    Calls Tryz.prog 145 #[.string a, .string b] w fun e w' => e = .returned (.int .i64 (Lib.compareBytes a.data.toList b.data.toList)) ∧ w = w' := by
  go_enter Tryz.func145, Tryz.ntmps145
  go_wp2
  rw [run_callFunc_extern Tryz.func159 (by kernel_rfl) (by kernel_rfl) (by kernel_rfl) (e := Extern.BytealgCompare.compare) (by kernel_rfl), Lib.run_compareString]
  simp only [Result.andThen]
  rw [Oper.upon_value]
  go_wp2
  go_ret
  exact ⟨rfl, rfl⟩

set_option maxRecDepth 100000 in
theorem stringsCompare (a b : ByteArray) (w : World) :
    Calls Tryz.prog 124 #[.string a, .string b] w fun e w' => e = .returned (.int .i64 (Lib.compareBytes a.data.toList b.data.toList)) ∧ w = w' := by
  go_enter Tryz.func124, Tryz.ntmps124
  go_wp2_with fail
  refine (compareString _ _ _).mono ?_
  rintro e w' ⟨rfl, rfl⟩
  go_wp2_with fail
  go_ret
  exact ⟨rfl, rfl⟩

set_option maxRecDepth 100000 in
set_option maxHeartbeats 1000000 in
theorem compareVals (a b : Val) (w : World) :
    Calls Tryz.prog 104 #[.agg #[.int .i64 a.kind, .int .i64 a.int, .string a.text], .agg #[.int .i64 b.kind, .int .i64 b.int, .string b.text]] w fun e w' => e = .returned (.int .i64 (cmpV a b)) ∧ ∃ os, w' = grow w os := by
  obtain ⟨k1, n1, t1⟩ := a
  obtain ⟨k2, n2, t2⟩ := b
  have HV : Hid (cmpV ⟨k1, n1, t1⟩ ⟨k2, n2, t2⟩ = if cmpI k1 k2 = 0 then (if cmpI n1 n2 = 0 then Lib.compareBytes t1.data.toList t2.data.toList else cmpI n1 n2) else cmpI k1 k2) := Lib.hid rfl
  have HG : Hid (∀ o1 o2, ∃ os, (w.alloc o1).alloc o2 = grow w os) := Lib.hid fun o1 o2 => ⟨#[o1] ++ #[o2], by rw [alloc_eq_grow, alloc_eq_grow, grow_grow]⟩
  generalize cmpV ⟨k1, n1, t1⟩ ⟨k2, n2, t2⟩ = cv at *
  generalize hc1 : cmpI k1 k2 = x1 at *
  generalize hc2 : cmpI n1 n2 = x2 at *
  have H1 := Lib.hid hc1
  have H2 := Lib.hid hc2
  clear hc1 hc2
  go_enter Tryz.func104, Tryz.ntmps104
  go_wp2_with fail
  refine (compareInts _ _ _).mono ?_
  rintro e w' ⟨rfl, rfl⟩
  rw [H1.out]
  by_cases hx1 : x1 = 0
  · have hz : (x1 != 0) = false := by simp [hx1]
    rw [if_pos hx1] at HV
    clear hx1
    go_wp2_with fail
    refine (compareInts _ _ _).mono ?_
    rintro e w' ⟨rfl, rfl⟩
    rw [H2.out]
    by_cases hx2 : x2 = 0
    · have hz2 : (x2 != 0) = false := by simp [hx2]
      rw [if_pos hx2] at HV
      clear hx2
      go_wp2_with fail
      refine (stringsCompare _ _ _).mono ?_
      rintro e w' ⟨rfl, rfl⟩
      go_wp2_with fail
      go_ret
      exact ⟨ret_int HV.out.symm, HG.out _ _⟩
    · have hz2 : (x2 != 0) = true := by simp [hx2]
      rw [if_neg hx2] at HV
      clear hx2
      go_wp2_with fail
      go_ret
      exact ⟨ret_int HV.out.symm, HG.out _ _⟩
  · have hz : (x1 != 0) = true := by simp [hx1]
    rw [if_neg hx1] at HV
    clear hx1
    go_wp2_with fail
    go_ret
    exact ⟨ret_int HV.out.symm, HG.out _ _⟩


theorem mixed : Tryz.prog.follows .mixedOrders = true := by kernel_rfl

theorem compareVals_grown (a b : Val) (w : World) (n : Nat) (os : Array Obj) :
    Calls Tryz.prog 104 #[.agg #[.int .i64 a.kind, .int .i64 a.int, .string a.text], .agg #[.int .i64 b.kind, .int .i64 b.int, .string b.text]] (Go.Sort.grow (w.drewN n) os) fun e w' => e = .returned (.int .i64 (cmpV a b)) ∧ ∃ p : GrownBy, w' = Go.Sort.grow (w.drewN p.n) p.os :=
  Calls.grown_of ((compareVals a b _).mono fun _ _ ⟨h1, os', h2⟩ => ⟨h1, 0, os', h2⟩)

theorem below_grow (w : World) (n : Nat) (os : Array Obj) : Below w.heap.size w (Go.Sort.grow (w.drewN n) os) :=
  ⟨rfl, rfl, rfl, by show _ ≤ (Go.Sort.grow (w.drewN n) os).heap.size; rw [size_grow]; exact Nat.le_add_right _ _, fun k hk => heap_grow_old (w.drewN n) os hk⟩
theorem Elems.grow {α : Type} {sz : Nat} {cs : α → List Value} {w : World} {S : Nat → Prop} {A : Option Addr} {xs : List α} (h : Elems sz cs w S A xs) (hS : ∀ k, S k → k < w.heap.size) (n : Nat) (os : Array Obj) : Elems sz cs (Go.Sort.grow (w.drewN n) os) S A xs :=
  h.keep (Keeps.of_below (below_grow w n os) hS)
theorem grow_trans (w : World) (n m : Nat) (os os' : Array Obj) : ∃ p : GrownBy, Go.Sort.grow ((Go.Sort.grow (w.drewN n) os).drewN m) os' = Go.Sort.grow (w.drewN p.n) p.os := by
  refine ⟨⟨n + m, os ++ os'⟩, ?_⟩
  show Go.Sort.grow (Go.Sort.grow ((w.drewN n).drewN m) os) os' = _
  rw [grow_grow, World.drewN_drewN]

set_option maxRecDepth 100000 in
set_option maxHeartbeats 1000000 in
theorem cmpRows (A B : Option Addr) (c d : Nat) (a b : Row) (w : World) (S T : Nat → Prop) (hx : Elems 3 Val.cs w S A a) (hy : Elems 3 Val.cs w T B b) (hS : ∀ k, S k → k < w.heap.size) (hT : ∀ k, T k → k < w.heap.size) (hl : a.length ≤ 1000) :
    Calls Tryz.prog 69 #[.slice A a.length c, .slice B b.length d] w fun e w' => e = .returned (.int .i64 (cmpR a b)) ∧ ∃ p : GrownBy, w' = Go.Sort.grow (w.drewN p.n) p.os := by
  obtain ⟨m, hm⟩ : ∃ m, m = min a.length b.length := ⟨_, rfl⟩
  have hma : m ≤ a.length ∧ m ≤ b.length := by omega
  have HM : Hid (m = a.length ∨ m = b.length) := Lib.hid (by omega)
  have mixed := mixed
  go_enter Tryz.func69, Tryz.ntmps69
  go_upto_region 1 with fail
  go_cut [11, 12] from 7 to 12 (fun v z wx => v = .int .i64 m ∧ z = .int .i64 0 ∧ wx = w)
  case first =>
    have HE : Hid (min (a.length : Int) (b.length : Int) = (m : Int)) := Lib.hid (by omega)
    clear hm hma
    go_wp2_with fail
    go_meet
    exact ⟨val_int HE.out, rfl, rfl⟩
  case rest =>
    obtain ⟨rfl, rfl, rfl⟩ := hcut
    clear hm
    have HX := Lib.hid hx
    have HY := Lib.hid hy
    have HS := Lib.hid hS
    have HT := Lib.hid hT
    clear hx hy hS hT
    go_wp2_with fail
    go_loopw [12] (fun vi wr => ∃ k : Nat, vi = .int .i64 k ∧ k ≤ m ∧ cmpR a b = cmpR (a.drop k) (b.drop k) ∧ ∃ p : GrownBy, wr = Go.Sort.grow (wc.drewN p.n) p.os) (fun vi _ => m - (intOf vi).toNat)
    case atStart => exact ⟨0, rfl, Nat.zero_le _, rfl, ⟨0, #[]⟩, (grow_empty wc).symm⟩
    case round =>
      obtain ⟨k, rfl, hk, he, ⟨pn, po⟩, rfl⟩ := hrel
      have HE := Lib.hid he
      have hx := HX.out.grow HS.out pn po
      have hy := HY.out.grow HT.out pn po
      have HG : Hid (∀ m os', ∃ p : GrownBy, Go.Sort.grow ((Go.Sort.grow (wc.drewN pn) po).drewN m) os' = Go.Sort.grow (wc.drewN p.n) p.os) := Lib.hid fun m os' => grow_trans wc pn m po os'
      have hsz := (below_grow wc pn po).size
      have HW : Hid (∃ p : GrownBy, Go.Sort.grow (wc.drewN pn) po = Go.Sort.grow (wc.drewN p.n) p.os) := Lib.hid ⟨⟨pn, po⟩, rfl⟩
      simp only at hx hy HG hsz ⊢
      generalize Go.Sort.grow (wc.drewN pn) po = wr at *
      clear he
      by_cases hlt : k < m
      · have hka : k < a.length := by omega
        have hkb : k < b.length := by omega
        obtain ⟨ba, oa, rfl, hba, -⟩ := hx.val hka
        obtain ⟨bb, ob, rfl, hbb, -⟩ := hy.val hkb
        have cj := fun q os => (hx.grow (fun k hk => Nat.lt_of_lt_of_le (HS.out k hk) hsz) q os).val hka
        have cp := fun q os => (hy.grow (fun k hk => Nat.lt_of_lt_of_le (HT.out k hk) hsz) q os).val hkb
        have cj' : ∀ q os, (Go.Sort.grow (wr.drewN q) os).cell? ⟨ba, oa + k * 3, none⟩ = some (.int .i64 a[k].kind) ∧ (Go.Sort.grow (wr.drewN q) os).cell? ⟨ba, oa + k * 3 + 1, none⟩ = some (.int .i64 a[k].int) ∧ (Go.Sort.grow (wr.drewN q) os).cell? ⟨ba, oa + k * 3 + 2, none⟩ = some (.string a[k].text) := fun q os => by
          obtain ⟨b', o', e, _, h⟩ := cj q os
          injection e with e
          injection e with e1 e2
          subst e1 e2
          exact h
        have cp' : ∀ q os, (Go.Sort.grow (wr.drewN q) os).cell? ⟨bb, ob + k * 3, none⟩ = some (.int .i64 b[k].kind) ∧ (Go.Sort.grow (wr.drewN q) os).cell? ⟨bb, ob + k * 3 + 1, none⟩ = some (.int .i64 b[k].int) ∧ (Go.Sort.grow (wr.drewN q) os).cell? ⟨bb, ob + k * 3 + 2, none⟩ = some (.string b[k].text) := fun q os => by
          obtain ⟨b', o', e, _, h⟩ := cp q os
          injection e with e
          injection e with e1 e2
          subst e1 e2
          exact h
        have c0 := fun q os => (cj' q os).1
        have c1 := fun q os => (cj' q os).2.1
        have c2 := fun q os => (cj' q os).2.2
        have d0 := fun q os => (cp' q os).1
        have d1 := fun q os => (cp' q os).2.1
        have d2 := fun q os => (cp' q os).2.2
        have HC := Lib.hid fun q os => compareVals_grown a[k] b[k] wr q os
        have HR := Lib.hid (cmpR_drop hka hkb)
        have y1 : (k : Int) < (a.length : Int) := by omega
        have y2 : (k : Int) < (b.length : Int) := by omega
        clear cj cp cj' cp' hx hy
        generalize a[k] = av at *
        generalize b[k] = bv at *
        go_wp2_with fail
        go_quiet_grown (first | (go_at_call 104; exact HC.out _ _))
        have hw := HG.out (GrownBy.n ⟨nq, osq⟩) (GrownBy.os ⟨nq, osq⟩)
        have HWQ : Hid (∃ p : GrownBy, Go.Sort.grow (wr.drewN (GrownBy.n ⟨nq, osq⟩)) (GrownBy.os ⟨nq, osq⟩) = Go.Sort.grow (wc.drewN p.n) p.os) := Lib.hid hw
        generalize Go.Sort.grow (wr.drewN (GrownBy.n ⟨nq, osq⟩)) (GrownBy.os ⟨nq, osq⟩) = wq at hw HWQ ⊢
        clear c0 c1 c2 d0 d1 d2 HC hw HG
        generalize hcv : cmpV av bv = cv at *
        by_cases hz : cv = 0
        · rw [if_pos hz] at HR
          have y7 : (cv != 0) = false := by simp [hz]
          clear hz
          go_wp2_with fail
          go_roundw
          case rel => exact ⟨k + 1, by go_num, by omega, HE.out.trans HR.out, HWQ.out⟩
          case measure => simp [intOf]; omega
        · rw [if_neg hz] at HR
          have y7 : (cv != 0) = true := by simp [hz]
          clear hz
          go_wp2_with fail
          go_ret
          exact ⟨ret_int (HE.out.trans HR.out).symm, HWQ.out⟩
      · have hkm : k = m := by omega
        subst hkm
        have HR := Lib.hid (cmpR_end HM.out hma.1 hma.2)
        clear hx hy
        go_wp2_with fail
        refine (compareInts _ _ _).mono ?_
        rintro e w' ⟨rfl, rfl⟩
        go_wp2_with fail
        go_ret
        exact ⟨ret_int (HE.out.trans HR.out).symm, HW.out⟩

end Go.Proofs.YtefifkleamiabaaGreatDoor

namespace Go.Proofs.YtefifkleamiabaaGreatDoor
open Go.RowKit

/-- A row's header and what it reads as. -/
structure Key where
  A : Option Addr
  c : Nat
  row : Row
def Key.cs (k : Key) : List Value := [.slice k.A k.row.length k.c]
/-- An entry: key and integer. -/
structure Ent where
  key : Key
  val : Int
def Ent.cs (e : Ent) : List Value := [.slice e.key.A e.key.row.length e.key.c, .int .i64 e.val]
theorem keyLay : Lay 1 Key.cs := ⟨fun _ => rfl, fun x c hc => by simp [Key.cs] at hc; subst hc; rfl⟩
/-- The row lies in blocks of K. -/
structure KOk (K : Nat → Prop) (w : World) (k : Key) : Prop where
  el : Elems 3 Val.cs w K k.A k.row
  len : k.row.length ≤ 12
theorem KOk.keep {K : Nat → Prop} {w w' : World} {k : Key} (h : KOk K w k) (hk : Keeps K w w') : KOk K w' k := ⟨h.el.keep hk, h.len⟩
theorem KOk.more {K K' : Nat → Prop} {w : World} {k : Key} (h : KOk K w k) (hk : ∀ i, K i → K' i) : KOk K' w k := ⟨h.el.more hk, h.len⟩

theorem Elems.key {w : World} {S : Nat → Prop} {A : Option Addr} {r : List Key} {k : Nat} (h : Elems 1 Key.cs w S A r) (hk : k < r.length) :
    ∃ b off, A = some ⟨b, off, none⟩ ∧ S b ∧ w.cell? ⟨b, off + k, none⟩ = some (.slice r[k].A r[k].row.length r[k].c) := by
  obtain ⟨b, off, e, hb, hc⟩ := h.at_ hk
  exact ⟨b, off, e, hb, by simpa using hc 0 _ rfl⟩
theorem Elems.ent {w : World} {S : Nat → Prop} {A : Option Addr} {r : List Ent} {k : Nat} (h : Elems 2 Ent.cs w S A r) (hk : k < r.length) :
    ∃ b off, A = some ⟨b, off, none⟩ ∧ S b ∧ w.cell? ⟨b, off + k * 2, none⟩ = some (.slice r[k].key.A r[k].key.row.length r[k].key.c) ∧ w.cell? ⟨b, off + k * 2 + 1, none⟩ = some (.int .i64 r[k].val) := by
  obtain ⟨b, off, e, hb, hc⟩ := h.at_ hk
  exact ⟨b, off, e, hb, hc 0 _ rfl, hc 1 _ rfl⟩

section
variable {α : Type}
/-- The search's state. -/
structure Bin (lt : Nat → Prop) (n i j : Nat) : Prop where
  le : i ≤ j ∧ j ≤ n
  lo : ∀ k, k < i → lt k
  hi : ∀ k, j ≤ k → k < n → ¬ lt k
theorem Bin.first (lt : Nat → Prop) (n : Nat) : Bin lt n 0 n := ⟨⟨Nat.zero_le _, Nat.le_refl _⟩, fun k h => by omega, fun k h1 h2 => by omega⟩
theorem Bin.up {lt : Nat → Prop} {n i j h : Nat} (B : Bin lt n i j) (hm : ∀ a b, a < b → b < n → lt b → lt a) (hh : i ≤ h ∧ h < j) (hl : lt h) : Bin lt n (h + 1) j := by
  obtain ⟨l1, l2⟩ := B.le
  refine ⟨⟨by omega, l2⟩, fun k hk => ?_, B.hi⟩
  by_cases hkh : k = h
  · rw [hkh]; exact hl
  · exact hm k h (by omega) (by omega) hl
/-- Where t goes among xs. -/
structure At (row : α → Row) (xs : List α) (t : Row) (i : Nat) (fnd : Bool) : Prop where
  le : i ≤ xs.length
  lo : ∀ x ∈ xs.take i, rl (row x) t
  hi : ∀ x ∈ xs.drop i, ¬ rl (row x) t
  eq : fnd = true ↔ ∃ x r, xs.drop i = x :: r ∧ row x = t
def LtAt (row : α → Row) (xs : List α) (t : Row) (k : Nat) : Prop := ∃ x, xs[k]? = some x ∧ rl (row x) t
theorem LtAt.mono {row : α → Row} {xs : List α} {t : Row} (hs : xs.Pairwise fun a b => rl (row a) (row b)) : ∀ a b, a < b → b < xs.length → LtAt row xs t b → LtAt row xs t a := by
  rintro a b hab hb ⟨x, hx, hl⟩
  have ha : a < xs.length := by omega
  rw [List.getElem?_eq_getElem hb] at hx
  injection hx with hx
  subst hx
  exact ⟨xs[a], List.getElem?_eq_getElem ha, rl_trans (List.pairwise_iff_getElem.1 hs a b ha hb hab) hl⟩
theorem LtAt.iff {row : α → Row} {xs : List α} {t : Row} {k : Nat} (hk : k < xs.length) : LtAt row xs t k ↔ rl (row xs[k]) t := by
  constructor
  · rintro ⟨x, hx, h⟩
    rw [List.getElem?_eq_getElem hk] at hx
    injection hx with hx
    subst hx
    exact h
  · exact fun h => ⟨_, List.getElem?_eq_getElem hk, h⟩
theorem Bin.at_ {row : α → Row} {xs : List α} {t : Row} {i : Nat} {fnd : Bool} (B : Bin (LtAt row xs t) xs.length i i) (hf : fnd = true ↔ ∃ h : i < xs.length, row xs[i] = t) : At row xs t i fnd := by
  obtain ⟨_, l2⟩ := B.le
  refine ⟨l2, fun x hx => ?_, fun x hx => ?_, ?_⟩
  · obtain ⟨k, hk, rfl⟩ := List.getElem_of_mem hx
    rw [List.length_take] at hk
    rw [List.getElem_take]
    exact (LtAt.iff (by omega)).1 (B.lo k (by omega))
  · obtain ⟨k, hk, rfl⟩ := List.getElem_of_mem hx
    rw [List.length_drop] at hk
    rw [List.getElem_drop]
    exact fun h => B.hi (i + k) (by omega) (by omega) ((LtAt.iff (by omega)).2 h)
  · rw [hf]
    constructor
    · rintro ⟨h, e⟩
      exact ⟨xs[i], xs.drop (i + 1), List.drop_eq_getElem_cons h, e⟩
    · rintro ⟨x, r, h, e⟩
      have hi : i < xs.length := by
        rcases Nat.lt_or_ge i xs.length with h' | h'
        · exact h'
        · rw [List.drop_eq_nil_of_le h'] at h
          cases h
      rw [List.drop_eq_getElem_cons hi] at h
      injection h with h _
      exact ⟨hi, by rw [h]; exact e⟩
end

end Go.Proofs.YtefifkleamiabaaGreatDoor
