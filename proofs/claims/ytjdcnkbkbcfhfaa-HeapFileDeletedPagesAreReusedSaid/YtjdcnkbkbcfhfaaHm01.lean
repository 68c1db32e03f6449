/-
  Words on memory: slices whose elements lie in blocks of a set S; frames. No program in sight.
  Slices of the call's own that grow by append: the words and the laws. No program in sight.
  The plain law of slotted pages: a page is a list of 256 numbers. No program in sight.
  The plain law of slotted pages: place, remove, contents, capacity. No program in sight.
-/
import Derived.WalkKit
import Derived.WalkSpells
import Derived.WalkLawsBesides
import Derived.Lib.Hide
import Derived.Deep.Slices
import Derived.Deep.Fields
import Derived.Deep.Draws
import Derived.ProofKit
import Derived.Maps.AppendAt
import Derived.Lib.AppendStr
namespace Go.Proofs.Ytjdcnkbkbcfhfaa
open Go.RowKit

/-- The elements xs, each of sz cells, lie at the address A, in a block of S. -/
def Elems {α : Type} (sz : Nat) (cs : α → List Value) (w : World) (S : Nat → Prop) (A : Option Addr) (xs : List α) : Prop :=
  0 < xs.length → ∃ b off, A = some ⟨b, off, none⟩ ∧ S b ∧ ∀ i x, xs[i]? = some x → ∀ j u, (cs x)[j]? = some u → w.cell? ⟨b, off + i * sz + j, none⟩ = some u

/-- The blocks of S are in w' as they were in w. -/
def Keeps (S : Nat → Prop) (w w' : World) : Prop := ∀ k, S k → w'.heap[k]? = w.heap[k]?

section
variable {α : Type} {sz : Nat} {cs : α → List Value} {w w' : World} {S S' : Nat → Prop} {A : Option Addr} {xs : List α}

theorem Elems.keep (h : Elems sz cs w S A xs) (hk : Keeps S w w') : Elems sz cs w' S A xs := fun hn => by
  obtain ⟨b, off, e, hs, hc⟩ := h hn
  exact ⟨b, off, e, hs, fun i x hx j u hu => (World.cell?_of_block (w := w) (hk b hs)).trans (hc i x hx j u hu)⟩

theorem Elems.more (h : Elems sz cs w S A xs) (hs : ∀ k, S k → S' k) : Elems sz cs w S' A xs := fun hn => by
  obtain ⟨b, off, e, hb, hc⟩ := h hn
  exact ⟨b, off, e, hs b hb, hc⟩

theorem Elems.drewN (h : Elems sz cs w S A xs) (n : Nat) : Elems sz cs (w.drewN n) S A xs := h
theorem Elems.drew (h : Elems sz cs w S A xs) : Elems sz cs w.drew S A xs := h
theorem Elems.nil (w : World) (S : Nat → Prop) (A : Option Addr) : Elems sz cs w S A ([] : List α) := fun h => absurd h (by simp)

theorem Elems.at_ {k : Nat} (h : Elems sz cs w S A xs) (hk : k < xs.length) : ∃ b off, A = some ⟨b, off, none⟩ ∧ S b ∧ ∀ j u, (cs xs[k])[j]? = some u → w.cell? ⟨b, off + k * sz + j, none⟩ = some u := by
  obtain ⟨b, off, e, hb, hc⟩ := h (by omega)
  exact ⟨b, off, e, hb, hc k _ (List.getElem?_eq_getElem hk)⟩

theorem Elems.take (h : Elems sz cs w S A xs) (n : Nat) : Elems sz cs w S A (xs.take n) := fun hn => by
  obtain ⟨b, off, e, hb, hc⟩ := h (by rw [List.length_take] at hn; omega)
  refine ⟨b, off, e, hb, fun i x hx => hc i x ?_⟩
  rw [List.getElem?_take] at hx
  split at hx
  · exact hx
  · cases hx
/-- 's[k:]': the address stays where the whole capacity is cut away. -/
theorem Elems.cut (h : Elems sz cs w S A xs) {k c : Nat} (hk : k ≤ xs.length) (hc : xs.length ≤ c) : Elems sz cs w S (if c = k then A else A.map (·.add (k * sz))) (xs.drop k) := fun hn => by
  rw [List.length_drop] at hn
  obtain ⟨b, off, rfl, hb, hcell⟩ := h (by omega)
  rw [if_neg (by omega)]
  refine ⟨b, off + k * sz, ?_, hb, fun i x hx j u hu => ?_⟩
  · show some (Addr.add ⟨b, off, none⟩ (k * sz)) = _
    rw [Addr.add_lit]
  · rw [List.getElem?_drop] at hx
    have := hcell (k + i) x hx j u hu
    rw [← this]
    congr 2
    rw [Nat.add_mul]
    omega

theorem Keeps.refl (S : Nat → Prop) (w : World) : Keeps S w w := fun _ _ => rfl
theorem Keeps.trans {a b c : World} (h : Keeps S a b) (k : Keeps S b c) : Keeps S a c := fun i hi => (k i hi).trans (h i hi)
theorem Keeps.mono (h : Keeps S w w') (hs : ∀ k, S' k → S k) : Keeps S' w w' := fun i hi => h i (hs i hi)
theorem Keeps.of_below {B : Nat} (h : Below B w w') (hs : ∀ k, S k → k < B) : Keeps S w w' := fun i hi => h.block i (hs i hi)
theorem Keeps.of_grown {row : Option Nat} (h : w.grownBy w' row) (hs : ∀ k, S k → k < w.heap.size ∧ some k ≠ row) : Keeps S w w' := fun i hi => h.block i (hs i hi).1 (hs i hi).2
end

theorem below_of_grown {w w' : World} {row : Option Nat} {B : Nat} (hg : w.grownBy w' row) (hB : B ≤ w.heap.size) (hr : ∀ g, row = some g → B ≤ g) : Below B w w' :=
  ⟨hg.os, hg.tape, hg.output, hg.size, fun k hk => hg.block k (by omega) (fun e => by have := hr k e.symm; omega)⟩
theorem below_drewN {B : Nat} {a w : World} (h : Below B a w) (n : Nat) : Below B a (w.drewN n) := ⟨h.os, h.tape, h.output, h.size, h.block⟩

theorem bcell {W w1 : World} (hb : Below W.heap.size W w1) : (∀ b o, b < W.heap.size → w1.cell? ⟨b, o, none⟩ = W.cell? ⟨b, o, none⟩) ∧ (∀ b o, b < W.heap.size → w1.frozen? ⟨b, o, none⟩ = W.frozen? ⟨b, o, none⟩) :=
  ⟨fun b o h => hb.cell (p := ⟨b, o, none⟩) h, fun b o h => hb.frozen (p := ⟨b, o, none⟩) h⟩

theorem val_int {k : IntKind} {a b : Int} (h : a = b) : Value.int k a = .int k b := by rw [h]
theorem ret_int {k : IntKind} {a b : Int} (h : a = b) : Ending.returned (.int k a) = .returned (.int k b) := by rw [h]
theorem ret_tup_int {k : IntKind} {a b : Int} {c : Value} (h : a = b) : Ending.returned (.tuple #[.int k a, c]) = .returned (.tuple #[.int k b, c]) := by rw [h]
theorem ret_bool {a b : Bool} (h : a = b) : Ending.returned (.bool a) = .returned (.bool b) := by rw [h]

end Go.Proofs.Ytjdcnkbkbcfhfaa

namespace Go.Proofs.Ytjdcnkbkbcfhfaa
open Go.RowKit

/-- The element type e of the slice type t: sz cells, so many bytes. -/
structure ElemT (P : Program) (t e : TypeId) (sz bytes : Nat) : Prop where
  und : P.underlying t = some (.slice e)
  info : ∃ (i : TypeInfo) (z : Value), P.info? e = some i ∧ i.zero = some z ∧ i.size = sz ∧ i.bytes = bytes ∧ z.cells.size = sz
  pos : 0 < sz

/-- What each element lies in: sz cells, each of one cell's kind. -/
structure Lay {α : Type} (sz : Nat) (cs : α → List Value) : Prop where
  len : ∀ x, (cs x).length = sz
  one : ∀ x, ∀ c ∈ cs x, c.oneCell' = true

/-- The slice v is nil or lies at the head of a block of the call's own, from base on; its elements are xs. -/
def Own {α : Type} (sz : Nat) (cs : α → List Value) (e : TypeId) (base : Nat) (w : World) (v : Value) (xs : List α) : Prop :=
  w.ownsRow base e sz v xs.length (xs.flatMap cs)

/-- From w to w': no old block but that of v has turned; v' lies where v lay, or in a new block. -/
structure Ext (w : World) (v : Value) (w' : World) (v' : Value) : Prop where
  grown : w.grownBy w' v.ownBlock
  block : v'.ownBlock = v.ownBlock ∨ ∃ g, v'.ownBlock = some g ∧ w.heap.size ≤ g

section
variable {a b c w w' : World} {va vb vc v v' : Value}

theorem Ext.refl (w : World) (v : Value) : Ext w v w v := ⟨World.grownBy.refl w _, .inl rfl⟩
theorem Ext.trans (h : Ext a va b vb) (k : Ext b vb c vc) : Ext a va c vc := by
  refine ⟨⟨k.grown.os.trans h.grown.os, k.grown.tape.trans h.grown.tape, k.grown.output.trans h.grown.output, Nat.le_trans h.grown.size k.grown.size, fun i hi hne => ?_⟩, ?_⟩
  · refine (k.grown.block i (Nat.lt_of_lt_of_le hi h.grown.size) ?_).trans (h.grown.block i hi hne)
    rcases h.block with e | ⟨g, e, hg⟩
    · rw [e]; exact hne
    · rw [e]; intro he; injection he with he; omega
  · rcases k.block with e | ⟨g, e, hg⟩
    · rcases h.block with e' | ⟨g', e', hg'⟩
      · exact .inl (e.trans e')
      · exact .inr ⟨g', e.trans e', hg'⟩
    · exact .inr ⟨g, e, Nat.le_trans h.grown.size hg⟩
theorem Ext.of_below (h : Below w.heap.size w w') (v : Value) : Ext w v w' v :=
  ⟨⟨h.os, h.tape, h.output, h.size, fun i hi _ => h.block i hi⟩, .inl rfl⟩
theorem Ext.alloc (h : Ext a va b vb) (o : Obj) : Ext a va (b.alloc o) vb := h.trans (Ext.of_below ((Below.refl _ _).alloc (Nat.le_refl _) _) _)
theorem Ext.drewN (h : Ext a va b vb) (n : Nat) : Ext a va (b.drewN n) vb := h.trans (Ext.of_below (below_drewN (Below.refl _ _) n) _)
theorem Ext.drew (h : Ext a va b vb) : Ext a va b.drew vb := h.trans (Ext.of_below (Below.refl _ _).drew _)
theorem Ext.then_below (h : Ext a va b vb) (k : Below b.heap.size b c) : Ext a va c vb := h.trans (Ext.of_below k _)
theorem Ext.setCell (h : Ext a va b vb) {p : Addr} (hp : a.heap.size ≤ p.block) (u : Value) : Ext a va (b.setCell p u) vb :=
  ⟨⟨h.grown.os, h.grown.tape, h.grown.output, by simpa [World.setCell] using h.grown.size, fun i hi hne => (Below.heap_setCell b p u i (by omega)).trans (h.grown.block i hi hne)⟩, h.block⟩
/-- What lies below a base, where v is the call's own from base on. -/
theorem Ext.below {base : Nat} (h : Ext a va b vb) (hB : base ≤ a.heap.size) (hv : ∀ g, va.ownBlock = some g → base ≤ g) : Below base a b := below_of_grown h.grown hB hv
theorem Ext.size (h : Ext a va b vb) : a.heap.size ≤ b.heap.size := h.grown.size
theorem Ext.keeps {S : Nat → Prop} (h : Ext a va b vb) (hs : ∀ k, S k → k < a.heap.size ∧ some k ≠ va.ownBlock) : Keeps S a b := Keeps.of_grown h.grown hs
/-- A block that was there and is not v's is not v''s. -/
theorem Ext.ne (h : Ext a va b vb) {g : Nat} (hne : va.ownBlock ≠ some g) (hg : g < a.heap.size) : vb.ownBlock ≠ some g := by
  rcases h.block with e | ⟨g', e, hg'⟩
  · rw [e]; exact hne
  · rw [e]; intro he; injection he with he; omega
/-- A cell of a block that is not v's. -/
theorem Ext.old_cell (h : Ext a va b vb) {g i : Nat} {u : Value} (hc : a.cell? ⟨g, i, none⟩ = some u) (hne : va.ownBlock ≠ some g) : b.cell? ⟨g, i, none⟩ = some u :=
  h.grown.cell hc (fun e => hne e.symm)
theorem size1 (w : World) (o : Obj) : (w.alloc o).heap.size = w.heap.size + 1 := by simp
theorem alloc2_at (w : World) (a b : Obj) : ((w.alloc a).alloc b).heap[w.heap.size + 1]? = some b := by
  have := heap_alloc_new (w.alloc a) b
  rwa [size1] at this
theorem alloc2_at_drewN (w : World) (a b : Obj) (n : Nat) : (((w.alloc a).alloc b).drewN n).heap[w.heap.size + 1]? = some b := alloc2_at w a b
theorem le_size2 {n : Nat} {w : World} (h : n ≤ w.heap.size) (a b : Obj) : n ≤ ((w.alloc a).alloc b).heap.size := by simp; omega
theorem le_size2_drewN {n : Nat} {w : World} (h : n ≤ w.heap.size) (a b : Obj) (k : Nat) : n ≤ (((w.alloc a).alloc b).drewN k).heap.size := by show n ≤ ((w.alloc a).alloc b).heap.size; simp; omega
theorem le_size1 {n : Nat} {w : World} (h : n ≤ w.heap.size) (o : Obj) : n ≤ (w.alloc o).heap.size := by simp; omega
theorem Ext.base {n : Nat} (h : Ext a va b vb) (hB : n ≤ a.heap.size) : n ≤ b.heap.size := Nat.le_trans hB h.size
theorem Ext.base1 {n : Nat} {o : Obj} (h : Ext (a.alloc o) va b vb) (hB : n ≤ a.heap.size) : n ≤ b.heap.size := Nat.le_trans (le_size1 hB o) h.size
/-- From a nil slice: nothing old has turned. -/
theorem Ext.below_nil {n c : Nat} (h : Ext a (.slice none n c) b vb) : Below a.heap.size a b := h.below (Nat.le_refl _) (by simp [Value.ownBlock])
theorem Ext.own_lt {base : Nat} (h : Ext a va b vb) (hv : ∀ g, va.ownBlock = some g → base ≤ g) (hB : base ≤ a.heap.size) : ∀ g, vb.ownBlock = some g → base ≤ g := by
  intro g hg
  rcases h.block with e | ⟨g', e, hg'⟩
  · exact hv g (e ▸ hg)
  · rw [e] at hg; injection hg with hg; omega
end

section
variable {α : Type} {sz : Nat} {cs : α → List Value} {e : TypeId} {base : Nat} {w w' : World} {v v' : Value} {xs : List α}

theorem Own.nil (w : World) : Own sz cs e base w (.slice none 0 0) ([] : List α) := World.ownsRow_nil w base e sz
theorem Own.lt (h : Own sz cs e base w v xs) : ∀ g, v.ownBlock = some g → base ≤ g ∧ g < w.heap.size := World.ownsRow.lt h
theorem Own.kept {row : Option Nat} (h : Own sz cs e base w v xs) (hg : w.grownBy w' row) (hne : v.ownBlock = none ∨ v.ownBlock ≠ row) : Own sz cs e base w' v xs := World.ownsRow.kept h hg hne
theorem Own.alloc (h : Own sz cs e base w v xs) (o : Obj) : Own sz cs e base (w.alloc o) v xs := World.ownsRow.alloc h o
theorem Own.below (h : Own sz cs e base w v xs) (hb : Below w.heap.size w w') : Own sz cs e base w' v xs :=
  h.kept (row := none) ⟨hb.os, hb.tape, hb.output, hb.size, fun k hk _ => hb.block k hk⟩ (by cases hv : v.ownBlock <;> simp)
theorem Own.drewN (h : Own sz cs e base w v xs) (n : Nat) : Own sz cs e base (w.drewN n) v xs := h.below (below_drewN (Below.refl _ _) n)
theorem Own.drew (h : Own sz cs e base w v xs) : Own sz cs e base w.drew v xs := h.below (Below.refl _ _).drew
/-- A store into another block. -/
theorem Own.setCell (h : Own sz cs e base w v xs) {p : Addr} (hp : ∀ g, v.ownBlock = some g → g ≠ p.block) (u : Value) : Own sz cs e base (w.setCell p u) v xs := by
  refine h.kept (row := some p.block) ⟨rfl, rfl, rfl, by simp [World.setCell], fun k _ hk => Below.heap_setCell w p u k (fun e => hk (by rw [e]))⟩ ?_
  cases hv : v.ownBlock with
  | none => exact .inl rfl
  | some g => exact .inr (fun e => hp g hv (by injection e))
theorem Own.mono {base' : Nat} (h : Own sz cs e base w v xs) (hb : base' ≤ base) : Own sz cs e base' w v xs := by
  refine ⟨h.1, ?_⟩
  rcases h.2 with h | ⟨g, cap, cur, h1, h2, h3⟩
  · exact .inl h
  · exact .inr ⟨g, cap, cur, h1, Nat.le_trans hb h2, h3⟩
/-- Its form: a slice with so many elements. -/
theorem Own.form (h : Own sz cs e base w v xs) : ∃ A c, v = .slice A xs.length c ∧ xs.length ≤ c ∧ c ≤ maxLen := by
  rcases h.2 with ⟨rfl, hn⟩ | ⟨g, cap, cur, rfl, _, _, hnc, hcm, _⟩
  · exact ⟨none, 0, by rw [hn], by omega, by unfold maxLen; omega⟩
  · exact ⟨_, cap, rfl, hnc, hcm⟩

theorem flatMap_getElem? (hcs : ∀ x, (cs x).length = sz) : ∀ (xs : List α) (i : Nat) (x : α), xs[i]? = some x → ∀ j, j < sz → (xs.flatMap cs)[i * sz + j]? = (cs x)[j]?
  | [], i, x, h, j, hj => by simp at h
  | y :: ys, 0, x, h, j, hj => by
    simp at h
    subst h
    rw [List.flatMap_cons, List.getElem?_append_left (by rw [hcs]; omega)]
    congr 1
    omega
  | y :: ys, i + 1, x, h, j, hj => by
    simp at h
    have e : (i + 1) * sz = sz + i * sz := by rw [Nat.succ_mul]; omega
    rw [List.flatMap_cons, List.getElem?_append_right (by rw [hcs]; omega), hcs, ← flatMap_getElem? hcs ys i x h j hj]
    congr 1
    omega

/-- An own slice read as elements. -/
theorem Own.elems (h : Own sz cs e base w v xs) (hcs : ∀ x, (cs x).length = sz) {A : Option Addr} {n c : Nat} (hv : v = .slice A n c) : Elems sz cs w (fun k => v.ownBlock = some k) A xs := fun hn => by
  subst hv
  rcases h.2 with ⟨hv, hz⟩ | ⟨g, cap, cur, hv, _⟩
  · omega
  · injection hv with hA _ _
    subst hA
    refine ⟨g, 0, rfl, rfl, fun i x hx j u hu => ?_⟩
    have hj : j < sz := by rw [← hcs x]; exact (List.getElem?_eq_some_iff.1 hu).1
    have := World.ownsRow.cells h (g := g) rfl (i * sz + j) u (by rw [flatMap_getElem? hcs xs i x hx j hj]; exact hu)
    rw [Addr.add_lit] at this
    simpa [Nat.add_assoc] using this
end

section
variable {α : Type} {P : Program} {t e : TypeId} {sz bytes : Nat} {cs : α → List Value} {base : Nat}

/-- 'append(v, y)': one element, laid ahead of it in a new block. -/
theorem run_push (E : ElemT P t e sz bytes) (L : Lay sz cs) (ty : TypeId) (w : World) (v : Value) (xs : List α) (y : α) (u : Array Value)
    (hown : Own sz cs e base w v xs) (hu : u.toList = cs y) (hlen : (xs.length + 1) * bytes ≤ 140737488355328) (hmax : xs.length + 1 ≤ maxLen) (hbase : base ≤ w.heap.size) {g : Nat} (hg : w.heap.size = g) :
    ∃ v' w', (Builtin.append_ #[t, t] ty #[v, .slice (some ⟨g, 0, none⟩) 1 1]).run P (w.alloc (.cells u e)) = .ok v' w' ∧ Own sz cs e base w' v' (xs ++ [y]) ∧ Ext w v w' v' := by
  subst hg
  obtain ⟨i, z, hi, hz, h2, h3, h4⟩ := E.info
  obtain ⟨v', w', hr, hown', hg, _, hat⟩ := Go.run_append_own_at (P := P) (w.alloc (.cells u e)) base t ty e i z sz bytes E.und hi hz h2 h3 h4 E.pos v xs.length (xs.flatMap cs) (World.ownsRow.alloc hown _) ⟨w.heap.size, 0, none⟩ 1 1 u.toList (by rw [hu, L.len]; omega)
    (fun j c hj => by
      rw [Addr.add_lit, cell_of_row _ w.heap.size _ u e (0, 0) (heap_alloc_new w _)]
      simpa using hj) (by rw [hu]; exact L.one y) hmax hlen (by simp; omega)
  have hsz : (w.alloc (.cells u e)).heap.size = w.heap.size + 1 := by simp
  refine ⟨v', w', hr, ?_, ?_⟩
  · show w'.ownsRow base e sz v' _ _
    rw [List.length_append, List.flatMap_append]
    simpa [hu] using hown'
  · exact ((Ext.refl w v).alloc (.cells u e)).trans ⟨hg, hat.imp id (fun hh => ⟨_, hh, Nat.le_refl _⟩)⟩

/-- The same at whatever world in which the element lies in a block of its own (behind a draw, say). -/
theorem run_push_at (E : ElemT P t e sz bytes) (L : Lay sz cs) (ty : TypeId) (w : World) {W : World} (v : Value) (xs : List α) (y : α) {u : Array Value} {g : Nat} (hW : Ext w v W v)
    (hown : Own sz cs e base W v xs) (hg : W.heap[g]? = some (.cells u e (0, 0))) (hu : u.toList = cs y) (hlen : (xs.length + 1) * bytes ≤ 140737488355328) (hmax : xs.length + 1 ≤ maxLen) (hbase : base ≤ W.heap.size) :
    ∃ v' w', (Builtin.append_ #[t, t] ty #[v, .slice (some ⟨g, 0, none⟩) 1 1]).run P W = .ok v' w' ∧ Own sz cs e base w' v' (xs ++ [y]) ∧ Ext w v w' v' := by
  obtain ⟨i, z, hi, hz, h2, h3, h4⟩ := E.info
  obtain ⟨v', w', hr, hown', hgr, _, hat⟩ := Go.run_append_own_at (P := P) W base t ty e i z sz bytes E.und hi hz h2 h3 h4 E.pos v xs.length (xs.flatMap cs) hown ⟨g, 0, none⟩ 1 1 u.toList (by rw [hu, L.len]; omega)
    (fun j c hj => by
      rw [Addr.add_lit, cell_of_row _ g _ u e (0, 0) hg]
      simpa using hj) (by rw [hu]; exact L.one y) hmax hlen hbase
  refine ⟨v', w', hr, ?_, hW.trans ⟨hgr, hat.imp id (fun hh => ⟨_, hh, Nat.le_refl _⟩)⟩⟩
  show w'.ownsRow base e sz v' _ _
  rw [List.length_append, List.flatMap_append]
  simpa [hu] using hown'

theorem run_append_of_nil (ty : TypeId) (E : ElemT P t e sz bytes) (w : World) (v : Value) (n : Nat) (xs : List Value) (hown : w.ownsRow base e sz v n xs) (c : Nat) :
    (Builtin.append_ #[t, t] ty #[v, .slice none 0 c]).run P w = .ok v w := by
  obtain ⟨i, z, hi, _⟩ := E.info
  rcases hown.2 with ⟨rfl, rfl⟩ | ⟨g, cap, cur, rfl, _, _, hnc, _⟩
  · simp [Builtin.append_, run_underlying E.und, sizeOf, typeInfo, hi, Builtin.lenOf, Builtin.firstCells]
  · simp [Builtin.append_, run_underlying E.und, sizeOf, typeInfo, hi, Builtin.lenOf, Builtin.firstCells, hnc, storeCells]

theorem flatMap_at (L : Lay sz cs) (hsz : 0 < sz) {xs : List α} {j : Nat} {u : Value} (h : (xs.flatMap cs)[j]? = some u) : ∃ i x, xs[i]? = some x ∧ (cs x)[j % sz]? = some u ∧ j = i * sz + j % sz := by
  have hl : (xs.flatMap cs).length = xs.length * sz := by
    clear h
    induction xs with
    | nil => simp
    | cons x xs ih => rw [List.flatMap_cons, List.length_append, ih, L.len, List.length_cons, Nat.succ_mul]; omega
  have hj : j < xs.length * sz := by rw [← hl]; exact (List.getElem?_eq_some_iff.1 h).1
  have hi : j / sz < xs.length := Nat.div_lt_of_lt_mul (by rw [Nat.mul_comm]; exact hj)
  have e : j = j / sz * sz + j % sz := by rw [Nat.mul_comm]; exact (Nat.div_add_mod j sz).symm
  refine ⟨j / sz, xs[j / sz], List.getElem?_eq_getElem hi, ?_, e⟩
  rw [← flatMap_getElem? L.len xs (j / sz) _ (List.getElem?_eq_getElem hi) _ (Nat.mod_lt _ hsz), ← e]
  exact h

/-- 'append(v, ys...)': a slice, wherever it lies. -/
theorem run_pushs (E : ElemT P t e sz bytes) (L : Lay sz cs) (ty : TypeId) (w : World) (v : Value) (xs : List α) {S : Nat → Prop} {A : Option Addr} {c n : Nat} {ys : List α}
    (hown : Own sz cs e base w v xs) (hr : Elems sz cs w S A ys) (hn : n = ys.length) (hlen : (xs.length + ys.length) * bytes ≤ 140737488355328) (hmax : xs.length + ys.length ≤ maxLen) (hbase : base ≤ w.heap.size) :
    ∃ v' w', (Builtin.append_ #[t, t] ty #[v, .slice A n c]).run P w = .ok v' w' ∧ Own sz cs e base w' v' (xs ++ ys) ∧ Ext w v w' v' := by
  subst hn
  rcases A with _ | ad
  · rcases Nat.eq_zero_or_pos ys.length with h0 | h0
    · have hy : ys = [] := List.eq_nil_of_length_eq_zero h0
      subst hy
      exact ⟨v, w, run_append_of_nil ty E w v _ _ hown c, by simpa using hown, Ext.refl _ _⟩
    · obtain ⟨_, _, h, _⟩ := hr h0
      cases h
  · obtain ⟨i, z, hi, hz, h2, h3, h4⟩ := E.info
    obtain ⟨v', w', hrun, hown', hg, _, hat⟩ := Go.run_append_own_at (P := P) w base t ty e i z sz bytes E.und hi hz h2 h3 h4 E.pos v xs.length (xs.flatMap cs) hown ad ys.length c (ys.flatMap cs)
      (by
        clear hr hlen hmax
        induction ys with
        | nil => simp
        | cons x xs ih => rw [List.flatMap_cons, List.length_append, ih, L.len, List.length_cons, Nat.succ_mul]; omega)
      (fun j u hj => by
        obtain ⟨k, x, hx, hu, hjk⟩ := flatMap_at L E.pos hj
        obtain ⟨b, off, hA, _, hc⟩ := hr (by have := (List.getElem?_eq_some_iff.1 hx).1; omega)
        injection hA with hA
        subst hA
        rw [Addr.add_lit, hjk, ← Nat.add_assoc]
        exact hc k x hx _ u hu)
      (fun u hu => by
        obtain ⟨x, _, hx⟩ := List.mem_flatMap.1 hu
        exact L.one x u hx) hmax hlen hbase
    refine ⟨v', w', hrun, ?_, hg, hat.imp id (fun hh => ⟨_, hh, Nat.le_refl _⟩)⟩
    show w'.ownsRow base e sz v' _ _
    rw [List.length_append, List.flatMap_append]
    exact hown'

end

/-- An empty slice literal's block. -/
theorem Own.lit0 {α : Type} {sz : Nat} {cs : α → List Value} {e : TypeId} (w : World) : Own sz cs e w.heap.size (w.alloc (.cells #[] e)) (.slice (some ⟨w.heap.size, 0, none⟩) 0 0) ([] : List α) :=
  World.ownsRow_lit w #[] 0 (Nat.le_refl _) (by unfold maxLen; omega) (by simp)

/-- A bound far below what memory bears. (Behind a name: walks and numerals.) -/
def Small (n : Nat) : Prop := n ≤ 1000000000
theorem Small.le {n k : Nat} (h : Small n) (hk : k ≤ n) : Small k := Nat.le_trans hk h
theorem Small.bytes {n : Nat} (h : Small n) : n * 1 ≤ 140737488355328 := by unfold Small at h; omega
theorem Small.maxLen {n : Nat} (h : Small n) : n ≤ maxLen := by unfold Small at h; unfold Go.maxLen; omega

/-- A number that fits 64 bits. (Behind a name: a walk does not return under the numeral.) -/
def IsU64 (n : Nat) : Prop := n < 18446744073709551616
theorem IsU64.le {n k : Nat} (h : IsU64 n) (hk : k ≤ n) : IsU64 k := Nat.lt_of_le_of_lt hk h

/-- The cells of a byte. -/
def byteCs (b : UInt8) : List Value := [.int .u8 (b.toNat : Int)]
theorem byteLay : Lay 1 byteCs := ⟨fun _ => rfl, fun x c hc => by simp [byteCs] at hc; subst hc; rfl⟩
theorem Elems.byte {w : World} {S : Nat → Prop} {A : Option Addr} {xs : List UInt8} {k : Nat} (h : Elems 1 byteCs w S A xs) (hk : k < xs.length) :
    ∃ b off, A = some ⟨b, off, none⟩ ∧ S b ∧ w.cell? ⟨b, off + k, none⟩ = some (.int .u8 (xs[k].toNat : Int)) := by
  obtain ⟨b, off, e, hb, hc⟩ := h.at_ hk
  exact ⟨b, off, e, hb, by simpa using hc 0 _ rfl⟩

theorem byte_cells (bs : List UInt8) : bs.flatMap byteCs = bs.map fun b => Value.int .u8 (b.toNat : Int) := by
  induction bs with
  | nil => rfl
  | cons b bs ih => rw [List.flatMap_cons, ih]; rfl

/-- 'append(v, s...)', s a string. -/
theorem run_pushStr {P : Program} {t u e : TypeId} {base : Nat} (ht : P.underlying t = some (.slice e)) (hu : P.underlying u = some .string) (hi : (P.info? e).map (fun i => (i.zero, i.size, i.bytes)) = some (some (.int .u8 0), 1, 1)) (ty : TypeId)
    (w : World) (v : Value) (xs : List UInt8) (s : ByteArray) (hown : Own 1 byteCs e base w v xs) (hlen : xs.length + s.size ≤ 140737488355328) (hbase : base ≤ w.heap.size) :
    ∃ v' w', (Builtin.append_ #[t, u] ty #[v, .string s]).run P w = .ok v' w' ∧ Own 1 byteCs e base w' v' (xs ++ s.data.toList) ∧ Ext w v w' v' := by
  obtain ⟨i, hi0, hz, h1, h2⟩ := info_parts hi
  have hsl : s.data.toList.length = s.size := rfl
  have hcs : s.data.toList.flatMap byteCs = Lib.strCells s := by rw [byte_cells]; rfl
  have fin : ∀ v' w', w'.ownsRow base e 1 v' (xs.length + s.size) (xs.flatMap byteCs ++ Lib.strCells s) → Own 1 byteCs e base w' v' (xs ++ s.data.toList) := fun v' w' h => by
    show w'.ownsRow base e 1 v' _ _
    rw [List.length_append, List.flatMap_append, hcs, hsl]
    exact h
  have hmx : xs.length + s.size ≤ maxLen := by unfold maxLen; omega
  rcases hown.2 with ⟨rfl, hn⟩ | ⟨g, cap, cur, rfl, hbg, hg, hnc, hcm, hcsz, htake⟩
  · have hx : xs = [] := List.eq_nil_of_length_eq_zero hn
    subst hx
    obtain ⟨v', w', hr, ho, hgr, _⟩ := Lib.run_append_own_string (P := P) w w.heap.size t u ty e i ht hu hi0 hz h1 h2 (.slice none 0 0) 0 [] (World.ownsRow_nil w _ e 1) s (by simpa using hmx) (by simpa using hlen) (Nat.le_refl _)
    refine ⟨v', w', hr, fin v' w' ?_, hgr, ?_⟩
    · refine ⟨by simpa using ho.1, ?_⟩
      rcases ho.2 with h | ⟨g, cap, cur, h1, h2, h3⟩
      · exact .inl (by simpa using h)
      · exact .inr ⟨g, cap, cur, by simpa using h1, by omega, by simpa using h3⟩
    · cases hv : v'.ownBlock with
      | none => exact .inl (by simp [Value.ownBlock])
      | some g => exact .inr ⟨g, rfl, (ho.lt g hv).1⟩
  · obtain ⟨v', w', hr, ho, hgr, _⟩ := Lib.run_append_own_string (P := P) w base t u ty e i ht hu hi0 hz h1 h2 (.slice (some ⟨g, 0, none⟩) xs.length cap) xs.length (xs.flatMap byteCs) hown s hmx hlen hbase
    refine ⟨v', w', hr, fin v' w' ho, hgr, ?_⟩
    have hcs' : cur.size = cap := by simpa using hcsz
    by_cases hroom : xs.length + s.size ≤ cap
    · have hr2 := Lib.run_append_room_string (P := P) w t u ty e i ht hu hi0 h1 g xs.length cap cur hg s hroom (by omega)
      rw [hr] at hr2
      injection hr2 with hv
      subst hv
      exact .inl rfl
    · have holds : ∀ j u, (xs.flatMap byteCs)[j]? = some u → w.cell? ((⟨g, 0, none⟩ : Addr).add j) = some u := World.ownsRow.cells hown (g := g) rfl
      have hr2 := Lib.run_append_grow_string (P := P) w t u ty e i (.int .u8 0) ht hu hi0 hz ⟨g, 0, none⟩ xs.length cap (xs.flatMap byteCs) (by rw [h1]; exact hown.1) holds s (by omega) (by unfold maxLen at hmx; omega) (by rw [h2]; exact growslice_fits (by omega) (by omega))
      rw [hr] at hr2
      injection hr2 with hv
      subst hv
      exact .inr ⟨_, rfl, Nat.le_refl _⟩

section
variable {P : Program} {ops : Array Oper} {rest : List Oper} {o : Oper} {a : Act} {K : Act → World → Prop} {Q : Exit → Act → World → Prop} {E : Prop}
/-- An append whose run is known: at the operation. -/
theorem wp_app (s x : Operand) (t u : TypeId) (ho : o.op = .call { callee := .builtin .append, args := #[s, x], argTypes := #[t, u] })
    {w : World} {v y : Value} {R : Value → World → Prop} (hs : a.eval s = v) (hx : a.eval x = y)
    (hr : ∃ v' w', (Builtin.append_ #[t, u] o.type #[v, y]).run P w = .ok v' w' ∧ R v' w') (h : ∀ v' w', R v' w' → K (a.put o.dst v') w') : o.wp P a w K Q := by
  obtain ⟨v', w', hr, hR⟩ := hr
  unfold Oper.wp execOp
  simp only [ho, resolve, invoke, builtin, Sem.run_bind, Sem.run_pure, Result.andThen_ok, List.map_toArray, List.map_cons, List.map_nil, hs, hx, hr]
  exact h v' w' hR
/-- .. at the head of a list of operations (a plain region). -/
theorem wpList_app (hgd : o.guard = none) (s x : Operand) (t u : TypeId) (ho : o.op = .call { callee := .builtin .append, args := #[s, x], argTypes := #[t, u] })
    {w : World} {v y : Value} {R : Value → World → Prop} (hs : a.eval s = v) (hx : a.eval x = y)
    (hr : ∃ v' w', (Builtin.append_ #[t, u] o.type #[v, y]).run P w = .ok v' w' ∧ R v' w') (h : ∀ v' w', R v' w' → wpList P ops Q rest (a.put o.dst v') w') : wpList P ops Q (o :: rest) a w :=
  wpList_plain hgd fun _ hK => wp_app s x t u ho hs hx hr fun v' w' hR => hK _ _ (h v' w' hR)
/-- .. at a step of a region that draws its order. -/
theorem step_app (hgd : o.guard = none) (s x : Operand) (t u : TypeId) (ho : o.op = .call { callee := .builtin .append, args := #[s, x], argTypes := #[t, u] })
    {w : World} {v y : Value} {R : Value → World → Prop} (hs : a.eval s = v) (hx : a.eval x = y)
    (hr : ∃ v' w', (Builtin.append_ #[t, u] o.type #[v, y]).run P w = .ok v' w' ∧ R v' w') (h : ∀ v' w', R v' w' → K (a.put o.dst v') w') :
    if Region.wanted o (yielded ops a.tmps) = true then Oper.wp P o a w K Q else E := by
  have hw : Region.wanted o (yielded ops a.tmps) = true := by simp [Region.wanted, hgd]
  rw [if_pos hw]
  exact wp_app s x t u ho hs hx hr h
end

end Go.Proofs.Ytjdcnkbkbcfhfaa

namespace Go.Proofs.Ytjdcnkbkbcfhfaa

/-- Byte k of a page. -/
def B (p : List Nat) (k : Nat) : Nat := p.getD k 0
def dS (p : List Nat) : Nat := if B p 1 = 0 then 256 else B p 1
def so (p : List Nat) (i : Nat) : Nat := B p (2 + 2 * i)
def sl (p : List Nat) (i : Nat) : Nat := B p (3 + 2 * i)
def setS (p : List Nat) (i o l : Nat) : List Nat := (p.set (2 + 2 * i) o).set (3 + 2 * i) l
def blit (p : List Nat) (o : Nat) (r : List Nat) : List Nat := p.take o ++ r ++ p.drop (o + r.length)
/-- The record in slot i. -/
def rc (p : List Nat) (i : Nat) : List Nat := (List.range (sl p i)).map fun t => B p (so p i + t)

theorem B_get {p : List Nat} {k : Nat} (h : k < p.length) : B p k = p[k] := by
  unfold B
  rw [List.getD_eq_getElem?_getD, List.getElem?_eq_getElem h]
  rfl
theorem B_set {p : List Nat} {i v : Nat} (k : Nat) (hi : i < p.length) : B (p.set i v) k = if k = i then v else B p k := by
  unfold B
  rw [List.getD_eq_getElem?_getD, List.getElem?_set]
  by_cases h : i = k
  · subst h
    simp [hi]
  · rw [if_neg h, if_neg (fun e => h e.symm), List.getD_eq_getElem?_getD]
theorem setS_len (p : List Nat) (i o l : Nat) : (setS p i o l).length = p.length := by simp [setS]
theorem B_setS {p : List Nat} {i o l : Nat} (k : Nat) (hi : 3 + 2 * i < p.length) : B (setS p i o l) k = if k = 3 + 2 * i then l else if k = 2 + 2 * i then o else B p k := by
  unfold setS
  rw [B_set k (by simpa using hi), B_set k (by omega)]
theorem blit_len {p : List Nat} {o : Nat} {r : List Nat} (h : o + r.length ≤ p.length) : (blit p o r).length = p.length := by
  unfold blit
  simp
  omega
theorem B_blit {p : List Nat} {o : Nat} {r : List Nat} (k : Nat) (h : o + r.length ≤ p.length) : B (blit p o r) k = if o ≤ k ∧ k < o + r.length then r.getD (k - o) 0 else B p k := by
  unfold B blit
  simp only [List.getD_eq_getElem?_getD]
  have ht : (p.take o).length = o := by rw [List.length_take]; omega
  by_cases h1 : k < o
  · rw [if_neg (by omega), List.append_assoc, List.getElem?_append_left (by omega), List.getElem?_take, if_pos h1]
  · by_cases h2 : k < o + r.length
    · rw [if_pos ⟨by omega, h2⟩, List.append_assoc, List.getElem?_append_right (by omega), ht, List.getElem?_append_left (by omega)]
    · rw [if_neg (by omega), List.getElem?_append_right (by rw [List.length_append]; omega), List.length_append, ht, List.getElem?_drop]
      congr 2
      omega
theorem rc_len (p : List Nat) (i : Nat) : (rc p i).length = sl p i := by simp [rc]
theorem rc_get {p : List Nat} {i t : Nat} (h : t < sl p i) : (rc p i).getD t 0 = B p (so p i + t) := by
  unfold rc
  rw [List.getD_eq_getElem?_getD, List.getElem?_map, List.getElem?_range h]
  rfl
theorem rc_congr {p q : List Nat} {i j : Nat} (hl : sl q j = sl p i) (h : ∀ t, t < sl p i → B q (so q j + t) = B p (so p i + t)) : rc q j = rc p i := by
  unfold rc
  rw [hl]
  exact List.map_congr_left fun t ht => h t (List.mem_range.1 ht)
theorem rc_of {q r : List Nat} {j : Nat} (hl : sl q j = r.length) (h : ∀ t, t < r.length → B q (so q j + t) = r.getD t 0) : rc q j = r := by
  apply List.ext_getElem?
  intro t
  unfold rc
  rw [hl, List.getElem?_map]
  by_cases ht : t < r.length
  · rw [List.getElem?_range ht, Option.map_some, h t ht, List.getD_eq_getElem?_getD, List.getElem?_eq_getElem ht]
    rfl
  · rw [List.getElem?_eq_none (by simpa using ht), List.getElem?_eq_none (by omega)]
    rfl

structure WF (p : List Nat) : Prop where
  len : p.length = 256
  byte : ∀ k, B p k < 256
  room : 2 + 2 * B p 0 ≤ dS p
  slot : ∀ i, i < B p 0 → (so p i = 0 ∧ sl p i = 0) ∨ (1 ≤ sl p i ∧ sl p i ≤ 100 ∧ dS p ≤ so p i ∧ so p i + sl p i ≤ 256)
  disj : ∀ i j, i < j → j < B p 0 → so p i ≠ 0 → so p j ≠ 0 → so p i + sl p i ≤ so p j ∨ so p j + sl p j ≤ so p i
  last : 0 < B p 0 → so p (B p 0 - 1) ≠ 0

theorem WF.ds_le {p : List Nat} (h : WF p) : dS p ≤ 256 := by
  unfold dS
  have := h.byte 1
  split <;> omega
theorem WF.used {p : List Nat} (h : WF p) {i : Nat} (hi : i < B p 0) (hu : so p i ≠ 0) : 1 ≤ sl p i ∧ sl p i ≤ 100 ∧ dS p ≤ so p i ∧ so p i + sl p i ≤ 256 := by
  rcases h.slot i hi with h | h
  · exact absurd h.1 hu
  · exact h
theorem WF.free {p : List Nat} (h : WF p) {i : Nat} (hi : i < B p 0) (hu : so p i = 0) : sl p i = 0 := by
  have := h.room
  rcases h.slot i hi with h | h
  · exact h.2
  · omega
theorem WF.n_le {p : List Nat} (h : WF p) : B p 0 ≤ 127 := by
  have := h.room
  have := h.ds_le
  omega

/-- The lengths of the first n records. -/
def S (p : List Nat) : Nat → Nat
  | 0 => 0
  | n + 1 => S p n + sl p n

theorem countP_or {q r : Nat → Bool} : ∀ l : List Nat, (∀ k, q k = true → r k = false) → l.countP (fun k => q k || r k) = l.countP q + l.countP r
  | [], _ => rfl
  | k :: l, h => by
    have ih := countP_or l h
    rw [List.countP_cons, List.countP_cons, List.countP_cons, ih]
    have := h k
    cases hq : q k <;> cases hr : r k <;> simp_all <;> omega
theorem countP_iv (o l : Nat) : ∀ n, (List.range n).countP (fun k => decide (o ≤ k) && decide (k < o + l)) = min n (o + l) - min n o
  | 0 => by simp
  | n + 1 => by
    rw [List.range_succ, List.countP_append, countP_iv o l n, List.countP_cons, List.countP_nil]
    by_cases h1 : o ≤ n <;> by_cases h2 : n < o + l <;> simp [h1, h2] <;> omega
/-- Is byte k in one of the first n records? -/
def cov (p : List Nat) (n k : Nat) : Bool := (List.range n).any fun i => decide (so p i ≤ k) && decide (k < so p i + sl p i)
theorem cov_succ (p : List Nat) (n k : Nat) : cov p (n + 1) k = (cov p n k || (decide (so p n ≤ k) && decide (k < so p n + sl p n))) := by
  unfold cov
  rw [List.range_succ, List.any_append]
  simp
theorem cov_iff {p : List Nat} {n k : Nat} : cov p n k = true ↔ ∃ i, i < n ∧ so p i ≤ k ∧ k < so p i + sl p i := by
  unfold cov
  simp
theorem WF.apart {p : List Nat} (h : WF p) {n k : Nat} (hn : n < B p 0) (hk : cov p n k = true) : (decide (so p n ≤ k) && decide (k < so p n + sl p n)) = false := by
  obtain ⟨i, hi, h1, h2⟩ := cov_iff.1 hk
  have hi0 : so p i ≠ 0 := fun e => by
    have := h.free (by omega) e
    omega
  rw [Bool.and_eq_false_iff, decide_eq_false_iff_not, decide_eq_false_iff_not]
  by_cases hn0 : so p n = 0
  · have := h.free hn hn0
    right
    omega
  · rcases h.disj i n hi hn hi0 hn0 with h3 | h3
    · left; omega
    · right; omega
theorem WF.count {p : List Nat} (h : WF p) : ∀ n, n ≤ B p 0 → (List.range 256).countP (cov p n) = S p n
  | 0, _ => by simp [cov, S]
  | n + 1, hn => by
    have ih := h.count n (by omega)
    have e : cov p (n + 1) = fun k => cov p n k || (decide (so p n ≤ k) && decide (k < so p n + sl p n)) := funext fun k => cov_succ p n k
    rw [e, countP_or _ fun k hk => h.apart (by omega) hk, ih, countP_iv]
    simp only [S]
    rcases h.slot n (by omega) with h1 | h1
    · rw [h1.1, h1.2]
      omega
    · omega
theorem WF.sum {p : List Nat} (h : WF p) {n : Nat} (hn : n ≤ B p 0) : dS p + S p n ≤ 256 := by
  have h1 := h.count n hn
  have hd := h.ds_le
  have h2 := countP_iv (dS p) (256 - dS p) 256
  have h3 : (List.range 256).countP (cov p n) ≤ (List.range 256).countP (fun k => decide (dS p ≤ k) && decide (k < dS p + (256 - dS p))) := by
    refine List.countP_mono_left fun k hk hc => ?_
    obtain ⟨i, hi, h4, h5⟩ := cov_iff.1 hc
    have hi0 : so p i ≠ 0 := fun e => by
      have := h.free (by omega) e
      omega
    have := h.used (by omega) hi0
    simp
    omega
  omega

/-- An empty page. -/
def zeros : List Nat := List.replicate 256 0
theorem zeros_len : zeros.length = 256 := List.length_replicate
/-- compact, round by round: the new page, and where its data begin. -/
def cst (p : List Nat) : Nat → List Nat × Nat
  | 0 => (zeros.set 0 (B p 0), 256)
  | i + 1 => if so p i = 0 then cst p i else (setS (blit (cst p i).1 ((cst p i).2 - sl p i) (rc p i)) i ((cst p i).2 - sl p i) (sl p i), (cst p i).2 - sl p i)
def compactL (p : List Nat) : List Nat := if (cst p (B p 0)).2 < 256 then (cst p (B p 0)).1.set 1 (cst p (B p 0)).2 else (cst p (B p 0)).1

structure CI (p : List Nat) (k : Nat) (out : List Nat) (e : Nat) : Prop where
  len : out.length = 256
  byte : ∀ x, B out x < 256
  b0 : B out 0 = B p 0
  b1 : B out 1 = 0
  sum : e + S p k = 256
  free : ∀ i, i < B p 0 → (k ≤ i ∨ so p i = 0) → so out i = 0 ∧ sl out i = 0
  used : ∀ i, i < k → so p i ≠ 0 → e ≤ so out i ∧ so out i + sl out i ≤ 256 ∧ sl out i = sl p i ∧ ∀ t, t < sl p i → B out (so out i + t) = B p (so p i + t)
  disj : ∀ i j, i < j → j < k → so p i ≠ 0 → so p j ≠ 0 → so out j + sl out j ≤ so out i

theorem B_zeros (k : Nat) : B zeros k = 0 := by
  unfold B zeros
  rw [List.getD_eq_getElem?_getD, List.getElem?_replicate]
  split <;> rfl
theorem rc_byte {p : List Nat} (h : ∀ k, B p k < 256) (i t : Nat) : (rc p i).getD t 0 < 256 := by
  by_cases ht : t < sl p i
  · rw [rc_get ht]
    exact h _
  · unfold rc
    rw [List.getD_eq_getElem?_getD, List.getElem?_eq_none (by simpa using ht)]
    show 0 < 256
    omega

theorem WF.ci {p : List Nat} (h : WF p) : ∀ k, k ≤ B p 0 → CI p k (cst p k).1 (cst p k).2
  | 0, _ => by
    have hl : 0 < zeros.length := by rw [zeros_len]; omega
    have hb := h.byte 0
    refine ⟨by show (zeros.set 0 (B p 0)).length = 256; rw [List.length_set, zeros_len], fun x => ?_, ?_, ?_, rfl, fun i hi _ => ⟨?_, ?_⟩, fun i hi => absurd hi (Nat.not_lt_zero _), fun i j _ hj => absurd hj (Nat.not_lt_zero _)⟩
    · show B (zeros.set 0 (B p 0)) x < 256
      rw [B_set x hl, B_zeros]
      split <;> omega
    · show B (zeros.set 0 (B p 0)) 0 = _
      rw [B_set 0 hl, if_pos rfl]
    · show B (zeros.set 0 (B p 0)) 1 = _
      rw [B_set 1 hl, B_zeros]
      rfl
    · show B (zeros.set 0 (B p 0)) (2 + 2 * i) = 0
      rw [B_set _ hl, B_zeros, if_neg (by omega)]
    · show B (zeros.set 0 (B p 0)) (3 + 2 * i) = 0
      rw [B_set _ hl, B_zeros, if_neg (by omega)]
  | k + 1, hk => by
    have ih := h.ci k (by omega)
    by_cases hu : so p k = 0
    · have e : cst p (k + 1) = cst p k := if_pos hu
      rw [e]
      have hf := h.free (by omega) hu
      refine ⟨ih.len, ih.byte, ih.b0, ih.b1, by have := ih.sum; simp only [S]; omega, fun i hi hc => ih.free i hi ?_, fun i hi hi0 => ih.used i ?_ hi0, fun i j hij hj hi0 hj0 => ih.disj i j hij ?_ hi0 hj0⟩
      · rcases hc with hc | hc
        · left; omega
        · right; exact hc
      · have : i ≠ k := fun e => hi0 (e ▸ hu)
        omega
      · have : j ≠ k := fun e => hj0 (e ▸ hu)
        omega
    · have e : cst p (k + 1) = (setS (blit (cst p k).1 ((cst p k).2 - sl p k) (rc p k)) k ((cst p k).2 - sl p k) (sl p k), (cst p k).2 - sl p k) := if_neg hu
      rw [e]
      generalize (cst p k).1 = out at *
      generalize (cst p k).2 = en at *
      have hs := h.sum (n := k + 1) hk
      have hsum := ih.sum
      simp only [S] at hs
      have hus := h.used (by omega) hu
      have hroom := h.room
      have hrl := rc_len p k
      have hb : en - sl p k + (rc p k).length ≤ out.length := by rw [hrl, ih.len]; omega
      have hdir : 3 + 2 * k < (blit out (en - sl p k) (rc p k)).length := by rw [blit_len hb, ih.len]; omega
      have hB : ∀ x, B (setS (blit out (en - sl p k) (rc p k)) k (en - sl p k) (sl p k)) x = if x = 3 + 2 * k then sl p k else if x = 2 + 2 * k then en - sl p k else if en - sl p k ≤ x ∧ x < en then (rc p k).getD (x - (en - sl p k)) 0 else B out x := fun x => by
        rw [B_setS x hdir, B_blit x hb, hrl]
        have : en - sl p k + sl p k = en := by omega
        rw [this]
      have hql : (setS (blit out (en - sl p k) (rc p k)) k (en - sl p k) (sl p k)).length = 256 := by rw [setS_len, blit_len hb, ih.len]
      generalize setS (blit out (en - sl p k) (rc p k)) k (en - sl p k) (sl p k) = q at *
      have hk1 : so q k = en - sl p k := by unfold so; rw [hB, if_neg (by omega), if_pos rfl]
      have hk2 : sl q k = sl p k := by unfold sl at *; rw [hB, if_pos rfl]
      have hso : ∀ i, i < B p 0 → i ≠ k → so q i = so out i := fun i hi hik => by
        unfold so
        rw [hB, if_neg (by omega), if_neg (by omega), if_neg (by omega)]
      have hsl : ∀ i, i < B p 0 → i ≠ k → sl q i = sl out i := fun i hi hik => by
        show B q (3 + 2 * i) = B out (3 + 2 * i)
        rw [hB, if_neg (by omega), if_neg (by omega), if_neg (by omega)]
      refine ⟨hql, fun x => ?_, ?_, ?_, by simp only [S]; omega, fun i hi hc => ?_, fun i hi hi0 => ?_, fun i j hij hj hi0 hj0 => ?_⟩
      · rw [hB]
        have := ih.byte x
        have := rc_byte h.byte k (x - (en - sl p k))
        split
        · omega
        · split
          · omega
          · split
            · omega
            · omega
      · rw [hB, if_neg (by omega), if_neg (by omega), if_neg (by omega)]
        exact ih.b0
      · rw [hB, if_neg (by omega), if_neg (by omega), if_neg (by omega)]
        exact ih.b1
      · have hik : i ≠ k := by
          rcases hc with hc | hc
          · omega
          · exact fun e => hu (e ▸ hc)
        rw [hso i hi hik, hsl i hi hik]
        exact ih.free i hi (by rcases hc with hc | hc; (left; omega); (right; exact hc))
      · by_cases hik : i = k
        · subst hik
          rw [hk1, hk2]
          refine ⟨Nat.le_refl _, by omega, rfl, fun t ht => ?_⟩
          rw [hB, if_neg (by omega), if_neg (by omega), if_pos (by omega)]
          have : en - sl p i + t - (en - sl p i) = t := by omega
          rw [this, rc_get ht]
        · have hu2 := ih.used i (by omega) hi0
          rw [hso i (by omega) hik, hsl i (by omega) hik]
          refine ⟨by omega, hu2.2.1, hu2.2.2.1, fun t ht => ?_⟩
          rw [hB, if_neg (by omega), if_neg (by omega), if_neg (by omega)]
          exact hu2.2.2.2 t ht
      · have hu2 := ih.used i (by omega) hi0
        rw [hso i (by omega) (by omega)]
        by_cases hjk : j = k
        · subst hjk
          rw [hk1, hk2]
          omega
        · rw [hso j (by omega) hjk, hsl j (by omega) hjk]
          exact ih.disj i j hij (by omega) hi0 hj0

/-- What compact leaves. -/
theorem compact_spec {p : List Nat} (h : WF p) : WF (compactL p) ∧ B (compactL p) 0 = B p 0 ∧ dS (compactL p) + S p (B p 0) = 256 ∧
    ∀ i, i < B p 0 → (so p i = 0 → so (compactL p) i = 0) ∧ (so p i ≠ 0 → so (compactL p) i ≠ 0) ∧ sl (compactL p) i = sl p i ∧ rc (compactL p) i = rc p i := by
  have hc := h.ci (B p 0) (Nat.le_refl _)
  have hsum := h.sum (Nat.le_refl _)
  have hroom := h.room
  have hB : ∀ x, B (compactL p) x = if x = 1 then (if (cst p (B p 0)).2 < 256 then (cst p (B p 0)).2 else 0) else B (cst p (B p 0)).1 x := fun x => by
    unfold compactL
    by_cases he : (cst p (B p 0)).2 < 256
    · rw [if_pos he, if_pos he, B_set x (by rw [hc.len]; omega)]
    · rw [if_neg he, if_neg he]
      split
      · next hx => rw [hx]; exact hc.b1
      · rfl
  have hlen : (compactL p).length = 256 := by
    unfold compactL
    split
    · rw [List.length_set, hc.len]
    · exact hc.len
  generalize compactL p = q at *
  generalize (cst p (B p 0)).1 = out at *
  generalize (cst p (B p 0)).2 = e at *
  have hes := hc.sum
  have hds : dS q = e := by
    unfold dS
    rw [hB 1, if_pos rfl]
    by_cases he : e < 256
    · rw [if_pos he, if_neg (by omega)]
    · rw [if_neg he, if_pos rfl]
      omega
  have h0 : B q 0 = B p 0 := by rw [hB, if_neg (by omega)]; exact hc.b0
  have hso : ∀ i, so q i = so out i := fun i => by unfold so; rw [hB, if_neg (by omega)]
  have hsl : ∀ i, sl q i = sl out i := fun i => by unfold sl; rw [hB, if_neg (by omega)]
  refine ⟨⟨hlen, fun k => ?_, by rw [h0, hds]; omega, fun i hi => ?_, fun i j hij hj hi0 hj0 => ?_, fun hp => ?_⟩, h0, by rw [hds]; omega, fun i hi => ⟨fun hu => ?_, fun hu => ?_, ?_, ?_⟩⟩
  · rw [hB]
    have := hc.byte k
    split
    · split <;> omega
    · omega
  · rw [h0] at hi
    rw [hso, hsl, hds]
    by_cases hu : so p i = 0
    · left
      exact hc.free i hi (.inr hu)
    · right
      have h1 := hc.used i hi hu
      have h2 := h.used hi hu
      omega
  · rw [h0] at hj
    rw [hso] at hi0 hj0
    rw [hso, hso, hsl, hsl]
    have hi1 : so p i ≠ 0 := fun e => hi0 (hc.free i (by omega) (.inr e)).1
    have hj1 : so p j ≠ 0 := fun e => hj0 (hc.free j (by omega) (.inr e)).1
    right
    exact hc.disj i j hij hj hi1 hj1
  · rw [h0] at hp
    rw [h0, hso]
    have := (hc.used (B p 0 - 1) (by omega) (h.last hp)).1
    omega
  · rw [hso]
    exact (hc.free i hi (.inr hu)).1
  · rw [hso]
    have := (hc.used i hi hu).1
    omega
  · rw [hsl]
    by_cases hu : so p i = 0
    · rw [(hc.free i hi (.inr hu)).2, h.free hi hu]
    · exact (hc.used i hi hu).2.2.1
  · by_cases hu : so p i = 0
    · refine rc_congr ?_ fun t ht => ?_
      · rw [hsl, (hc.free i hi (.inr hu)).2, h.free hi hu]
      · have := h.free hi hu
        omega
    · have h1 := hc.used i hi hu
      refine rc_congr (by rw [hsl]; exact h1.2.2.1) fun t ht => ?_
      rw [hso, hB, if_neg (by omega)]
      exact h1.2.2.2 t ht

end Go.Proofs.Ytjdcnkbkbcfhfaa

namespace Go.Proofs.Ytjdcnkbkbcfhfaa

/-- n slots from k on are cleared. -/
def clr (p : List Nat) (k : Nat) : Nat → List Nat
  | 0 => p
  | n + 1 => setS (clr p k n) (k + n) 0 0
theorem clr_len (p : List Nat) (k : Nat) : ∀ n, (clr p k n).length = p.length
  | 0 => rfl
  | n + 1 => by rw [clr, setS_len, clr_len p k n]
theorem B_clr {p : List Nat} {k : Nat} (x : Nat) : ∀ n, 2 + 2 * (k + n) ≤ p.length → B (clr p k n) x = if 2 + 2 * k ≤ x ∧ x < 2 + 2 * (k + n) then 0 else B p x
  | 0, _ => by rw [if_neg (by omega)]; rfl
  | n + 1, h => by
    rw [clr, B_setS x (by rw [clr_len]; omega), B_clr x n (by omega)]
    by_cases h1 : x = 3 + 2 * (k + n)
    · rw [if_pos h1, if_pos (by omega)]
    · rw [if_neg h1]
      by_cases h2 : x = 2 + 2 * (k + n)
      · rw [if_pos h2, if_pos (by omega)]
      · rw [if_neg h2]
        by_cases h3 : 2 + 2 * k ≤ x ∧ x < 2 + 2 * (k + n)
        · rw [if_pos h3, if_pos (by omega)]
        · rw [if_neg h3, if_neg (by omega)]

def pl0 (p : List Nat) (i : Nat) (r : List Nat) : List Nat := if dS p < r.length + 2 + 2 * max (B p 0) (i + 1) then compactL p else p
def pl1 (p : List Nat) (i : Nat) (r : List Nat) : List Nat := clr (pl0 p i r) (B p 0) (i - B p 0)
def plo (p : List Nat) (i : Nat) (r : List Nat) : Nat := dS (pl0 p i r) - r.length
def place (p : List Nat) (i : Nat) (r : List Nat) : List Nat :=
  setS (blit (((pl1 p i r).set 0 (max (B p 0) (i + 1))).set 1 (plo p i r)) (plo p i r) r) i (plo p i r) r.length

theorem place_spec {p r : List Nat} {i : Nat} (h : WF p) (hi : i < B p 0 → so p i = 0) (hr1 : 1 ≤ r.length) (hr2 : r.length ≤ 100) (hrb : ∀ t, r.getD t 0 < 256) (hfit : r.length + 2 + 2 * max (B p 0) (i + 1) + S p (B p 0) ≤ 256) :
    WF (place p i r) ∧ B (place p i r) 0 = max (B p 0) (i + 1) ∧ so (place p i r) i ≠ 0 ∧ rc (place p i r) i = r ∧
      ∀ j, j < max (B p 0) (i + 1) → j ≠ i → (B p 0 ≤ j → so (place p i r) j = 0) ∧ (j < B p 0 → (so (place p i r) j = 0 ↔ so p j = 0) ∧ rc (place p i r) j = rc p j) := by
  obtain ⟨hcw, hc0, hcd, hcs⟩ := compact_spec h
  -- the page that is written to
  have h0 : WF (pl0 p i r) ∧ B (pl0 p i r) 0 = B p 0 ∧ r.length + 2 + 2 * max (B p 0) (i + 1) ≤ dS (pl0 p i r) ∧ ∀ j, j < B p 0 → (so (pl0 p i r) j = 0 ↔ so p j = 0) ∧ sl (pl0 p i r) j = sl p j ∧ rc (pl0 p i r) j = rc p j := by
    unfold pl0
    split
    · refine ⟨hcw, hc0, by omega, fun j hj => ⟨⟨fun hz => ?_, (hcs j hj).1⟩, (hcs j hj).2.2⟩⟩
      apply Classical.byContradiction
      intro hn
      exact (hcs j hj).2.1 hn hz
    · next hn => exact ⟨h, rfl, by omega, fun j _ => ⟨Iff.rfl, rfl, rfl⟩⟩
  have hl1 : (pl1 p i r).length = 256 := by unfold pl1; rw [clr_len, h0.1.len]
  have hB1 : ∀ x, B (pl1 p i r) x = if 2 + 2 * B p 0 ≤ x ∧ x < 2 + 2 * (B p 0 + (i - B p 0)) then 0 else B (pl0 p i r) x := fun x => by
    unfold pl1
    exact B_clr x _ (by rw [h0.1.len]; omega)
  obtain ⟨hw, hz, hroom, hsame⟩ := h0
  have hd := hw.ds_le
  have ho : plo p i r + r.length = dS (pl0 p i r) := by unfold plo; omega
  have hb2 : plo p i r + r.length ≤ (((pl1 p i r).set 0 (max (B p 0) (i + 1))).set 1 (plo p i r)).length := by rw [List.length_set, List.length_set, hl1]; omega
  have hlen : (place p i r).length = 256 := by unfold place; rw [setS_len, blit_len hb2, List.length_set, List.length_set, hl1]
  have hB : ∀ x, B (place p i r) x = if x = 3 + 2 * i then r.length else if x = 2 + 2 * i then plo p i r else if plo p i r ≤ x ∧ x < dS (pl0 p i r) then r.getD (x - plo p i r) 0 else if x = 1 then plo p i r else if x = 0 then max (B p 0) (i + 1) else if 2 + 2 * B p 0 ≤ x ∧ x < 2 + 2 * (B p 0 + (i - B p 0)) then 0 else B (pl0 p i r) x := fun x => by
    unfold place
    rw [B_setS x (by rw [blit_len hb2, List.length_set, List.length_set, hl1]; omega), B_blit x hb2, ho, B_set x (by rw [List.length_set, hl1]; omega), B_set x (by rw [hl1]; omega), hB1]
  generalize place p i r = q at *
  generalize plo p i r = o at *
  generalize pl0 p i r = z at *
  generalize pl1 p i r = z1 at *
  have q0 : B q 0 = max (B p 0) (i + 1) := by rw [hB, if_neg (by omega), if_neg (by omega), if_neg (by omega), if_neg (by omega), if_pos rfl]
  have q1 : B q 1 = o := by rw [hB, if_neg (by omega), if_neg (by omega), if_neg (by omega), if_pos rfl]
  have qd : dS q = o := by unfold dS; rw [q1, if_neg (by omega)]
  have qi : so q i = o := by unfold so; rw [hB, if_neg (by omega), if_pos rfl]
  have qil : sl q i = r.length := by unfold sl; rw [hB, if_pos rfl]
  have qj : ∀ j, j < B p 0 → j ≠ i → so q j = so z j ∧ sl q j = sl z j := fun j hj hne => by
    unfold so sl
    rw [hB, hB]
    exact ⟨by rw [if_neg (by omega), if_neg (by omega), if_neg (by omega), if_neg (by omega), if_neg (by omega), if_neg (by omega)], by rw [if_neg (by omega), if_neg (by omega), if_neg (by omega), if_neg (by omega), if_neg (by omega), if_neg (by omega)]⟩
  have qf : ∀ j, B p 0 ≤ j → j < max (B p 0) (i + 1) → j ≠ i → so q j = 0 ∧ sl q j = 0 := fun j hj hj2 hne => by
    unfold so sl
    rw [hB, hB]
    exact ⟨by rw [if_neg (by omega), if_neg (by omega), if_neg (by omega), if_neg (by omega), if_neg (by omega), if_pos (by omega)], by rw [if_neg (by omega), if_neg (by omega), if_neg (by omega), if_neg (by omega), if_neg (by omega), if_pos (by omega)]⟩
  have qdat : ∀ x, dS z ≤ x → B q x = B z x := fun x hx => by
    rw [hB, if_neg (by omega), if_neg (by omega), if_neg (by omega), if_neg (by omega), if_neg (by omega), if_neg (by omega)]
  have hzu : ∀ j, j < B p 0 → so q j ≠ 0 → j ≠ i → 1 ≤ sl q j ∧ sl q j ≤ 100 ∧ dS z ≤ so q j ∧ so q j + sl q j ≤ 256 := fun j hj hu hne => by
    rw [(qj j hj hne).1] at hu ⊢
    rw [(qj j hj hne).2]
    exact hw.used (by omega) hu
  refine ⟨⟨hlen, fun k => ?_, by rw [q0, qd]; omega, fun j hj => ?_, fun a b hab hb ha0 hb0 => ?_, fun _ => ?_⟩, q0, by rw [qi]; omega, rc_of qil fun t ht => ?_, fun j hj hne => ⟨fun h1 => (qf j h1 hj hne).1, fun h1 => ⟨?_, ?_⟩⟩⟩
  · rw [hB]
    have := hw.byte k
    have := hrb (k - o)
    have := h.n_le
    split
    · omega
    · split
      · omega
      · split
        · omega
        · split
          · omega
          · split
            · omega
            · split
              · omega
              · omega
  · rw [q0] at hj
    by_cases hji : j = i
    · subst hji
      right
      rw [qi, qil, qd]
      omega
    · by_cases hjp : j < B p 0
      · by_cases hu : so q j = 0
        · left
          rw [(qj j hjp hji).1] at hu
          rw [(qj j hjp hji).1, (qj j hjp hji).2]
          exact ⟨hu, hw.free (by omega) hu⟩
        · right
          have := hzu j hjp hu hji
          omega
      · left
        exact qf j (by omega) hj hji
  · rw [q0] at hb
    by_cases hai : a = i
    · subst hai
      have hbp : b < B p 0 := by
        apply Classical.byContradiction
        intro hn
        exact hb0 (qf b (by omega) hb (by omega)).1
      have := hzu b hbp hb0 (by omega)
      rw [qi, qil]
      omega
    · have hap : a < B p 0 := by
        apply Classical.byContradiction
        intro hn
        exact ha0 (qf a (by omega) (by omega) hai).1
      by_cases hbi : b = i
      · subst hbi
        have := hzu a hap ha0 hai
        rw [qi, qil]
        omega
      · have hbp : b < B p 0 := by
          apply Classical.byContradiction
          intro hn
          exact hb0 (qf b (by omega) hb hbi).1
        rw [(qj a hap hai).1] at ha0 ⊢
        rw [(qj b hbp hbi).1] at hb0 ⊢
        rw [(qj a hap hai).2, (qj b hbp hbi).2]
        exact hw.disj a b hab (by omega) ha0 hb0
  · rw [q0]
    by_cases hpi : B p 0 ≤ i
    · have e : max (B p 0) (i + 1) - 1 = i := by omega
      rw [e, qi]
      omega
    · have e : max (B p 0) (i + 1) - 1 = B p 0 - 1 := by omega
      rw [e]
      have hne : B p 0 - 1 ≠ i := fun e => h.last (by omega) (e ▸ hi (by omega))
      rw [(qj _ (by omega) hne).1]
      have := hw.last (by omega)
      rw [hz] at this
      exact this
  · rw [qi, hB, if_neg (by omega), if_neg (by omega), if_pos (by omega)]
    congr 1
    omega
  · rw [(qj j h1 hne).1]
    exact (hsame j h1).1
  · rw [← (hsame j h1).2.2]
    by_cases hu : so z j = 0
    · have hz0 := hw.free (i := j) (by omega) hu
      refine rc_congr (qj j h1 hne).2 fun t ht => ?_
      omega
    · refine rc_congr (qj j h1 hne).2 fun t ht => ?_
      have := hw.used (i := j) (by omega) hu
      rw [(qj j h1 hne).1]
      exact qdat _ (by omega)

end Go.Proofs.Ytjdcnkbkbcfhfaa
