/-
  Slices of the call's own that grow by append: the words and the laws. No program in sight.
-/
import Derived.Test.YtefifkleamiabaaMem
import Derived.Maps.AppendAt
import Derived.Lib.AppendStr
namespace Go.Proofs.Ytefifkleamiabaa
open Go.RowKit

/-- The element type e of the slice type t: sz cells, so many bytes. -/
structure ElemT (P : Program) (t e : TypeId) (sz bytes : Nat) : Prop where
  und : P.underlying t = some (.slice e)
  info : ∃ (i : TypeInfo) (z : Value), P.info? e = some i ∧ i.zero = some z ∧ i.size = sz ∧ i.bytes = bytes ∧ z.cells.size = sz
  pos : 0 < sz

/-- What each element lies in: sz cells, each of one cell's kind. -/
structure Lay {α : Type} (sz : Nat) (cs : α → List Value) : Prop where
  len : ∀ x, (cs x).length = sz
  one : ∀ x, ∀ c ∈ cs x, c.oneCell' = true

/-- The slice v is nil or lies at the head of a block of the call's own, from base on; its elements are xs. -/
def Own {α : Type} (sz : Nat) (cs : α → List Value) (e : TypeId) (base : Nat) (w : World) (v : Value) (xs : List α) : Prop :=
  w.ownsRow base e sz v xs.length (xs.flatMap cs)

/-- From w to w': no old block but that of v has turned; v' lies where v lay, or in a new block. -/
structure Ext (w : World) (v : Value) (w' : World) (v' : Value) : Prop where
  grown : w.grownBy w' v.ownBlock
  block : v'.ownBlock = v.ownBlock ∨ ∃ g, v'.ownBlock = some g ∧ w.heap.size ≤ g

section
variable {a b c w w' : World} {va vb vc v v' : Value}

theorem Ext.refl (w : World) (v : Value) : Ext w v w v := ⟨World.grownBy.refl w _, .inl rfl⟩
theorem Ext.trans (h : Ext a va b vb) (k : Ext b vb c vc) : Ext a va c vc := by
  refine ⟨⟨k.grown.os.trans h.grown.os, k.grown.tape.trans h.grown.tape, k.grown.output.trans h.grown.output, Nat.le_trans h.grown.size k.grown.size, fun i hi hne => ?_⟩, ?_⟩
  · refine (k.grown.block i (Nat.lt_of_lt_of_le hi h.grown.size) ?_).trans (h.grown.block i hi hne)
    rcases h.block with e | ⟨g, e, hg⟩
    · rw [e]; exact hne
    · rw [e]; intro he; injection he with he; omega
  · rcases k.block with e | ⟨g, e, hg⟩
    · rcases h.block with e' | ⟨g', e', hg'⟩
      · exact .inl (e.trans e')
      · exact .inr ⟨g', e.trans e', hg'⟩
    · exact .inr ⟨g, e, Nat.le_trans h.grown.size hg⟩
theorem Ext.of_below (h : Below w.heap.size w w') (v : Value) : Ext w v w' v :=
  ⟨⟨h.os, h.tape, h.output, h.size, fun i hi _ => h.block i hi⟩, .inl rfl⟩
theorem Ext.alloc (h : Ext a va b vb) (o : Obj) : Ext a va (b.alloc o) vb := h.trans (Ext.of_below ((Below.refl _ _).alloc (Nat.le_refl _) _) _)
theorem Ext.drewN (h : Ext a va b vb) (n : Nat) : Ext a va (b.drewN n) vb := h.trans (Ext.of_below (below_drewN (Below.refl _ _) n) _)
theorem Ext.drew (h : Ext a va b vb) : Ext a va b.drew vb := h.trans (Ext.of_below (Below.refl _ _).drew _)
theorem Ext.then_below (h : Ext a va b vb) (k : Below b.heap.size b c) : Ext a va c vb := h.trans (Ext.of_below k _)
theorem Ext.setCell (h : Ext a va b vb) {p : Addr} (hp : a.heap.size ≤ p.block) (u : Value) : Ext a va (b.setCell p u) vb :=
  ⟨⟨h.grown.os, h.grown.tape, h.grown.output, by simpa [World.setCell] using h.grown.size, fun i hi hne => (Below.heap_setCell b p u i (by omega)).trans (h.grown.block i hi hne)⟩, h.block⟩
/-- What lies below a base, where v is the call's own from base on. -/
theorem Ext.below {base : Nat} (h : Ext a va b vb) (hB : base ≤ a.heap.size) (hv : ∀ g, va.ownBlock = some g → base ≤ g) : Below base a b := below_of_grown h.grown hB hv
theorem Ext.size (h : Ext a va b vb) : a.heap.size ≤ b.heap.size := h.grown.size
theorem Ext.keeps {S : Nat → Prop} (h : Ext a va b vb) (hs : ∀ k, S k → k < a.heap.size ∧ some k ≠ va.ownBlock) : Keeps S a b := Keeps.of_grown h.grown hs
/-- A block that was there and is not v's is not v''s. -/
theorem Ext.ne (h : Ext a va b vb) {g : Nat} (hne : va.ownBlock ≠ some g) (hg : g < a.heap.size) : vb.ownBlock ≠ some g := by
  rcases h.block with e | ⟨g', e, hg'⟩
  · rw [e]; exact hne
  · rw [e]; intro he; injection he with he; omega
/-- A cell of a block that is not v's. -/
theorem Ext.old_cell (h : Ext a va b vb) {g i : Nat} {u : Value} (hc : a.cell? ⟨g, i, none⟩ = some u) (hne : va.ownBlock ≠ some g) : b.cell? ⟨g, i, none⟩ = some u :=
  h.grown.cell hc (fun e => hne e.symm)
theorem size1 (w : World) (o : Obj) : (w.alloc o).heap.size = w.heap.size + 1 := by simp
theorem alloc2_at (w : World) (a b : Obj) : ((w.alloc a).alloc b).heap[w.heap.size + 1]? = some b := by
  have := heap_alloc_new (w.alloc a) b
  rwa [size1] at this
theorem alloc2_at_drewN (w : World) (a b : Obj) (n : Nat) : (((w.alloc a).alloc b).drewN n).heap[w.heap.size + 1]? = some b := alloc2_at w a b
theorem le_size2 {n : Nat} {w : World} (h : n ≤ w.heap.size) (a b : Obj) : n ≤ ((w.alloc a).alloc b).heap.size := by simp; omega
theorem le_size2_drewN {n : Nat} {w : World} (h : n ≤ w.heap.size) (a b : Obj) (k : Nat) : n ≤ (((w.alloc a).alloc b).drewN k).heap.size := by show n ≤ ((w.alloc a).alloc b).heap.size; simp; omega
theorem le_size1 {n : Nat} {w : World} (h : n ≤ w.heap.size) (o : Obj) : n ≤ (w.alloc o).heap.size := by simp; omega
theorem Ext.base {n : Nat} (h : Ext a va b vb) (hB : n ≤ a.heap.size) : n ≤ b.heap.size := Nat.le_trans hB h.size
theorem Ext.base1 {n : Nat} {o : Obj} (h : Ext (a.alloc o) va b vb) (hB : n ≤ a.heap.size) : n ≤ b.heap.size := Nat.le_trans (le_size1 hB o) h.size
/-- From a nil slice: nothing old has turned. -/
theorem Ext.below_nil {n c : Nat} (h : Ext a (.slice none n c) b vb) : Below a.heap.size a b := h.below (Nat.le_refl _) (by simp [Value.ownBlock])
theorem Ext.own_lt {base : Nat} (h : Ext a va b vb) (hv : ∀ g, va.ownBlock = some g → base ≤ g) (hB : base ≤ a.heap.size) : ∀ g, vb.ownBlock = some g → base ≤ g := by
  intro g hg
  rcases h.block with e | ⟨g', e, hg'⟩
  · exact hv g (e ▸ hg)
  · rw [e] at hg; injection hg with hg; omega
end

section
variable {α : Type} {sz : Nat} {cs : α → List Value} {e : TypeId} {base : Nat} {w w' : World} {v v' : Value} {xs : List α}

theorem Own.nil (w : World) : Own sz cs e base w (.slice none 0 0) ([] : List α) := World.ownsRow_nil w base e sz
theorem Own.lt (h : Own sz cs e base w v xs) : ∀ g, v.ownBlock = some g → base ≤ g ∧ g < w.heap.size := World.ownsRow.lt h
theorem Own.kept {row : Option Nat} (h : Own sz cs e base w v xs) (hg : w.grownBy w' row) (hne : v.ownBlock = none ∨ v.ownBlock ≠ row) : Own sz cs e base w' v xs := World.ownsRow.kept h hg hne
theorem Own.alloc (h : Own sz cs e base w v xs) (o : Obj) : Own sz cs e base (w.alloc o) v xs := World.ownsRow.alloc h o
theorem Own.below (h : Own sz cs e base w v xs) (hb : Below w.heap.size w w') : Own sz cs e base w' v xs :=
  h.kept (row := none) ⟨hb.os, hb.tape, hb.output, hb.size, fun k hk _ => hb.block k hk⟩ (by cases hv : v.ownBlock <;> simp)
theorem Own.drewN (h : Own sz cs e base w v xs) (n : Nat) : Own sz cs e base (w.drewN n) v xs := h.below (below_drewN (Below.refl _ _) n)
theorem Own.drew (h : Own sz cs e base w v xs) : Own sz cs e base w.drew v xs := h.below (Below.refl _ _).drew
/-- A store into another block. -/
theorem Own.setCell (h : Own sz cs e base w v xs) {p : Addr} (hp : ∀ g, v.ownBlock = some g → g ≠ p.block) (u : Value) : Own sz cs e base (w.setCell p u) v xs := by
  refine h.kept (row := some p.block) ⟨rfl, rfl, rfl, by simp [World.setCell], fun k _ hk => Below.heap_setCell w p u k (fun e => hk (by rw [e]))⟩ ?_
  cases hv : v.ownBlock with
  | none => exact .inl rfl
  | some g => exact .inr (fun e => hp g hv (by injection e))
theorem Own.mono {base' : Nat} (h : Own sz cs e base w v xs) (hb : base' ≤ base) : Own sz cs e base' w v xs := by
  refine ⟨h.1, ?_⟩
  rcases h.2 with h | ⟨g, cap, cur, h1, h2, h3⟩
  · exact .inl h
  · exact .inr ⟨g, cap, cur, h1, Nat.le_trans hb h2, h3⟩
/-- Its form: a slice with so many elements. -/
theorem Own.form (h : Own sz cs e base w v xs) : ∃ A c, v = .slice A xs.length c ∧ xs.length ≤ c ∧ c ≤ maxLen := by
  rcases h.2 with ⟨rfl, hn⟩ | ⟨g, cap, cur, rfl, _, _, hnc, hcm, _⟩
  · exact ⟨none, 0, by rw [hn], by omega, by unfold maxLen; omega⟩
  · exact ⟨_, cap, rfl, hnc, hcm⟩

theorem flatMap_getElem? (hcs : ∀ x, (cs x).length = sz) : ∀ (xs : List α) (i : Nat) (x : α), xs[i]? = some x → ∀ j, j < sz → (xs.flatMap cs)[i * sz + j]? = (cs x)[j]?
  | [], i, x, h, j, hj => by simp at h
  | y :: ys, 0, x, h, j, hj => by
    simp at h
    subst h
    rw [List.flatMap_cons, List.getElem?_append_left (by rw [hcs]; omega)]
    congr 1
    omega
  | y :: ys, i + 1, x, h, j, hj => by
    simp at h
    have e : (i + 1) * sz = sz + i * sz := by rw [Nat.succ_mul]; omega
    rw [List.flatMap_cons, List.getElem?_append_right (by rw [hcs]; omega), hcs, ← flatMap_getElem? hcs ys i x h j hj]
    congr 1
    omega

/-- An own slice read as elements. -/
theorem Own.elems (h : Own sz cs e base w v xs) (hcs : ∀ x, (cs x).length = sz) {A : Option Addr} {n c : Nat} (hv : v = .slice A n c) : Elems sz cs w (fun k => v.ownBlock = some k) A xs := fun hn => by
  subst hv
  rcases h.2 with ⟨hv, hz⟩ | ⟨g, cap, cur, hv, _⟩
  · omega
  · injection hv with hA _ _
    subst hA
    refine ⟨g, 0, rfl, rfl, fun i x hx j u hu => ?_⟩
    have hj : j < sz := by rw [← hcs x]; exact (List.getElem?_eq_some_iff.1 hu).1
    have := World.ownsRow.cells h (g := g) rfl (i * sz + j) u (by rw [flatMap_getElem? hcs xs i x hx j hj]; exact hu)
    rw [Addr.add_lit] at this
    simpa [Nat.add_assoc] using this
end

section
variable {α : Type} {P : Program} {t e : TypeId} {sz bytes : Nat} {cs : α → List Value} {base : Nat}

/-- 'append(v, y)': one element, laid ahead of it in a new block. -/
theorem run_push (E : ElemT P t e sz bytes) (L : Lay sz cs) (ty : TypeId) (w : World) (v : Value) (xs : List α) (y : α) (u : Array Value)
    (hown : Own sz cs e base w v xs) (hu : u.toList = cs y) (hlen : (xs.length + 1) * bytes ≤ 140737488355328) (hmax : xs.length + 1 ≤ maxLen) (hbase : base ≤ w.heap.size) {g : Nat} (hg : w.heap.size = g) :
    ∃ v' w', (Builtin.append_ #[t, t] ty #[v, .slice (some ⟨g, 0, none⟩) 1 1]).run P (w.alloc (.cells u e)) = .ok v' w' ∧ Own sz cs e base w' v' (xs ++ [y]) ∧ Ext w v w' v' := by
  subst hg
  obtain ⟨i, z, hi, hz, h2, h3, h4⟩ := E.info
  obtain ⟨v', w', hr, hown', hg, _, hat⟩ := Go.run_append_own_at (P := P) (w.alloc (.cells u e)) base t ty e i z sz bytes E.und hi hz h2 h3 h4 E.pos v xs.length (xs.flatMap cs) (World.ownsRow.alloc hown _) ⟨w.heap.size, 0, none⟩ 1 1 u.toList (by rw [hu, L.len]; omega)
    (fun j c hj => by
      rw [Addr.add_lit, cell_of_row _ w.heap.size _ u e (0, 0) (heap_alloc_new w _)]
      simpa using hj) (by rw [hu]; exact L.one y) hmax hlen (by simp; omega)
  have hsz : (w.alloc (.cells u e)).heap.size = w.heap.size + 1 := by simp
  refine ⟨v', w', hr, ?_, ?_⟩
  · show w'.ownsRow base e sz v' _ _
    rw [List.length_append, List.flatMap_append]
    simpa [hu] using hown'
  · exact ((Ext.refl w v).alloc (.cells u e)).trans ⟨hg, hat.imp id (fun hh => ⟨_, hh, Nat.le_refl _⟩)⟩

/-- The same at whatever world in which the element lies in a block of its own (behind a draw, say). -/
theorem run_push_at (E : ElemT P t e sz bytes) (L : Lay sz cs) (ty : TypeId) (w : World) {W : World} (v : Value) (xs : List α) (y : α) {u : Array Value} {g : Nat} (hW : Ext w v W v)
    (hown : Own sz cs e base W v xs) (hg : W.heap[g]? = some (.cells u e (0, 0))) (hu : u.toList = cs y) (hlen : (xs.length + 1) * bytes ≤ 140737488355328) (hmax : xs.length + 1 ≤ maxLen) (hbase : base ≤ W.heap.size) :
    ∃ v' w', (Builtin.append_ #[t, t] ty #[v, .slice (some ⟨g, 0, none⟩) 1 1]).run P W = .ok v' w' ∧ Own sz cs e base w' v' (xs ++ [y]) ∧ Ext w v w' v' := by
  obtain ⟨i, z, hi, hz, h2, h3, h4⟩ := E.info
  obtain ⟨v', w', hr, hown', hgr, _, hat⟩ := Go.run_append_own_at (P := P) W base t ty e i z sz bytes E.und hi hz h2 h3 h4 E.pos v xs.length (xs.flatMap cs) hown ⟨g, 0, none⟩ 1 1 u.toList (by rw [hu, L.len]; omega)
    (fun j c hj => by
      rw [Addr.add_lit, cell_of_row _ g _ u e (0, 0) hg]
      simpa using hj) (by rw [hu]; exact L.one y) hmax hlen hbase
  refine ⟨v', w', hr, ?_, hW.trans ⟨hgr, hat.imp id (fun hh => ⟨_, hh, Nat.le_refl _⟩)⟩⟩
  show w'.ownsRow base e sz v' _ _
  rw [List.length_append, List.flatMap_append]
  simpa [hu] using hown'

theorem run_append_of_nil (ty : TypeId) (E : ElemT P t e sz bytes) (w : World) (v : Value) (n : Nat) (xs : List Value) (hown : w.ownsRow base e sz v n xs) (c : Nat) :
    (Builtin.append_ #[t, t] ty #[v, .slice none 0 c]).run P w = .ok v w := by
  obtain ⟨i, z, hi, _⟩ := E.info
  rcases hown.2 with ⟨rfl, rfl⟩ | ⟨g, cap, cur, rfl, _, _, hnc, _⟩
  · simp [Builtin.append_, run_underlying E.und, sizeOf, typeInfo, hi, Builtin.lenOf, Builtin.firstCells]
  · simp [Builtin.append_, run_underlying E.und, sizeOf, typeInfo, hi, Builtin.lenOf, Builtin.firstCells, hnc, storeCells]

theorem flatMap_at (L : Lay sz cs) (hsz : 0 < sz) {xs : List α} {j : Nat} {u : Value} (h : (xs.flatMap cs)[j]? = some u) : ∃ i x, xs[i]? = some x ∧ (cs x)[j % sz]? = some u ∧ j = i * sz + j % sz := by
  have hl : (xs.flatMap cs).length = xs.length * sz := by
    clear h
    induction xs with
    | nil => simp
    | cons x xs ih => rw [List.flatMap_cons, List.length_append, ih, L.len, List.length_cons, Nat.succ_mul]; omega
  have hj : j < xs.length * sz := by rw [← hl]; exact (List.getElem?_eq_some_iff.1 h).1
  have hi : j / sz < xs.length := Nat.div_lt_of_lt_mul (by rw [Nat.mul_comm]; exact hj)
  have e : j = j / sz * sz + j % sz := by rw [Nat.mul_comm]; exact (Nat.div_add_mod j sz).symm
  refine ⟨j / sz, xs[j / sz], List.getElem?_eq_getElem hi, ?_, e⟩
  rw [← flatMap_getElem? L.len xs (j / sz) _ (List.getElem?_eq_getElem hi) _ (Nat.mod_lt _ hsz), ← e]
  exact h

/-- 'append(v, ys...)': a slice, wherever it lies. -/
theorem run_pushs (E : ElemT P t e sz bytes) (L : Lay sz cs) (ty : TypeId) (w : World) (v : Value) (xs : List α) {S : Nat → Prop} {A : Option Addr} {c n : Nat} {ys : List α}
    (hown : Own sz cs e base w v xs) (hr : Elems sz cs w S A ys) (hn : n = ys.length) (hlen : (xs.length + ys.length) * bytes ≤ 140737488355328) (hmax : xs.length + ys.length ≤ maxLen) (hbase : base ≤ w.heap.size) :
    ∃ v' w', (Builtin.append_ #[t, t] ty #[v, .slice A n c]).run P w = .ok v' w' ∧ Own sz cs e base w' v' (xs ++ ys) ∧ Ext w v w' v' := by
  subst hn
  rcases A with _ | ad
  · rcases Nat.eq_zero_or_pos ys.length with h0 | h0
    · have hy : ys = [] := List.eq_nil_of_length_eq_zero h0
      subst hy
      exact ⟨v, w, run_append_of_nil ty E w v _ _ hown c, by simpa using hown, Ext.refl _ _⟩
    · obtain ⟨_, _, h, _⟩ := hr h0
      cases h
  · obtain ⟨i, z, hi, hz, h2, h3, h4⟩ := E.info
    obtain ⟨v', w', hrun, hown', hg, _, hat⟩ := Go.run_append_own_at (P := P) w base t ty e i z sz bytes E.und hi hz h2 h3 h4 E.pos v xs.length (xs.flatMap cs) hown ad ys.length c (ys.flatMap cs)
      (by
        clear hr hlen hmax
        induction ys with
        | nil => simp
        | cons x xs ih => rw [List.flatMap_cons, List.length_append, ih, L.len, List.length_cons, Nat.succ_mul]; omega)
      (fun j u hj => by
        obtain ⟨k, x, hx, hu, hjk⟩ := flatMap_at L E.pos hj
        obtain ⟨b, off, hA, _, hc⟩ := hr (by have := (List.getElem?_eq_some_iff.1 hx).1; omega)
        injection hA with hA
        subst hA
        rw [Addr.add_lit, hjk, ← Nat.add_assoc]
        exact hc k x hx _ u hu)
      (fun u hu => by
        obtain ⟨x, _, hx⟩ := List.mem_flatMap.1 hu
        exact L.one x u hx) hmax hlen hbase
    refine ⟨v', w', hrun, ?_, hg, hat.imp id (fun hh => ⟨_, hh, Nat.le_refl _⟩)⟩
    show w'.ownsRow base e sz v' _ _
    rw [List.length_append, List.flatMap_append]
    exact hown'

end

/-- An empty slice literal's block. -/
theorem Own.lit0 {α : Type} {sz : Nat} {cs : α → List Value} {e : TypeId} (w : World) : Own sz cs e w.heap.size (w.alloc (.cells #[] e)) (.slice (some ⟨w.heap.size, 0, none⟩) 0 0) ([] : List α) :=
  World.ownsRow_lit w #[] 0 (Nat.le_refl _) (by unfold maxLen; omega) (by simp)

/-- A bound far below what memory bears. (Behind a name: walks and numerals.) -/
def Small (n : Nat) : Prop := n ≤ 1000000000
theorem Small.le {n k : Nat} (h : Small n) (hk : k ≤ n) : Small k := Nat.le_trans hk h
theorem Small.bytes {n : Nat} (h : Small n) : n * 1 ≤ 140737488355328 := by unfold Small at h; omega
theorem Small.maxLen {n : Nat} (h : Small n) : n ≤ maxLen := by unfold Small at h; unfold Go.maxLen; omega

/-- A number that fits 64 bits. (Behind a name: a walk does not return under the numeral.) -/
def IsU64 (n : Nat) : Prop := n < 18446744073709551616
theorem IsU64.le {n k : Nat} (h : IsU64 n) (hk : k ≤ n) : IsU64 k := Nat.lt_of_le_of_lt hk h

/-- The cells of a byte. -/
def byteCs (b : UInt8) : List Value := [.int .u8 (b.toNat : Int)]
theorem byteLay : Lay 1 byteCs := ⟨fun _ => rfl, fun x c hc => by simp [byteCs] at hc; subst hc; rfl⟩
theorem Elems.byte {w : World} {S : Nat → Prop} {A : Option Addr} {xs : List UInt8} {k : Nat} (h : Elems 1 byteCs w S A xs) (hk : k < xs.length) :
    ∃ b off, A = some ⟨b, off, none⟩ ∧ S b ∧ w.cell? ⟨b, off + k, none⟩ = some (.int .u8 (xs[k].toNat : Int)) := by
  obtain ⟨b, off, e, hb, hc⟩ := h.at_ hk
  exact ⟨b, off, e, hb, by simpa using hc 0 _ rfl⟩

theorem byte_cells (bs : List UInt8) : bs.flatMap byteCs = bs.map fun b => Value.int .u8 (b.toNat : Int) := by
  induction bs with
  | nil => rfl
  | cons b bs ih => rw [List.flatMap_cons, ih]; rfl

/-- 'append(v, s...)', s a string. -/
theorem run_pushStr {P : Program} {t u e : TypeId} {base : Nat} (ht : P.underlying t = some (.slice e)) (hu : P.underlying u = some .string) (hi : (P.info? e).map (fun i => (i.zero, i.size, i.bytes)) = some (some (.int .u8 0), 1, 1)) (ty : TypeId)
    (w : World) (v : Value) (xs : List UInt8) (s : ByteArray) (hown : Own 1 byteCs e base w v xs) (hlen : xs.length + s.size ≤ 140737488355328) (hbase : base ≤ w.heap.size) :
    ∃ v' w', (Builtin.append_ #[t, u] ty #[v, .string s]).run P w = .ok v' w' ∧ Own 1 byteCs e base w' v' (xs ++ s.data.toList) ∧ Ext w v w' v' := by
  obtain ⟨i, hi0, hz, h1, h2⟩ := info_parts hi
  have hsl : s.data.toList.length = s.size := rfl
  have hcs : s.data.toList.flatMap byteCs = Lib.strCells s := by rw [byte_cells]; rfl
  have fin : ∀ v' w', w'.ownsRow base e 1 v' (xs.length + s.size) (xs.flatMap byteCs ++ Lib.strCells s) → Own 1 byteCs e base w' v' (xs ++ s.data.toList) := fun v' w' h => by
    show w'.ownsRow base e 1 v' _ _
    rw [List.length_append, List.flatMap_append, hcs, hsl]
    exact h
  have hmx : xs.length + s.size ≤ maxLen := by unfold maxLen; omega
  rcases hown.2 with ⟨rfl, hn⟩ | ⟨g, cap, cur, rfl, hbg, hg, hnc, hcm, hcsz, htake⟩
  · have hx : xs = [] := List.eq_nil_of_length_eq_zero hn
    subst hx
    obtain ⟨v', w', hr, ho, hgr, _⟩ := Lib.run_append_own_string (P := P) w w.heap.size t u ty e i ht hu hi0 hz h1 h2 (.slice none 0 0) 0 [] (World.ownsRow_nil w _ e 1) s (by simpa using hmx) (by simpa using hlen) (Nat.le_refl _)
    refine ⟨v', w', hr, fin v' w' ?_, hgr, ?_⟩
    · refine ⟨by simpa using ho.1, ?_⟩
      rcases ho.2 with h | ⟨g, cap, cur, h1, h2, h3⟩
      · exact .inl (by simpa using h)
      · exact .inr ⟨g, cap, cur, by simpa using h1, by omega, by simpa using h3⟩
    · cases hv : v'.ownBlock with
      | none => exact .inl (by simp [Value.ownBlock])
      | some g => exact .inr ⟨g, rfl, (ho.lt g hv).1⟩
  · obtain ⟨v', w', hr, ho, hgr, _⟩ := Lib.run_append_own_string (P := P) w base t u ty e i ht hu hi0 hz h1 h2 (.slice (some ⟨g, 0, none⟩) xs.length cap) xs.length (xs.flatMap byteCs) hown s hmx hlen hbase
    refine ⟨v', w', hr, fin v' w' ho, hgr, ?_⟩
    have hcs' : cur.size = cap := by simpa using hcsz
    by_cases hroom : xs.length + s.size ≤ cap
    · have hr2 := Lib.run_append_room_string (P := P) w t u ty e i ht hu hi0 h1 g xs.length cap cur hg s hroom (by omega)
      rw [hr] at hr2
      injection hr2 with hv
      subst hv
      exact .inl rfl
    · have holds : ∀ j u, (xs.flatMap byteCs)[j]? = some u → w.cell? ((⟨g, 0, none⟩ : Addr).add j) = some u := World.ownsRow.cells hown (g := g) rfl
      have hr2 := Lib.run_append_grow_string (P := P) w t u ty e i (.int .u8 0) ht hu hi0 hz ⟨g, 0, none⟩ xs.length cap (xs.flatMap byteCs) (by rw [h1]; exact hown.1) holds s (by omega) (by unfold maxLen at hmx; omega) (by rw [h2]; exact growslice_fits (by omega) (by omega))
      rw [hr] at hr2
      injection hr2 with hv
      subst hv
      exact .inr ⟨_, rfl, Nat.le_refl _⟩

section
variable {P : Program} {ops : Array Oper} {rest : List Oper} {o : Oper} {a : Act} {K : Act → World → Prop} {Q : Exit → Act → World → Prop} {E : Prop}
/-- An append whose run is known: at the operation. -/
theorem wp_app (s x : Operand) (t u : TypeId) (ho : o.op = .call { callee := .builtin .append, args := #[s, x], argTypes := #[t, u] })
    {w : World} {v y : Value} {R : Value → World → Prop} (hs : a.eval s = v) (hx : a.eval x = y)
    (hr : ∃ v' w', (Builtin.append_ #[t, u] o.type #[v, y]).run P w = .ok v' w' ∧ R v' w') (h : ∀ v' w', R v' w' → K (a.put o.dst v') w') : o.wp P a w K Q := by
  obtain ⟨v', w', hr, hR⟩ := hr
  unfold Oper.wp execOp
  simp only [ho, resolve, invoke, builtin, Sem.run_bind, Sem.run_pure, Result.andThen_ok, List.map_toArray, List.map_cons, List.map_nil, hs, hx, hr]
  exact h v' w' hR
/-- .. at the head of a list of operations (a plain region). -/
theorem wpList_app (hgd : o.guard = none) (s x : Operand) (t u : TypeId) (ho : o.op = .call { callee := .builtin .append, args := #[s, x], argTypes := #[t, u] })
    {w : World} {v y : Value} {R : Value → World → Prop} (hs : a.eval s = v) (hx : a.eval x = y)
    (hr : ∃ v' w', (Builtin.append_ #[t, u] o.type #[v, y]).run P w = .ok v' w' ∧ R v' w') (h : ∀ v' w', R v' w' → wpList P ops Q rest (a.put o.dst v') w') : wpList P ops Q (o :: rest) a w :=
  wpList_plain hgd fun _ hK => wp_app s x t u ho hs hx hr fun v' w' hR => hK _ _ (h v' w' hR)
/-- .. at a step of a region that draws its order. -/
theorem step_app (hgd : o.guard = none) (s x : Operand) (t u : TypeId) (ho : o.op = .call { callee := .builtin .append, args := #[s, x], argTypes := #[t, u] })
    {w : World} {v y : Value} {R : Value → World → Prop} (hs : a.eval s = v) (hx : a.eval x = y)
    (hr : ∃ v' w', (Builtin.append_ #[t, u] o.type #[v, y]).run P w = .ok v' w' ∧ R v' w') (h : ∀ v' w', R v' w' → K (a.put o.dst v') w') :
    if Region.wanted o (yielded ops a.tmps) = true then Oper.wp P o a w K Q else E := by
  have hw : Region.wanted o (yielded ops a.tmps) = true := by simp [Region.wanted, hgd]
  rw [if_pos hw]
  exact wp_app s x t u ho hs hx hr h
end

end Go.Proofs.Ytefifkleamiabaa
