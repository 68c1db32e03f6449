/-
  What a decoder of instances makes: tables and rows of its own. No walk.
-/
import Derived.Test.YtjgghbmlbheknaaIenc
namespace Go.Proofs.Ytjgghbmlbheknaa
open Go.RowKit

theorem elem_hd : ElemT Try.prog 62 23 1 24 := ⟨Try.underlying62, by
  have h : (Try.prog.info? 23).map (fun i => (i.zero, i.size, i.bytes)) = some (some (.slice none 0 0), 1, 24) := by kernel_rfl
  obtain ⟨i0, hi, hz0, hz1, hz2⟩ := info_parts h
  exact ⟨i0, _, hi, hz0, hz1, hz2, rfl⟩, by omega⟩
theorem elem_th : ElemT Try.prog 39 64 2 40 := ⟨Try.underlying39, by
  have h : (Try.prog.info? 64).map (fun i => (i.zero, i.size, i.bytes)) = some (some (.agg #[.string ByteArray.empty, .slice none 0 0]), 2, 40) := by kernel_rfl
  obtain ⟨i0, hi, hz0, hz1, hz2⟩ := info_parts h
  exact ⟨i0, _, hi, hz0, hz1, hz2, rfl⟩, by omega⟩
theorem own_form {α : Type} {sz : Nat} {cs : α → List Value} {e : TypeId} {base : Nat} {w : World} {v : Value} {xs : List α} (h : Own sz cs e base w v xs) : ∃ A n c, v = .slice A n c ∧ xs.length = n := by
  obtain ⟨A, c, hv, _, _⟩ := h.form
  exact ⟨A, _, c, hv, rfl⟩

/-- The rows of a table under way: all in blocks behind P. -/
structure DR (wr : World) (P : Nat) (u : Value) (hs : List Hd) (rs : List (List Val)) : Prop where
  own : Own 1 Hd.cs 23 (P + 1) wr u hs
  rows : ∃ T : Nat → Prop, (∀ (i : Nat) (h : Hd) (r : List Val), hs[i]? = some h → rs[i]? = some r → RowH wr T h r) ∧ ∀ b, T b → P + 1 ≤ b ∧ b < wr.heap.size ∧ u.ownBlock ≠ some b
  len : hs.length = rs.length

theorem DR.first (wr : World) (P : Nat) : DR wr P (.slice none 0 0) [] [] := ⟨Own.nil _, ⟨fun _ => False, fun i h r h1 => by simp at h1, fun b hb => hb.elim⟩, rfl⟩
theorem DR.only {wr w1 : World} {P g : Nat} {u : Value} {hs : List Hd} {rs : List (List Val)} (h : DR wr P u hs rs) (ho : Only wr g w1) (hg : g < P + 1) : DR w1 P u hs rs := by
  obtain ⟨T, h1, h2⟩ := h.rows
  refine ⟨h.own.only ho hg, ⟨T, fun i a r ha hr => (h1 i a r ha hr).keep fun k hk => ho.block k (h2 k hk).2.1 (fun e => by injection e with e; have := (h2 k hk).1; omega), fun b hb => ⟨(h2 b hb).1, Nat.lt_of_lt_of_le (h2 b hb).2.1 ho.size, (h2 b hb).2.2⟩⟩, h.len⟩
theorem DR.setCell {wr : World} {P i : Nat} {u : Value} {hs : List Hd} {rs : List (List Val)} (h : DR wr P u hs rs) (x : Value) : DR (wr.setCell ⟨P, i, none⟩ x) P u hs rs := by
  obtain ⟨T, h1, h2⟩ := h.rows
  refine ⟨h.own.setCell (fun b hb => by have := (h.own.lt b hb).1; show b ≠ P; omega) x, ⟨T, fun i a r ha hr => (h1 i a r ha hr).keep fun k hk => Below.heap_setCell _ _ _ _ (by have := (h2 k hk).1; show k ≠ P; omega), fun b hb => ⟨(h2 b hb).1, by have := (h2 b hb).2.1; simpa [World.setCell] using this, (h2 b hb).2.2⟩⟩, h.len⟩
/-- One row more. -/
theorem DR.step {wr w1 w2 : World} {P g n c : Nat} {A : Option Addr} {u u' : Value} {hs : List Hd} {rs : List (List Val)} {r : List Val} (h : DR wr P u hs rs) (ho : Only wr g w1) (hg : g < P + 1) (hP : P + 1 ≤ wr.heap.size)
    (hrow : Own 3 Val.cs 55 wr.heap.size w1 (.slice A n c) r) (hl : r.length ≤ maxLen) (hx : Ext w1 u w2 u') (hown : Own 1 Hd.cs 23 (P + 1) w2 u' (hs ++ [⟨A, n, c⟩])) : DR w2 P u' (hs ++ [⟨A, n, c⟩]) (rs ++ [r]) := by
  have h' := h.only ho hg
  obtain ⟨T, h1, h2⟩ := h'.rows
  have hul : ∀ b, u.ownBlock = some b → b < wr.heap.size := fun b hb => (h.own.lt b hb).2
  have hne : ∀ k, (T k ∨ (Value.slice A n c).ownBlock = some k) → P + 1 ≤ k ∧ k < w1.heap.size ∧ u.ownBlock ≠ some k := fun k hk => by
    rcases hk with hk | hk
    · exact h2 k hk
    · have := hrow.lt k hk
      exact ⟨by omega, this.2, fun e => by have := hul k e; omega⟩
  refine ⟨hown, ⟨fun k => T k ∨ (Value.slice A n c).ownBlock = some k, fun i a x ha hxr => ?_, fun b hb => ⟨(hne b hb).1, Nat.lt_of_lt_of_le (hne b hb).2.1 hx.size, hx.ne (hne b hb).2.2 (hne b hb).2.1⟩⟩, by rw [List.length_append, List.length_append, h.len]; rfl⟩
  have hkeep : Keeps (fun k => T k ∨ (Value.slice A n c).ownBlock = some k) w1 w2 := fun k hk => hx.grown.block k (hne k hk).2.1 (fun e => (hne k hk).2.2 e.symm)
  by_cases hi : i < hs.length
  · rw [List.getElem?_append_left hi] at ha
    rw [List.getElem?_append_left (by rw [← h.len]; exact hi)] at hxr
    exact ((h1 i a x ha hxr).more fun k hk => .inl hk).keep hkeep
  · have hi2 : i = hs.length := by
      have := (List.getElem?_eq_some_iff.1 ha).1
      simp at this
      omega
    rw [hi2, List.getElem?_append_right (Nat.le_refl _), Nat.sub_self] at ha
    rw [hi2, h.len, List.getElem?_append_right (Nat.le_refl _), Nat.sub_self] at hxr
    simp at ha hxr
    subst ha hxr
    have hn : n = r.length := by
      obtain ⟨A', c', hv, _⟩ := hrow.form
      injection hv with _ hv _
    exact ⟨hn, hl, ((hrow.elems valLay.len rfl).more fun k hk => .inr hk).keep hkeep⟩

/-- The tables under way. -/
structure DI (w wr : World) (v : Value) (ts : List Th) (is : List Rel) : Prop where
  own : Own 2 Th.cs 64 (w.heap.size + 1) wr v ts
  below : Below w.heap.size w wr
  rel : ∃ T : Nat → Prop, (∀ (i : Nat) (t : Th) (x : Rel), ts[i]? = some t → is[i]? = some x → RelH wr T t x) ∧ ∀ b, T b → w.heap.size + 1 ≤ b ∧ b < wr.heap.size ∧ v.ownBlock ≠ some b
  len : ts.length = is.length

theorem DI.only {w wr w1 : World} {v : Value} {ts : List Th} {is : List Rel} (h : DI w wr v ts is) (ho : Only wr w.heap.size w1) : DI w w1 v ts is := by
  obtain ⟨T, h1, h2⟩ := h.rel
  refine ⟨h.own.only ho (by omega), h.below.trans ⟨ho.os, ho.tape, ho.output, ho.size, fun k hk => ho.block k (Nat.lt_of_lt_of_le hk h.below.size) (fun e => by injection e with e; omega)⟩, ⟨T, fun i a r ha hr => (h1 i a r ha hr).keep fun k hk => ho.block k (h2 k hk).2.1 (fun e => by injection e with e; have := (h2 k hk).1; omega), fun b hb => ⟨(h2 b hb).1, Nat.lt_of_lt_of_le (h2 b hb).2.1 ho.size, (h2 b hb).2.2⟩⟩, h.len⟩
/-- One table more: its rows lie behind P, all that was made before lies below P. -/
theorem DI.step {w wp wr w2 : World} {n c : Nat} {A : Option Addr} {v v' : Value} {ts : List Th} {is : List Rel} {nm : ByteArray} {hs : List Hd} {rs : List (List Val)} (h : DI w wp v ts is) (ho : Only wp w.heap.size wr) (hP : w.heap.size + 1 ≤ wp.heap.size) (hd : DR wr wp.heap.size (.slice A n c) hs rs)
    (hl : rs.length ≤ maxLen) (hsz : nm.size ≤ maxLen) (hx : Ext wr v w2 v') (hown : Own 2 Th.cs 64 (w.heap.size + 1) w2 v' (ts ++ [⟨nm, ⟨A, n, c⟩⟩])) : DI w w2 v' (ts ++ [⟨nm, ⟨A, n, c⟩⟩]) (is ++ [⟨nm, rs⟩]) := by
  have h' := h.only ho
  obtain ⟨T, h1, h2⟩ := h'.rel
  obtain ⟨T2, g1, g2⟩ := hd.rows
  have hvl : ∀ b, v.ownBlock = some b → b < wp.heap.size := fun b hb => (h.own.lt b hb).2
  have hne : ∀ k, (T k ∨ T2 k ∨ (Value.slice A n c).ownBlock = some k) → w.heap.size + 1 ≤ k ∧ k < wr.heap.size ∧ v.ownBlock ≠ some k := fun k hk => by
    rcases hk with hk | hk | hk
    · exact h2 k hk
    · have := g2 k hk
      exact ⟨by omega, this.2.1, fun e => by have := hvl k e; omega⟩
    · have := hd.own.lt k hk
      exact ⟨by omega, this.2, fun e => by have := hvl k e; omega⟩
  have hb2 : Below w.heap.size wr w2 := hx.below (base := w.heap.size) (Nat.le_trans (by omega) ho.size) fun b hb => by have := (h'.own.lt b hb).1; omega
  refine ⟨hown, h'.below.trans hb2, ⟨fun k => T k ∨ T2 k ∨ (Value.slice A n c).ownBlock = some k, fun i a x ha hxr => ?_, fun b hb => ⟨(hne b hb).1, Nat.lt_of_lt_of_le (hne b hb).2.1 hx.size, hx.ne (hne b hb).2.2 (hne b hb).2.1⟩⟩, by rw [List.length_append, List.length_append, h.len]; rfl⟩
  have hkeep : Keeps (fun k => T k ∨ T2 k ∨ (Value.slice A n c).ownBlock = some k) wr w2 := fun k hk => hx.grown.block k (hne k hk).2.1 (fun e => (hne k hk).2.2 e.symm)
  by_cases hi : i < ts.length
  · rw [List.getElem?_append_left hi] at ha
    rw [List.getElem?_append_left (by rw [← h.len]; exact hi)] at hxr
    exact ((h1 i a x ha hxr).more fun k hk => .inl hk).keep hkeep
  · have hi2 : i = ts.length := by
      have := (List.getElem?_eq_some_iff.1 ha).1
      simp at this
      omega
    rw [hi2, List.getElem?_append_right (Nat.le_refl _), Nat.sub_self] at ha
    rw [hi2, h.len, List.getElem?_append_right (Nat.le_refl _), Nat.sub_self] at hxr
    simp at ha hxr
    subst ha hxr
    have hn : n = rs.length := by
      obtain ⟨A', c', hv, _⟩ := hd.own.form
      injection hv with _ hv _
      rw [hv, hd.len]
    refine ⟨rfl, hn, hl, hsz, hs, ?_⟩
    exact (RowsH.mk ((hd.own.elems hdLay.len rfl).more fun k hk => .inr (.inr hk)) hd.len fun j a r ha hr => (g1 j a r ha hr).more fun k hk => .inr (.inl hk)).keep hkeep
theorem DI.first (w wr : World) (hb : Below w.heap.size w wr) : DI w wr (.slice none 0 0) [] [] := ⟨Own.nil _, hb, ⟨fun _ => False, fun i h r h1 => by simp at h1, fun b hb => hb.elim⟩, rfl⟩
/-- The tables as an instance in memory. -/
theorem DI.inst {w wr : World} {v : Value} {ts : List Th} {is : List Rel} (h : DI w wr v ts is) : ∃ A c, v = .slice A is.length c ∧ InstH wr (· < wr.heap.size) A ts is := by
  obtain ⟨A, c, hv, _, _⟩ := h.own.form
  obtain ⟨T, h1, h2⟩ := h.rel
  refine ⟨A, c, by rw [hv, h.len], ⟨(h.own.elems thLay.len hv).more fun k hk => (h.own.lt k hk).2, h.len, fun i t x ht hx => (h1 i t x ht hx).more fun k hk => (h2 k hk).2.1⟩⟩

end Go.Proofs.Ytjgghbmlbheknaa
