/-
  An own instance: one table's rows laid anew. No program's walk.
-/
import Derived.Test.YtefifkleamiabaaG14
namespace Go.Proofs.Ytefifkleamiabaa
open Go.RowKit Go.Sort

theorem Own.set2 {α : Type} {cs : α → List Value} (L : Lay 2 cs) {e : TypeId} {base : Nat} {w : World} {g n c i : Nat} {xs : List α} {y : α} {v : Value} (h : Own 2 cs e base w (.slice (some ⟨g, 0, none⟩) n c) xs) (hi : i < xs.length) (hy : ∀ x, xs[i]? = some x → cs y = [(cs x)[0]?.getD undef, v]) :
    Own 2 cs e base (w.setCell ⟨g, i * 2 + 1, none⟩ v) (.slice (some ⟨g, 0, none⟩) n c) (xs.set i y) ∧ (∃ q, w.cell? ⟨g, i * 2 + 1, none⟩ = some q) ∧ w.frozen? ⟨g, i * 2 + 1, none⟩ = false := by
  obtain ⟨g', c', cur, hv, hb, hg, hcl, hcm, hs, ht⟩ := Own.open_ h (by omega)
  injection hv with hv1 hv2 hv3
  injection hv1 with hv1
  injection hv1 with hv1
  subst hv1 hv3
  refine ⟨Own.shut L hb (heap_setCell_at hg _) ?_ (by omega) hcm (by simp [hs]) ?_, ?_, frozen_of_row _ _ _ _ _ hg⟩
  · rw [List.length_set]; exact hv2
  · rw [Array.toList_setIfInBounds, List.take_set, hv2, ht]
    have key : ∀ (xs : List α) (i : Nat), i < xs.length → (∀ x, xs[i]? = some x → cs y = [(cs x)[0]?.getD undef, v]) → (xs.flatMap cs).set (i * 2 + 1) v = (xs.set i y).flatMap cs := by
      intro xs
      induction xs with
      | nil => intro i hi; cases hi
      | cons a l ih =>
        intro i hi hy
        have hla := L.len a
        obtain ⟨va, vb, hva⟩ : ∃ va vb, cs a = [va, vb] := by
          rcases hc : cs a with _ | ⟨x, _ | ⟨x2, _ | ⟨x3, l3⟩⟩⟩
          · rw [hc] at hla; cases hla
          · rw [hc] at hla; simp at hla
          · exact ⟨x, x2, rfl⟩
          · rw [hc] at hla; simp at hla
        cases i with
        | zero =>
          have hy0 := hy a rfl
          rw [hva] at hy0
          rw [List.set_cons_zero, List.flatMap_cons, List.flatMap_cons, hy0, hva]
          rfl
        | succ i =>
          have e : (i + 1) * 2 + 1 = (i * 2 + 1) + 1 + 1 := by omega
          rw [List.set_cons_succ, List.flatMap_cons, List.flatMap_cons, hva, ← ih i (by simpa using hi) (fun x hx => hy x hx), e]
          rfl
    exact key xs i hi hy
  · rw [cell_of_row _ _ _ _ _ _ hg]
    exact ⟨_, Array.getElem?_eq_getElem (by omega)⟩

theorem InO.below {base : Nat} {w0 w w' : World} {v : Value} {rs : List RelM} {ds : List (ByteArray × List Row)} (h : InO base w0 w v rs ds) (hb : Below w.heap.size w w') (hB : base ≤ w.heap.size) : InO base w0 w' v rs ds :=
  ⟨h.own.below hb, h.dat, fun k hk => ((h.rel k hk).keep (Keeps.of_below hb fun _ h => h.2.1)).more fun _ hg => ⟨hg.1, Nat.lt_of_lt_of_le hg.2.1 hb.size, hg.2.2⟩, h.bel.trans (hb.mono hB)⟩
theorem InO.inOk {base : Nat} {w0 w : World} {A : Option Addr} {n c : Nat} {rs : List RelM} {ds : List (ByteArray × List Row)} (h : InO base w0 w (.slice A n c) rs ds) : InOk (· < w.heap.size) w A rs :=
  ⟨(h.own.elems relLay.len rfl).more fun g hg => (Own.lt h.own g hg).2, fun k hk => (h.rel k hk).more fun _ hg => hg.2.1⟩
/-- The rows of table i are laid anew (they lie in blocks made behind w1). -/
theorem InO.set {base : Nat} {w0 w1 w : World} {g n c i : Nat} {rs : List RelM} {ds : List (ByteArray × List Row)} (h : InO base w0 w1 (.slice (some ⟨g, 0, none⟩) n c) rs ds) (hB : base ≤ w1.heap.size) (hi : i < rs.length) {A : Option Addr} {c' : Nat} {ks : List Key} {rows : List Row} (hr : RO w1.heap.size w1 w (.slice A ks.length c') ks rows) (nm : ByteArray) (hnm : ∀ r, rs[i]? = some r → r.name = nm) :
    InO base w0 (w.setCell ⟨g, i * 2 + 1, none⟩ (.slice A ks.length c')) (.slice (some ⟨g, 0, none⟩) n c) (rs.set i ⟨nm, A, c', ks⟩) (ds.set i (nm, rows)) ∧ (∃ q, w.cell? ⟨g, i * 2 + 1, none⟩ = some q) ∧ w.frozen? ⟨g, i * 2 + 1, none⟩ = false := by
  have h2 := h.below hr.bel hB
  obtain ⟨o1, o2, o3⟩ := Own.set2 relLay h2.own hi (y := ⟨nm, A, c', ks⟩) (v := .slice A ks.length c') (fun x hx => by
    show [Value.string nm, .slice A ks.length c'] = [Value.string x.name, _]
    rw [hnm x hx])
  have hg := Own.lt h.own g rfl
  have hoff : ∀ k, k ≠ g → (w.setCell ⟨g, i * 2 + 1, none⟩ (.slice A ks.length c')).heap[k]? = w.heap[k]? := fun k hk => Below.heap_setCell w ⟨g, i * 2 + 1, none⟩ _ k hk
  have hsz : (w.setCell ⟨g, i * 2 + 1, none⟩ (.slice A ks.length c')).heap.size = w.heap.size := by simp [World.setCell]
  refine ⟨⟨o1, ?_, fun k hk => ?_, h2.bel.setCell (p := ⟨g, i * 2 + 1, none⟩) hg.1 _⟩, o2, o3⟩
  · rw [List.map_set, h.dat]
    show ds.set i (nm, ks.map Key.row) = _
    rw [hr.rows]
  · rcases List.mem_or_eq_of_mem_set hk with hm | rfl
    · exact ((h2.rel k hm).keep fun j hj => hoff j fun e => hj.2.2 (by rw [e]; rfl)).more fun j hj => ⟨hj.1, by rw [hsz]; exact hj.2.1, hj.2.2⟩
    · have h3 := hr.rsb
      exact (h3.keep fun j hj => hoff j (by omega)).more fun j hj => ⟨by omega, by rw [hsz]; exact hj.2, fun e => by have e := Option.some.inj (show some g = some j from e); omega⟩
end Go.Proofs.Ytefifkleamiabaa
