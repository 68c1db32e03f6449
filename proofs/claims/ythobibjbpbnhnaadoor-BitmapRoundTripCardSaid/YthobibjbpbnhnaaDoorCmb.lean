/-
  The walk of bitmap.combine.
-/
import Derived.Test.YthobibjbpbnhnaaDoorChk
namespace Go.Proofs.YthobibjbpbnhnaaDoor
open Go.RowKit

/-- A bitmap in memory: its value, its groups. -/
structure Bm (w : World) (S : Nat → Prop) (v : Value) (n : Nat) (gs : List Nat) : Prop where
  val : ∃ A c, v = .agg #[.int .i64 n, .slice A (comp gs).length c] ∧ Elems 1 intCs w S A (comp gs)
  good : Good n gs

theorem Bm.keep {w w' : World} {S : Nat → Prop} {v : Value} {n : Nat} {gs : List Nat} (h : Bm w S v n gs) (hk : Keeps S w w') : Bm w' S v n gs := by
  obtain ⟨⟨A, c, h1, h2⟩, h3⟩ := h
  exact ⟨⟨A, c, h1, h2.keep hk⟩, h3⟩
theorem Bm.more {w : World} {S S' : Nat → Prop} {v : Value} {n : Nat} {gs : List Nat} (h : Bm w S v n gs) (hk : ∀ k, S k → S' k) : Bm w S' v n gs := by
  obtain ⟨⟨A, c, h1, h2⟩, h3⟩ := h
  exact ⟨⟨A, c, h1, h2.more hk⟩, h3⟩

/-- What a function leaves that makes a bitmap. -/
def BmPost (w : World) (n : Nat) (gs : List Nat) (e : Ending) (w' : World) : Prop := ∃ v, e = .returned (.tuple #[v, .int .i64 0]) ∧ Bm w' (fun k => w.heap.size ≤ k ∧ k < w'.heap.size) v n gs ∧ Below w.heap.size w w'

def zipOp (op : Nat → Nat → Nat) (a b : List Nat) : List Nat := List.zipWith op a b

theorem Nats.at_ {base : Nat} {w : World} {v : Value} {xs : List Nat} (h : Nats base w v xs) {k : Nat} (hk : k < xs.length) :
    ∃ g c, v = .slice (some ⟨g, 0, none⟩) xs.length c ∧ base ≤ g ∧ g < w.heap.size ∧ w.cell? ⟨g, k, none⟩ = some (.int .i64 (xs[k] : Int)) ∧ w.frozen? ⟨g, k, none⟩ = false := by
  obtain ⟨A, c, hv, hc, hm⟩ := h.form
  have he := h.elems natLay.len hv
  obtain ⟨b, off, hA, hb, hcell⟩ := he.nat hk
  subst hA
  rw [hv] at h
  rcases h.2 with ⟨h1, _⟩ | ⟨g, cap, cur, h1, h2, h3, _⟩
  · cases h1
  · injection h1 with h1 _ h5
    injection h1 with h1
    injection h1 with h1 h6
    subst h1 h5 h6
    exact ⟨b, c, hv, h2, (Array.getElem?_eq_some_iff.1 h3).1, by simpa using hcell, frozen_of_row w b _ _ _ h3⟩
theorem flatMap_set (xs : List Nat) (k m : Nat) : (xs.flatMap natCs).set k (.int .i64 (m : Int)) = (xs.set k m).flatMap natCs := by
  induction xs generalizing k with
  | nil => rfl
  | cons x xs ih =>
    cases k with
    | zero => rfl
    | succ k =>
      show Value.int .i64 (x : Int) :: (xs.flatMap natCs).set k _ = _
      rw [ih]
      rfl
theorem Nats.set {base : Nat} {w : World} {g n c : Nat} {xs : List Nat} (h : Nats base w (.slice (some ⟨g, 0, none⟩) n c) xs) (k m : Nat) :
    Nats base (w.setCell ⟨g, k, none⟩ (.int .i64 (m : Int))) (.slice (some ⟨g, 0, none⟩) n c) (xs.set k m) := by
  have hn : xs.length = n := by
    obtain ⟨A, c', hv, _, _⟩ := h.form
    injection hv with _ h2 _
    exact h2.symm
  have h' : w.ownsRow base 3 1 (.slice (some ⟨g, 0, none⟩) n c) n (xs.flatMap natCs) := by
    have := h
    unfold Nats Own at this
    rwa [hn] at this
  obtain ⟨h1, _⟩ := h'.stored k (.int .i64 (m : Int))
  unfold Nats Own
  rw [List.length_set, hn, ← flatMap_set]
  exact h1

theorem zip_set {op : Nat → Nat → Nat} {a b : List Nat} {k : Nat} (hl : a.length = b.length) (hk : k < a.length) :
    ((zipOp op a b).take k ++ a.drop k).set k (op a[k] (b[k]'(by omega))) = (zipOp op a b).take (k + 1) ++ a.drop (k + 1) := by
  have hz : (zipOp op a b).length = a.length := by unfold zipOp; rw [List.length_zipWith]; omega
  have ht : ((zipOp op a b).take k).length = k := by rw [List.length_take]; omega
  rw [List.set_append_right _ _ (by omega), ht, Nat.sub_self, List.drop_eq_getElem_cons hk, List.set_cons_zero, List.take_succ_eq_append_getElem (by omega), List.append_assoc]
  unfold zipOp
  rw [List.getElem_zipWith]
  rfl

/-- The boxes of combine. -/
structure KInv (w : World) (n : Nat) (sa sb : Value) (wr : World) : Prop where
  below : Below w.heap.size w wr
  b3 : wr.heap[w.heap.size]? = some (.cells #[.int .i64 n, sa] 25 (0, 0))
  b4 : wr.heap[w.heap.size + 1]? = some (.cells #[.int .i64 n, sb] 25 (0, 0))
  b6 : wr.heap[w.heap.size + 2]? = some (.cells #[.int .i64 0, .slice none 0 0] 25 (0, 0))
theorem KInv.lb {w wr : World} {n : Nat} {sa sb : Value} (h : KInv w n sa sb wr) : w.heap.size + 3 ≤ wr.heap.size := (Array.getElem?_eq_some_iff.1 h.b6).1
theorem KInv.keep {w wr w1 : World} {n B : Nat} {sa sb : Value} (h : KInv w n sa sb wr) (hb : Below B wr w1) (hB : w.heap.size + 3 ≤ B) : KInv w n sa sb w1 :=
  ⟨h.below.trans (hb.mono (by omega)), (hb.block _ (by omega)).trans h.b3, (hb.block _ (by omega)).trans h.b4, (hb.block _ (by omega)).trans h.b6⟩
theorem KInv.first (w : World) (n : Nat) (sa sb : Value) : KInv w n sa sb (((w.alloc (.cells #[.int .i64 n, sa] 25)).alloc (.cells #[.int .i64 n, sb] 25)).alloc (.cells #[.int .i64 0, .slice none 0 0] 25)) := by
  have s1 := size1 w (.cells #[.int .i64 n, sa] 25)
  have s2 := size1 (w.alloc (.cells #[.int .i64 n, sa] 25)) (.cells #[.int .i64 n, sb] 25)
  refine ⟨(((Below.refl _ _).alloc (Nat.le_refl _) _).alloc (by omega) _).alloc (by omega) _, ?_, ?_, ?_⟩
  · rw [Below.heap_alloc _ _ _ (by omega), Below.heap_alloc _ _ _ (by omega)]
    exact heap_alloc_new w _
  · rw [Below.heap_alloc _ _ _ (by omega)]
    exact alloc2_at w _ _
  · have := heap_alloc_new ((w.alloc (.cells #[.int .i64 n, sa] 25)).alloc (.cells #[.int .i64 n, sb] 25)) (.cells #[.int .i64 0, .slice none 0 0] 25)
    rwa [s2, s1] at this

end Go.Proofs.YthobibjbpbnhnaaDoor
