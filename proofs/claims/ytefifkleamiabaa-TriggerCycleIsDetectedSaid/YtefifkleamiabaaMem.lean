/-
  Words on memory: slices whose elements lie in blocks of a set S; frames. No program in sight.
-/
import Derived.WalkKit
import Derived.WalkSpells
import Derived.WalkLawsBesides
import Derived.Lib.Hide
import Derived.Deep.Slices
import Derived.Deep.Fields
import Derived.Deep.Draws
import Derived.ProofKit
namespace Go.Proofs.Ytefifkleamiabaa
open Go.RowKit

/-- The elements xs, each of sz cells, lie at the address A, in a block of S. -/
def Elems {α : Type} (sz : Nat) (cs : α → List Value) (w : World) (S : Nat → Prop) (A : Option Addr) (xs : List α) : Prop :=
  0 < xs.length → ∃ b off, A = some ⟨b, off, none⟩ ∧ S b ∧ ∀ i x, xs[i]? = some x → ∀ j u, (cs x)[j]? = some u → w.cell? ⟨b, off + i * sz + j, none⟩ = some u

/-- The blocks of S are in w' as they were in w. -/
def Keeps (S : Nat → Prop) (w w' : World) : Prop := ∀ k, S k → w'.heap[k]? = w.heap[k]?

section
variable {α : Type} {sz : Nat} {cs : α → List Value} {w w' : World} {S S' : Nat → Prop} {A : Option Addr} {xs : List α}

theorem Elems.keep (h : Elems sz cs w S A xs) (hk : Keeps S w w') : Elems sz cs w' S A xs := fun hn => by
  obtain ⟨b, off, e, hs, hc⟩ := h hn
  exact ⟨b, off, e, hs, fun i x hx j u hu => (World.cell?_of_block (w := w) (hk b hs)).trans (hc i x hx j u hu)⟩

theorem Elems.more (h : Elems sz cs w S A xs) (hs : ∀ k, S k → S' k) : Elems sz cs w S' A xs := fun hn => by
  obtain ⟨b, off, e, hb, hc⟩ := h hn
  exact ⟨b, off, e, hs b hb, hc⟩

theorem Elems.drewN (h : Elems sz cs w S A xs) (n : Nat) : Elems sz cs (w.drewN n) S A xs := h
theorem Elems.drew (h : Elems sz cs w S A xs) : Elems sz cs w.drew S A xs := h
theorem Elems.nil (w : World) (S : Nat → Prop) (A : Option Addr) : Elems sz cs w S A ([] : List α) := fun h => absurd h (by simp)

theorem Elems.at_ {k : Nat} (h : Elems sz cs w S A xs) (hk : k < xs.length) : ∃ b off, A = some ⟨b, off, none⟩ ∧ S b ∧ ∀ j u, (cs xs[k])[j]? = some u → w.cell? ⟨b, off + k * sz + j, none⟩ = some u := by
  obtain ⟨b, off, e, hb, hc⟩ := h (by omega)
  exact ⟨b, off, e, hb, hc k _ (List.getElem?_eq_getElem hk)⟩

theorem Elems.take (h : Elems sz cs w S A xs) (n : Nat) : Elems sz cs w S A (xs.take n) := fun hn => by
  obtain ⟨b, off, e, hb, hc⟩ := h (by rw [List.length_take] at hn; omega)
  refine ⟨b, off, e, hb, fun i x hx => hc i x ?_⟩
  rw [List.getElem?_take] at hx
  split at hx
  · exact hx
  · cases hx
/-- 's[k:]': the address stays where the whole capacity is cut away. -/
theorem Elems.cut (h : Elems sz cs w S A xs) {k c : Nat} (hk : k ≤ xs.length) (hc : xs.length ≤ c) : Elems sz cs w S (if c = k then A else A.map (·.add (k * sz))) (xs.drop k) := fun hn => by
  rw [List.length_drop] at hn
  obtain ⟨b, off, rfl, hb, hcell⟩ := h (by omega)
  rw [if_neg (by omega)]
  refine ⟨b, off + k * sz, ?_, hb, fun i x hx j u hu => ?_⟩
  · show some (Addr.add ⟨b, off, none⟩ (k * sz)) = _
    rw [Addr.add_lit]
  · rw [List.getElem?_drop] at hx
    have := hcell (k + i) x hx j u hu
    rw [← this]
    congr 2
    rw [Nat.add_mul]
    omega

theorem Keeps.refl (S : Nat → Prop) (w : World) : Keeps S w w := fun _ _ => rfl
theorem Keeps.trans {a b c : World} (h : Keeps S a b) (k : Keeps S b c) : Keeps S a c := fun i hi => (k i hi).trans (h i hi)
theorem Keeps.mono (h : Keeps S w w') (hs : ∀ k, S' k → S k) : Keeps S' w w' := fun i hi => h i (hs i hi)
theorem Keeps.of_below {B : Nat} (h : Below B w w') (hs : ∀ k, S k → k < B) : Keeps S w w' := fun i hi => h.block i (hs i hi)
theorem Keeps.of_grown {row : Option Nat} (h : w.grownBy w' row) (hs : ∀ k, S k → k < w.heap.size ∧ some k ≠ row) : Keeps S w w' := fun i hi => h.block i (hs i hi).1 (hs i hi).2
end

theorem below_of_grown {w w' : World} {row : Option Nat} {B : Nat} (hg : w.grownBy w' row) (hB : B ≤ w.heap.size) (hr : ∀ g, row = some g → B ≤ g) : Below B w w' :=
  ⟨hg.os, hg.tape, hg.output, hg.size, fun k hk => hg.block k (by omega) (fun e => by have := hr k e.symm; omega)⟩
theorem below_drewN {B : Nat} {a w : World} (h : Below B a w) (n : Nat) : Below B a (w.drewN n) := ⟨h.os, h.tape, h.output, h.size, h.block⟩

theorem bcell {W w1 : World} (hb : Below W.heap.size W w1) : (∀ b o, b < W.heap.size → w1.cell? ⟨b, o, none⟩ = W.cell? ⟨b, o, none⟩) ∧ (∀ b o, b < W.heap.size → w1.frozen? ⟨b, o, none⟩ = W.frozen? ⟨b, o, none⟩) :=
  ⟨fun b o h => hb.cell (p := ⟨b, o, none⟩) h, fun b o h => hb.frozen (p := ⟨b, o, none⟩) h⟩

theorem val_int {k : IntKind} {a b : Int} (h : a = b) : Value.int k a = .int k b := by rw [h]
theorem ret_int {k : IntKind} {a b : Int} (h : a = b) : Ending.returned (.int k a) = .returned (.int k b) := by rw [h]
theorem ret_tup_int {k : IntKind} {a b : Int} {c : Value} (h : a = b) : Ending.returned (.tuple #[.int k a, c]) = .returned (.tuple #[.int k b, c]) := by rw [h]
theorem ret_bool {a b : Bool} (h : a = b) : Ending.returned (.bool a) = .returned (.bool b) := by rw [h]

end Go.Proofs.Ytefifkleamiabaa
