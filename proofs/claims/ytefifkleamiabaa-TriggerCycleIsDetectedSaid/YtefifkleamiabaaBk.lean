/-
  Keys and entries in memory; the binary search, plain. No program's walk.
-/
import Derived.Test.YtefifkleamiabaaCvw
namespace Go.Proofs.Ytefifkleamiabaa
open Go.RowKit

/-- A row's header and what it reads as. -/
structure Key where
  A : Option Addr
  c : Nat
  row : Row
def Key.cs (k : Key) : List Value := [.slice k.A k.row.length k.c]
/-- An entry: key and integer. -/
structure Ent where
  key : Key
  val : Int
def Ent.cs (e : Ent) : List Value := [.slice e.key.A e.key.row.length e.key.c, .int .i64 e.val]
theorem keyLay : Lay 1 Key.cs := ⟨fun _ => rfl, fun x c hc => by simp [Key.cs] at hc; subst hc; rfl⟩
theorem entLay : Lay 2 Ent.cs := ⟨fun _ => rfl, fun x c hc => by simp [Ent.cs] at hc; rcases hc with rfl | rfl <;> rfl⟩

/-- The row lies in blocks of K. -/
structure KOk (K : Nat → Prop) (w : World) (k : Key) : Prop where
  el : Elems 3 Val.cs w K k.A k.row
  len : k.row.length ≤ 12
theorem KOk.keep {K : Nat → Prop} {w w' : World} {k : Key} (h : KOk K w k) (hk : Keeps K w w') : KOk K w' k := ⟨h.el.keep hk, h.len⟩
theorem KOk.more {K K' : Nat → Prop} {w : World} {k : Key} (h : KOk K w k) (hk : ∀ i, K i → K' i) : KOk K' w k := ⟨h.el.more hk, h.len⟩

theorem Elems.key {w : World} {S : Nat → Prop} {A : Option Addr} {r : List Key} {k : Nat} (h : Elems 1 Key.cs w S A r) (hk : k < r.length) :
    ∃ b off, A = some ⟨b, off, none⟩ ∧ S b ∧ w.cell? ⟨b, off + k, none⟩ = some (.slice r[k].A r[k].row.length r[k].c) := by
  obtain ⟨b, off, e, hb, hc⟩ := h.at_ hk
  exact ⟨b, off, e, hb, by simpa using hc 0 _ rfl⟩
theorem Elems.ent {w : World} {S : Nat → Prop} {A : Option Addr} {r : List Ent} {k : Nat} (h : Elems 2 Ent.cs w S A r) (hk : k < r.length) :
    ∃ b off, A = some ⟨b, off, none⟩ ∧ S b ∧ w.cell? ⟨b, off + k * 2, none⟩ = some (.slice r[k].key.A r[k].key.row.length r[k].key.c) ∧ w.cell? ⟨b, off + k * 2 + 1, none⟩ = some (.int .i64 r[k].val) := by
  obtain ⟨b, off, e, hb, hc⟩ := h.at_ hk
  exact ⟨b, off, e, hb, hc 0 _ rfl, hc 1 _ rfl⟩

section
variable {α : Type}
/-- The search's state. -/
structure Bin (lt : Nat → Prop) (n i j : Nat) : Prop where
  le : i ≤ j ∧ j ≤ n
  lo : ∀ k, k < i → lt k
  hi : ∀ k, j ≤ k → k < n → ¬ lt k
theorem Bin.first (lt : Nat → Prop) (n : Nat) : Bin lt n 0 n := ⟨⟨Nat.zero_le _, Nat.le_refl _⟩, fun k h => by omega, fun k h1 h2 => by omega⟩
theorem Bin.up {lt : Nat → Prop} {n i j h : Nat} (B : Bin lt n i j) (hm : ∀ a b, a < b → b < n → lt b → lt a) (hh : i ≤ h ∧ h < j) (hl : lt h) : Bin lt n (h + 1) j := by
  obtain ⟨l1, l2⟩ := B.le
  refine ⟨⟨by omega, l2⟩, fun k hk => ?_, B.hi⟩
  by_cases hkh : k = h
  · rw [hkh]; exact hl
  · exact hm k h (by omega) (by omega) hl
theorem Bin.down {lt : Nat → Prop} {n i j h : Nat} (B : Bin lt n i j) (hm : ∀ a b, a < b → b < n → lt b → lt a) (hh : i ≤ h ∧ h < j) (hl : ¬ lt h) : Bin lt n i h := by
  obtain ⟨l1, l2⟩ := B.le
  refine ⟨⟨hh.1, by omega⟩, B.lo, fun k hk hkn => ?_⟩
  by_cases hkh : k = h
  · rw [hkh]; exact hl
  · exact fun h2 => hl (hm h k (by omega) hkn h2)

/-- Where t goes among xs. -/
structure At (row : α → Row) (xs : List α) (t : Row) (i : Nat) (fnd : Bool) : Prop where
  le : i ≤ xs.length
  lo : ∀ x ∈ xs.take i, rl (row x) t
  hi : ∀ x ∈ xs.drop i, ¬ rl (row x) t
  eq : fnd = true ↔ ∃ x r, xs.drop i = x :: r ∧ row x = t
def LtAt (row : α → Row) (xs : List α) (t : Row) (k : Nat) : Prop := ∃ x, xs[k]? = some x ∧ rl (row x) t
theorem LtAt.mono {row : α → Row} {xs : List α} {t : Row} (hs : xs.Pairwise fun a b => rl (row a) (row b)) : ∀ a b, a < b → b < xs.length → LtAt row xs t b → LtAt row xs t a := by
  rintro a b hab hb ⟨x, hx, hl⟩
  have ha : a < xs.length := by omega
  rw [List.getElem?_eq_getElem hb] at hx
  injection hx with hx
  subst hx
  exact ⟨xs[a], List.getElem?_eq_getElem ha, rl_trans (List.pairwise_iff_getElem.1 hs a b ha hb hab) hl⟩
theorem LtAt.iff {row : α → Row} {xs : List α} {t : Row} {k : Nat} (hk : k < xs.length) : LtAt row xs t k ↔ rl (row xs[k]) t := by
  constructor
  · rintro ⟨x, hx, h⟩
    rw [List.getElem?_eq_getElem hk] at hx
    injection hx with hx
    subst hx
    exact h
  · exact fun h => ⟨_, List.getElem?_eq_getElem hk, h⟩
theorem Bin.at_ {row : α → Row} {xs : List α} {t : Row} {i : Nat} {fnd : Bool} (B : Bin (LtAt row xs t) xs.length i i) (hf : fnd = true ↔ ∃ h : i < xs.length, row xs[i] = t) : At row xs t i fnd := by
  obtain ⟨_, l2⟩ := B.le
  refine ⟨l2, fun x hx => ?_, fun x hx => ?_, ?_⟩
  · obtain ⟨k, hk, rfl⟩ := List.getElem_of_mem hx
    rw [List.length_take] at hk
    rw [List.getElem_take]
    exact (LtAt.iff (by omega)).1 (B.lo k (by omega))
  · obtain ⟨k, hk, rfl⟩ := List.getElem_of_mem hx
    rw [List.length_drop] at hk
    rw [List.getElem_drop]
    exact fun h => B.hi (i + k) (by omega) (by omega) ((LtAt.iff (by omega)).2 h)
  · rw [hf]
    constructor
    · rintro ⟨h, e⟩
      exact ⟨xs[i], xs.drop (i + 1), List.drop_eq_getElem_cons h, e⟩
    · rintro ⟨x, r, h, e⟩
      have hi : i < xs.length := by
        rcases Nat.lt_or_ge i xs.length with h' | h'
        · exact h'
        · rw [List.drop_eq_nil_of_le h'] at h
          cases h
      rw [List.drop_eq_getElem_cons hi] at h
      injection h with h _
      exact ⟨hi, by rw [h]; exact e⟩
/-- What BinarySearchFunc leaves. -/
def BsPost (w : World) (row : α → Row) (xs : List α) (t : Row) (e : Ending) (w' : World) : Prop := ∃ (i : Nat) (fnd : Bool), e = .returned (.tuple #[.int .i64 i, .bool fnd]) ∧ At row xs t i fnd ∧ Below w.heap.size w w'
end

end Go.Proofs.Ytefifkleamiabaa
