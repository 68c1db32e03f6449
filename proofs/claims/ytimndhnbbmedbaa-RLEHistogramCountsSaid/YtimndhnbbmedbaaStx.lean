/-
  A block of runs under sorting; the walk of swapRange.
-/
import Derived.Test.YtimndhnbbmedbaaStw
import Derived.BigRegion
namespace Go.Proofs.Ytimndhnbbmedbaa
open Go.RowKit Go.Sort

/-- The runs f 0, .., f (n-1) lie at the head of block g; nothing else that was there in w0 has turned. -/
structure SB (w0 : World) (g n : Nat) (w : World) (f : Nat → Run) : Prop where
  only : w0.grownBy w (some g)
  blk : ∃ arr, w.heap[g]? = some (.cells arr 45 (0, 0)) ∧ ∀ i, i < n → ∀ j u, (f i).cs[j]? = some u → arr[i * 4 + j]? = some u

theorem SB.cells {w0 w : World} {g n : Nat} {f : Nat → Run} (h : SB w0 g n w f) {i : Nat} (hi : i < n) :
    w.cell? ⟨g, i * 4, none⟩ = some (.int .i64 (f i).v.kind) ∧ w.cell? ⟨g, i * 4 + 1, none⟩ = some (.int .i64 (f i).v.int) ∧ w.cell? ⟨g, i * 4 + 2, none⟩ = some (.string (f i).v.text) ∧ w.cell? ⟨g, i * 4 + 3, none⟩ = some (.int .i64 ((f i).n : Int)) := by
  obtain ⟨arr, hb, hc⟩ := h.blk
  refine ⟨?_, ?_, ?_, ?_⟩
  · rw [cell_of_row _ g _ _ _ (0, 0) hb]; exact hc i hi 0 _ rfl
  · rw [cell_of_row _ g _ _ _ (0, 0) hb]; exact hc i hi 1 _ rfl
  · rw [cell_of_row _ g _ _ _ (0, 0) hb]; exact hc i hi 2 _ rfl
  · rw [cell_of_row _ g _ _ _ (0, 0) hb]; exact hc i hi 3 _ rfl
theorem SB.frozen {w0 w : World} {g n : Nat} {f : Nat → Run} (h : SB w0 g n w f) (i : Nat) : w.frozen? ⟨g, i, none⟩ = false := by
  obtain ⟨arr, hb, hc⟩ := h.blk
  exact frozen_of_row w g i arr _ hb

def putA (arr : Array Value) (k : Nat) (r : Run) : Array Value := (((arr.setIfInBounds (k * 4) (.int .i64 r.v.kind)).setIfInBounds (k * 4 + 1) (.int .i64 r.v.int)).setIfInBounds (k * 4 + 2) (.string r.v.text)).setIfInBounds (k * 4 + 3) (.int .i64 (r.n : Int))
def put4 (w : World) (g k : Nat) (r : Run) : World := (((w.setCell ⟨g, k * 4, none⟩ (.int .i64 r.v.kind)).setCell ⟨g, k * 4 + 1, none⟩ (.int .i64 r.v.int)).setCell ⟨g, k * 4 + 2, none⟩ (.string r.v.text)).setCell ⟨g, k * 4 + 3, none⟩ (.int .i64 (r.n : Int))

theorem putA_at {arr : Array Value} {n k : Nat} {f : Nat → Run} {r : Run} (h : ∀ i, i < n → ∀ j u, (f i).cs[j]? = some u → arr[i * 4 + j]? = some u) (hk : k < n) :
    ∀ i, i < n → ∀ j u, (if i = k then r else f i).cs[j]? = some u → (putA arr k r)[i * 4 + j]? = some u := by
  intro i hi j u hu
  have hsz : k * 4 + 3 < arr.size := (Array.getElem?_eq_some_iff.1 (h k hk 3 _ rfl)).1
  have hj : j < 4 := by
    have := (List.getElem?_eq_some_iff.1 hu).1
    rwa [runLay.len] at this
  unfold putA
  by_cases hik : i = k
  · subst hik
    rw [if_pos rfl] at hu
    have : j = 0 ∨ j = 1 ∨ j = 2 ∨ j = 3 := by omega
    rcases this with rfl | rfl | rfl | rfl
    · simp [Run.cs] at hu
      subst hu
      simp [Array.getElem?_setIfInBounds]
      omega
    · simp [Run.cs] at hu
      subst hu
      simp [Array.getElem?_setIfInBounds]
      omega
    · simp [Run.cs] at hu
      subst hu
      simp [Array.getElem?_setIfInBounds]
      omega
    · simp [Run.cs] at hu
      subst hu
      simp [Array.getElem?_setIfInBounds]
      omega
  · rw [if_neg hik] at hu
    have := h i hi j u hu
    rw [Array.getElem?_setIfInBounds_ne (by omega), Array.getElem?_setIfInBounds_ne (by omega), Array.getElem?_setIfInBounds_ne (by omega), Array.getElem?_setIfInBounds_ne (by omega)]
    exact this
theorem put4_blk {w : World} {g k : Nat} {r : Run} {arr : Array Value} {t : TypeId} (h : w.heap[g]? = some (.cells arr t (0, 0))) : (put4 w g k r).heap[g]? = some (.cells (putA arr k r) t (0, 0)) :=
  heap_setCell_same _ g _ _ t _ (heap_setCell_same _ g _ _ t _ (heap_setCell_same _ g _ _ t _ (heap_setCell_same _ g _ _ t _ h)))
theorem grown_setCell {a w : World} {g : Nat} (h : a.grownBy w (some g)) (i : Nat) (u : Value) : a.grownBy (w.setCell ⟨g, i, none⟩ u) (some g) :=
  ⟨h.os, h.tape, h.output, by simpa [World.setCell] using h.size, fun k hk hne => (Below.heap_setCell _ _ _ _ (fun e => hne (by rw [e]))).trans (h.block k hk hne)⟩
theorem put4_grown {a w : World} {g : Nat} (h : a.grownBy w (some g)) (k : Nat) (r : Run) : a.grownBy (put4 w g k r) (some g) := grown_setCell (grown_setCell (grown_setCell (grown_setCell h _ _) _ _) _ _) _ _
theorem grown_drew {a w : World} {g : Option Nat} (h : a.grownBy w g) : a.grownBy w.drew g := ⟨h.os, h.tape, h.output, h.size, h.block⟩

theorem SB.drew {w0 w : World} {g n : Nat} {f : Nat → Run} (h : SB w0 g n w f) : SB w0 g n w.drew f := ⟨grown_drew h.only, h.blk⟩
theorem SB.put {w0 w : World} {g n i : Nat} {f : Nat → Run} (h : SB w0 g n w f) (hi : i < n) (r : Run) : SB w0 g n (put4 w g i r) (fun x => if x = i then r else f x) := by
  obtain ⟨arr, hb, hc⟩ := h.blk
  exact ⟨put4_grown h.only _ _, putA arr i r, put4_blk hb, putA_at hc hi⟩

/-- Two runs exchanged. -/
theorem SB.swap {w0 w : World} {g n i j : Nat} {f : Nat → Run} {ri rj : Run} (h : SB w0 g n w f) (hi : i < n) (hj : j < n) (ei : f i = ri) (ej : f j = rj) : SB w0 g n (put4 (put4 w g i rj) g j ri).drew (swp f i j) := by
  subst ei ej
  have h2 := ((h.put hi (f j)).put hj (f i)).drew
  have e : (fun x => if x = j then f i else if x = i then f j else f x) = swp f i j := by
    funext x
    unfold swp
    (repeat' split) <;> first | rfl | (subst_vars; rfl)
  rw [e] at h2
  exact h2

set_option maxRecDepth 100000 in
set_option maxHeartbeats 4000000 in
theorem swapRange (g n c a b m : Nat) (fn : Value) (f : Nat → Run) (w : World) (h : SB w g n w f) (ha : a + m ≤ b) (hb : b + m ≤ n) (hn : n ≤ 1000) :
    Calls Try.prog 38 #[.slice (some ⟨g, 0, none⟩) n c, .int .i64 a, .int .i64 b, .int .i64 m, fn] w fun e w' => e = .returned (.tuple #[]) ∧ SB w g n w' (swr f a b m) := by
  have H0 := Lib.hid h
  clear h
  go_enter Try.func38, Try.ntmps38
  go_wp2_with fail
  go_loopw [10] (fun i wr => ∃ k : Nat, k ≤ m ∧ i = .int .i64 k ∧ SB w g n wr (swr f a b k)) (fun i _ => m - (intOf i).toNat)
  case atStart => exact ⟨0, by omega, rfl, H0.out⟩
  case round =>
    obtain ⟨k, hk, rfl, hs⟩ := hrel
    clear H0
    by_cases hlt : k < m
    · obtain ⟨c0, c1, c2, c3⟩ := hs.cells (i := a + k) (by omega)
      obtain ⟨d0, d1, d2, d3⟩ := hs.cells (i := b + k) (by omega)
      have fz := fun i => hs.frozen i
      have x1 : IntKind.i64.wrap ((a : Int) + (k : Int)) = ((a + k : Nat) : Int) := by rw [IntKind.wrap_i64]; omega
      have x2 : IntKind.i64.wrap ((b : Int) + (k : Int)) = ((b + k : Nat) : Int) := by rw [IntKind.wrap_i64]; omega
      have p1 : ((a + k : Nat) : Int) < (n : Int) := by omega
      have p2 : ((b + k : Nat) : Int) < (n : Int) := by omega
      have HSW := Lib.hid (hs.swap (i := a + k) (j := b + k) (by omega) (by omega) rfl rfl)
      clear hs
      generalize hA : a + k = ak at *
      generalize hB : b + k = bk at *
      have HAB := Lib.hid (And.intro hA hB)
      have hab : ak < bk := by omega
      clear hA hB
      generalize (swr f a b k ak) = ra at *
      generalize (swr f a b k bk) = rb at *
      go_wp2_with fail
      go_region
      go_wp2_with fail
      go_roundw
      case rel => exact ⟨k + 1, by omega, by go_num, by have := HSW.out; rw [← HAB.out.1, ← HAB.out.2] at this ⊢; exact this⟩
      case measure => simp [intOf]; omega
    · go_wp2_with fail
      go_end0
      have : k = m := by omega
      subst this
      exact ⟨rfl, hs⟩

end Go.Proofs.Ytimndhnbbmedbaa
