/-
  The reading of an instance that came in.
-/
import Derived.Test.YtjgghbmlbheknaaIn
import Derived.Test.YtjgghbmlbheknaaLawv
namespace Go.Proofs.Ytjgghbmlbheknaa
open Go.ChangeShapes Go.WideShapes Go.ChangeAt Go.RowKit Go.Deep

theorem pick {α β : Type} {R : α → β → Prop} : ∀ (hs : List α), (∀ h ∈ hs, ∃ r, R h r) → ∃ rs : List β, hs.length = rs.length ∧ ∀ (i : Nat) h r, hs[i]? = some h → rs[i]? = some r → R h r
  | [], _ => ⟨[], rfl, fun i h r h1 => by simp at h1⟩
  | x :: hs, h => by
    obtain ⟨r, hr⟩ := h x (by simp)
    obtain ⟨rs, hl, hi⟩ := pick hs fun y hy => h y (by simp [hy])
    refine ⟨r :: rs, by simp [hl], fun i a b ha hb => ?_⟩
    cases i with
    | zero => simp at ha hb; subst ha hb; exact hr
    | succ i => exact hi i a b (by simpa using ha) (by simpa using hb)

theorem cellsOf_row : Try.prog.cellsOf 23 = 1 := by kernel_rfl
theorem cellsOf_rel : Try.prog.cellsOf 64 = 2 := by kernel_rfl
theorem cellsOf_rows : Try.prog.cellsOf 62 = 1 := by kernel_rfl

/-- An instance in memory. -/
def InstIn (w : World) (S : Nat → Prop) (A : Option Addr) (is : List Rel) : Prop := ∃ ts, InstH w S A ts is
theorem InstIn.more {w : World} {S S' : Nat → Prop} {A : Option Addr} {is : List Rel} (h : InstIn w S A is) (hk : ∀ k, S k → S' k) : InstIn w S' A is := h.elim fun ts h => ⟨ts, h.more hk⟩
/-- Rows in memory. -/
def RowsIn (w : World) (S : Nat → Prop) (A : Option Addr) (rs : List (List Val)) : Prop := ∃ hs, RowsH w S A hs rs

section
variable {H : Type} {enc : TypeId × Value → H} {w : World} {base : Nat} {spare : Nat → Bool} {held : Bool} {fuel : Nat}

theorem open_hd {cs : List Value} {x : DataW H × List MemPlace} (h : DataW.trod enc Try.prog w base spare held fuel 23 cs = some x) : ∃ t : Hd, cs = t.cs ∧ ∃ r, RowH w (fun k => base ≤ k ∧ k < w.heap.size) t r := by
  obtain ⟨A, c, r, rfl, hc, hm, hx, _⟩ := open_row Try.underlying23 h
  exact ⟨⟨A, r.length, c⟩, rfl, r, rfl, Nat.le_trans hc hm, hx⟩

theorem open_rows {t : TypeId} (ht : Try.prog.underlying t = some (.slice 23)) {cs : List Value} {x : DataW H × List MemPlace} (h : DataW.trod enc Try.prog w base spare held fuel t cs = some x) :
    ∃ (A : Option Addr) (c : Nat) (r : List (List Val)), cs = [.slice A r.length c] ∧ r.length ≤ c ∧ c ≤ maxLen ∧ RowsIn w (fun k => base ≤ k ∧ k < w.heap.size) A r := by
  obtain ⟨A, c, hs, rfl, hc, hm, hx, hok⟩ := open_elems ht cellsOf_row (by omega) (fun _ => rfl) (fun _ _ _ hx => open_hd hx) h
  obtain ⟨rs, hl, hi⟩ := pick hs hok
  exact ⟨A, c, rs, by rw [hl], by omega, hm, hs, hx, hl, hi⟩

theorem open_th {cs : List Value} {x : DataW H × List MemPlace} (h : DataW.trod enc Try.prog w base spare held fuel 64 cs = some x) : ∃ t : Th, cs = t.cs ∧ ∃ r, RelH w (fun k => base ≤ k ∧ k < w.heap.size) t r := by
  obtain ⟨xs, n, _, _, hl, hx, hf⟩ := DataW.trod_struct Try.underlying64 h
  rw [cellsOf_rel] at hl
  have hx2 : xs.length = 2 := hx
  have f0 : DataW.trod enc Try.prog w base spare held n 9 (List.take (Try.prog.cellsOf 9) (List.drop 0 cs)) = xs[0]? := hf 0 _ rfl
  have f1 : DataW.trod enc Try.prog w base spare held n 62 (List.take (Try.prog.cellsOf 62) (List.drop 1 cs)) = xs[1]? := hf 1 _ rfl
  rw [cellsOf_str] at f0
  rw [cellsOf_rows] at f1
  match cs, hl with
  | [c0, c1], _ =>
    match xs, hx2 with
    | [x0, x1], _ =>
      obtain ⟨s, e0, _, w0⟩ := DataW.trod_string Try.underlying9 f0
      obtain ⟨A, c, r, e1, hc, hm, hr⟩ := open_rows Try.underlying62 f1
      simp at e0 e1
      subst e0 e1
      exact ⟨⟨s, ⟨A, r.length, c⟩⟩, rfl, ⟨s, r⟩, rfl, rfl, Nat.le_trans hc hm, w0, hr⟩

theorem open_inst {t : TypeId} (ht : Try.prog.underlying t = some (.slice 64)) {cs : List Value} {x : DataW H × List MemPlace} (h : DataW.trod enc Try.prog w base spare held fuel t cs = some x) :
    ∃ (A : Option Addr) (c : Nat) (r : List Rel), cs = [.slice A r.length c] ∧ r.length ≤ c ∧ c ≤ maxLen ∧ InstIn w (fun k => base ≤ k ∧ k < w.heap.size) A r ∧ True := by
  obtain ⟨A, c, ts, rfl, hc, hm, hx, hok⟩ := open_elems ht cellsOf_rel (by omega) (fun _ => rfl) (fun _ _ _ hx => open_th hx) h
  obtain ⟨is, hl, hi⟩ := pick ts hok
  exact ⟨A, c, is, by rw [hl], by omega, hm, ⟨ts, hx, hl, hi⟩, trivial⟩
end

end Go.Proofs.Ytjgghbmlbheknaa
