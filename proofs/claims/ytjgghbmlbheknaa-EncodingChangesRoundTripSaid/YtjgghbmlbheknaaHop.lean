/-
  The reading of changes that came in.
-/
import Derived.Test.YtjgghbmlbheknaaHm
import Derived.Test.YtjgghbmlbheknaaIop
namespace Go.Proofs.Ytjgghbmlbheknaa
open Go.ChangeShapes Go.WideShapes Go.ChangeAt Go.RowKit Go.Deep

theorem cellsOf_chg : Try.prog.cellsOf 71 = 4 := by kernel_rfl

/-- Changes in memory. -/
def ChgsIn (w : World) (S : Nat → Prop) (A : Option Addr) (cs : List Chg) : Prop := ∃ ts, ChgsH w S A ts cs
theorem ChgsIn.more {w : World} {S S' : Nat → Prop} {A : Option Addr} {cs : List Chg} (h : ChgsIn w S A cs) (hk : ∀ k, S k → S' k) : ChgsIn w S' A cs := h.elim fun ts h => ⟨ts, h.more hk⟩

section
variable {H : Type} {enc : TypeId × Value → H} {w : World} {base : Nat} {spare : Nat → Bool} {held : Bool} {fuel : Nat}

theorem open_ch {cs : List Value} {x : DataW H × List MemPlace} (h : DataW.trod enc Try.prog w base spare held fuel 71 cs = some x) : ∃ t : Ch, cs = t.cs ∧ ∃ r, ChgH w (fun k => base ≤ k ∧ k < w.heap.size) t r := by
  obtain ⟨xs, n, _, _, hl, hx, hf⟩ := DataW.trod_struct Try.underlying71 h
  rw [cellsOf_chg] at hl
  have hx4 : xs.length = 4 := hx
  have f0 : DataW.trod enc Try.prog w base spare held n 3 (List.take (Try.prog.cellsOf 3) (List.drop 0 cs)) = xs[0]? := hf 0 _ rfl
  have f1 : DataW.trod enc Try.prog w base spare held n 9 (List.take (Try.prog.cellsOf 9) (List.drop 1 cs)) = xs[1]? := hf 1 _ rfl
  have f2 : DataW.trod enc Try.prog w base spare held n 23 (List.take (Try.prog.cellsOf 23) (List.drop 2 cs)) = xs[2]? := hf 2 _ rfl
  have f3 : DataW.trod enc Try.prog w base spare held n 23 (List.take (Try.prog.cellsOf 23) (List.drop 3 cs)) = xs[3]? := hf 3 _ rfl
  rw [cellsOf_int] at f0
  rw [cellsOf_str] at f1
  rw [cellsOf_row] at f2 f3
  match cs, hl with
  | [c0, c1, c2, c3], _ =>
    match xs, hx4 with
    | [x0, x1, x2, x3], _ =>
      obtain ⟨a, e0, _, w0⟩ := DataW.trod_int Try.underlying3 f0
      obtain ⟨s, e1, _, w1⟩ := DataW.trod_string Try.underlying9 f1
      obtain ⟨t2, e2, r2, h2⟩ := open_hd f2
      obtain ⟨t3, e3, r3, h3⟩ := open_hd f3
      simp [Hd.cs] at e0 e1 e2 e3
      subst e0 e1 e2 e3
      exact ⟨⟨a, s, t2, t3⟩, rfl, ⟨a, s, r2, r3⟩, rfl, rfl, w1, h2, h3⟩

theorem open_changes {t : TypeId} (ht : Try.prog.underlying t = some (.slice 71)) {cs : List Value} {x : DataW H × List MemPlace} (h : DataW.trod enc Try.prog w base spare held fuel t cs = some x) :
    ∃ (A : Option Addr) (c : Nat) (r : List Chg), cs = [.slice A r.length c] ∧ r.length ≤ c ∧ c ≤ maxLen ∧ ChgsIn w (fun k => base ≤ k ∧ k < w.heap.size) A r ∧ True := by
  obtain ⟨A, c, ts, rfl, hc, hm, hx, hok⟩ := open_elems ht cellsOf_chg (by omega) (fun _ => rfl) (fun _ _ _ hx => open_ch hx) h
  obtain ⟨is, hl, hi⟩ := pick ts hok
  exact ⟨A, c, is, by rw [hl], by omega, hm, ⟨ts, hx, hl, hi⟩, trivial⟩
end

end Go.Proofs.Ytjgghbmlbheknaa
