/-
  The reading of arguments: column values, rows, slices of bytes.
-/
import Derived.Test.YtjgghbmlbheknaaLaw
import Derived.Test.YtjgghbmlbheknaaVal
namespace Go.Proofs.Ytjgghbmlbheknaa
open Go.ChangeShapes Go.WideShapes Go.ChangeAt Go.RowKit Go.Deep

/-- What each field of a value that came in fits in. -/
def Val.wf (v : Val) : Prop := (-9223372036854775808 ≤ v.kind ∧ v.kind ≤ 9223372036854775807) ∧ (-9223372036854775808 ≤ v.int ∧ v.int ≤ 9223372036854775807) ∧ v.text.size ≤ maxLen

theorem cellsOf_val : Try.prog.cellsOf 55 = 3 := by kernel_rfl
theorem cellsOf_u8 : Try.prog.cellsOf 5 = 1 := by kernel_rfl
theorem cellsOf_str : Try.prog.cellsOf 9 = 1 := by kernel_rfl


section
variable {H : Type} {enc : TypeId × Value → H} {w : World} {base : Nat} {spare : Nat → Bool} {held : Bool} {fuel : Nat}

/-- A column value read out of three cells. -/
theorem open_val {cs : List Value} {x : DataW H × List MemPlace} (h : DataW.trod enc Try.prog w base spare held fuel 55 cs = some x) : ∃ v : Val, cs = v.cs ∧ v.wf := by
  obtain ⟨xs, n, _, _, hl, hx, hf⟩ := DataW.trod_struct Try.underlying55 h
  rw [cellsOf_val] at hl
  have hx3 : xs.length = 3 := hx
  have f0 : DataW.trod enc Try.prog w base spare held n 3 (List.take (Try.prog.cellsOf 3) (List.drop 0 cs)) = xs[0]? := hf 0 _ rfl
  have f1 : DataW.trod enc Try.prog w base spare held n 3 (List.take (Try.prog.cellsOf 3) (List.drop 1 cs)) = xs[1]? := hf 1 _ rfl
  have f2 : DataW.trod enc Try.prog w base spare held n 9 (List.take (Try.prog.cellsOf 9) (List.drop 2 cs)) = xs[2]? := hf 2 _ rfl
  rw [cellsOf_int] at f0 f1
  rw [cellsOf_str] at f2
  match cs, hl with
  | [c0, c1, c2], _ =>
    match xs, hx3 with
    | [x0, x1, x2], _ =>
      obtain ⟨a, e0, _, w0⟩ := DataW.trod_int Try.underlying3 f0
      obtain ⟨b, e1, _, w1⟩ := DataW.trod_int Try.underlying3 f1
      obtain ⟨s, e2, _, w2⟩ := DataW.trod_string Try.underlying9 f2
      simp at e0 e1 e2
      subst e0 e1 e2
      exact ⟨⟨a, b, s⟩, rfl, wf_i64 w0, wf_i64 w1, w2⟩

/-- A row of values that came in. -/
theorem open_row {t : TypeId} (ht : Try.prog.underlying t = some (.slice 55)) {cs : List Value} {x : DataW H × List MemPlace} (h : DataW.trod enc Try.prog w base spare held fuel t cs = some x) :
    ∃ (A : Option Addr) (c : Nat) (r : List Val), cs = [.slice A r.length c] ∧ r.length ≤ c ∧ c ≤ maxLen ∧ Elems 3 Val.cs w (fun k => base ≤ k ∧ k < w.heap.size) A r ∧ ∀ a ∈ r, a.wf :=
  open_elems ht cellsOf_val (by omega) (fun _ => rfl) (fun _ _ _ hx => open_val hx) h
/-- A byte that came in. -/
theorem open_byte {cs : List Value} {x : DataW H × List MemPlace} (h : DataW.trod enc Try.prog w base spare held fuel 5 cs = some x) : ∃ b : UInt8, cs = byteCs b ∧ True := by
  obtain ⟨n, rfl, _, hw⟩ := DataW.trod_int Try.underlying5 h
  have := bounds_u8 hw
  refine ⟨UInt8.ofNat n.toNat, ?_, trivial⟩
  have e : (UInt8.ofNat n.toNat).toNat = n.toNat := by rw [UInt8.toNat_ofNat']; exact Nat.mod_eq_of_lt (by omega)
  unfold byteCs
  rw [e]
  congr 2
  omega

/-- A slice of bytes that came in. -/
theorem open_bytes {t : TypeId} (ht : Try.prog.underlying t = some (.slice 5)) {cs : List Value} {x : DataW H × List MemPlace} (h : DataW.trod enc Try.prog w base spare held fuel t cs = some x) :
    ∃ (A : Option Addr) (c : Nat) (r : List UInt8), cs = [.slice A r.length c] ∧ r.length ≤ c ∧ c ≤ maxLen ∧ Elems 1 byteCs w (fun k => base ≤ k ∧ k < w.heap.size) A r ∧ ∀ a ∈ r, True :=
  open_elems (sz := 1) (csf := byteCs) ht cellsOf_u8 (by omega) (fun _ => rfl) (fun _ _ _ hx => open_byte hx) h
end

end Go.Proofs.Ytjgghbmlbheknaa
