/-
  From a law's walk ('it returns true, and nothing that was there has turned') to its row; the reading of arguments: rows of values, slices of bytes. 
-/
import Derived.Test.YtefifkleamiabaaRows
import Derived.Test.YtefifkleamiabaaOwn
import Derived.ProofKit
import Derived.OpenShut
namespace Go.Proofs.Ytefifkleamiabaa
open Go.ChangeShapes Go.WideShapes Go.ChangeAt Go.RowKit Go.Deep

theorem Try.own : ownKnob Try.prog.godebug = none := by kernel_rfl
theorem Try.laidOut : laidOutB Try.prog = true := by kernel_rfl

section
variable {H : Type} {enc : TypeId × Value → H} {P : Program}

theorem trodAll_below (laid : laidOutB P = true) {W W' : World} (hb : Below W.heap.size W W') : ∀ (ts : List TypeId) (vs : List Value) (ds : List (DataW H)) (ps : List MemPlace),
    (∀ t ∈ ts, P.readableRec t = true ∧ t < P.types.size) → DataW.TrodAll enc P W 0 (fun _ => true) true ts vs ds ps → (∀ x ∈ ps, x.block < W.heap.size) →
    DataW.TrodAll enc P W' 0 (fun b => decide (b < W.heap.size)) true ts vs ds ps
  | [], [], [], ps, _, h, _ => h
  | t :: ts, v :: vs, d :: ds, ps, hr, h, hlt => by
    obtain ⟨p, q, h1, h2, rfl⟩ := h
    exact ⟨p, q, Below.trod laid (hr t (by simp)).1 (hr t (by simp)).2 h1 hb (fun x hx => hlt x (by simp [hx])), trodAll_below laid hb ts vs ds q (fun t ht => hr t (by simp [ht])) h2 (fun x hx => hlt x (by simp [hx])), rfl⟩

/-- A law's row out of its walk. -/
theorem law_post {f : Func} {s : ChangeSpec} {apart fresh handsOn : Bool} {W W' : World} {args : Array Value} {ds gs : List (DataW H)} {before : List MemPlace} {tb : TypeId}
    (laid : laidOutB P = true) (hr : ∀ t ∈ f.params.toList, P.readableRec t = true ∧ t < P.types.size) (hrt : f.resultTypes = #[tb]) (htb : P.underlying tb = some .bool)
    (hv : s.vars = []) (hW : DataW.Whole enc P f.params.toList s.vars apart W args.toList ds gs before)
    (h1 : (s.fn H (ds ++ gs)).results = [.lit (.bool true)]) (h2 : (s.fn H (ds ++ gs)).args = ds) (h3 : (s.fn H (ds ++ gs)).vars = []) (hb : Below W.heap.size W W') :
    s.post enc P f apart fresh handsOn false W args (.bool true) W' := by
  have hlt := hW.lt
  have hW0 := hW
  obtain ⟨p, q, hA, hV, rfl, _, _⟩ := hW
  rw [hv] at hV
  obtain ⟨rfl, rfl⟩ := trodVars_none hV
  refine ⟨ds, [], p ++ [], [], p, [], hW0, ?_, ?_, ?_, hb.frame _, fun h => by cases h⟩
  · rw [h1, hrt]
    exact trodAll_mk1 (shut_bool htb true)
  · rw [h2]
    exact trodAll_below laid hb _ _ _ _ hr hA (fun x hx => hlt x (by simp [hx]))
  · rw [h3, hv]
    exact rfl
end

theorem cellsOf_int : Try.prog.cellsOf 3 = 1 := by kernel_rfl

theorem wf_i64 {n : Int} (h : (Lit.int .i64 n).wf = true) : -9223372036854775808 ≤ n ∧ n ≤ 9223372036854775807 := by
  exact bounds_i64 h

/-- An integer of a slice of integers. -/
def intCs (n : Int) : List Value := [.int .i64 n]
theorem intLay : Lay 1 intCs := ⟨fun _ => rfl, fun x c hc => by simp [intCs] at hc; subst hc; rfl⟩
def I64 (n : Int) : Prop := -9223372036854775808 ≤ n ∧ n ≤ 9223372036854775807

section
variable {H : Type} {enc : TypeId × Value → H} {w : World} {base : Nat} {spare : Nat → Bool} {held : Bool} {fuel : Nat}

/-- Any slice that came in, its elements read by 'R'. -/
theorem open_elems {α : Type} {t e : TypeId} {sz : Nat} {csf : α → List Value} {ok : α → Prop} (ht : Try.prog.underlying t = some (.slice e)) (hC : Try.prog.cellsOf e = sz) (hsz : 0 < sz) (hlen : ∀ a, (csf a).length = sz)
    (R : ∀ (n : Nat) (cs : List Value) (x : DataW H × List MemPlace), DataW.trod enc Try.prog w base spare held n e cs = some x → ∃ a, cs = csf a ∧ ok a)
    {cs : List Value} {x : DataW H × List MemPlace} (h : DataW.trod enc Try.prog w base spare held fuel t cs = some x) :
    ∃ (A : Option Addr) (c : Nat) (r : List α), cs = [.slice A r.length c] ∧ r.length ≤ c ∧ c ≤ maxLen ∧ Elems sz csf w (fun k => base ≤ k ∧ k < w.heap.size) A r ∧ ∀ a ∈ r, ok a := by
  rcases open_slice ht h with ⟨rfl, _⟩ | ⟨a, len, cap, m, n, D, Pl, rfl, hb, hl, hm, hmm, _, hi⟩
  · exact ⟨none, 0, [], rfl, by simp, by unfold maxLen; omega, Elems.nil _ _ _, by simp⟩
  · have hml : len ≤ m := by rw [hmm]; split <;> omega
    have key : ∀ i, i < len → ∃ y : α, ok y ∧ ∀ j u, (csf y)[j]? = some u → w.cell? (a.add (i * sz + j)) = some u := by
      intro i hil
      obtain ⟨cs', hc, ht'⟩ := hi i (by omega)
      rw [hC] at hc
      obtain ⟨y, rfl, hok⟩ := R _ _ _ ht'
      obtain ⟨_, _, hat⟩ := World.cells?_some hc
      refine ⟨y, hok, fun j u hu => ?_⟩
      have hj : j < sz := by rw [← hlen y]; exact (List.getElem?_eq_some_iff.1 hu).1
      rw [← Go.Deep.add_add, hat j hj]
      exact hu
    have build : ∀ k, k ≤ len → ∃ r : List α, r.length = k ∧ (∀ y ∈ r, ok y) ∧ ∀ i y, r[i]? = some y → ∀ j u, (csf y)[j]? = some u → w.cell? (a.add (i * sz + j)) = some u := by
      intro k
      induction k with
      | zero => exact fun _ => ⟨[], rfl, by simp, by simp⟩
      | succ k ih =>
        intro hk
        obtain ⟨r, hr, hok, hc⟩ := ih (by omega)
        obtain ⟨y, hy, hyc⟩ := key k (by omega)
        refine ⟨r ++ [y], by simp [hr], fun z hz => ?_, fun i z hz j u hu => ?_⟩
        · rcases List.mem_append.1 hz with hz | hz
          · exact hok z hz
          · simp at hz; subst hz; exact hy
        · by_cases hik : i < r.length
          · rw [List.getElem?_append_left hik] at hz
            exact hc i z hz j u hu
          · rw [List.getElem?_append_right (by omega)] at hz
            have hi0 : i - r.length = 0 := by
              rcases Nat.eq_zero_or_pos (i - r.length) with h0 | h0
              · exact h0
              · rw [List.getElem?_eq_none (by simp; omega)] at hz; cases hz
            rw [hi0] at hz
            simp at hz
            subst hz
            have : i = k := by omega
            subst this
            exact hyc j u hu
    obtain ⟨r, hr, hok, hc⟩ := build len (Nat.le_refl _)
    refine ⟨some a, cap, r, by rw [hr], by omega, hm, fun hn => ?_, hok⟩
    have hc0 : ∃ u, w.cell? a = some u := by
      have h0 : r[0]? = some r[0] := List.getElem?_eq_getElem hn
      have hl0 : 0 < (csf r[0]).length := by rw [hlen]; exact hsz
      have := hc 0 _ h0 0 _ (List.getElem?_eq_getElem hl0)
      rw [Nat.zero_mul, Nat.add_zero] at this
      exact ⟨_, by simpa [Addr.add] using this⟩
    obtain ⟨u, hu⟩ := hc0
    have hlt := World.block_lt_of_cell? w a hu
    obtain ⟨b, off, sp⟩ := a
    have hsp : sp = none := by
      cases sp with
      | none => rfl
      | some z =>
        unfold World.cell? at hu
        split at hu
        · simp at hu
        · cases hu
    subst hsp
    refine ⟨b, off, rfl, ⟨hb, hlt⟩, fun i y hy j v hv => ?_⟩
    have := hc i y hy j v hv
    rw [Addr.add_lit] at this
    rw [Nat.add_assoc]
    exact this

theorem open_int_el {cs : List Value} {x : DataW H × List MemPlace} (h : DataW.trod enc Try.prog w base spare held fuel 3 cs = some x) : ∃ n : Int, cs = intCs n ∧ I64 n := by
  obtain ⟨n, rfl, _, hw⟩ := DataW.trod_int Try.underlying3 h
  exact ⟨n, rfl, wf_i64 hw⟩
/-- A slice of integers that came in. -/
theorem open_ints_ {t : TypeId} (ht : Try.prog.underlying t = some (.slice 3)) {cs : List Value} {x : DataW H × List MemPlace} (h : DataW.trod enc Try.prog w base spare held fuel t cs = some x) :
    ∃ (A : Option Addr) (c : Nat) (r : List Int), cs = [.slice A r.length c] ∧ r.length ≤ c ∧ c ≤ maxLen ∧ Elems 1 intCs w (fun k => base ≤ k ∧ k < w.heap.size) A r ∧ ∀ a ∈ r, I64 a :=
  open_elems (sz := 1) (csf := intCs) ht cellsOf_int (by omega) (fun _ => rfl) (fun _ _ _ hx => open_int_el hx) h
end

end Go.Proofs.Ytefifkleamiabaa
