/-
  The laws of heap files: the rows, the keys, what each step keeps. No law's walk.
  Equality of two column values.
  The walks of slices.Equal over bytes and of RowsEqual.
  The walk of the law HeapFileGetAfterPut.
  The form's reach bounds a slice of integers.
-/
import Derived.Test.YtjdcnkbkbcfhfaaHm22
import Derived.Test.YtjdcnkbkbcfhfaaRows
import Derived.Test.YtjdcnkbkbcfhfaaHm01
import Derived.Test.YtjdcnkbkbcfhfaaHm04
import Derived.Deep.QuietTactic
import Derived.BigQuiet
import Derived.Test.YtjdcnkbkbcfhfaaHm14
import Derived.SizedLaws
import Derived.Deep.Slices
namespace Go.Proofs.Ytjdcnkbkbcfhfaa
open Go.RowKit Go.Sort

theorem rErrs_of' {r : List Val} (h : ∀ v ∈ r, v.err = 0) : rErrs r = 0 := by
  induction r with
  | nil => rfl
  | cons v r ih =>
    unfold rErrs
    rw [if_pos (h v List.mem_cons_self)]
    exact ih fun x hx => h x (List.mem_cons_of_mem _ hx)
theorem genT_ok (n : Int) : (genT n).err = 0 ∧ ((genT n).kind = 3 ∨ (genT n).kind = 0) := by
  unfold genT
  split
  · exact ⟨by decide +kernel, .inr rfl⟩
  · refine ⟨?_, .inl rfl⟩
    have h : (md (n.tdiv 4) 6 : Int) < 6 := md_lt (by omega)
    generalize md (n.tdiv 4) 6 = q at *
    rcases q with _ | _ | _ | _ | _ | _ | q
    all_goals first | decide +kernel | omega
theorem genB_ok (n : Int) : (genB n).err = 0 := by
  unfold genB
  have h : (md (n.tdiv 4) 2 : Int) < 2 := md_lt (by omega)
  generalize md (n.tdiv 4) 2 = q at *
  rcases q with _ | _ | q
  all_goals first | decide +kernel | omega
theorem int_ok {i : Nat} (h : i ≤ 1000) : Val.err ⟨1, (i : Int), ⟨#[]⟩⟩ = 0 := by
  show vErr 1 i ⟨#[]⟩ = 0
  unfold vErr
  rw [if_neg (by omega), if_pos (.inl rfl), if_neg (by decide +kernel), if_neg (by omega)]
def rowK (i : Nat) : Row := [⟨1, (i : Int), ⟨#[]⟩⟩]
theorem rowK_inj {i j : Nat} (h : rowK i = rowK j) : i = j := by
  unfold rowK at h
  injection h with h _
  injection h with _ h _
  omega
/-- A row with the key i. -/
structure RowI (i : Nat) (r : Row) : Prop where
  eq : ∃ a b : Val, r = [⟨1, (i : Int), ⟨#[]⟩⟩, a, b] ∧ a.err = 0 ∧ (a.kind = 3 ∨ a.kind = 0) ∧ b.err = 0 ∧ b.kind = 2
theorem trow_rowI (i : Nat) (n : Int) : RowI i (trow i n) := ⟨genT n, genB (n.tdiv 8), rfl, (genT_ok n).1, (genT_ok n).2, genB_ok _, rfl⟩
def longT : ByteArray := ⟨#[97, 98, 99, 100, 101, 102, 103, 104, 105, 106, 107, 108, 109, 110, 111, 112, 113, 114, 115, 116, 117, 118, 119, 120]⟩
def longR (i : Nat) (n : Int) : Row := [⟨1, (i : Int), ⟨#[]⟩⟩, ⟨3, 0, longT⟩, genB (n.tdiv 8)]
theorem longR_rowI (i : Nat) (n : Int) : RowI i (longR i n) := ⟨_, _, rfl, by decide +kernel, .inl rfl, genB_ok _, rfl⟩
section
variable {i : Nat} {r : Row} {t : Tbl}
theorem RowI.key (h : RowI i r) : keyOf [0] r = rowK i := by
  obtain ⟨a, b, rfl, -⟩ := h.eq
  rfl
theorem RowI.len (h : RowI i r) : r.length = 3 := by
  obtain ⟨a, b, rfl, -⟩ := h.eq
  rfl
theorem RowI.err (h : RowI i r) (hi : i ≤ 1000) : rErr r = 0 := by
  obtain ⟨a, b, rfl, h1, -, h2, -⟩ := h.eq
  unfold rErr
  rw [if_neg (by show ¬ 12 < 3; omega)]
  refine rErrs_of' fun v hv => ?_
  rcases List.mem_cons.1 hv with rfl | hv
  · exact int_ok hi
  rcases List.mem_cons.1 hv with rfl | hv
  · exact h1
  rw [List.mem_singleton.1 hv]
  exact h2
theorem RowI.ok (h : RowI i r) (hi : i ≤ 1000) (ht : t.cols = iCols) : RowOk t r := by
  have he := h.err hi
  obtain ⟨a, b, rfl, h1, h2, h3, h4⟩ := h.eq
  refine ⟨by rw [ht]; rfl, he, fun j hj => ?_⟩
  rw [ht]
  have hj3 : j < 3 := hj
  rcases j with _ | _ | _ | j
  · exact .inl ⟨rfl, by show (1 : Int) ≠ 0; omega⟩
  · show colOk ⟨⟨#[116]⟩, 3, true⟩ a
    rcases h2 with e | e
    · exact .inl ⟨e, by rw [e]; omega⟩
    · exact .inr ⟨e, rfl⟩
  · show colOk ⟨⟨#[98]⟩, 2, false⟩ b
    exact .inl ⟨h4, by rw [h4]; omega⟩
  · omega
theorem RowI.rcd (h : RowI i r) (hi : i ≤ 1000) : RecOk (encN r) := by
  have he := h.err hi
  obtain ⟨-, h2⟩ := rErr_zero he
  have h3 := encVs_len h2
  rw [h.len] at h3
  exact ⟨by rw [encN_len, encR, List.length_cons]; omega, by rw [encN_len, encR, List.length_cons]; omega, encN_byte r⟩
theorem rowK_ok (hi : i ≤ 1000) (ht : t.cols = iCols) (hp : t.pk = [0]) : KeyOk t (rowK i) := by
  refine ⟨by rw [hp]; rfl, ?_, by show 1 ≤ 12; omega, fun j h h' => ?_⟩
  · unfold rErr
    rw [if_neg (by show ¬ 12 < 1; omega)]
    refine rErrs_of' fun v hv => ?_
    rw [List.mem_singleton.1 hv]
    exact int_ok hi
  · have hj : j = 0 := by have : j < 1 := h; omega
    subst hj
    have e : t.pk[0] = 0 := by simp [hp]
    rw [e, ht]
    refine ⟨by omega, by decide, by show (1 : Int) ≠ 0; omega, rfl⟩
end

theorem getP_insP' (p : PE) : ∀ ps : List PE, getP p.1 (insP p ps) = some p.2
  | [] => by simp [insP, getP, cmpR_refl]
  | x :: xs => by
    unfold insP
    split
    · next h => rw [getP, if_pos h, getP_insP' p xs]
    · next h =>
      split
      · next h0 => rw [getP, if_neg h, if_pos h0]
      · next h0 => rw [getP, if_neg (by rw [cmpR_refl]; omega), if_pos (cmpR_refl _)]
/-- The tree's keys are those of a to b. -/
structure Dom (ps : List PE) (a b : Nat) : Prop where
  len : ps.length = b - a
  key : ∀ k, (∃ id, (k, id) ∈ ps) ↔ ∃ i, a ≤ i ∧ i < b ∧ k = rowK i
theorem Dom.nil : Dom [] 0 0 := ⟨rfl, fun _ => ⟨fun ⟨_, h⟩ => (nomatch h), fun ⟨_, _, h, _⟩ => absurd h (Nat.not_lt_zero _)⟩⟩
theorem Dom.some {ps : List PE} {a b i : Nat} (h : Dom ps a b) (ho : OrdP ps) (h1 : a ≤ i) (h2 : i < b) : ∃ id, getP (rowK i) ps = some id := by
  obtain ⟨id, hm⟩ := (h.key (rowK i)).2 ⟨i, h1, h2, rfl⟩
  exact ⟨id, (mem_getP ho).2 hm⟩
theorem Dom.none {ps : List PE} {a b : Nat} (h : Dom ps a b) (ho : OrdP ps) : getP (rowK b) ps = none := by
  cases hg : getP (rowK b) ps with
  | none => rfl
  | some id =>
    obtain ⟨i, -, h2, h3⟩ := (h.key _).1 ⟨id, (mem_getP ho).1 hg⟩
    have := rowK_inj h3
    omega
theorem Dom.push {ps : List PE} {b : Nat} (h : Dom ps 0 b) (ho : OrdP ps) (id : Int) : Dom (insP (rowK b, id) ps) 0 (b + 1) := by
  have hn := h.none ho
  refine ⟨?_, fun k => ⟨?_, ?_⟩⟩
  · rw [len_insP, show getP (rowK b, id).1 ps = _ from hn]
    have := h.len
    simp
    omega
  · rintro ⟨id', hm⟩
    rcases (mem_insP_iff ho).1 hm with e | ⟨-, hm⟩
    · injection e with e _
      exact ⟨b, by omega, by omega, e⟩
    · obtain ⟨i, h1, h2, h3⟩ := (h.key _).1 ⟨_, hm⟩
      exact ⟨i, h1, by omega, h3⟩
  · rintro ⟨i, -, h2, rfl⟩
    by_cases e : i = b
    · exact ⟨id, (mem_insP_iff ho).2 (.inl (by rw [e]))⟩
    · obtain ⟨id', hm⟩ := (h.key (rowK i)).2 ⟨i, by omega, by omega, rfl⟩
      exact ⟨id', (mem_insP_iff ho).2 (.inr ⟨fun e' => e (rowK_inj e'), hm⟩)⟩
theorem Dom.pop {ps : List PE} {a b : Nat} (h : Dom ps a b) (ho : OrdP ps) (hab : a < b) : Dom (delP (rowK a) ps) (a + 1) b := by
  obtain ⟨id, hs⟩ := h.some ho (Nat.le_refl a) hab
  refine ⟨?_, fun k => ⟨?_, ?_⟩⟩
  · have h1 := len_delP (rowK a) ps
    rw [hs] at h1
    have := h.len
    simp at h1
    omega
  · rintro ⟨id', hm⟩
    obtain ⟨hne, hm⟩ := (mem_delP_iff ho).1 hm
    obtain ⟨i, h1, h2, h3⟩ := (h.key _).1 ⟨_, hm⟩
    refine ⟨i, ?_, h2, h3⟩
    by_cases e : i = a
    · rw [h3, e] at hne
      exact absurd rfl hne
    · omega
  · rintro ⟨i, h1, h2, rfl⟩
    obtain ⟨id', hm⟩ := (h.key (rowK i)).2 ⟨i, by omega, h2, rfl⟩
    exact ⟨id', (mem_delP_iff ho).2 ⟨fun e => by have := rowK_inj e; omega, hm⟩⟩
theorem Dom.again {ps : List PE} {b i : Nat} (h : Dom ps 0 b) (ho : OrdP ps) (hi : i < b) (id : Int) : (insP (rowK i, id) ps).length = b := by
  obtain ⟨id0, hs⟩ := h.some ho (Nat.zero_le i) hi
  rw [len_insP, show getP (rowK i, id).1 ps = _ from hs]
  have := h.len
  simp
  omega

/-- The file between the steps: the keys a to b are in it; F's blocks are as they were in w0. -/
def FS (F : Nat → Prop) (w0 : World) (fb tb : Nat) (t : Tbl) (a b : Nat) (w : World) : Prop :=
  ∃ pgs ps f, FileT F w fb tb t pgs ps ∧ HInv pgs ps f ∧ Dom ps a b ∧ pgs.length ≤ b ∧ (0 < a → ps = [] → pgs = []) ∧ Fr F w0 w
section
variable {F : Nat → Prop} {w0 w w' : World} {fb tb : Nat} {t : Tbl} {a b k : Nat}
theorem FS.below (h : FS F w0 fb tb t a b w) (hb : Below w.heap.size w w') : FS F w0 fb tb t a b w' := by
  obtain ⟨pgs, ps, f, h1, h2, h3, h4, h5, h6⟩ := h
  exact ⟨pgs, ps, f, h1.below hb, h2, h3, h4, h5, h6.trans (Fr.of_below hb h1.lt)⟩
theorem FS.fr (h : FS F w0 fb tb t a b w) : Fr F w0 w := by
  obtain ⟨pgs, ps, f, h1, h2, h3, h4, h5, h6⟩ := h
  exact h6
theorem FS.restart (h : FS F w0 fb tb t a a w) (ha : 0 < a) : FS F w0 fb tb t 0 0 w := by
  obtain ⟨pgs, ps, f, h1, h2, h3, h4, h5, h6⟩ := h
  have hps : ps = [] := List.eq_nil_of_length_eq_zero (by rw [h3.len]; omega)
  subst hps
  have hpg := h5 ha rfl
  subst hpg
  exact ⟨[], [], f, h1, h2, Dom.nil, Nat.le_refl _, fun h => absurd h (Nat.lt_irrefl _), h6⟩
theorem putStep (h : FS F w0 fb tb t 0 k w) (ht : t.cols = iCols) (hp : t.pk = [0]) (hk : k < 24) (A : Option Addr) (c : Nat) (r : Row) (hr : RowI k r) (hx : Elems 3 Val.cs w (· < w.heap.size) A r) :
    Calls Try.prog 8 #[ptr fb, .slice A 3 c] w fun e w' => e = .returned (.tuple #[.bool false, .int .i64 0]) ∧ FS F w0 fb tb t 0 (k + 1) w' := by
  obtain ⟨pgs, ps, f, h1, h2, h3, h4, h5, h6⟩ := h
  have hl := h3.len
  have hn := h3.none h1.ord
  have hkk : keyOf t.pk r = rowK k := by rw [hp]; exact hr.key
  have hc := putFileW w h1 A c r hx (hr.ok (by omega) ht) (hr.rcd (by omega)) (by rw [hkk]; exact rowK_ok (by omega) ht hp) (by rw [ht]; decide) h2 (by omega) (by omega)
  rw [hr.len, hkk, hn] at hc
  refine hc.mono ?_
  rintro e w' ⟨rfl, pgs', ps', g1, g2, g3, g4, g5⟩
  refine ⟨rfl, pgs', ps', _, g1, g2, ?_, by omega, fun h => absurd h (Nat.lt_irrefl _), h6.trans g5⟩
  rcases g4 with ⟨-, g4⟩ | ⟨id, rfl⟩
  · rw [hn] at g4; cases g4
  · exact h3.push h1.ord id
theorem delStep (h : FS F w0 fb tb t a b w) (ht : t.cols = iCols) (hp : t.pk = [0]) (hab : a < b) (hb : b ≤ 24) (A : Option Addr) (c : Nat) (hx : Elems 3 Val.cs w F A (rowK a)) :
    Calls Try.prog 10 #[ptr fb, .slice A 1 c] w fun e w' => e = .returned (.int .i64 0) ∧ FS F w0 fb tb t (a + 1) b w' := by
  obtain ⟨pgs, ps, f, h1, h2, h3, h4, h5, h6⟩ := h
  have hl := h3.len
  obtain ⟨id, hs⟩ := h3.some h1.ord (Nat.le_refl a) hab
  refine (delFileW w h1 A c (rowK a) hx (rowK_ok (by omega) ht hp) h2 hs (by omega) (by omega)).mono ?_
  rintro e w' ⟨rfl, pgs', g1, g2, g3, g4, g5⟩
  exact ⟨rfl, pgs', _, f, g1, g2, h3.pop h1.ord hab, by omega, fun _ => g4, h6.trans g5⟩
theorem sizeStep (h : FS F w0 fb tb t a b w) (hb : b ≤ 24) :
    Calls Try.prog 9 #[ptr fb] w fun e w' => ∃ P : Nat, e = .returned (.tuple #[.int .i64 (b - a : Nat), .int .i64 P]) ∧ P ≤ 24 ∧ (a < b → 0 < P) ∧ (0 < a → a = b → P = 0) ∧ FS F w0 fb tb t a b w' := by
  have h0 := h
  obtain ⟨pgs, ps, f, h1, h2, h3, h4, h5, h6⟩ := h
  have hl := h3.len
  refine (sizeW w h1 (by omega)).mono ?_
  rintro e w' ⟨rfl, hb'⟩
  refine ⟨pgs.length, by rw [hl], by omega, fun hab => ?_, fun h0 hab => ?_, h0.below hb'⟩
  · obtain ⟨id, hs⟩ := h3.some h1.ord (Nat.le_refl a) hab
    obtain ⟨i, s, -, -, hat0, -⟩ := h2.loc _ _ ((mem_getP h1.ord).1 hs)
    obtain ⟨hi, -⟩ := hat_some hat0
    omega
  · rw [h5 h0 (List.eq_nil_of_length_eq_zero (by omega))]
    rfl
/-- The file behind the last Put: the row r under the key j. -/
def FL (F : Nat → Prop) (w0 : World) (fb tb : Nat) (t : Tbl) (m j : Nat) (r : Row) (w : World) : Prop :=
  ∃ pgs ps f id, FileT F w fb tb t pgs ps ∧ HInv pgs ps f ∧ ps.length = m ∧ pgs.length ≤ 100 ∧ getP (rowK j) ps = some id ∧ f (rowK j) = r ∧ Fr F w0 w
theorem FL.below {m j : Nat} {r : Row} (h : FL F w0 fb tb t m j r w) (hb : Below w.heap.size w w') : FL F w0 fb tb t m j r w' := by
  obtain ⟨pgs, ps, f, id, h1, h2, h3, h4, h5, h6, h7⟩ := h
  exact ⟨pgs, ps, f, id, h1.below hb, h2, h3, h4, h5, h6, h7.trans (Fr.of_below hb h1.lt)⟩
theorem putLast {m j : Nat} (h : FS F w0 fb tb t 0 m w) (ht : t.cols = iCols) (hp : t.pk = [0]) (hm : m ≤ 24) (hj : j < m) (A : Option Addr) (c : Nat) (r : Row) (hr : RowI j r) (hx : Elems 3 Val.cs w (· < w.heap.size) A r) :
    Calls Try.prog 8 #[ptr fb, .slice A 3 c] w fun e w' => e = .returned (.tuple #[.bool true, .int .i64 0]) ∧ FL F w0 fb tb t m j r w' := by
  obtain ⟨pgs, ps, f, h1, h2, h3, h4, h5, h6⟩ := h
  have hl := h3.len
  obtain ⟨id0, hs⟩ := h3.some h1.ord (Nat.zero_le j) hj
  have hkk : keyOf t.pk r = rowK j := by rw [hp]; exact hr.key
  have hc := putFileW w h1 A c r hx (hr.ok (by omega) ht) (hr.rcd (by omega)) (by rw [hkk]; exact rowK_ok (by omega) ht hp) (by rw [ht]; decide) h2 (by omega) (by omega)
  rw [hr.len, hkk, hs] at hc
  refine hc.mono ?_
  rintro e w' ⟨rfl, pgs', ps', g1, g2, g3, g4, g5⟩
  have hf : upF f (rowK j) r (rowK j) = r := if_pos rfl
  rcases g4 with ⟨rfl, -⟩ | ⟨id, rfl⟩
  · exact ⟨rfl, pgs', ps', _, id0, g1, g2, by omega, by omega, hs, hf, h6.trans g5⟩
  · exact ⟨rfl, pgs', _, _, id, g1, g2, h3.again h1.ord hj id, by omega, getP_insP' (rowK j, id) ps, hf, h6.trans g5⟩
theorem getLast {m j : Nat} {r : Row} (h : FL F w0 fb tb t m j r w) (ht : t.cols = iCols) (hp : t.pk = [0]) (hj : j < 24) (A : Option Addr) (c : Nat) (hx : Elems 3 Val.cs w (· < w.heap.size) A (rowK j)) :
    Calls Try.prog 13 #[ptr fb, .slice A 1 c] w fun e w' => ∃ v, e = .returned (.tuple #[v, .int .i64 0]) ∧ Own 3 Val.cs 44 w.heap.size w' v r ∧ Below w.heap.size w w' := by
  obtain ⟨pgs, ps, f, id, h1, h2, h3, h4, h5, h6, h7⟩ := h
  rw [← h6]
  exact getFileW w h1 A c (rowK j) hx (rowK_ok (by omega) ht hp) h2 h5 (by omega)
theorem rowsLast {m j : Nat} {r : Row} (h : FL F w0 fb tb t m j r w) (hm : m ≤ 24) :
    Calls Try.prog 15 #[ptr fb] w fun e w' => ∃ A n c, e = .returned (.slice A n c) ∧ n = m ∧ Below w.heap.size w w' := by
  obtain ⟨pgs, ps, f, id, h1, h2, h3, h4, h5, h6, h7⟩ := h
  rw [← h3]
  exact rowsFileW w h1 h2 (by omega) (by omega)
end
end Go.Proofs.Ytjdcnkbkbcfhfaa

namespace Go.Proofs.Ytjdcnkbkbcfhfaa
open Go.RowKit

theorem take_eq_succ {α : Type} {xs ys : List α} {k : Nat} (h1 : k < xs.length) (h2 : k < ys.length) (h : xs.take k = ys.take k) (he : xs[k] = ys[k]) : xs.take (k + 1) = ys.take (k + 1) := by
  rw [List.take_succ_eq_append_getElem h1, List.take_succ_eq_append_getElem h2, h, he]

/-- Equality of two column values. -/
theorem eq_val (k n k' n' : Int) (s s' : ByteArray) (w : World) :
    (Op.equalIn 10000 44 (.agg #[.int .i64 k, .int .i64 n, .string s]) (.agg #[.int .i64 k', .int .i64 n', .string s'])).run Try.prog w = .ok (k == k' && (n == n' && s.toList == s'.toList)) w := by
  have u3 := Try.underlying3
  have a3 := Try.isAgg3
  have z3 := Try.sizeOf3
  have u9 := Try.underlying9
  have a9 := Try.isAgg9
  have z9 := Try.sizeOf9
  have hS : Try.prog.underlying 44 = some (.struct (Try.prog.fieldsOf 44)) := by kernel_rfl
  have hp : Try.prog.stoodInHeld 44 = false := by kernel_rfl
  rw [show (10000 : Nat) = 9999 + 1 from rfl, run_equalIn_agg w 9999 44 _ _ hS hp]
  simp only [Program.fieldsOf, Try.underlying44]
  go_simp
  by_cases h1 : k = k' <;> by_cases h2 : n = n' <;> by_cases h3 : s.toList = s'.toList <;> simp [h1, h2, h3]

theorem neq_val (k n k' n' : Int) (s s' : ByteArray) (w : World) :
    (binOp .neq 44 (.agg #[.int .i64 k, .int .i64 n, .string s]) (.agg #[.int .i64 k', .int .i64 n', .string s'])).run Try.prog w = .ok (.bool (!(k == k' && (n == n' && s.toList == s'.toList)))) w := by
  rw [run_neq_struct, eq_val]
  rfl

theorem Val.ext_iff' (x y : Val) : (x.kind == y.kind && (x.int == y.int && x.text.toList == y.text.toList)) = decide (x = y) := by
  obtain ⟨a, b, s⟩ := x
  obtain ⟨c, d, t⟩ := y
  have : (s.toList == t.toList) = decide (s = t) := by
    by_cases h : s = t
    · subst h; simp
    · have h' : s.toList ≠ t.toList := by
        intro e
        apply h
        rw [ByteArray.toList_eq, ByteArray.toList_eq] at e
        obtain ⟨⟨x⟩⟩ := s
        obtain ⟨⟨y⟩⟩ := t
        simp at e
        rw [e]
      simp [h, h']
  simp only [Val.mk.injEq, this]
  by_cases h1 : a = c <;> by_cases h2 : b = d <;> by_cases h3 : s = t <;> simp [h1, h2, h3]

theorem eql_val (k n k' n' : Int) (s s' : ByteArray) (w : World) :
    (binOp .eql 44 (.agg #[.int .i64 k, .int .i64 n, .string s]) (.agg #[.int .i64 k', .int .i64 n', .string s'])).run Try.prog w = .ok (.bool (k == k' && (n == n' && s.toList == s'.toList))) w := by
  rw [run_eql_struct, eq_val]
  rfl

end Go.Proofs.Ytjdcnkbkbcfhfaa

namespace Go.Proofs.Ytjdcnkbkbcfhfaa
open Go.RowKit

set_option maxRecDepth 100000 in
set_option maxHeartbeats 400000 in
theorem rowsEqual (A B : Option Addr) (c d : Nat) (xs ys : List Val) (w : World) (S T : Nat → Prop) (hx : Elems 3 Val.cs w S A xs) (hy : Elems 3 Val.cs w T B ys) (hl : xs.length ≤ maxLen) (hl2 : ys.length ≤ maxLen) :
    Calls Try.prog 14 #[.slice A xs.length c, .slice B ys.length d] w fun e w' => e = .returned (.bool (decide (xs = ys))) ∧ ∃ n, w' = w.drewN n := by
  unfold maxLen at hl hl2
  have hg : Try.prog.eqGuardType Try.prog.depth 44 = false := by kernel_rfl
  by_cases hlen : xs.length = ys.length
  · have HL := Lib.hid hlen
    have hll : ys.length ≤ xs.length := by omega
    have hne : ((xs.length : Int) != (ys.length : Int)) = false := by simp [hlen]
    clear hlen
    go_enter Try.func14, Try.ntmps14
    go_wp2_with fail
    go_loopw [13] (fun i wr => ∃ k n : Nat, k ≤ xs.length ∧ i = .int .i64 k ∧ xs.take k = ys.take k ∧ wr = w.drewN n) (fun i _ => xs.length - (intOf i).toNat)
    case atStart => exact ⟨0, 0, by omega, rfl, rfl, rfl⟩
    case round =>
      obtain ⟨k, n, hk, rfl, ht, rfl⟩ := hrel
      by_cases hlt : k < xs.length
      · obtain ⟨b, off, rfl, _, c0, c1, c2⟩ := hx.val hlt
        obtain ⟨b', off', rfl, _, d0, d1, d2⟩ := hy.val (k := k) (by have := HL.out; omega)
        have hi1 : (k : Int) < (xs.length : Int) := by omega
        have hi2 : (k : Int) < (ys.length : Int) := by have := HL.out; omega
        have hi0 : (0 : Int) ≤ (k : Int) := by omega
        have hv := fun W => neq_val xs[k].kind xs[k].int (ys[k]'(by omega)).kind (ys[k]'(by omega)).int xs[k].text (ys[k]'(by omega)).text W
        rw [Val.ext_iff'] at hv
        by_cases heq : xs[k] = ys[k]'(by omega)
        · have HT := Lib.hid (take_eq_succ hlt (by omega) ht heq)
          have hd : decide (xs[k] = ys[k]'(by omega)) = true := by simp [heq]
          rw [hd] at hv
          clear ht hd
          generalize xs[k] = x at *
          generalize (ys[k]'(by omega)) = y at *
          have HQ := Lib.hid heq
          clear heq
          go_wp2_with fail
          go_quiet (fail)
          go_wp2_with fail
          go_roundw
          case rel => exact ⟨k + 1, _, by omega, by go_num, HT.out, rfl⟩
          case measure => simp [intOf]; omega
        · have hd : decide (xs[k] = ys[k]'(by omega)) = false := by simp [heq]
          have HT : Hid (xs ≠ ys) := by
            intro h
            subst h
            exact heq rfl
          rw [hd] at hv
          clear ht hd
          generalize xs[k] = x at *
          generalize (ys[k]'(by omega)) = y at *
          have HQ := Lib.hid heq
          clear heq
          go_wp2_with fail
          go_quiet (fail)
          go_wp2_with fail
          go_ret
          exact ⟨ret_bool (by simp [HT.out]), _, World.drewN_drewN _ _ _⟩
      · go_wp2_with fail
        go_ret
        exact ⟨ret_bool (by
          have h1 : k = xs.length := by omega
          subst h1
          have h2 := HL.out
          rw [List.take_of_length_le (Nat.le_refl _), h2, List.take_of_length_le (Nat.le_refl _)] at ht
          simp [ht]), _, rfl⟩
  · have hne : ((xs.length : Int) != (ys.length : Int)) = true := by rw [bne_iff_ne]; omega
    have HL := Lib.hid hlen
    clear hlen
    go_enter Try.func14, Try.ntmps14
    go_wp2_with fail
    go_ret
    exact ⟨ret_bool (by
      have : xs ≠ ys := fun h => HL.out (by rw [h])
      simp [this]), 0, rfl⟩

end Go.Proofs.Ytjdcnkbkbcfhfaa

namespace Go.Proofs.Ytjdcnkbkbcfhfaa
open Go.RowKit Go.Sort

theorem one_own (W : World) (k : Int) : Own 1 intCs 3 W.heap.size (W.alloc (.cells #[.int .i64 k] 3)) (.slice (some ⟨W.heap.size, 0, none⟩) 1 1) [k] :=
  World.ownsRow_lit (base := W.heap.size) (e := 3) (size := 1) W #[.int .i64 k] 1 (Nat.le_refl _) (by unfold maxLen; omega) (by simp)
theorem iTab_ok' {t : Tbl} (ht : t.cols = iCols) (hp : t.pk = [0]) : TabOk t := by
  refine ⟨by rw [ht]; decide, by rw [hp]; decide, ?_, by rw [hp]; exact List.pairwise_singleton _ _⟩
  rw [hp, ht]
  intro k hk
  rw [List.mem_singleton.1 hk]
  exact ⟨by omega, by decide⟩
theorem iCol_ok' {t : Tbl} (ht : t.cols = iCols) (hp : t.pk = [0]) : ColsOk t t.pk := by
  refine ⟨by rw [hp]; decide, ?_, by rw [hp]; decide⟩
  rw [hp, ht]
  intro k hk
  rw [List.mem_singleton.1 hk]
  exact ⟨by omega, by decide⟩
/-- The file of a law, empty. -/
theorem newLaw {a p : Nat} (w : World) (ht : TOk (· < w.heap.size) w (iTbl (some ⟨a, 0, none⟩) (some ⟨p, 0, none⟩))) :
    Calls Try.prog 5 #[.agg #[.string ⟨#[97]⟩, .slice (some ⟨a, 0, none⟩) 3 3, .slice (some ⟨p, 0, none⟩) 1 1]] w (NewFin w iCols [0]) :=
  newFileW (iTbl (some ⟨a, 0, none⟩) (some ⟨p, 0, none⟩)) w ht (iTab_ok' rfl rfl) (iCol_ok' rfl rfl) (Nat.le_refl 1)

/-- The rows of a law in memory, for every world that keeps F. -/
structure RowsAt (F : Nat → Prop) (g m : Nat) (ns : List Int) (w : World) : Prop where
  at_ : ∀ k, k < m → ∃ (A : Option Addr) (c : Nat) (n : Int), w.cell? ⟨g, k, none⟩ = some (.slice A 3 c) ∧ Elems 3 Val.cs w F A (trow k n) ∧ n = ns.getD k 0 ∧ 3 ≤ c
  blk : F g
theorem RowsAt.fr {F : Nat → Prop} {g m : Nat} {ns : List Int} {w w' : World} (h : RowsAt F g m ns w) (hf : Fr F w w') : RowsAt F g m ns w' := by
  refine ⟨fun k hk => ?_, h.blk⟩
  obtain ⟨A, c, n, h1, h2, h3⟩ := h.at_ k hk
  exact ⟨A, c, n, (World.cell?_of_block (w := w) (hf.blk g h.blk)).trans h1, h2.keep hf.keeps, h3⟩
theorem RowsAt.of {F : Nat → Prop} {base : Nat} {w0 w : World} {v : Value} {ks : List Key} {ns : List Int} {m : Nat} (h : TRel base w0 w v ks (trF ns m)) (hm : 0 < m) (hF : ∀ k, base ≤ k → k < w.heap.size → F k) :
    ∃ g c, v = .slice (some ⟨g, 0, none⟩) m c ∧ RowsAt F g m ns w := by
  have hkl : ks.length = m := by
    have h := congrArg List.length h.rows
    rwa [List.length_map, trF, List.length_map, List.length_range] at h
  obtain ⟨g3, c3, cur3, rfl, -⟩ := h.own.open_ (by rw [hkl]; exact hm)
  have hel := h.own.elems keyLay.len rfl
  have hown := h.own
  rw [hkl] at hown ⊢
  have hg3 := Own.lt h.own g3 rfl
  refine ⟨g3, c3, rfl, fun k hk => ?_, hF g3 hg3.1 hg3.2⟩
  have hki : k < ks.length := by omega
  obtain ⟨b, off, e, -, hc⟩ := hel.key hki
  injection e with e
  injection e with e1 e2
  subst e1 e2
  have hrow : ks[k].row = trow k (ns.getD k 0) := by
    have h1 : (ks.map Key.row)[k]? = some (trow k (ns.getD k 0)) := by
      rw [h.rows, trF, List.getElem?_map, List.getElem?_range hk]
      rfl
    rw [List.getElem?_map, List.getElem?_eq_getElem hki] at h1
    exact Option.some.inj h1
  refine ⟨ks[k].A, ks[k].c, ns.getD k 0, ?_, ?_, rfl, ?_⟩
  · rw [hrow, Nat.zero_add] at hc
    exact hc
  · rw [← hrow]
    exact (h.el _ (List.getElem_mem hki)).el.more fun g hg => hF g hg.1 hg.2.1
  · obtain ⟨A', c', e, h1, -⟩ := (h.own3 _ (List.getElem_mem hki)).1.form
    injection e with _ _ e
    rw [e]
    rw [hrow] at h1
    exact h1

theorem FS.start {F : Nat → Prop} {w : World} {fb tb : Nat} {t : Tbl} (h : FileT F w fb tb t [] []) : FS F w fb tb t 0 0 w :=
  ⟨[], [], fun _ => [], h, HInv.nil _, Dom.nil, Nat.le_refl _, fun h => absurd h (Nat.lt_irrefl _), Fr.refl _⟩
theorem FS.more {F : Nat → Prop} {w0 w w' : World} {fb tb : Nat} {t : Tbl} {a b : Nat} (h : FS F w0 fb tb t a b w) (hb : Below w.heap.size w w') : FS (fun k => F k ∨ (w.heap.size ≤ k ∧ k < w'.heap.size)) w' fb tb t a b w' := by
  obtain ⟨pgs, ps, f, h1, h2, h3, h4, h5, h6⟩ := h
  exact ⟨pgs, ps, f, h1.more hb, h2, h3, h4, h5, Fr.refl _⟩

/-- The second value of a row is set. -/
theorem set_second {w : World} {base g c : Nat} {x y z u : Val} (h : Own 3 Val.cs 44 base w (.slice (some ⟨g, 0, none⟩) 3 c) [x, y, z]) :
    (∃ q, w.cell? ⟨g, 3, none⟩ = some q) ∧ (∃ q, w.cell? ⟨g, 4, none⟩ = some q) ∧ (∃ q, w.cell? ⟨g, 5, none⟩ = some q) ∧ (∀ i, w.frozen? ⟨g, i, none⟩ = false)
    ∧ Elems 3 Val.cs (((w.setCell ⟨g, 3, none⟩ (.int .i64 u.kind)).setCell ⟨g, 4, none⟩ (.int .i64 u.int)).setCell ⟨g, 5, none⟩ (.string u.text)) (fun k => k = g) (some ⟨g, 0, none⟩) [x, u, z] := by
  obtain ⟨g', c', cur, hv, hb, hg, hcl, hcm, hs, ht⟩ := Own.open_ h (by show 0 < 3; omega)
  injection hv with hv1 hv2 hv3
  injection hv1 with hv1
  injection hv1 with hv1
  subst hv1 hv3
  have hl : 9 ≤ cur.size := by
    have hcl : 3 ≤ c := hcl
    omega
  have hat : ∀ k, k < 9 → cur[k]? = ([x, y, z].flatMap Val.cs)[k]? := fun k hk => by
    have h1 : (cur.toList.take (3 * 3))[k]? = ([x, y, z].flatMap Val.cs)[k]? := congrArg (fun l : List Value => l[k]?) ht
    rw [← h1, List.getElem?_take, if_pos (by omega)]
    simp
  have hbk := heap_setCell_at (heap_setCell_at (heap_setCell_at hg (i := 3) (.int .i64 u.kind)) (i := 4) (.int .i64 u.int)) (i := 5) (.string u.text)
  have ho : Own 3 Val.cs 44 base (((w.setCell ⟨g, 3, none⟩ (.int .i64 u.kind)).setCell ⟨g, 4, none⟩ (.int .i64 u.int)).setCell ⟨g, 5, none⟩ (.string u.text)) (.slice (some ⟨g, 0, none⟩) 3 c) [x, u, z] := by
    refine Own.shut scValLay hb hbk rfl hcl hcm (by simp [hs]) ?_
    rw [Array.toList_setIfInBounds, Array.toList_setIfInBounds, Array.toList_setIfInBounds, List.take_set, List.take_set, List.take_set]
    have ht' : cur.toList.take (3 * 3) = [x, y, z].flatMap Val.cs := ht
    rw [ht']
    rfl
  refine ⟨⟨_, by rw [cell_of_row _ _ _ _ _ _ hg]; exact hat 3 (by omega)⟩, ⟨_, by rw [cell_of_row _ _ _ _ _ _ hg]; exact hat 4 (by omega)⟩, ⟨_, by rw [cell_of_row _ _ _ _ _ _ hg]; exact hat 5 (by omega)⟩, fun i => frozen_of_row _ _ _ _ _ hg, (ho.elems scValLay.len rfl).more fun k hk => by injection hk with hk; exact hk.symm⟩
end Go.Proofs.Ytjdcnkbkbcfhfaa

namespace Go.Proofs.Ytjdcnkbkbcfhfaa
open Go.RowKit

theorem bytes_int : Try.prog.bytesOf 3 = 8 := by kernel_rfl
/-- The form's reach bounds a slice of integers. -/
theorem sized_ints {H : Type} {enc : TypeId × Value → H} {w : World} {base : Nat} {spare : Nat → Bool} {held : Bool} {fuel : Nat} {t e : TypeId} (ht : Try.prog.underlying t = some (.slice e)) {cs : List Value} {x : DataW H × List MemPlace} (h : DataW.trod enc Try.prog w base spare held fuel t cs = some x)
    {A : Option Addr} {n c : Nat} (hcs : cs = [.slice A n c]) (hs : ∀ elems sp, x.1 = .slice elems sp → (elems.length + sp.length) * 8 ≤ reachBytes) : n * 8 ≤ reachBytes := by
  rcases Go.Deep.open_slice ht h with ⟨h1, _⟩ | ⟨a, len, cap, m, k, D, Pl, h1, _, _, _, _, hx, _⟩
  · rw [h1] at hcs
    injection hcs with hcs _
    injection hcs with _ h2 _
    subst h2
    omega
  · rw [h1] at hcs
    injection hcs with hcs _
    injection hcs with _ h2 _
    subst h2
    have := hs _ _ (by rw [hx])
    rw [List.length_map, List.length_range] at this
    omega
end Go.Proofs.Ytjdcnkbkbcfhfaa
