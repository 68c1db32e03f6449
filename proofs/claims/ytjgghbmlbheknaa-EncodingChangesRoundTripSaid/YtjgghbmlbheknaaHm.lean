/-
  Lists of changes: the plain model (validity, encoding), and how they lie in memory.
-/
import Derived.Test.YtjgghbmlbheknaaIdm
namespace Go.Proofs.Ytjgghbmlbheknaa
open Go.RowKit

structure Chg where
  kind : Int
  name : ByteArray
  old : List Val
  new : List Val

def Chg.shape (c : Chg) : Prop := (c.kind = 1 ∧ c.old.length = 0) ∨ (c.kind = 2 ∧ c.new.length = 0)
instance (c : Chg) : Decidable c.shape := by unfold Chg.shape; infer_instance
def chgErr (c : Chg) : Int := if c.shape ∧ nameOk c.name = true then (if rErr c.old = 0 then rErr c.new else rErr c.old) else 3
def chgErrs : List Chg → Int
  | [] => 0
  | c :: cs => if chgErr c = 0 then chgErrs cs else chgErr c
def chgsErr (cs : List Chg) : Int := if 24 < cs.length then 2 else chgErrs cs

theorem chgErrs_drop {cs : List Chg} {k : Nat} (hk : k < cs.length) : chgErrs (cs.drop k) = if chgErr cs[k] = 0 then chgErrs (cs.drop (k + 1)) else chgErr cs[k] := by
  rw [List.drop_eq_getElem_cons hk]
  rfl
theorem chgErrs_zero : ∀ {cs : List Chg}, chgErrs cs = 0 → ∀ t ∈ cs, chgErr t = 0
  | [], _, t, ht => by simp at ht
  | x :: cs, h, t, ht => by
    unfold chgErrs at h
    by_cases hx : chgErr x = 0
    · rw [if_pos hx] at h
      rcases List.mem_cons.1 ht with rfl | ht
      · exact hx
      · exact chgErrs_zero h t ht
    · rw [if_neg hx] at h
      exact absurd h hx
theorem chgsErr_zero {cs : List Chg} (h : chgsErr cs = 0) : cs.length ≤ 24 ∧ ∀ t ∈ cs, chgErr t = 0 := by
  unfold chgsErr at h
  by_cases h6 : 24 < cs.length
  · rw [if_pos h6] at h; omega
  · rw [if_neg h6] at h
    exact ⟨by omega, chgErrs_zero h⟩
theorem chgErr_zero {c : Chg} (h : chgErr c = 0) : c.shape ∧ nameOk c.name = true ∧ rErr c.old = 0 ∧ rErr c.new = 0 := by
  unfold chgErr at h
  by_cases hs : c.shape ∧ nameOk c.name = true
  · rw [if_pos hs] at h
    by_cases ho : rErr c.old = 0
    · rw [if_pos ho] at h
      exact ⟨hs.1, hs.2, ho, h⟩
    · rw [if_neg ho] at h
      exact absurd h ho
  · rw [if_neg hs] at h
    omega

/-- The row that is written. -/
def Chg.row (c : Chg) : List Val := if c.kind = 1 then c.new else c.old
def encC (c : Chg) : List UInt8 := UInt8.ofNat c.kind.toNat :: (encS c.name ++ encR c.row)
def encCs (cs : List Chg) : List UInt8 := UInt8.ofNat cs.length :: cs.flatMap encC

theorem Chg.row_err {c : Chg} (h : chgErr c = 0) : rErr c.row = 0 := by
  obtain ⟨_, _, h1, h2⟩ := chgErr_zero h
  unfold Chg.row
  split
  · exact h2
  · exact h1
theorem encC_len {c : Chg} (h : chgErr c = 0) : (encC c).length ≤ 327 := by
  obtain ⟨h1, h2, h3⟩ := chgErr_zero h
  have h4 := nameOk_size h2
  have h5 := encR_len (Chg.row_err h)
  unfold encC
  rw [List.length_cons, List.length_append, encS_len]
  omega
theorem encCs_len {cs : List Chg} (h : chgsErr cs = 0) : (encCs cs).length ≤ 7849 := by
  obtain ⟨h1, h2⟩ := chgsErr_zero h
  have := flat_len (f := encC) (m := 327) (l := cs) fun t ht => encC_len (h2 t ht)
  unfold encCs
  rw [List.length_cons]
  omega

/-- A change's header. -/
structure Ch where
  kind : Int
  name : ByteArray
  old : Hd
  new : Hd
def Ch.cs (t : Ch) : List Value := [.int .i64 t.kind, .string t.name, .slice t.old.A t.old.n t.old.c, .slice t.new.A t.new.n t.new.c]
theorem chLay : Lay 4 Ch.cs := ⟨fun _ => rfl, fun x c hc => by simp [Ch.cs] at hc; rcases hc with rfl | rfl | rfl | rfl <;> rfl⟩
theorem elem_ch : ElemT Try.prog 46 71 4 72 := ⟨Try.underlying46, by
  have h : (Try.prog.info? 71).map (fun i => (i.zero, i.size, i.bytes)) = some (some (.agg #[.int .i64 0, .string ByteArray.empty, .slice none 0 0, .slice none 0 0]), 4, 72) := by kernel_rfl
  obtain ⟨i0, hi, hz0, hz1, hz2⟩ := info_parts h
  exact ⟨i0, _, hi, hz0, hz1, hz2, rfl⟩, by omega⟩

structure ChgH (w : World) (S : Nat → Prop) (t : Ch) (x : Chg) : Prop where
  kind : t.kind = x.kind
  name : t.name = x.name
  sz : x.name.size ≤ maxLen
  old : RowH w S t.old x.old
  new : RowH w S t.new x.new
structure ChgsH (w : World) (S : Nat → Prop) (A : Option Addr) (ts : List Ch) (cs : List Chg) : Prop where
  el : Elems 4 Ch.cs w S A ts
  len : ts.length = cs.length
  chg : ∀ (i : Nat) (t : Ch) (x : Chg), ts[i]? = some t → cs[i]? = some x → ChgH w S t x

section
variable {w w' : World} {S S' : Nat → Prop} {A : Option Addr}
theorem ChgH.keep {t : Ch} {x : Chg} (H : ChgH w S t x) (hk : Keeps S w w') : ChgH w' S t x := ⟨H.kind, H.name, H.sz, H.old.keep hk, H.new.keep hk⟩
theorem ChgH.more {t : Ch} {x : Chg} (H : ChgH w S t x) (hk : ∀ k, S k → S' k) : ChgH w S' t x := ⟨H.kind, H.name, H.sz, H.old.more hk, H.new.more hk⟩
theorem ChgsH.keep {ts : List Ch} {cs : List Chg} (H : ChgsH w S A ts cs) (hk : Keeps S w w') : ChgsH w' S A ts cs := ⟨H.el.keep hk, H.len, fun i t x h1 h2 => (H.chg i t x h1 h2).keep hk⟩
theorem ChgsH.more {ts : List Ch} {cs : List Chg} (H : ChgsH w S A ts cs) (hk : ∀ k, S k → S' k) : ChgsH w S' A ts cs := ⟨H.el.more hk, H.len, fun i t x h1 h2 => (H.chg i t x h1 h2).more hk⟩
theorem ChgsH.on {ts : List Ch} {cs : List Chg} (H : ChgsH w (· < w.heap.size) A ts cs) (hb : Below w.heap.size w w') : ChgsH w' (· < w'.heap.size) A ts cs :=
  (H.keep (Keeps.of_below hb fun _ h => h)).more fun k (hk : k < w.heap.size) => Nat.lt_of_lt_of_le hk hb.size

theorem Elems.ch {ts : List Ch} {k : Nat} (h : Elems 4 Ch.cs w S A ts) (hk : k < ts.length) : ∃ b off, A = some ⟨b, off, none⟩ ∧ S b ∧ w.cell? ⟨b, off + k * 4, none⟩ = some (.int .i64 ts[k].kind) ∧ w.cell? ⟨b, off + k * 4 + 1, none⟩ = some (.string ts[k].name)
    ∧ w.cell? ⟨b, off + k * 4 + 2, none⟩ = some (.slice ts[k].old.A ts[k].old.n ts[k].old.c) ∧ w.cell? ⟨b, off + k * 4 + 3, none⟩ = some (.slice ts[k].new.A ts[k].new.n ts[k].new.c) := by
  obtain ⟨b, off, e, hb, hc⟩ := h.at_ hk
  exact ⟨b, off, e, hb, by simpa using hc 0 _ rfl, by simpa using hc 1 _ rfl, by simpa using hc 2 _ rfl, by simpa using hc 3 _ rfl⟩
theorem ChgsH.at_ {ts : List Ch} {cs : List Chg} {k : Nat} (H : ChgsH w S A ts cs) (hk : k < cs.length) : ∃ b off t, A = some ⟨b, off, none⟩ ∧ S b ∧ w.cell? ⟨b, off + k * 4, none⟩ = some (.int .i64 cs[k].kind) ∧ w.cell? ⟨b, off + k * 4 + 1, none⟩ = some (.string cs[k].name)
    ∧ w.cell? ⟨b, off + k * 4 + 2, none⟩ = some (.slice t.old.A cs[k].old.length t.old.c) ∧ w.cell? ⟨b, off + k * 4 + 3, none⟩ = some (.slice t.new.A cs[k].new.length t.new.c) ∧ ChgH w S t cs[k] := by
  have hk2 : k < ts.length := by rw [H.len]; exact hk
  obtain ⟨b, off, e, hb, c0, c1, c2, c3⟩ := H.el.ch hk2
  have hr := H.chg k _ _ (List.getElem?_eq_getElem hk2) (List.getElem?_eq_getElem hk)
  rw [hr.kind] at c0
  rw [hr.name] at c1
  rw [hr.old.n] at c2
  rw [hr.new.n] at c3
  exact ⟨b, off, _, e, hb, c0, c1, c2, c3, hr⟩
end

/-- The changes under way. -/
structure DC (w wr : World) (v : Value) (ts : List Ch) (cs : List Chg) : Prop where
  own : Own 4 Ch.cs 71 (w.heap.size + 1) wr v ts
  below : Below w.heap.size w wr
  chg : ∃ T : Nat → Prop, (∀ (i : Nat) (t : Ch) (x : Chg), ts[i]? = some t → cs[i]? = some x → ChgH wr T t x) ∧ ∀ b, T b → w.heap.size + 1 ≤ b ∧ b < wr.heap.size ∧ v.ownBlock ≠ some b
  len : ts.length = cs.length

theorem DC.first (w wr : World) (hb : Below w.heap.size w wr) : DC w wr (.slice none 0 0) [] [] := ⟨Own.nil _, hb, ⟨fun _ => False, fun i h r h1 => by simp at h1, fun b hb => hb.elim⟩, rfl⟩
theorem DC.only {w wr w1 : World} {v : Value} {ts : List Ch} {cs : List Chg} (h : DC w wr v ts cs) (ho : Only wr w.heap.size w1) : DC w w1 v ts cs := by
  obtain ⟨T, h1, h2⟩ := h.chg
  refine ⟨h.own.only ho (by omega), h.below.trans ⟨ho.os, ho.tape, ho.output, ho.size, fun k hk => ho.block k (Nat.lt_of_lt_of_le hk h.below.size) (fun e => by injection e with e; omega)⟩, ⟨T, fun i a r ha hr => (h1 i a r ha hr).keep fun k hk => ho.block k (h2 k hk).2.1 (fun e => by injection e with e; have := (h2 k hk).1; omega), fun b hb => ⟨(h2 b hb).1, Nat.lt_of_lt_of_le (h2 b hb).2.1 ho.size, (h2 b hb).2.2⟩⟩, h.len⟩
/-- One change more: its rows lie in blocks behind those of wp. -/
theorem DC.step {w wp wr w2 : World} {v v' : Value} {ts : List Ch} {cs : List Chg} {t : Ch} {x : Chg} (h : DC w wp v ts cs) (ho : Only wp w.heap.size wr) {U : Nat → Prop} (hP : w.heap.size + 1 ≤ wp.heap.size) (hd : ChgH wr U t x) (hU : ∀ k, U k → wp.heap.size ≤ k ∧ k < wr.heap.size)
    (hx : Ext wr v w2 v') (hown : Own 4 Ch.cs 71 (w.heap.size + 1) w2 v' (ts ++ [t])) : DC w w2 v' (ts ++ [t]) (cs ++ [x]) := by
  have h' := h.only ho
  obtain ⟨T, h1, h2⟩ := h'.chg
  have hvl : ∀ b, v.ownBlock = some b → b < wp.heap.size := fun b hb => (h.own.lt b hb).2
  have hne : ∀ k, (T k ∨ U k) → w.heap.size + 1 ≤ k ∧ k < wr.heap.size ∧ v.ownBlock ≠ some k := fun k hk => by
    rcases hk with hk | hk
    · exact h2 k hk
    · have := hU k hk
      exact ⟨by omega, this.2, fun e => by have := hvl k e; omega⟩
  have hb2 : Below w.heap.size wr w2 := hx.below (base := w.heap.size) (Nat.le_trans (by omega) ho.size) fun b hb => by have := (h'.own.lt b hb).1; omega
  refine ⟨hown, h'.below.trans hb2, ⟨fun k => T k ∨ U k, fun i a y ha hxr => ?_, fun b hb => ⟨(hne b hb).1, Nat.lt_of_lt_of_le (hne b hb).2.1 hx.size, hx.ne (hne b hb).2.2 (hne b hb).2.1⟩⟩, by rw [List.length_append, List.length_append, h.len]; rfl⟩
  have hkeep : Keeps (fun k => T k ∨ U k) wr w2 := fun k hk => hx.grown.block k (hne k hk).2.1 (fun e => (hne k hk).2.2 e.symm)
  by_cases hi : i < ts.length
  · rw [List.getElem?_append_left hi] at ha
    rw [List.getElem?_append_left (by rw [← h.len]; exact hi)] at hxr
    exact ((h1 i a y ha hxr).more fun k hk => .inl hk).keep hkeep
  · have hi2 : i = ts.length := by
      have := (List.getElem?_eq_some_iff.1 ha).1
      simp at this
      omega
    rw [hi2, List.getElem?_append_right (Nat.le_refl _), Nat.sub_self] at ha
    rw [hi2, h.len, List.getElem?_append_right (Nat.le_refl _), Nat.sub_self] at hxr
    simp at ha hxr
    subst ha hxr
    exact (hd.more fun k hk => .inr hk).keep hkeep
theorem DC.inst {w wr : World} {v : Value} {ts : List Ch} {cs : List Chg} (h : DC w wr v ts cs) : ∃ A c, v = .slice A cs.length c ∧ ChgsH wr (· < wr.heap.size) A ts cs := by
  obtain ⟨A, c, hv, _, _⟩ := h.own.form
  obtain ⟨T, h1, h2⟩ := h.chg
  refine ⟨A, c, by rw [hv, h.len], ⟨(h.own.elems chLay.len hv).more fun k hk => (h.own.lt k hk).2, h.len, fun i t x ht hx => (h1 i t x ht hx).more fun k hk => (h2 k hk).2.1⟩⟩

end Go.Proofs.Ytjgghbmlbheknaa
