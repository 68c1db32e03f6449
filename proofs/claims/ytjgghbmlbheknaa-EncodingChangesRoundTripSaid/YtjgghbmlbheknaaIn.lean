/-
  Instances: the plain model (validity, encoding), and how they lie in memory. No program in sight but for sizes.
-/
import Derived.Test.YtjgghbmlbheknaaDecr
import Derived.Test.YtjgghbmlbheknaaEq
import Derived.Test.YtjgghbmlbheknaaLawv
namespace Go.Proofs.Ytjgghbmlbheknaa
open Go.RowKit

structure Rel where
  name : ByteArray
  rows : List (List Val)

/-- May c stand at place k of a name? -/
def chOk (k : Nat) (c : UInt8) : Bool := (decide (97 ≤ c.toNat) && decide (c.toNat ≤ 122)) || (!decide (k = 0) && (decide (48 ≤ c.toNat) && decide (c.toNat ≤ 57)))
def chsOk (s : ByteArray) (k : Nat) : Bool := (List.range k).all fun j => chOk j (s.data.toList.getD j 0)
def nameOk (s : ByteArray) : Bool := chsOk s s.size && (!s.toList.isEmpty && decide (s.size ≤ 12))
theorem chsOk_succ (s : ByteArray) (k : Nat) : chsOk s (k + 1) = (chsOk s k && chOk k (s.data.toList.getD k 0)) := by
  unfold chsOk
  rw [List.range_succ, List.all_append]
  simp
theorem chsOk_of {s : ByteArray} {k n : Nat} (h : chsOk s n = true) (hk : k ≤ n) : chsOk s k = true := by
  unfold chsOk at *
  rw [List.all_eq_true] at *
  intro j hj
  exact h j (List.mem_range.2 (by have := List.mem_range.1 hj; omega))
theorem nameOk_size {s : ByteArray} (h : nameOk s = true) : s.size ≤ 12 := by
  unfold nameOk at h
  rw [Bool.and_eq_true, Bool.and_eq_true] at h
  exact of_decide_eq_true h.2.2

def rowsErr : List (List Val) → Int
  | [] => 0
  | r :: rs => if rErr r = 0 then rowsErr rs else rErr r
def relErr (t : Rel) : Int := if nameOk t.name = false then 3 else if 24 < t.rows.length then 2 else rowsErr t.rows
def instErrs : List Rel → Int
  | [] => 0
  | t :: is => if relErr t = 0 then instErrs is else relErr t
def instErr (is : List Rel) : Int := if 6 < is.length then 2 else instErrs is

theorem rowsErr_drop {rs : List (List Val)} {k : Nat} (hk : k < rs.length) : rowsErr (rs.drop k) = if rErr rs[k] = 0 then rowsErr (rs.drop (k + 1)) else rErr rs[k] := by
  rw [List.drop_eq_getElem_cons hk]
  rfl
theorem instErrs_drop {is : List Rel} {k : Nat} (hk : k < is.length) : instErrs (is.drop k) = if relErr is[k] = 0 then instErrs (is.drop (k + 1)) else relErr is[k] := by
  rw [List.drop_eq_getElem_cons hk]
  rfl
theorem rowsErr_zero : ∀ {rs : List (List Val)}, rowsErr rs = 0 → ∀ r ∈ rs, rErr r = 0
  | [], _, r, hr => by simp at hr
  | x :: rs, h, r, hr => by
    unfold rowsErr at h
    by_cases hx : rErr x = 0
    · rw [if_pos hx] at h
      rcases List.mem_cons.1 hr with rfl | hr
      · exact hx
      · exact rowsErr_zero h r hr
    · rw [if_neg hx] at h
      exact absurd h hx
theorem instErrs_zero : ∀ {is : List Rel}, instErrs is = 0 → ∀ t ∈ is, relErr t = 0
  | [], _, t, ht => by simp at ht
  | x :: is, h, t, ht => by
    unfold instErrs at h
    by_cases hx : relErr x = 0
    · rw [if_pos hx] at h
      rcases List.mem_cons.1 ht with rfl | ht
      · exact hx
      · exact instErrs_zero h t ht
    · rw [if_neg hx] at h
      exact absurd h hx
theorem instErr_zero {is : List Rel} (h : instErr is = 0) : is.length ≤ 6 ∧ ∀ t ∈ is, relErr t = 0 := by
  unfold instErr at h
  by_cases h6 : 6 < is.length
  · rw [if_pos h6] at h; omega
  · rw [if_neg h6] at h
    exact ⟨by omega, instErrs_zero h⟩
theorem relErr_zero {t : Rel} (h : relErr t = 0) : nameOk t.name = true ∧ t.rows.length ≤ 24 ∧ ∀ r ∈ t.rows, rErr r = 0 := by
  unfold relErr at h
  by_cases hn : nameOk t.name = false
  · rw [if_pos hn] at h; omega
  · rw [if_neg hn] at h
    by_cases h24 : 24 < t.rows.length
    · rw [if_pos h24] at h; omega
    · rw [if_neg h24] at h
      exact ⟨by simpa using hn, by omega, rowsErr_zero h⟩

/-- The encodings. -/
def encS (s : ByteArray) : List UInt8 := UInt8.ofNat s.size :: s.data.toList
def encRows (rs : List (List Val)) : List UInt8 := UInt8.ofNat rs.length :: rs.flatMap encR
def encRel (t : Rel) : List UInt8 := encS t.name ++ encRows t.rows
def encI (is : List Rel) : List UInt8 := UInt8.ofNat is.length :: is.flatMap encRel

theorem flat_len {α : Type} {f : α → List UInt8} {m : Nat} : ∀ {l : List α}, (∀ x ∈ l, (f x).length ≤ m) → (l.flatMap f).length ≤ m * l.length
  | [], _ => by simp
  | x :: l, h => by
    rw [List.flatMap_cons, List.length_append, List.length_cons, Nat.mul_succ]
    have h1 := h x (by simp)
    have h2 := flat_len (l := l) fun y hy => h y (by simp [hy])
    omega
theorem encS_len (s : ByteArray) : (encS s).length = s.size + 1 := by
  unfold encS
  rw [List.length_cons]
  rfl
theorem encRel_len {t : Rel} (h : relErr t = 0) : (encRel t).length ≤ 7526 := by
  obtain ⟨h1, h2, h3⟩ := relErr_zero h
  have h4 := nameOk_size h1
  have h5 := flat_len (f := encR) (m := 313) (l := t.rows) fun r hr => encR_len (h3 r hr)
  unfold encRel encRows
  rw [List.length_append, encS_len, List.length_cons]
  omega
theorem encI_len {is : List Rel} (h : instErr is = 0) : (encI is).length ≤ 45157 := by
  obtain ⟨h1, h2⟩ := instErr_zero h
  have := flat_len (f := encRel) (m := 7526) (l := is) fun t ht => encRel_len (h2 t ht)
  unfold encI
  rw [List.length_cons]
  omega

/-- A slice's header. -/
structure Hd where
  A : Option Addr
  n : Nat
  c : Nat
def Hd.cs (h : Hd) : List Value := [.slice h.A h.n h.c]
theorem hdLay : Lay 1 Hd.cs := ⟨fun _ => rfl, fun x c hc => by simp [Hd.cs] at hc; subst hc; rfl⟩
/-- A table's header. -/
structure Th where
  name : ByteArray
  h : Hd
def Th.cs (t : Th) : List Value := [.string t.name, .slice t.h.A t.h.n t.h.c]
theorem thLay : Lay 2 Th.cs := ⟨fun _ => rfl, fun x c hc => by simp [Th.cs] at hc; rcases hc with rfl | rfl <;> rfl⟩

/-- The header h is that of the row r. -/
structure RowH (w : World) (S : Nat → Prop) (h : Hd) (r : List Val) : Prop where
  n : h.n = r.length
  le : r.length ≤ maxLen
  el : Elems 3 Val.cs w S h.A r
structure RowsH (w : World) (S : Nat → Prop) (A : Option Addr) (hs : List Hd) (rs : List (List Val)) : Prop where
  el : Elems 1 Hd.cs w S A hs
  len : hs.length = rs.length
  row : ∀ (i : Nat) (h : Hd) (r : List Val), hs[i]? = some h → rs[i]? = some r → RowH w S h r
structure RelH (w : World) (S : Nat → Prop) (t : Th) (x : Rel) : Prop where
  name : t.name = x.name
  n : t.h.n = x.rows.length
  le : x.rows.length ≤ maxLen
  sz : x.name.size ≤ maxLen
  rows : ∃ hs, RowsH w S t.h.A hs x.rows
structure InstH (w : World) (S : Nat → Prop) (A : Option Addr) (ts : List Th) (is : List Rel) : Prop where
  el : Elems 2 Th.cs w S A ts
  len : ts.length = is.length
  rel : ∀ (i : Nat) (t : Th) (x : Rel), ts[i]? = some t → is[i]? = some x → RelH w S t x

section
variable {w w' : World} {S S' : Nat → Prop} {A : Option Addr}
theorem RowH.keep {h : Hd} {r : List Val} (H : RowH w S h r) (hk : Keeps S w w') : RowH w' S h r := ⟨H.n, H.le, H.el.keep hk⟩
theorem RowH.more {h : Hd} {r : List Val} (H : RowH w S h r) (hk : ∀ k, S k → S' k) : RowH w S' h r := ⟨H.n, H.le, H.el.more hk⟩
theorem RowsH.keep {hs : List Hd} {rs : List (List Val)} (H : RowsH w S A hs rs) (hk : Keeps S w w') : RowsH w' S A hs rs := ⟨H.el.keep hk, H.len, fun i h r h1 h2 => (H.row i h r h1 h2).keep hk⟩
theorem RowsH.more {hs : List Hd} {rs : List (List Val)} (H : RowsH w S A hs rs) (hk : ∀ k, S k → S' k) : RowsH w S' A hs rs := ⟨H.el.more hk, H.len, fun i h r h1 h2 => (H.row i h r h1 h2).more hk⟩
theorem RelH.keep {t : Th} {x : Rel} (H : RelH w S t x) (hk : Keeps S w w') : RelH w' S t x := ⟨H.name, H.n, H.le, H.sz, H.rows.elim fun hs h => ⟨hs, h.keep hk⟩⟩
theorem RelH.more {t : Th} {x : Rel} (H : RelH w S t x) (hk : ∀ k, S k → S' k) : RelH w S' t x := ⟨H.name, H.n, H.le, H.sz, H.rows.elim fun hs h => ⟨hs, h.more hk⟩⟩
theorem InstH.keep {ts : List Th} {is : List Rel} (H : InstH w S A ts is) (hk : Keeps S w w') : InstH w' S A ts is := ⟨H.el.keep hk, H.len, fun i t x h1 h2 => (H.rel i t x h1 h2).keep hk⟩
theorem InstH.more {ts : List Th} {is : List Rel} (H : InstH w S A ts is) (hk : ∀ k, S k → S' k) : InstH w S' A ts is := ⟨H.el.more hk, H.len, fun i t x h1 h2 => (H.rel i t x h1 h2).more hk⟩
/-- To a later world. -/
theorem InstH.on {ts : List Th} {is : List Rel} (H : InstH w (· < w.heap.size) A ts is) (hb : Below w.heap.size w w') : InstH w' (· < w'.heap.size) A ts is :=
  (H.keep (Keeps.of_below hb fun _ h => h)).more fun k (hk : k < w.heap.size) => Nat.lt_of_lt_of_le hk hb.size
theorem RelH.on {t : Th} {x : Rel} (H : RelH w (· < w.heap.size) t x) (hb : Below w.heap.size w w') : RelH w' (· < w'.heap.size) t x :=
  (H.keep (Keeps.of_below hb fun _ h => h)).more fun k (hk : k < w.heap.size) => Nat.lt_of_lt_of_le hk hb.size
theorem RowsH.on {hs : List Hd} {rs : List (List Val)} (H : RowsH w (· < w.heap.size) A hs rs) (hb : Below w.heap.size w w') : RowsH w' (· < w'.heap.size) A hs rs :=
  (H.keep (Keeps.of_below hb fun _ h => h)).more fun k (hk : k < w.heap.size) => Nat.lt_of_lt_of_le hk hb.size
theorem RowH.on {h : Hd} {r : List Val} (H : RowH w (· < w.heap.size) h r) (hb : Below w.heap.size w w') : RowH w' (· < w'.heap.size) h r :=
  (H.keep (Keeps.of_below hb fun _ h => h)).more fun k (hk : k < w.heap.size) => Nat.lt_of_lt_of_le hk hb.size

theorem Elems.hd {hs : List Hd} {k : Nat} (h : Elems 1 Hd.cs w S A hs) (hk : k < hs.length) : ∃ b off, A = some ⟨b, off, none⟩ ∧ S b ∧ w.cell? ⟨b, off + k, none⟩ = some (.slice hs[k].A hs[k].n hs[k].c) := by
  obtain ⟨b, off, e, hb, hc⟩ := h.at_ hk
  exact ⟨b, off, e, hb, by simpa using hc 0 _ rfl⟩
theorem Elems.th {ts : List Th} {k : Nat} (h : Elems 2 Th.cs w S A ts) (hk : k < ts.length) : ∃ b off, A = some ⟨b, off, none⟩ ∧ S b ∧ w.cell? ⟨b, off + k * 2, none⟩ = some (.string ts[k].name) ∧ w.cell? ⟨b, off + k * 2 + 1, none⟩ = some (.slice ts[k].h.A ts[k].h.n ts[k].h.c) := by
  obtain ⟨b, off, e, hb, hc⟩ := h.at_ hk
  exact ⟨b, off, e, hb, by simpa using hc 0 _ rfl, by simpa using hc 1 _ rfl⟩
theorem RowsH.at_ {hs : List Hd} {rs : List (List Val)} {k : Nat} (H : RowsH w S A hs rs) (hk : k < rs.length) : ∃ b off h, A = some ⟨b, off, none⟩ ∧ S b ∧ w.cell? ⟨b, off + k, none⟩ = some (.slice h.A rs[k].length h.c) ∧ RowH w S h rs[k] := by
  have hk2 : k < hs.length := by rw [H.len]; exact hk
  obtain ⟨b, off, e, hb, hc⟩ := H.el.hd hk2
  have hr := H.row k _ _ (List.getElem?_eq_getElem hk2) (List.getElem?_eq_getElem hk)
  rw [hr.n] at hc
  exact ⟨b, off, _, e, hb, hc, hr⟩
theorem InstH.at_ {ts : List Th} {is : List Rel} {k : Nat} (H : InstH w S A ts is) (hk : k < is.length) : ∃ b off t, A = some ⟨b, off, none⟩ ∧ S b ∧ w.cell? ⟨b, off + k * 2, none⟩ = some (.string is[k].name) ∧ w.cell? ⟨b, off + k * 2 + 1, none⟩ = some (.slice t.h.A is[k].rows.length t.h.c) ∧ RelH w S t is[k] := by
  have hk2 : k < ts.length := by rw [H.len]; exact hk
  obtain ⟨b, off, e, hb, hc, hc2⟩ := H.el.th hk2
  have hr := H.rel k _ _ (List.getElem?_eq_getElem hk2) (List.getElem?_eq_getElem hk)
  rw [hr.n] at hc2
  rw [hr.name] at hc
  exact ⟨b, off, _, e, hb, hc, hc2, hr⟩
end

end Go.Proofs.Ytjgghbmlbheknaa
