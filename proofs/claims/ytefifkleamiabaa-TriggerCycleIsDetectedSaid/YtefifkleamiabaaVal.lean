/-
  Column values and rows as plain data; what value.Validate and encoding.CheckRow answer. No program in sight.
-/
import Derived.Test.YtefifkleamiabaaMem
namespace Go.Proofs.Ytefifkleamiabaa

structure Val where
  kind : Int
  int : Int
  text : ByteArray
  deriving DecidableEq

def Val.cs (v : Val) : List Value := [.int .i64 v.kind, .int .i64 v.int, .string v.text]

/-- What Validate answers. -/
def vErr (k n : Int) (s : ByteArray) : Int :=
  if k = 0 then (if n = 0 ∧ s.toList.isEmpty = true then 0 else 3)
  else if k = 1 ∨ k = 2 then
    (if s.toList.isEmpty = false then 3 else if (k = 2 ∧ n ≠ 0 ∧ n ≠ 1) ∨ n < -1000000000000 ∨ 1000000000000 < n then 1 else 0)
  else if k = 3 then (if n ≠ 0 then 3 else if 24 < s.size then 2 else 0)
  else 7
def Val.err (v : Val) : Int := vErr v.kind v.int v.text

def rErrs : List Val → Int
  | [] => 0
  | v :: r => if v.err = 0 then rErrs r else v.err
/-- What CheckRow answers. -/
def rErr (r : List Val) : Int := if 12 < r.length then 2 else rErrs r

theorem rErrs_zero {r : List Val} (h : rErrs r = 0) : ∀ v ∈ r, v.err = 0 := by
  induction r with
  | nil => simp
  | cons v r ih =>
    unfold rErrs at h
    by_cases hv : v.err = 0
    · rw [if_pos hv] at h
      intro x hx
      rcases List.mem_cons.1 hx with rfl | hx
      · exact hv
      · exact ih h x hx
    · rw [if_neg hv] at h
      exact absurd h hv

theorem rErrs_of {r : List Val} (h : ∀ v ∈ r, v.err = 0) : rErrs r = 0 := by
  induction r with
  | nil => rfl
  | cons v r ih =>
    unfold rErrs
    rw [if_pos (h v (by simp))]
    exact ih fun x hx => h x (by simp [hx])

theorem rErrs_drop {r : List Val} {k : Nat} (hk : k < r.length) : rErrs (r.drop k) = if r[k].err = 0 then rErrs (r.drop (k + 1)) else r[k].err := by
  rw [List.drop_eq_getElem_cons hk]
  rfl

theorem rErr_zero {r : List Val} (h : rErr r = 0) : r.length ≤ 12 ∧ ∀ v ∈ r, v.err = 0 := by
  unfold rErr at h
  split at h
  · omega
  · exact ⟨by omega, rErrs_zero h⟩

/-- The three cells of element k of a row. -/
theorem Elems.val {w : World} {S : Nat → Prop} {A : Option Addr} {r : List Val} {k : Nat} (h : Elems 3 Val.cs w S A r) (hk : k < r.length) :
    ∃ b off, A = some ⟨b, off, none⟩ ∧ S b ∧ w.cell? ⟨b, off + k * 3, none⟩ = some (.int .i64 r[k].kind) ∧ w.cell? ⟨b, off + k * 3 + 1, none⟩ = some (.int .i64 r[k].int) ∧ w.cell? ⟨b, off + k * 3 + 2, none⟩ = some (.string r[k].text) := by
  obtain ⟨b, off, e, hb, hc⟩ := h.at_ hk
  exact ⟨b, off, e, hb, hc 0 _ rfl, hc 1 _ rfl, hc 2 _ rfl⟩

end Go.Proofs.Ytefifkleamiabaa
