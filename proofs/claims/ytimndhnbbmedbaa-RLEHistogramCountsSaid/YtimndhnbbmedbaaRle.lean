/-
  Runs as plain data: encoding, decoding, what a canonical column is. No program in sight.
-/
import Derived.Test.YtimndhnbbmedbaaVal
import Derived.Test.YtimndhnbbmedbaaOwn
namespace Go.Proofs.Ytimndhnbbmedbaa

structure Run where
  v : Val
  n : Nat

def Run.cs (r : Run) : List Value := [.int .i64 r.v.kind, .int .i64 r.v.int, .string r.v.text, .int .i64 (r.n : Int)]
theorem runLay : Lay 4 Run.cs := ⟨fun _ => rfl, fun x c hc => by simp [Run.cs] at hc; rcases hc with rfl | rfl | rfl | rfl <;> rfl⟩
theorem valLay : Lay 3 Val.cs := ⟨fun _ => rfl, fun x c hc => by simp [Val.cs] at hc; rcases hc with rfl | rfl | rfl <;> rfl⟩

/-- What appendRun makes of a list of runs, for a run of at least one value. -/
def appRun (d : List Run) (r : Run) : List Run :=
  match d.getLast? with
  | some l => if l.v = r.v then d.dropLast ++ [⟨l.v, l.n + r.n⟩] else d ++ [r]
  | none => [r]
def encRuns (vs : List Val) : List Run := vs.foldl (fun d v => appRun d ⟨v, 1⟩) []
def decRuns (rs : List Run) : List Val := rs.flatMap fun r => List.replicate r.n r.v

theorem appRun_nil (r : Run) : appRun [] r = [r] := rfl
theorem appRun_same (d : List Run) (l r : Run) (h : l.v = r.v) : appRun (d ++ [l]) r = d ++ [⟨l.v, l.n + r.n⟩] := by
  unfold appRun
  simp [h]
theorem appRun_new (d : List Run) (l r : Run) (h : l.v ≠ r.v) : appRun (d ++ [l]) r = d ++ [l] ++ [r] := by
  unfold appRun
  simp [h]

theorem list_snoc {α : Type} (d : List α) : d = [] ∨ ∃ e l, d = e ++ [l] := by
  rcases List.eq_nil_or_concat d with h | ⟨e, l, h⟩
  · exact .inl h
  · exact .inr ⟨e, l, by simpa using h⟩

theorem decRuns_app (d : List Run) (r : Run) : decRuns (appRun d r) = decRuns d ++ List.replicate r.n r.v := by
  rcases list_snoc d with rfl | ⟨e, l, rfl⟩
  · simp [appRun_nil, decRuns]
  · by_cases h : l.v = r.v
    · rw [appRun_same e l r h]
      simp only [decRuns, List.flatMap_append, List.flatMap_cons, List.flatMap_nil, List.append_nil, List.append_assoc, List.replicate_append_replicate, h]
    · rw [appRun_new e l r h]
      simp [decRuns]

theorem decRuns_enc_aux : ∀ (vs : List Val) (d : List Run), decRuns (vs.foldl (fun d v => appRun d ⟨v, 1⟩) d) = decRuns d ++ vs
  | [], d => by simp
  | v :: vs, d => by
    rw [List.foldl_cons, decRuns_enc_aux vs, decRuns_app]
    simp
theorem decRuns_enc (vs : List Val) : decRuns (encRuns vs) = vs := by
  have := decRuns_enc_aux vs []
  simpa [decRuns, encRuns] using this

/-- Neighbours differ. -/
def Apart (rs : List Run) : Prop := ∀ i a b, rs[i]? = some a → rs[i + 1]? = some b → a.v ≠ b.v
/-- Valid values, positive counts, neighbours that differ. -/
def Nice (rs : List Run) : Prop := (∀ r ∈ rs, r.v.err = 0 ∧ 1 ≤ r.n) ∧ Apart rs

theorem nice_nil : Nice [] := ⟨by simp, fun i a b h => by simp at h⟩

theorem nice_push {d : List Run} {r : Run} (hd : Nice d) (hr : r.v.err = 0 ∧ 1 ≤ r.n) (hl : ∀ l, d.getLast? = some l → l.v ≠ r.v) : Nice (d ++ [r]) := by
  refine ⟨fun x hx => ?_, fun i a b ha hb => ?_⟩
  · rcases List.mem_append.1 hx with h | h
    · exact hd.1 x h
    · simp at h; subst h; exact hr
  · by_cases h1 : i + 1 < d.length
    · rw [List.getElem?_append_left (by omega)] at ha
      rw [List.getElem?_append_left h1] at hb
      exact hd.2 i a b ha hb
    · have hb' := (List.getElem?_eq_some_iff.1 hb).1
      simp at hb'
      have hi : i + 1 = d.length := by omega
      rw [List.getElem?_append_right (by omega), hi, Nat.sub_self] at hb
      simp at hb
      subst hb
      rw [List.getElem?_append_left (by omega)] at ha
      apply hl
      rw [List.getLast?_eq_getElem?, ← ha]
      congr 1
      omega

theorem nice_app {d : List Run} {r : Run} (hd : Nice d) (hr : r.v.err = 0 ∧ 1 ≤ r.n) : Nice (appRun d r) := by
  rcases list_snoc d with rfl | ⟨e, l, rfl⟩
  · rw [appRun_nil]
    exact nice_push (d := []) nice_nil hr (by simp)
  · by_cases h : l.v = r.v
    · rw [appRun_same e l r h]
      have he : Nice e := ⟨fun x hx => hd.1 x (by simp [hx]), fun i a b ha hb => by
        have h1 := (List.getElem?_eq_some_iff.1 ha).1
        have h2 := (List.getElem?_eq_some_iff.1 hb).1
        exact hd.2 i a b (by rw [List.getElem?_append_left h1]; exact ha) (by rw [List.getElem?_append_left h2]; exact hb)⟩
      have hl := hd.1 l (by simp)
      refine nice_push (r := ⟨l.v, l.n + r.n⟩) he ⟨hl.1, by show 1 ≤ l.n + r.n; omega⟩ (fun m hm => ?_)
      rw [List.getLast?_eq_getElem?] at hm
      have h1 := (List.getElem?_eq_some_iff.1 hm).1
      refine hd.2 (e.length - 1) m l (by rw [List.getElem?_append_left h1]; exact hm) ?_
      rw [show e.length - 1 + 1 = e.length by omega, List.getElem?_append_right (Nat.le_refl _), Nat.sub_self]
      rfl
    · rw [appRun_new e l r h]
      exact nice_push hd hr (by simpa using h)

theorem nice_enc_aux : ∀ (vs : List Val) (d : List Run), Nice d → (∀ v ∈ vs, v.err = 0) → Nice (vs.foldl (fun d v => appRun d ⟨v, 1⟩) d)
  | [], d, hd, _ => hd
  | v :: vs, d, hd, h => by
    rw [List.foldl_cons]
    exact nice_enc_aux vs _ (nice_app hd ⟨h v (by simp), Nat.le_refl _⟩) fun x hx => h x (by simp [hx])
theorem nice_enc {vs : List Val} (h : ∀ v ∈ vs, v.err = 0) : Nice (encRuns vs) := nice_enc_aux vs [] nice_nil h

theorem len_app (d : List Run) (r : Run) : (appRun d r).length ≤ d.length + 1 := by
  rcases list_snoc d with rfl | ⟨e, l, rfl⟩
  · simp [appRun_nil]
  · by_cases h : l.v = r.v
    · rw [appRun_same e l r h]; simp
    · rw [appRun_new e l r h]; simp
theorem len_enc_aux : ∀ (vs : List Val) (d : List Run), (vs.foldl (fun d v => appRun d ⟨v, 1⟩) d).length ≤ d.length + vs.length
  | [], d => by simp
  | v :: vs, d => by
    rw [List.foldl_cons]
    have := len_enc_aux vs (appRun d ⟨v, 1⟩)
    have := len_app d ⟨v, 1⟩
    simp only [List.length_cons]
    omega
theorem len_enc (vs : List Val) : (encRuns vs).length ≤ vs.length := by simpa [encRuns] using len_enc_aux vs []

theorem decRuns_len_le {rs : List Run} (h : ∀ r ∈ rs, 1 ≤ r.n) : rs.length ≤ (decRuns rs).length := by
  induction rs with
  | nil => simp
  | cons r rs ih =>
    have h1 := h r (by simp)
    have h2 := ih fun x hx => h x (by simp [hx])
    simp only [decRuns, List.flatMap_cons, List.length_append, List.length_replicate, List.length_cons] at h2 ⊢
    omega

theorem Elems.run {w : World} {S : Nat → Prop} {A : Option Addr} {r : List Run} {k : Nat} (h : Elems 4 Run.cs w S A r) (hk : k < r.length) :
    ∃ b off, A = some ⟨b, off, none⟩ ∧ S b ∧ w.cell? ⟨b, off + k * 4, none⟩ = some (.int .i64 r[k].v.kind) ∧ w.cell? ⟨b, off + k * 4 + 1, none⟩ = some (.int .i64 r[k].v.int) ∧ w.cell? ⟨b, off + k * 4 + 2, none⟩ = some (.string r[k].v.text) ∧ w.cell? ⟨b, off + k * 4 + 3, none⟩ = some (.int .i64 (r[k].n : Int)) := by
  obtain ⟨b, off, e, hb, hc⟩ := h.at_ hk
  exact ⟨b, off, e, hb, hc 0 _ rfl, hc 1 _ rfl, hc 2 _ rfl, hc 3 _ rfl⟩

/-- How many values the first k runs stand for. -/
def tot (rs : List Run) (k : Nat) : Nat := (decRuns (rs.take k)).length
theorem tot_zero (rs : List Run) : tot rs 0 = 0 := rfl
theorem tot_succ {rs : List Run} {k : Nat} (hk : k < rs.length) : tot rs (k + 1) = tot rs k + rs[k].n := by
  unfold tot
  rw [List.take_succ_eq_append_getElem hk]
  simp only [decRuns, List.flatMap_append, List.length_append, List.flatMap_cons, List.flatMap_nil, List.append_nil, List.length_replicate]
theorem tot_all (rs : List Run) : tot rs rs.length = (decRuns rs).length := by
  unfold tot
  rw [List.take_of_length_le (Nat.le_refl _)]
theorem tot_le (rs : List Run) (k : Nat) : tot rs k ≤ (decRuns rs).length := by
  have h : decRuns rs = decRuns (rs.take k) ++ decRuns (rs.drop k) := by
    conv => lhs; rw [← List.take_append_drop k rs]
    exact List.flatMap_append
  rw [h]
  unfold tot
  simp

/-- A canonical column within the limits. -/
structure Canon (rs : List Run) : Prop where
  nice : Nice rs
  len : rs.length ≤ 400
  tot : (decRuns rs).length ≤ 100000

theorem canon_enc {vs : List Val} (h : ∀ v ∈ vs, v.err = 0) (hl : vs.length ≤ 400) : Canon (encRuns vs) :=
  ⟨nice_enc h, Nat.le_trans (len_enc vs) hl, by rw [decRuns_enc]; omega⟩

end Go.Proofs.Ytimndhnbbmedbaa
