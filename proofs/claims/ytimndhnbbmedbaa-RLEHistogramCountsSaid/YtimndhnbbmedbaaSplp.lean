/-
  Runs appended one after another; columns cut in two. No program in sight.
-/
import Derived.Test.YtimndhnbbmedbaaRle
namespace Go.Proofs.Ytimndhnbbmedbaa

theorem appRun_succ (d : List Run) (v : Val) (n : Nat) : appRun (appRun d ⟨v, n⟩) ⟨v, 1⟩ = appRun d ⟨v, n + 1⟩ := by
  rcases list_snoc d with rfl | ⟨e, l, rfl⟩
  · rw [appRun_nil, appRun_nil, show ([⟨v, n⟩] : List Run) = [] ++ [⟨v, n⟩] from rfl, appRun_same [] ⟨v, n⟩ ⟨v, 1⟩ rfl]
    rfl
  · by_cases h : l.v = v
    · rw [appRun_same e l ⟨v, n⟩ h, appRun_same e l ⟨v, n + 1⟩ h, appRun_same e ⟨l.v, l.n + n⟩ ⟨v, 1⟩ h]
      simp [Nat.add_assoc]
    · rw [appRun_new e l ⟨v, n⟩ h, appRun_new e l ⟨v, n + 1⟩ h, appRun_same (e ++ [l]) ⟨v, n⟩ ⟨v, 1⟩ rfl]

theorem foldl_rep (v : Val) : ∀ (n : Nat) (d : List Run), (List.replicate (n + 1) v).foldl (fun d v => appRun d ⟨v, 1⟩) d = appRun d ⟨v, n + 1⟩
  | 0, d => rfl
  | n + 1, d => by
    rw [List.replicate_succ', List.foldl_append, foldl_rep v n d]
    exact appRun_succ d v (n + 1)

/-- Runs of at least one value, appended one after another: as their values, one after another. -/
theorem foldl_runs : ∀ (rs : List Run) (d : List Run), (∀ r ∈ rs, 1 ≤ r.n) → rs.foldl appRun d = (decRuns rs).foldl (fun d v => appRun d ⟨v, 1⟩) d
  | [], d, _ => rfl
  | r :: rs, d, h => by
    have h1 := h r (by simp)
    obtain ⟨n, hn⟩ : ∃ n, r.n = n + 1 := ⟨r.n - 1, by omega⟩
    have e : decRuns (r :: rs) = List.replicate (n + 1) r.v ++ decRuns rs := by simp [decRuns, hn]
    rw [List.foldl_cons, foldl_runs rs _ (fun x hx => h x (by simp [hx])), e, List.foldl_append, foldl_rep, ← hn]
theorem enc_runs {rs : List Run} (h : ∀ r ∈ rs, 1 ≤ r.n) : rs.foldl appRun [] = encRuns (decRuns rs) := foldl_runs rs [] h

theorem decRuns_append (a b : List Run) : decRuns (a ++ b) = decRuns a ++ decRuns b := List.flatMap_append
theorem decRuns_cons (r : Run) (b : List Run) : decRuns (r :: b) = List.replicate r.n r.v ++ decRuns b := rfl
theorem decRuns_split {rs : List Run} {k : Nat} (hk : k < rs.length) : decRuns rs = decRuns (rs.take k) ++ (List.replicate rs[k].n rs[k].v ++ decRuns (rs.drop (k + 1))) := by
  conv => lhs; rw [← List.take_append_drop k rs, List.drop_eq_getElem_cons hk]
  rw [decRuns_append, decRuns_cons]

/-- What cut leaves of the runs rs at the index i. -/
structure CutAt (rs : List Run) (i : Nat) (hs ts : List Run) : Prop where
  head : decRuns hs = (decRuns rs).take i
  tail : decRuns ts = (decRuns rs).drop i
  hpos : ∀ r ∈ hs, 1 ≤ r.n
  tpos : ∀ r ∈ ts, 1 ≤ r.n
  hlen : hs.length ≤ rs.length
  tlen : ts.length ≤ rs.length

theorem cutAt_end {rs : List Run} (h : ∀ r ∈ rs, 1 ≤ r.n) {i : Nat} (hi : tot rs rs.length ≤ i) : CutAt rs i rs [] := by
  rw [tot_all] at hi
  exact ⟨(List.take_of_length_le hi).symm, by rw [List.drop_of_length_le hi]; rfl, h, by simp, Nat.le_refl _, Nat.zero_le _⟩

theorem cutAt_mid {rs : List Run} (h : ∀ r ∈ rs, 1 ≤ r.n) {i k j : Nat} (hk : k < rs.length) (hi : tot rs k + j = i) (hj : j < rs[k].n) :
    CutAt rs i (if 0 < j then rs.take k ++ [⟨rs[k].v, j⟩] else rs.take k) ([⟨rs[k].v, rs[k].n - j⟩] ++ rs.drop (k + 1)) := by
  have hs := decRuns_split hk
  have hl : (decRuns (rs.take k)).length = tot rs k := rfl
  have e1 : (decRuns rs).take i = decRuns (rs.take k) ++ List.replicate j rs[k].v := by
    rw [hs, List.take_append, List.take_of_length_le (by omega), hl, List.take_append_of_le_length (by simp; omega), List.take_replicate]
    congr 2
    omega
  have e2 : (decRuns rs).drop i = List.replicate (rs[k].n - j) rs[k].v ++ decRuns (rs.drop (k + 1)) := by
    rw [hs, List.drop_append, List.drop_of_length_le (by omega), hl, List.nil_append, List.drop_append_of_le_length (by simp; omega), List.drop_replicate]
    congr 2
    omega
  have ht : ∀ r ∈ rs.take k, 1 ≤ r.n := fun r hr => h r (List.mem_of_mem_take hr)
  refine ⟨?_, ?_, ?_, ?_, ?_, ?_⟩
  · rw [e1]
    by_cases h0 : 0 < j
    · rw [if_pos h0, decRuns_append]; simp [decRuns]
    · rw [if_neg h0, show j = 0 by omega]; simp
  · rw [e2]; rfl
  · by_cases h0 : 0 < j
    · rw [if_pos h0]
      intro r hr
      rcases List.mem_append.1 hr with hr | hr
      · exact ht r hr
      · simp at hr; subst hr; exact h0
    · rw [if_neg h0]; exact ht
  · intro r hr
    rcases List.mem_append.1 hr with hr | hr
    · simp at hr; subst hr; show 1 ≤ rs[k].n - j; omega
    · exact h r (List.mem_of_mem_drop hr)
  · split <;> simp <;> omega
  · simp; omega

end Go.Proofs.Ytimndhnbbmedbaa
