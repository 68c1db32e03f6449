/-
  RangeSplits, plain: what the ranges count. No program's walk.
-/
import Derived.Test.YtakbabkcidioaaaYlp
import Derived.Test.YtakbabkcidioaaaYlk
namespace Go.Proofs.Ytakbabkcidioaaa
open Go.RowKit Go.Sort

theorem lkX_len (lo hi : Row) (d : XD) : (lkX lo hi d).length = ((flatX d).filter fun p => inR lo hi p.1).length := by
  induction d with
  | nil => rfl
  | cons e d ih =>
    have h1 : lkX lo hi (e :: d) = (if inR lo hi e.1 then e.2 else []) ++ lkX lo hi d := List.flatMap_cons
    rw [h1, flatX_cons, List.filter_append, List.length_append, List.length_append, ih, List.filter_map, List.length_map]
    congr 1
    cases h : inR lo hi e.1 with
    | true =>
      have hf : e.2.filter ((fun p : Row × Row => inR lo hi p.1) ∘ Prod.mk e.1) = e.2 := List.filter_eq_self.2 fun a _ => h
      rw [if_pos rfl, hf]
    | false =>
      have hf : e.2.filter ((fun p : Row × Row => inR lo hi p.1) ∘ Prod.mk e.1) = [] := List.filter_eq_nil_iff.2 fun a _ (hh : inR lo hi e.1 = true) => by rw [h] at hh; cases hh
      rw [if_neg (by simp), hf]
theorem split_count {v : Row} {a b : Row} : ∀ ps : List (Row × Row), (∀ p ∈ ps, 0 ≤ cmpR p.1 a ∧ cmpR p.1 b ≤ 0) →
    (ps.filter fun p => inR a v p.1).length + (ps.filter fun p => inR v b p.1).length = ps.length + (ps.filter fun p => inR v v p.1).length
  | [], _ => rfl
  | p :: ps, h => by
    have ih := split_count (v := v) ps fun q hq => h q (List.mem_cons_of_mem _ hq)
    obtain ⟨h1, h2⟩ := h p List.mem_cons_self
    have e1 : inR a v p.1 = decide (cmpR p.1 v ≤ 0) := by unfold inR; rw [decide_eq_true h1, Bool.true_and]
    have e2 : inR v b p.1 = decide (0 ≤ cmpR p.1 v) := by unfold inR; rw [decide_eq_true h2, Bool.and_true]
    have e3 : inR v v p.1 = (decide (0 ≤ cmpR p.1 v) && decide (cmpR p.1 v ≤ 0)) := rfl
    rw [List.filter_cons, List.filter_cons, List.filter_cons]
    simp only [e1, e2, e3, List.length_cons]
    rcases Int.lt_trichotomy (cmpR p.1 v) 0 with hc | hc | hc
    · rw [decide_eq_true (by omega : cmpR p.1 v ≤ 0), decide_eq_false (by omega : ¬ 0 ≤ cmpR p.1 v)]
      simp only [Bool.false_and, if_true, List.length_cons]
      simp only [Bool.false_eq_true, if_false]
      omega
    · rw [decide_eq_true (by omega : cmpR p.1 v ≤ 0), decide_eq_true (by omega : 0 ≤ cmpR p.1 v)]
      simp only [Bool.and_true, if_true, List.length_cons]
      omega
    · rw [decide_eq_false (by omega : ¬ cmpR p.1 v ≤ 0), decide_eq_true (by omega : 0 ≤ cmpR p.1 v)]
      simp only [Bool.and_false, if_true, List.length_cons]
      simp only [Bool.false_eq_true, if_false]
      omega
def loR : Row := [⟨0, 0, ⟨#[]⟩⟩]
def hiR : Row := [⟨3, 0, ⟨#[122, 122, 122]⟩⟩]
theorem genT_mid (n : Int) : 0 ≤ cmpR [genT n] loR ∧ cmpR [genT n] hiR ≤ 0 := by
  unfold genT
  split
  · exact ⟨by decide +kernel, by decide +kernel⟩
  · have h : (md (n.tdiv 4) 6 : Int) < 6 := md_lt (by omega)
    generalize md (n.tdiv 4) 6 = q at *
    rcases q with _ | _ | _ | _ | _ | _ | q
    all_goals first | exact ⟨by decide +kernel, by decide +kernel⟩ | omega
theorem keyOf1 (i : Nat) (n : Int) : keyOf [1] (trow i n) = [genT n] := rfl
theorem mid_all (ns : List Int) (m : Nat) : ∀ p ∈ flatX (bldX [0] [1] (trF ns m)), 0 ≤ cmpR p.1 loR ∧ cmpR p.1 hiR ≤ 0 := fun p hp => by
  obtain ⟨r, hr, rfl⟩ := (mem_bldX _ _ _ _).1 hp
  obtain ⟨i, n, -, rfl⟩ := trF_mem hr
  exact genT_mid n
/-- The law's counts. -/
theorem range_counts (ns : List Int) (m : Nat) (n : Int) (hn : ∃ i, trow i n ∈ trF ns m) :
    (lkX loR [genT n] (bldX [0] [1] (trF ns m))).length + (lkX [genT n] hiR (bldX [0] [1] (trF ns m))).length = m + (lkX [genT n] [genT n] (bldX [0] [1] (trF ns m))).length ∧ 0 < (lkX [genT n] [genT n] (bldX [0] [1] (trF ns m))).length ∧
    (lkX loR [genT n] (bldX [0] [1] (trF ns m))).length ≤ m ∧ (lkX [genT n] hiR (bldX [0] [1] (trF ns m))).length ≤ m ∧ (lkX [genT n] [genT n] (bldX [0] [1] (trF ns m))).length ≤ m := by
  have hl : (flatX (bldX [0] [1] (trF ns m))).length = m := by rw [flen_bldX, trF_len]
  rw [lkX_len, lkX_len, lkX_len]
  refine ⟨by rw [split_count _ (mid_all ns m), hl], ?_, ?_, ?_, ?_⟩
  · obtain ⟨i, hi⟩ := hn
    have h1 : (keyOf [1] (trow i n), keyOf [0] (trow i n)) ∈ flatX (bldX [0] [1] (trF ns m)) := (mem_bldX _ _ _ _).2 ⟨_, hi, rfl⟩
    refine List.length_pos_of_mem (a := (keyOf [1] (trow i n), keyOf [0] (trow i n))) (List.mem_filter.2 ⟨h1, ?_⟩)
    rw [keyOf1]
    unfold inR
    rw [cmpR_refl]
    rfl
  all_goals exact Nat.le_trans (List.length_filter_le _ _) (Nat.le_of_eq hl)
theorem vok_lo {t : Tbl} (ht : t.cols = iCols) : VOk t [1] loR := ⟨rfl, by decide +kernel, fun i hi => by
  have h0 : i = 0 := by have : i < 1 := hi; omega
  subst h0
  rw [ht]
  exact .inr ⟨rfl, rfl⟩⟩
theorem vok_hi {t : Tbl} (ht : t.cols = iCols) : VOk t [1] hiR := ⟨rfl, by decide +kernel, fun i hi => by
  have h0 : i = 0 := by have : i < 1 := hi; omega
  subst h0
  rw [ht]
  exact .inl ⟨rfl, by show (3 : Int) ≠ 0; omega⟩⟩
end Go.Proofs.Ytakbabkcidioaaa
