/-
  SecondaryLookupEqualsScan, plain: a lookup finds what a scan of the rows finds. No program's walk.
-/
import Derived.Test.YtakbabkcidioaaaYlq
namespace Go.Proofs.Ytakbabkcidioaaa
open Go.RowKit Go.Sort

theorem inR_self {v x : Row} : inR v v x = true ↔ x = v := by
  unfold inR
  rw [Bool.and_eq_true, decide_eq_true_iff, decide_eq_true_iff]
  constructor
  · rintro ⟨h1, h2⟩
    exact cmpR_zero (by omega)
  · rintro rfl
    rw [cmpR_refl]
    omega
theorem mem_lkX {v k : Row} {d : XD} : k ∈ lkX v v d ↔ (v, k) ∈ flatX d := by
  rw [mem_flatX]
  unfold lkX
  rw [List.mem_flatMap]
  constructor
  · rintro ⟨e, he, hk⟩
    split at hk
    · rename_i h
      exact ⟨e, he, inR_self.1 h, hk⟩
    · cases hk
  · rintro ⟨e, he, h1, h2⟩
    refine ⟨e, he, ?_⟩
    rw [if_pos (inR_self.2 h1)]
    exact h2
theorem lkX_none {v : Row} {d : XD} (h : ∀ e ∈ d, e.1 ≠ v) : lkX v v d = [] := by
  refine List.eq_nil_iff_forall_not_mem.2 fun k hk => ?_
  obtain ⟨e, he, h1, -⟩ := mem_flatX.1 (mem_lkX.1 hk)
  exact h e he h1
theorem lkX_sorted {v : Row} : ∀ {d : XD}, SrtX d → (lkX v v d).Pairwise rl
  | [], _ => List.Pairwise.nil
  | e :: d, h => by
    have h1 : lkX v v (e :: d) = (if inR v v e.1 then e.2 else []) ++ lkX v v d := List.flatMap_cons
    rw [h1]
    by_cases he : e.1 = v
    · rw [if_pos (inR_self.2 he), lkX_none fun x hx hxv => ?_, List.append_nil]
      · exact (h.keys e List.mem_cons_self).2
      · have h2 := (List.pairwise_cons.1 h.vals).1 x hx
        rw [he, hxv] at h2
        exact rl_irrefl _ h2
    · rw [if_neg (fun h3 => he (inR_self.1 h3))]
      exact lkX_sorted h.tail
theorem trF_sorted (ns : List Int) (m : Nat) : (trF ns m).Pairwise fun a b => rl (keyOf [0] a) (keyOf [0] b) := by
  unfold trF
  rw [List.pairwise_map]
  refine List.pairwise_lt_range.imp ?_
  intro a b hab
  rw [keyOf0, keyOf0]
  unfold rl
  have h1 : cmpI (a : Int) (b : Int) = -1 := by unfold cmpI; rw [if_pos (by omega)]
  have h2 : cmpV ⟨1, (a : Int), ⟨#[]⟩⟩ ⟨1, (b : Int), ⟨#[]⟩⟩ = -1 := by
    unfold cmpV
    rw [if_pos (by rfl), if_neg (by show ¬ cmpI (a : Int) (b : Int) = 0; rw [h1]; omega)]
    exact h1
  rw [cmpR_cons, if_neg (by rw [h2]; omega), h2]
  omega
/-- What the scan finds. -/
def hitB (v0 v1 : Val) (r : Row) : Bool := decide (keyAt r 2 = v0) && decide (keyAt r 1 = v1)
def scanX (v0 v1 : Val) (rows : List Row) : List Row := (rows.filter (hitB v0 v1)).map (keyOf [0])
theorem keyOf21 (r : Row) (v0 v1 : Val) : keyOf [2, 1] r = [v0, v1] ↔ hitB v0 v1 r = true := by
  unfold hitB keyOf
  rw [Bool.and_eq_true, decide_eq_true_iff, decide_eq_true_iff]
  show [keyAt r 2, keyAt r 1] = [v0, v1] ↔ _
  constructor
  · intro h
    injection h with h1 h2
    injection h2 with h2 _
    exact ⟨h1, h2⟩
  · rintro ⟨h1, h2⟩
    rw [h1, h2]
theorem lookup_scan {t : Tbl} (ht : t.cols = iCols) (hp : t.pk = [0]) (ns : List Int) (m : Nat) (hm : m ≤ 24) (v0 v1 : Val) : lkX [v0, v1] [v0, v1] (bldX [0] [2, 1] (trF ns m)) = scanX v0 v1 (trF ns m) := by
  have hg := trF_good ht hp (cols := [2, 1]) (by decide) (by decide) (ns := ns) hm
  have h1 := trF_dok hp hg (trF_keys ns m) (by rw [trF_len]; exact hm)
  refine sorted_ext rl_irrefl (fun a b h => rl_asymm h) (lkX_sorted h1.srt) ?_ fun k => ?_
  · unfold scanX
    rw [List.pairwise_map]
    exact (trF_sorted ns m).filter _
  · rw [mem_lkX, mem_bldX]
    unfold scanX
    rw [List.mem_map]
    constructor
    · rintro ⟨r, hr, e⟩
      injection e with e1 e2
      exact ⟨r, List.mem_filter.2 ⟨hr, (keyOf21 r v0 v1).1 e1.symm⟩, e2.symm⟩
    · rintro ⟨r, hr, rfl⟩
      obtain ⟨h2, h3⟩ := List.mem_filter.1 hr
      exact ⟨r, h2, by rw [(keyOf21 r v0 v1).2 h3]⟩
theorem scan_pos (v0 v1 : Val) {rows : List Row} {r : Row} (hr : r ∈ rows) (h : hitB v0 v1 r = true) : 0 < (scanX v0 v1 rows).length := by
  unfold scanX
  rw [List.length_map]
  exact List.length_pos_of_mem (List.mem_filter.2 ⟨hr, h⟩)
end Go.Proofs.Ytakbabkcidioaaa
