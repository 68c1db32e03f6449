/-
  What the law's rows and columns are, plain; the order of the rows does not matter to Build. No program's walk.
-/
import Derived.Test.YtakbabkcidioaaaYtr
import Derived.Test.YtakbabkcidioaaaYp
namespace Go.Proofs.Ytakbabkcidioaaa
open Go.RowKit Go.Sort

theorem genT_ok (n : Int) : (genT n).err = 0 ∧ ((genT n).kind = 3 ∨ (genT n).kind = 0) := by
  unfold genT
  split
  · exact ⟨by decide +kernel, .inr rfl⟩
  · refine ⟨?_, .inl rfl⟩
    have h : (md (n.tdiv 4) 6 : Int) < 6 := md_lt (by omega)
    generalize md (n.tdiv 4) 6 = q at *
    rcases q with _ | _ | _ | _ | _ | _ | q
    all_goals first | decide +kernel | omega
theorem genB_ok (n : Int) : (genB n).err = 0 := by
  unfold genB
  have h : (md (n.tdiv 4) 2 : Int) < 2 := md_lt (by omega)
  generalize md (n.tdiv 4) 2 = q at *
  rcases q with _ | _ | q
  all_goals first | decide +kernel | omega
theorem keyAt0 (i : Nat) (n : Int) : keyAt (trow i n) 0 = ⟨1, i, ⟨#[]⟩⟩ := rfl
theorem keyAt1 (i : Nat) (n : Int) : keyAt (trow i n) 1 = genT n := rfl
theorem keyAt2 (i : Nat) (n : Int) : keyAt (trow i n) 2 = genB (n.tdiv 8) := rfl
theorem int_ok {i : Nat} (h : i ≤ 1000) : Val.err ⟨1, (i : Int), ⟨#[]⟩⟩ = 0 := by
  show vErr 1 i ⟨#[]⟩ = 0
  unfold vErr
  rw [if_neg (by omega), if_pos (.inl rfl), if_neg (by decide +kernel), if_neg (by omega)]
theorem at_ok {i : Nat} {n : Int} (h : i ≤ 1000) {c : Int} (hc : 0 ≤ c ∧ c < 3) : (keyAt (trow i n) c).err = 0 ∧ colOk (iCols.getD c.toNat col0) (keyAt (trow i n) c) := by
  have h3 : c = 0 ∨ c = 1 ∨ c = 2 := by omega
  rcases h3 with rfl | rfl | rfl
  · exact ⟨int_ok h, .inl ⟨rfl, by show (1 : Int) ≠ 0; omega⟩⟩
  · rw [keyAt1]
    refine ⟨(genT_ok n).1, ?_⟩
    rcases (genT_ok n).2 with e | e
    · exact .inl ⟨e, by rw [e]; omega⟩
    · exact .inr ⟨e, rfl⟩
  · exact ⟨genB_ok _, .inl ⟨rfl, by show (2 : Int) ≠ 0; omega⟩⟩
theorem vok_of {t : Tbl} (ht : t.cols = iCols) {cols : List Int} (hc : ∀ c ∈ cols, 0 ≤ c ∧ c < 3) (hl : cols.length ≤ 12) {i : Nat} (hi : i ≤ 1000) (n : Int) : VOk t cols (keyOf cols (trow i n)) := by
  refine ⟨by unfold keyOf; rw [List.length_map], ?_, fun j hj => ?_⟩
  · unfold rErr
    rw [if_neg (by unfold keyOf; rw [List.length_map]; omega)]
    exact rErrs_of fun v hv => by
      obtain ⟨c, hc', rfl⟩ := List.mem_map.1 hv
      exact (at_ok hi (hc c hc')).1
  · have hj' : j < cols.length := by unfold keyOf at hj; rwa [List.length_map] at hj
    have e : (keyOf cols (trow i n))[j] = keyAt (trow i n) cols[j] := List.getElem_map _
    have eg : cols.getD j 0 = cols[j] := by rw [List.getD_eq_getElem?_getD, List.getElem?_eq_getElem hj']; rfl
    rw [e, ht, eg]
    exact (at_ok hi (hc _ (List.getElem_mem hj'))).2
theorem trow_ok {t : Tbl} (ht : t.cols = iCols) {i : Nat} (hi : i ≤ 1000) (n : Int) : RowOk t (trow i n) := by
  refine ⟨by rw [ht]; rfl, ?_, fun j hj => ?_⟩
  · unfold rErr
    rw [if_neg (by show ¬ 12 < 3; omega)]
    refine rErrs_of fun v hv => ?_
    rcases List.mem_cons.1 hv with rfl | hv
    · exact int_ok hi
    rcases List.mem_cons.1 hv with rfl | hv
    · exact (genT_ok n).1
    rw [List.mem_singleton.1 hv]
    exact genB_ok _
  · rw [ht]
    have hj3 : j < 3 := hj
    have h := (at_ok (n := n) hi (c := (j : Int)) ⟨by omega, by omega⟩).2
    have e : keyAt (trow i n) (j : Int) = (trow i n)[j] := by
      unfold keyAt
      rw [if_pos ⟨by omega, by show (j : Int) < 3; omega⟩, Int.toNat_natCast, List.getD_eq_getElem?_getD, List.getElem?_eq_getElem hj]
      rfl
    rw [e] at h
    exact h
theorem rgood_of {t : Tbl} (ht : t.cols = iCols) (hp : t.pk = [0]) {cols : List Int} (hc : ∀ c ∈ cols, 0 ≤ c ∧ c < 3) (hl : cols.length ≤ 12) {i : Nat} (hi : i ≤ 1000) (n : Int) : RGood t cols (trow i n) :=
  ⟨trow_ok ht hi n, vok_of ht hc hl hi n, by rw [hp]; exact vok_of ht (fun c h => by rw [List.mem_singleton.1 h]; omega) (by show 1 ≤ 12; omega) hi n⟩
theorem trF_len (ns : List Int) (m : Nat) : (trF ns m).length = m := by simp [trF]
theorem trF_mem {ns : List Int} {m : Nat} {r : Row} (h : r ∈ trF ns m) : ∃ i n, i < m ∧ r = trow i n := by
  obtain ⟨i, hi, rfl⟩ := List.mem_map.1 h
  exact ⟨i, _, List.mem_range.1 hi, rfl⟩
theorem trF_good {t : Tbl} (ht : t.cols = iCols) (hp : t.pk = [0]) {cols : List Int} (hc : ∀ c ∈ cols, 0 ≤ c ∧ c < 3) (hl : cols.length ≤ 12) {ns : List Int} {m : Nat} (hm : m ≤ 24) : ∀ r ∈ trF ns m, RGood t cols r := fun r hr => by
  obtain ⟨i, n, hi, rfl⟩ := trF_mem hr
  exact rgood_of ht hp hc hl (by omega) n
theorem keyOf0 (i : Nat) (n : Int) : keyOf [0] (trow i n) = [⟨1, (i : Int), ⟨#[]⟩⟩] := rfl
theorem trF_keys (ns : List Int) (m : Nat) : ((trF ns m).map (keyOf [0])).Nodup := by
  unfold trF
  rw [List.map_map, List.nodup_iff_pairwise_ne, List.pairwise_map]
  refine (List.nodup_iff_pairwise_ne.1 List.nodup_range).imp ?_
  intro a b hab e
  have e : keyOf [0] (trow a (ns.getD a 0)) = keyOf [0] (trow b (ns.getD b 0)) := e
  rw [keyOf0, keyOf0] at e
  injection e with e _
  injection e with _ e _
  exact hab (by omega)
theorem trF_dok {t : Tbl} (hp : t.pk = [0]) {cols : List Int} {rows : List Row} (hg : ∀ r ∈ rows, RGood t cols r) (hk : (rows.map (keyOf [0])).Nodup) (hm : rows.length ≤ 24) : DOk t cols (bldX [0] cols rows) := by
  have h := bldX_ok (t := t) (cols := cols) (rows := rows) hg (by rw [hp]; exact hk) hm rows.length (Nat.le_refl _)
  rw [List.take_length, hp] at h
  exact h
theorem nodup_rev {α : Type} {xs : List α} (h : xs.Nodup) : xs.reverse.Nodup := by
  rw [List.nodup_iff_pairwise_ne, List.pairwise_reverse]
  exact (List.nodup_iff_pairwise_ne.1 h).imp fun h e => h e.symm
/-- The order of the rows does not matter. -/
theorem bldX_rev {t : Tbl} (ht : t.cols = iCols) (hp : t.pk = [0]) {cols : List Int} (hc : ∀ c ∈ cols, 0 ≤ c ∧ c < 3) (hl : cols.length ≤ 12) {ns : List Int} {m : Nat} (hm : m ≤ 24) :
    flatX (bldX [0] cols (trF ns m)) = flatX (bldX [0] cols (trF ns m).reverse) := by
  have hg := trF_good ht hp hc hl (ns := ns) hm
  have h1 := trF_dok hp hg (trF_keys ns m) (by rw [trF_len]; exact hm)
  have h2 := trF_dok hp (rows := (trF ns m).reverse) (fun r hr => hg r (List.mem_reverse.1 hr)) (by rw [List.map_reverse]; exact nodup_rev (trF_keys ns m)) (by rw [List.length_reverse, trF_len]; exact hm)
  refine flatX_ext h1.srt h2.srt fun p => ?_
  rw [mem_bldX, mem_bldX]
  constructor
  · rintro ⟨r, hr, e⟩
    exact ⟨r, List.mem_reverse.2 hr, e⟩
  · rintro ⟨r, hr, e⟩
    exact ⟨r, List.mem_reverse.1 hr, e⟩
theorem iTab_ok {t : Tbl} (ht : t.cols = iCols) (hp : t.pk = [0]) : TabOk t := by
  refine ⟨by rw [ht]; decide, by rw [hp]; decide, ?_, by rw [hp]; exact List.pairwise_singleton _ _⟩
  rw [hp, ht]
  intro k hk
  rw [List.mem_singleton.1 hk]
  decide
theorem iCol_ok {t : Tbl} (ht : t.cols = iCols) {cols : List Int} (hc : ∀ c ∈ cols, 0 ≤ c ∧ c < 3) (hl : 0 < cols.length ∧ cols.length ≤ 12) (hn : cols.Nodup) : ColsOk t cols := ⟨⟨hl.1, by omega⟩, fun c h => by rw [ht]; exact hc c h, hn⟩
end Go.Proofs.Ytakbabkcidioaaa
