/-
  What Build builds, plain. No program's walk.
-/
import Derived.Test.YtakbabkcidioaaaYe
namespace Go.Proofs.Ytakbabkcidioaaa
open Go.RowKit Go.Sort

/-- The data of a well-formed index of a table t over these columns. -/
structure DOk (t : Tbl) (cols : List Int) (d : XD) : Prop where
  srt : SrtX d
  inj : KInj d
  ok : ∀ p ∈ flatX d, VOk t cols p.1 ∧ VOk t t.pk p.2
  len : (flatX d).length ≤ 60
theorem DOk.nil (t : Tbl) (cols : List Int) : DOk t cols [] := ⟨⟨List.Pairwise.nil, fun e he => by cases he⟩, fun p hp => (by cases hp), fun p hp => (by cases hp), Nat.zero_le _⟩
theorem DOk.ins {t : Tbl} {cols : List Int} {d : XD} {v k : Row} (h : DOk t cols d) (hv : VOk t cols v) (hk : VOk t t.pk k) (hn : ∀ p ∈ flatX d, p.2 ≠ k) (hl : (flatX d).length + 1 ≤ 60) : DOk t cols (insX v k d) := by
  refine ⟨insX_sorted v k h.srt fun hm => hn _ hm rfl, fun p hp q hq e => ?_, fun p hp => ?_, by rw [insX_flen]; exact hl⟩
  · rcases (mem_insX v k p d).1 hp with rfl | hp
    · rcases (mem_insX v k q d).1 hq with rfl | hq
      · rfl
      · exact absurd e.symm (hn q hq)
    · rcases (mem_insX v k q d).1 hq with rfl | hq
      · exact absurd e (hn p hp)
      · exact h.inj p hp q hq e
  · rcases (mem_insX v k p d).1 hp with rfl | hp
    · exact ⟨hv, hk⟩
    · exact h.ok p hp
theorem delX_flen (v k : Row) : ∀ d : XD, (flatX (delX v k d)).length ≤ (flatX d).length
  | [] => Nat.le_refl _
  | e :: d => by
    have hd := (delL_sub k e.2).length_le
    unfold delX
    split
    · have := delX_flen v k d
      rw [flatX_cons, flatX_cons, List.length_append, List.length_append]
      omega
    · split
      · split
        · rw [flatX_cons, List.length_append]
          omega
        · rw [flatX_cons, flatX_cons, List.length_append, List.length_append, List.length_map, List.length_map]
          show (delL k e.2).length + _ ≤ _
          omega
      · exact Nat.le_refl _
theorem DOk.del {t : Tbl} {cols : List Int} {d : XD} {v k : Row} (h : DOk t cols d) : DOk t cols (delX v k d) := by
  have hs : ∀ p ∈ flatX (delX v k d), p ∈ flatX d := fun p hp => ((mem_delX v k p h.srt).1 hp).1
  refine ⟨delX_sorted v k h.srt, fun p hp q hq e => h.inj p (hs p hp) q (hs q hq) e, fun p hp => h.ok p (hs p hp), Nat.le_trans (delX_flen v k d) h.len⟩
theorem VOk.of {t t' : Tbl} {cols : List Int} {r : Row} (h : VOk t cols r) (ht : t'.cols = t.cols) : VOk t' cols r := ⟨h.len, h.err, fun i hi => by rw [ht]; exact h.col i hi⟩
theorem RowOk.of {t t' : Tbl} {r : Row} (h : RowOk t r) (ht : t'.cols = t.cols) : RowOk t' r := ⟨by rw [ht]; exact h.len, h.err, fun i hi => by rw [ht]; exact h.col i hi⟩
theorem TabOk.of {t t' : Tbl} (h : TabOk t) (hc : t'.cols = t.cols) (hp : t'.pk = t.pk) : TabOk t' := ⟨by rw [hc]; exact h.ncols, by rw [hp]; exact h.npk, by rw [hc, hp]; exact h.pk, by rw [hp]; exact h.ord⟩
theorem ColsOk.of {t t' : Tbl} {cols : List Int} (h : ColsOk t cols) (hc : t'.cols = t.cols) : ColsOk t' cols := ⟨h.pos, by rw [hc]; exact h.rng, h.nd⟩
theorem DOk.of {t t' : Tbl} {cols : List Int} {d : XD} (h : DOk t cols d) (hc : t'.cols = t.cols) (hp : t'.pk = t.pk) : DOk t' cols d := ⟨h.srt, h.inj, fun p hm => ⟨(h.ok p hm).1.of hc, by rw [hp]; exact (h.ok p hm).2.of hc⟩, h.len⟩
theorem xval_of {x : Ix} (hT : TabOk x.t) (hC : ColsOk x.t x.cols) (hcap : x.cols.length ≤ x.xc) (hD : DOk x.t x.cols x.xd) : XVal x := by
  have hsub : ∀ e ∈ x.ents, ∀ k ∈ e.keys, (e.vals.row, k.row) ∈ flatX x.xd := fun e he k hk => mem_flatX.2 ⟨e.xe, List.mem_map_of_mem he, rfl, List.mem_map_of_mem hk⟩
  have hl : ∀ e ∈ x.ents, e.keys.length ≤ 60 := fun e he => by
    have h1 := flatX_keys_len (d := x.xd) (List.mem_map_of_mem (f := EntM.xe) he)
    have h2 := hD.len
    simp only [EntM.xe, List.length_map] at h1
    omega
  refine ⟨hT, hC, hcap, ⟨?_, fun e he => by have := hl e he; omega, hC.pos.2, by have := hT.ncols; omega, hT.npk.2⟩, hD.srt, hD.inj, fun e he => ?_, fun e he k hk => (hD.ok _ (hsub e he k hk)).2, by have := hD.len; omega⟩
  · have h1 := hD.srt.len
    have h2 := hD.len
    unfold Ix.xd at h1
    rw [List.length_map] at h1
    have : (flatX (x.ents.map EntM.xe)).length ≤ 60 := h2
    omega
  · have hne := (hD.srt.keys _ (List.mem_map_of_mem (f := EntM.xe) he)).1
    cases hk : e.keys with
    | nil => exact absurd (by simp [EntM.xe, hk]) hne
    | cons k ks => exact (hD.ok _ (hsub e he k (by rw [hk]; exact List.mem_cons_self))).1

/-- A row that may be indexed. -/
structure RGood (t : Tbl) (cols : List Int) (r : Row) : Prop where
  row : RowOk t r
  vals : VOk t cols (keyOf cols r)
  key : VOk t t.pk (keyOf t.pk r)
/-- What the first rows make. -/
def bldX (pk cols : List Int) (rows : List Row) : XD := rows.foldl (fun d r => insX (keyOf cols r) (keyOf pk r) d) []
theorem bldX_snoc (pk cols : List Int) (rows : List Row) (r : Row) : bldX pk cols (rows ++ [r]) = insX (keyOf cols r) (keyOf pk r) (bldX pk cols rows) := by
  unfold bldX
  rw [List.foldl_append]
  rfl
theorem mem_foldX (pk cols : List Int) (p : Row × Row) : ∀ (rows : List Row) (d : XD), p ∈ flatX (rows.foldl (fun d r => insX (keyOf cols r) (keyOf pk r) d) d) ↔ (∃ r ∈ rows, p = (keyOf cols r, keyOf pk r)) ∨ p ∈ flatX d
  | [], d => by simp
  | r :: rows, d => by
    rw [List.foldl_cons, mem_foldX pk cols p rows, mem_insX]
    constructor
    · rintro (⟨q, hq, h⟩ | h | h)
      · exact .inl ⟨q, List.mem_cons_of_mem _ hq, h⟩
      · exact .inl ⟨r, List.mem_cons_self, h⟩
      · exact .inr h
    · rintro (⟨q, hq, h⟩ | h)
      · rcases List.mem_cons.1 hq with rfl | hq
        · exact .inr (.inl h)
        · exact .inl ⟨q, hq, h⟩
      · exact .inr (.inr h)
theorem mem_bldX (pk cols : List Int) (rows : List Row) (p : Row × Row) : p ∈ flatX (bldX pk cols rows) ↔ ∃ r ∈ rows, p = (keyOf cols r, keyOf pk r) := by
  unfold bldX
  rw [mem_foldX]
  simp [flatX]
theorem flen_foldX (pk cols : List Int) : ∀ (rows : List Row) (d : XD), (flatX (rows.foldl (fun d r => insX (keyOf cols r) (keyOf pk r) d) d)).length = rows.length + (flatX d).length
  | [], d => by simp
  | r :: rows, d => by
    rw [List.foldl_cons, flen_foldX pk cols rows, insX_flen, List.length_cons]
    omega
theorem flen_bldX (pk cols : List Int) (rows : List Row) : (flatX (bldX pk cols rows)).length = rows.length := by
  unfold bldX
  rw [flen_foldX]
  simp [flatX]
theorem bldX_ok {t : Tbl} {cols : List Int} {rows : List Row} (hr : ∀ r ∈ rows, RGood t cols r) (hk : (rows.map (keyOf t.pk)).Nodup) (hl : rows.length ≤ 24) : ∀ k, k ≤ rows.length → DOk t cols (bldX t.pk cols (rows.take k))
  | 0, _ => by simp [bldX]; exact DOk.nil t cols
  | k + 1, h => by
    have hki : k < rows.length := by omega
    rw [List.take_succ_eq_append_getElem hki, bldX_snoc]
    refine (bldX_ok hr hk hl k (by omega)).ins (hr _ (List.getElem_mem hki)).vals (hr _ (List.getElem_mem hki)).key (fun p hp e => ?_) (by rw [flen_bldX, List.length_take]; omega)
    obtain ⟨q, hq, rfl⟩ := (mem_bldX _ _ _ _).1 hp
    obtain ⟨j, hj, rfl⟩ := List.getElem_of_mem hq
    rw [List.length_take] at hj
    rw [List.getElem_take] at e
    have h2 := List.pairwise_iff_getElem.1 (List.nodup_iff_pairwise_ne.1 hk) j k (by simp; omega) (by simpa using hki) (by omega)
    simp only [List.getElem_map] at h2
    exact h2 e
end Go.Proofs.Ytakbabkcidioaaa
