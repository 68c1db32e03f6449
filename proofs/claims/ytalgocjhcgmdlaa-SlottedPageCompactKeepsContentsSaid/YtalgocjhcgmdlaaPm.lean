/-
  The map of the records of a page; the conversion of a record to a string.
-/
import Derived.Test.YtalgocjhcgmdlaaPw9
import Derived.Maps.OwnSet
import Derived.Maps.StringElems
namespace Go.Proofs.Ytalgocjhcgmdlaa
open Go.RowKit
open Go.Maps (Keyed)

/-- A record as a string. -/
def bs (r : List Nat) : ByteArray := ⟨(r.map UInt8.ofNat).toArray⟩
theorem bs_size (r : List Nat) : (bs r).size = r.length := by
  show (r.map UInt8.ofNat).toArray.size = _
  simp
theorem bs_toList (r : List Nat) : (bs r).data.toList = r.map UInt8.ofNat := by simp [bs]
theorem bs_ne {r : List Nat} (h : 1 ≤ r.length) : bs r ≠ bs [] := fun e => by
  have := congrArg ByteArray.size e
  rw [bs_size, bs_size, List.length_nil] at this
  omega

theorem elems_bytes {w : World} {S : Nat → Prop} {A : Option Addr} {r : List Nat} (h : Elems 1 nbCs w S A r) (hb : ∀ t, r.getD t 0 < 256) : Elems 1 byteCs w S A (r.map UInt8.ofNat) := fun h0 => by
  rw [List.length_map] at h0
  obtain ⟨b, off, hA, hS, hc⟩ := h h0
  refine ⟨b, off, hA, hS, fun i x hx j u hu => ?_⟩
  rw [List.getElem?_map] at hx
  cases hr : r[i]? with
  | none => rw [hr] at hx; cases hx
  | some n =>
    rw [hr] at hx
    injection hx with hx
    subst hx
    have hn : n < 256 := by
      have := hb i
      rw [List.getD_eq_getElem?_getD, hr] at this
      exact this
    refine hc i n hr j u ?_
    have e : byteCs (UInt8.ofNat n) = nbCs n := by
      unfold byteCs nbCs
      have : (UInt8.ofNat n).toNat = n := by
        rw [UInt8.toNat_ofNat']
        exact Nat.mod_eq_of_lt hn
      rw [this]
    rwa [e] at hu

/-- The conversion of a slice of bytes to a string. -/
theorem conv_bytes {w : World} {S : Nat → Prop} {A : Option Addr} {xs : List UInt8} (c : Nat) (h : Elems 1 byteCs w S A xs) :
    (convert 23 9 (.slice A xs.length c)).run Try.prog w = .ok (.string ⟨xs.toArray⟩) w := by
  rcases Nat.eq_zero_or_pos xs.length with h0 | h0
  · have hx : xs = [] := List.eq_nil_of_length_eq_zero h0
    subst hx
    rw [run_convert_bytes_string w 23 9 5 _ _ c Try.underlying23 Try.underlying5 Try.underlying9]
    cases A with
    | none => simp [Conv.bytesToString]; rfl
    | some a =>
      have := run_bytesToString (P := Try.prog) w a 0 c [] (by simp [loadCells, loadCellsFrom])
      exact this
  · obtain ⟨b, off, rfl, _, hc⟩ := h h0
    have e : strOfNums (xs.map fun x => (x.toNat : Int)) = ⟨xs.toArray⟩ := by
      unfold strOfNums
      congr 2
      rw [List.map_map]
      conv => rhs; rw [← List.map_id xs]
      apply List.map_congr_left
      intro x _
      simp
    rw [← e]
    refine run_convert_bytes_arg w 23 5 Try.underlying23 Try.underlying5 b off _ c _ (by simp) (fun i hi => ?_) 9 Try.underlying9
    have := hc i _ (List.getElem?_eq_getElem hi) 0 _ rfl
    simpa [hi] using this
theorem conv_rec {w : World} {S : Nat → Prop} {A : Option Addr} {r : List Nat} (c : Nat) (h : Elems 1 nbCs w S A r) (hb : ∀ t, r.getD t 0 < 256) :
    (convert 23 9 (.slice A r.length c)).run Try.prog w = .ok (.string (bs r)) w := by
  have := conv_bytes c (elems_bytes h hb)
  rwa [List.length_map] at this

/-- The map at block b reads as the contents of the page. -/
structure Mp (w : World) (b n : Nat) (p : List Nat) : Prop where
  ex : ∃ D : DataW Unit, w.ownsMap Try.prog 3 (plainElem Try.prog 9) b n D ∧ (∀ (i : Nat) z, D.atKey (.int .i64 i) z = match cont p i with | some r => .lit (.string (r.map UInt8.ofNat)) | none => z) ∧ Maps.size D = (us p (B p 0)).length

theorem keyed_int : Keyed Try.prog 3 := Maps.int_keyed Try.underlying3
theorem zero_str (w : World) : (zeroValue 9).run Try.prog w = .ok (.string ⟨#[]⟩) w := by kernel_rfl
theorem wf_nat {i : Nat} (h : i ≤ 1000000) : (Lit.int .i64 (i : Int)).wf = true := WalkArith.wf_i64 (by omega)

theorem us_mem' {p : List Nat} {i : Nat} : i ∈ us p (B p 0) ↔ (cont p i).isSome = true := by
  rw [us_mem]
  unfold cont
  by_cases h : i < B p 0 ∧ so p i ≠ 0
  · rw [if_pos h]; simp [h]
  · rw [if_neg h]; simp only [h, Option.isSome_none, Bool.false_eq_true]
theorem us_same {p p' : List Nat} (h : ∀ j, (cont p' j).isSome = (cont p j).isSome) : (us p' (B p' 0)).length = (us p (B p 0)).length :=
  ((List.perm_ext_iff_of_nodup (us_nodup _ _) (us_nodup _ _)).2 fun j => by rw [us_mem', us_mem', h j]).length_eq
theorem us_more {p p' : List Nat} {i : Nat} (h : ∀ j, (cont p' j).isSome = (decide (j = i) || (cont p j).isSome)) (hi : (cont p i).isSome = false) : (us p' (B p' 0)).length = (us p (B p 0)).length + 1 := by
  have hp : List.Perm (us p' (B p' 0)) (i :: us p (B p 0)) := (List.perm_ext_iff_of_nodup (us_nodup _ _) (List.nodup_cons.2 ⟨by rw [us_mem', hi]; simp, us_nodup _ _⟩)).2 fun j => by
    rw [us_mem', h j, List.mem_cons, us_mem']
    simp
  rw [hp.length_eq, List.length_cons]

section
variable {w w' : World} {b n : Nat} {p p' : List Nat}
theorem Mp.lt (h : Mp w b n p) : b < w.heap.size := by
  obtain ⟨D, h1, _⟩ := h.ex
  exact h1.lt
theorem Mp.mono {n' : Nat} (h : Mp w b n p) (hn : n ≤ n') : Mp w b n' p := by
  obtain ⟨D, h1, h2, h3⟩ := h.ex
  exact ⟨D, h1.mono hn, h2, h3⟩
theorem Mp.below (h : Mp w b n p) (hb : Below w.heap.size w w') : Mp w' b n p := by
  obtain ⟨D, h1, h2, h3⟩ := h.ex
  exact ⟨D, h1.kept (row := none) ⟨hb.os, hb.tape, hb.output, hb.size, fun k hk _ => hb.block k hk⟩ (by simp), h2, h3⟩
theorem Mp.congr (h : Mp w b n p) (hc : cont p' = cont p) : Mp w b n p' := by
  obtain ⟨D, h1, h2, h3⟩ := h.ex
  exact ⟨D, h1, by rw [hc]; exact h2, by rw [h3]; exact (us_same fun j => by rw [hc]).symm⟩
/-- Blocks of cells are other blocks. -/
theorem Mp.ne (h : Mp w b n p) {g : Nat} {cs : Array Value} {t : TypeId} {fr : Nat × Nat} (hg : w.heap[g]? = some (.cells cs t fr)) : g ≠ b := fun e => by
  obtain ⟨D, ⟨es, clock, hb, _⟩, _⟩ := h.ex
  rw [e, hb] at hg
  cases hg
theorem Mp.first (w : World) : Mp (w.alloc (.map #[] 0)) w.heap.size 0 zeros := by
  refine ⟨.map [], World.ownsMap_made _ _ _ _, fun i z => ?_, ?_⟩
  · rw [cont_none (fun hc => by rw [wf_zeros.2] at hc; omega)]
    rfl
  · rw [wf_zeros.2]
    rfl
/-- A look-up. -/
theorem Mp.look (h : Mp w b n p) (i : Nat) (hi : i ≤ 1000000) : (Instr.lookup 24 (.map (some b)) (.int .i64 i) false).run Try.prog w = .ok (.string (bs ((cont p i).getD []))) w := by
  obtain ⟨D, h1, h2, _⟩ := h.ex
  obtain ⟨v, ps, hrun, hv⟩ := h1.lookup keyed_int Try.underlying24 (zero_str w) (plainElem_string Try.underlying9 (by unfold maxLen; decide)) (Maps.keyOf_int_mk Try.underlying3 (wf_nat hi))
  obtain ⟨s, rfl, hs, _⟩ := plainElem_string_inv Try.underlying9 hv
  rw [hrun]
  congr 2
  have h3 := congrArg Prod.fst hs
  rw [h2 i] at h3
  have h4 : s.data.toList = ((cont p i).getD []).map UInt8.ofNat := by
    cases hc : cont p i with
    | none =>
      rw [hc] at h3
      injection h3 with h3
      injection h3 with h3
      rw [← h3]
      rfl
    | some r =>
      rw [hc] at h3
      injection h3 with h3
      injection h3 with h3
      exact h3.symm
  have h5 : s.data = (((cont p i).getD []).map UInt8.ofNat).toArray := by rw [← h4]
  cases s
  simp only at h5
  subst h5
  rfl
/-- A store. -/
theorem Mp.put (h : Mp w b n p) (i : Nat) (hi : i ≤ 1000000) (r : List Nat) (hr : r.length ≤ 1000000) (hn : n ≤ 1000000) (hc : ∀ j, cont p' j = if j = i then some r else cont p j) :
    ∃ w', (Instr.mapUpdate 24 (.map (some b)) (.int .i64 i) (.string (bs r))).run Try.prog w = .ok () w' ∧ Mp w' b (n + 1) p' ∧ w.grownBy w' (some b) := by
  obtain ⟨D, h1, h2, h3⟩ := h.ex
  obtain ⟨w', hrun, ho, hg⟩ := h1.update keyed_int Try.underlying24 (by unfold maxLen; omega) (Maps.keyOf_int_mk Try.underlying3 (wf_nat hi)) (plainElem_string Try.underlying9 (s := bs r) (by rw [bs_size]; unfold maxLen; omega))
  have htidy := h1.tidy keyed_int
  refine ⟨w', hrun, ⟨_, ho, fun j z => ?_, ?_⟩, hg⟩
  · rw [hc j]
    by_cases e : j = i
    · subst e
      rw [if_pos rfl, Maps.atKey_put_same htidy.isMap (show WideAt.IsKeyLit (.int .i64 (j : Int)) from trivial), bs_toList]
    · rw [if_neg e, Maps.atKey_put_other (fun hh => e (by injection hh with _ hh; omega)), h2 j]
  · rw [Maps.size_put htidy]
    cases hi2 : cont p i with
    | none =>
      have hf : Maps.has D (.int .i64 i) = false := Maps.has_false_of_atKey fun z => by rw [h2 i, hi2]
      rw [hf, h3, us_more (p := p) (p' := p') (i := i) (fun j => by rw [hc j]; by_cases e : j = i <;> simp [e]) (by rw [hi2]; rfl)]
      rfl
    | some r0 =>
      have hf : Maps.has D (.int .i64 i) = true := Maps.has_true_of_atKey fun z => by rw [h2 i, hi2]
      rw [hf, h3, us_same (p := p) (p' := p') (fun j => by rw [hc j]; by_cases e : j = i <;> simp [e, hi2])]
      rfl
/-- A delete. -/
theorem Mp.del (h : Mp w b n p) (i : Nat) (hi : i ≤ 1000000) (hs : (cont p i).isSome = true) (hc : ∀ j, cont p' j = if j = i then none else cont p j) (ty : TypeId) :
    ∃ w', (Builtin.delete_ #[24, 3] ty #[.map (some b), .int .i64 i]).run Try.prog w = .ok (.tuple #[]) w' ∧ Mp w' b n p' ∧ w.grownBy w' (some b) := by
  obtain ⟨D, h1, h2, h3⟩ := h.ex
  obtain ⟨w', hrun, ho, hg⟩ := h1.drop keyed_int Try.underlying24 (Maps.keyOf_int_mk Try.underlying3 (wf_nat hi)) ty
  have htidy := h1.tidy keyed_int
  refine ⟨w', hrun, ⟨_, ho, fun j z => ?_, ?_⟩, hg.grown⟩
  · rw [hc j]
    by_cases e : j = i
    · subst e
      rw [if_pos rfl, Maps.atKey_del_same]
    · rw [if_neg e, Maps.atKey_del_other (fun hh => e (by injection hh with _ hh; omega)), h2 j]
  · have hsz := Maps.size_del (k := .int .i64 i) htidy
    have hf : Maps.has D (.int .i64 i) = true := by
      cases hi2 : cont p i with
      | none => rw [hi2] at hs; cases hs
      | some r0 => exact Maps.has_true_of_atKey fun z => by rw [h2 i, hi2]
    rw [hf, if_pos rfl, h3] at hsz
    have hm := us_more (p := p') (p' := p) (i := i) (fun j => by rw [hc j]; by_cases e : j = i <;> simp [e, hs]) (by rw [hc i, if_pos rfl]; rfl)
    omega
end

end Go.Proofs.Ytalgocjhcgmdlaa
