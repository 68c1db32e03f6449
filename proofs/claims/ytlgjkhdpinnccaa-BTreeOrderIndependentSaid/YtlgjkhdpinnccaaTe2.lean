/-
  The walk of Entries.
-/
import Derived.Test.YtlgjkhdpinnccaaTe
namespace Go.Proofs.Ytlgjkhdpinnccaa
open Go.RowKit Go.Sort

theorem runV_all : ∀ (s : List PE) (L : List Ent), runV (fun (s : List PE) (x : Ent) => (s ++ [pr x], true)) s L = (s ++ L.map pr, true)
  | s, [] => by simp [runV]
  | s, x :: L => by
    rw [runV_cons]
    show runV _ (s ++ [pr x]) L = _
    rw [runV_all]
    simp
theorem geF_nil (es : List Ent) : geF [] es = es := by
  unfold geF
  refine List.filter_eq_self.2 fun x _ => ?_
  rw [cmpR_nil_right]
  unfold cmpI
  simp only [List.length_nil]
  have : ¬ ((x.key.row.length : Int) < 0) := by omega
  simp
  split <;> omega

/-- What Entries leaves. -/
def EntsPost (w : World) (ps : List PE) (e : Ending) (w' : World) : Prop := ∃ (A : Option Addr) (n c ob : Nat) (es : List Ent), e = .returned (.slice A n c) ∧ n = ps.length ∧ n ≤ c ∧ c ≤ maxLen ∧ Cop ob w' (.slice A n c) ps es ∧ w.heap.size ≤ ob ∧ Below w.heap.size w w'

set_option maxRecDepth 100000 in
set_option maxHeartbeats 4000000 in
theorem entriesW {base m o tb : Nat} (hO : Order m o) {ps : List PE} (w : World) (hT : TreeAt base m o w tb ps) (hn : ps.length ≤ 1000) :
    Calls Try.prog 18 #[ptr tb] w (EntsPost w ps) := by
  obtain ⟨M, O, d, a, t, fp, hT, hps⟩ := hT
  obtain ⟨W1, hW1⟩ : ∃ W1, W1 = w.alloc (.cells #[.slice none 0 0] 43) := ⟨_, rfl⟩
  have hb1 : Below w.heap.size w W1 := by rw [hW1]; exact (Below.refl _ _).alloc (Nat.le_refl _) _
  have hbk : W1.heap[w.heap.size]? = some (.cells #[.slice none 0 0] 43 (0, 0)) := by rw [hW1]; exact heap_alloc_new w _
  have hT1 := hT.below hb1
  have c1 : W1.cell? ⟨tb, 1, none⟩ = some (ptr a) := by rw [cell_of_row _ _ _ _ _ _ hT1.blk]; rfl
  have hfl : (geF [] (flat d t)).length = ps.length := by rw [geF_nil, ← hps, List.length_map]
  have HA := Lib.hid (ascW hT.store (visEnt (fun k hk => hT.store.lt' (by rw [hk]; simp)) w.heap.size (Nat.le_refl _)) none 0 [] (fun h => by simp at h) hO hT.rep hT.ok (hT.root.imp id fun h => by omega) (by have := hO.hi; have := hT.full; omega) [] (by rw [hfl]; simpa using hn) W1 hb1
    ⟨.slice none 0 0, [], hbk, ⟨Own.nil _, rfl, fun e he => by cases he⟩⟩)
  rw [runV_all, geF_nil, hps, List.nil_append] at HA
  have HW1 := Lib.hid hW1
  have c1' := c1
  rw [hW1] at c1'
  clear hT hps hW1 hb1 hbk hT1 c1 hfl
  simp only [List.length_nil] at HA
  go_enter Try.func18, Try.ntmps18
  go_wp2_with fail
  rw [← HW1.out]
  refine HA.out.mono ?_
  rintro e w2 ⟨rfl, ⟨v, es, hc, hcop⟩, hb2⟩
  obtain ⟨Av, cv, rfl, hcl, hcm⟩ := hcop.own.form
  have k2 : w2.cell? ⟨w.heap.size, 0, none⟩ = some (.slice Av es.length cv) := by rw [cell_of_row _ _ _ _ _ _ hc]; rfl
  have hel : es.length = ps.length := by
    have h := congrArg List.length hcop.eq
    rwa [List.length_map] at h
  have HF : Hid (EntsPost w ps (.returned (.slice Av es.length cv)) w2) := Lib.hid ⟨Av, _, cv, w.heap.size, es, rfl, hel, hcl, hcm, hcop, Nat.le_refl _, hb2⟩
  generalize es.length = nl at *
  clear hc hcop hb2 hel HA
  go_wp2_with fail
  go_ret
  exact HF.out
end Go.Proofs.Ytlgjkhdpinnccaa
