/-
  The visitor of Entries; the walk of Entries.
  The walk of Entries.
-/
import Derived.Test.YtjdcnkbkbcfhfaaHm20
namespace Go.Proofs.Ytjdcnkbkbcfhfaa
open Go.RowKit Go.Sort

/-- Entries that were copied out: the slice v, not in block ob. -/
structure Cop (ob : Nat) (w : World) (v : Value) (s : List PE) (es : List Ent) : Prop where
  own : Own 2 Ent.cs 81 (ob + 1) w v es
  eq : es.map pr = s
  row : ∀ e ∈ es, KOk (fun k => ob < k ∧ k < w.heap.size ∧ v.ownBlock ≠ some k) w e.key
/-- .. and the variable at ob holds it. -/
def OutE (ob : Nat) (w : World) (s : List PE) : Prop := ∃ (v : Value) (es : List Ent), w.heap[ob]? = some (.cells #[v] 78 (0, 0)) ∧ Cop ob w v s es

section
variable {ob : Nat} {w w' : World} {v : Value} {s : List PE} {es : List Ent}
theorem Cop.below (h : Cop ob w v s es) (hb : Below w.heap.size w w') : Cop ob w' v s es :=
  ⟨h.own.below hb, h.eq, fun e he => (h.row e he).of fun k hk => ⟨hb.block k hk.2.1, hk.1, Nat.lt_of_lt_of_le hk.2.1 hb.size, hk.2.2⟩⟩
theorem OutE.below (h : OutE ob w s) (hb : Below w.heap.size w w') : OutE ob w' s := by
  obtain ⟨v, es, h1, h2⟩ := h
  exact ⟨v, es, (hb.block ob (Array.getElem?_eq_some_iff.1 h1).1).trans h1, h2.below hb⟩
end

/-- One more entry, its row cloned. -/
theorem cop_push {ob : Nat} {W1 w2 w0 : World} {v : Value} {s : List PE} {es : List Ent} (hb : Below w0.heap.size w0 W1) (h0 : w0.heap.size ≤ ob) (hc : W1.heap[ob]? = some (.cells #[v] 78 (0, 0))) (h : Cop ob W1 v s es) (hn : s.length < 1000) {key : Row} {A : Option Addr} {c : Nat} {val : Int}
    (hk : Own 3 Val.cs 44 W1.heap.size w2 (.slice A key.length c) key) (hl : key.length ≤ 12) (hb2 : Below W1.heap.size W1 w2) (ty : TypeId) :
    ∃ v3 w3, (Builtin.append_ #[78, 78] ty #[v, .slice (some ⟨w2.heap.size, 0, none⟩) 1 1]).run Try.prog (w2.alloc (.cells #[.slice A key.length c, .int .i64 val] 81)) = .ok v3 w3
      ∧ (∃ A3 n3 c3, v3 = .slice A3 n3 c3) ∧ w3.cell? ⟨ob, 0, none⟩ = some v ∧ w3.frozen? ⟨ob, 0, none⟩ = false ∧ OutE ob (w3.setCell ⟨ob, 0, none⟩ v3) (s ++ [(key, val)]) ∧ Below w0.heap.size w0 (w3.setCell ⟨ob, 0, none⟩ v3) := by
  have hc2 := h.below hb2
  have hel : es.length = s.length := by rw [← h.eq, List.length_map]
  have hob : ob < W1.heap.size := (Array.getElem?_eq_some_iff.1 hc).1
  obtain ⟨v3, w3, hrun, ho3, hx3⟩ := run_push elem_ents entLay ty w2 v es (⟨⟨A, c, key⟩, val⟩ : Ent) #[.slice A key.length c, .int .i64 val] hc2.own rfl (by omega) (by unfold maxLen; omega) (by have := hb2.size; omega) rfl
  have hvne : v.ownBlock ≠ some ob := fun e => by
    have := (Own.lt h.own ob e).1
    omega
  have hb3 : w3.heap[ob]? = some (.cells #[v] 78 (0, 0)) := (hx3.grown.block ob (Nat.lt_of_lt_of_le hob hb2.size) (fun e => hvne e.symm)).trans ((hb2.block ob hob).trans hc)
  have hv3 : ∀ g, v3.ownBlock = some g → ob + 1 ≤ g := fun g hg => (Own.lt ho3 g hg).1
  have hbelow : Below w0.heap.size w0 (w3.setCell ⟨ob, 0, none⟩ v3) := by
    refine Below.setCell ?_ h0 v3
    refine (hb.trans (hb2.mono hb.size)).trans (hx3.below (Nat.le_trans hb.size hb2.size) fun g hg => ?_)
    have := (Own.lt h.own g hg).1
    omega
  obtain ⟨A3, c3, hform, -, -⟩ := ho3.form
  refine ⟨v3, w3, hrun, ⟨A3, _, c3, hform⟩, by rw [cell_of_row _ _ _ _ _ _ hb3]; rfl, frozen_of_row _ _ _ _ _ hb3, ⟨v3, es ++ [⟨⟨A, c, key⟩, val⟩], by rw [heap_setCell_at hb3]; rfl, ⟨?_, ?_, ?_⟩⟩, hbelow⟩
  · exact ho3.setCell (fun g hg e => by have := hv3 g hg; simp only at e; omega) v3
  · rw [List.map_append, h.eq]; rfl
  · intro e he
    have hkeep : ∀ k, ob < k → k < w2.heap.size → v.ownBlock ≠ some k → (w3.setCell ⟨ob, 0, none⟩ v3).heap[k]? = w2.heap[k]? ∧ ob < k ∧ k < (w3.setCell ⟨ob, 0, none⟩ v3).heap.size ∧ v3.ownBlock ≠ some k := fun k h1 h2 h3 => by
      refine ⟨(heap_setCell_off (by omega) v3).trans (hx3.grown.block k h2 (fun e => h3 e.symm)), h1, ?_, hx3.ne h3 h2⟩
      rw [setCell_size]
      exact Nat.lt_of_lt_of_le h2 hx3.size
    rcases List.mem_append.1 he with he | he
    · exact (hc2.row e he).of fun k hk => hkeep k hk.1 hk.2.1 hk.2.2
    · rw [List.mem_singleton.1 he]
      have hkk : KOk (fun k => (Value.slice A key.length c).ownBlock = some k) w2 ⟨A, c, key⟩ := ⟨hk.elems valLay.len rfl, hl⟩
      exact hkk.of fun k hk' => by
        have h1 := Own.lt hk k hk'
        exact hkeep k (by omega) h1.2 (fun e => by have := (Own.lt h.own k e).2; omega)

set_option maxRecDepth 100000 in
set_option maxHeartbeats 4000000 in
theorem visEnt {w0 : World} {K : Nat → Prop} (hK : ∀ k, K k → k < w0.heap.size) (ob : Nat) (h0 : w0.heap.size ≤ ob) : Vis w0 K 56 #[ptr ob] (fun s w => OutE ob w s) (fun s x => (s ++ [pr x], true)) List.length 1000 := by
  refine ⟨fun args w => by kernel_rfl, fun s x => by simp, ?_, fun s W W' h hb => h.below hb⟩
  intro s x W hn hR hb hx
  obtain ⟨v, es, hc, hcop⟩ := hR
  obtain ⟨Av, cv, rfl, -, -⟩ := hcop.own.form
  generalize hnv : es.length = nv at *
  clear hnv
  obtain ⟨W1, hW1⟩ : ∃ W1, W1 = W.alloc (.cells #[.slice x.key.A x.key.row.length x.key.c, .int .i64 x.val] 81) := ⟨_, rfl⟩
  have hba : Below W.heap.size W W1 := by rw [hW1]; exact (Below.refl _ _).alloc (Nat.le_refl _) _
  have hb1 : Below w0.heap.size w0 W1 := hb.trans (hba.mono hb.size)
  have hbox : W1.heap[W.heap.size]? = some (.cells #[.slice x.key.A x.key.row.length x.key.c, .int .i64 x.val] 81 (0, 0)) := by rw [hW1]; exact heap_alloc_new W _
  have hob : ob < W.heap.size := (Array.getElem?_eq_some_iff.1 hc).1
  have hc1 := (hba.block ob hob).trans hc
  have hcop1 := hcop.below hba
  have k0 : W1.cell? ⟨W.heap.size, 0, none⟩ = some (.slice x.key.A x.key.row.length x.key.c) := by rw [cell_of_row _ _ _ _ _ _ hbox]; rfl
  have k1 : W1.cell? ⟨W.heap.size, 1, none⟩ = some (.int .i64 x.val) := by rw [cell_of_row _ _ _ _ _ _ hbox]; rfl
  have k2 : W1.cell? ⟨ob, 0, none⟩ = some (.slice Av nv cv) := by rw [cell_of_row _ _ _ _ _ _ hc1]; rfl
  have hWl : W.heap.size < W1.heap.size := by rw [hW1]; simp
  have hobl : ob < W1.heap.size := by omega
  have HCL : Hid (Calls Try.prog 11 #[.slice x.key.A x.key.row.length x.key.c] W1.drew fun e w2 => ∃ A' c', e = .returned (.slice A' x.key.row.length c') ∧ w2.cell? ⟨ob, 0, none⟩ = some (.slice Av nv cv) ∧ w2.cell? ⟨W.heap.size, 0, none⟩ = some (.slice x.key.A x.key.row.length x.key.c) ∧ w2.cell? ⟨W.heap.size, 1, none⟩ = some (.int .i64 x.val) ∧ (∀ ob', (w2.alloc ob').cell? ⟨ob, 0, none⟩ = some (.slice Av nv cv))
      ∧ Hid (∀ ty, ∃ v3 w3, (Builtin.append_ #[78, 78] ty #[.slice Av nv cv, .slice (some ⟨w2.heap.size, 0, none⟩) 1 1]).run Try.prog (w2.alloc (.cells #[.slice A' x.key.row.length c', .int .i64 x.val] 81)) = .ok v3 w3
        ∧ (∃ A3 n3 c3, v3 = .slice A3 n3 c3) ∧ w3.cell? ⟨ob, 0, none⟩ = some (.slice Av nv cv) ∧ w3.frozen? ⟨ob, 0, none⟩ = false ∧ OutE ob (w3.setCell ⟨ob, 0, none⟩ v3) (s ++ [pr x]) ∧ Below w0.heap.size w0 (w3.setCell ⟨ob, 0, none⟩ v3))) := Lib.hid (by
    have hbd : Below W1.heap.size W1 W1.drew := (Below.refl _ _).drew
    have hx1 : Elems 3 Val.cs W1.drew (· < W1.drew.heap.size) x.key.A x.key.row := (hx.el.keep (Keeps.of_below (hba.trans (hbd.mono hba.size)) fun k hk => Nat.lt_of_lt_of_le (hK k hk) hb.size)).more fun k hk => Nat.lt_of_lt_of_le (hK k hk) hb1.size
    refine (cloneRow x.key.A x.key.row.length x.key.c x.key.row W1.drew _ hx1 (fun _ h => h) rfl (by have := hx.len; omega)).mono ?_
    rintro e w2 ⟨v2, rfl, ho2, hb2⟩
    obtain ⟨A', c', rfl, -, -⟩ := ho2.form
    have hb2' : Below W1.heap.size W1 w2 := hbd.trans hb2
    exact ⟨A', c', rfl, (hb2'.cell (p := ⟨ob, 0, none⟩) hobl).trans k2, (hb2'.cell (p := ⟨W.heap.size, 0, none⟩) hWl).trans k0, (hb2'.cell (p := ⟨W.heap.size, 1, none⟩) hWl).trans k1, fun ob' => ((hb2'.alloc hb2'.size ob').cell (p := ⟨ob, 0, none⟩) hobl).trans k2, Lib.hid fun ty => cop_push hb1 h0 hc1 hcop1 hn ho2 hx.len hb2' ty⟩)
  have HW1 := Lib.hid hW1
  clear hcop hcop1 hc hc1 hx hbox hb hb1 hba hK hW1
  go_enter Try.func56, Try.ntmps56
  go_upto_region 1 with fail
  rw [← HW1.out]
  go_region_law (first
    | (go_simp; go_at_call 11; refine HCL.out.mono ?_; rintro e w2 ⟨A', c', rfl, p1, p2, p3, p4, HAP⟩)
    | (refine step_app (by rfl) (.tmp 4) (.tmp 11) _ _ (by rfl) (by rfl) (by rfl) (HAP.out _) ?_; rintro _ w3 ⟨⟨A3, n3, c3, rfl⟩, f1, f2, f3, f4⟩; have F3 := Lib.hid f3; have F4 := Lib.hid f4; clear f3 f4))
  all_goals
    go_wp2_with fail
    go_ret
    exact ⟨rfl, F3.out, F4.out⟩
end Go.Proofs.Ytjdcnkbkbcfhfaa

namespace Go.Proofs.Ytjdcnkbkbcfhfaa
open Go.RowKit Go.Sort

theorem runV_all : ∀ (s : List PE) (L : List Ent), runV (fun (s : List PE) (x : Ent) => (s ++ [pr x], true)) s L = (s ++ L.map pr, true)
  | s, [] => by simp [runV]
  | s, x :: L => by
    rw [runV_cons]
    show runV _ (s ++ [pr x]) L = _
    rw [runV_all]
    simp
theorem geF_nil (es : List Ent) : geF [] es = es := by
  unfold geF
  refine List.filter_eq_self.2 fun x _ => ?_
  rw [cmpR_nil_right]
  unfold cmpI
  simp only [List.length_nil]
  have : ¬ ((x.key.row.length : Int) < 0) := by omega
  simp
  split <;> omega

/-- What Entries leaves. -/
def EntsPost (w : World) (ps : List PE) (e : Ending) (w' : World) : Prop := ∃ (A : Option Addr) (n c ob : Nat) (es : List Ent), e = .returned (.slice A n c) ∧ n = ps.length ∧ n ≤ c ∧ c ≤ maxLen ∧ Cop ob w' (.slice A n c) ps es ∧ w.heap.size ≤ ob ∧ Below w.heap.size w w'

set_option maxRecDepth 100000 in
set_option maxHeartbeats 4000000 in
theorem entriesW {base m o tb : Nat} (hO : Order m o) {ps : List PE} (w : World) (hT : TreeAt base m o w tb ps) (hn : ps.length ≤ 1000) :
    Calls Try.prog 33 #[ptr tb] w (EntsPost w ps) := by
  obtain ⟨M, O, d, a, t, fp, hT, hps⟩ := hT
  obtain ⟨W1, hW1⟩ : ∃ W1, W1 = w.alloc (.cells #[.slice none 0 0] 78) := ⟨_, rfl⟩
  have hb1 : Below w.heap.size w W1 := by rw [hW1]; exact (Below.refl _ _).alloc (Nat.le_refl _) _
  have hbk : W1.heap[w.heap.size]? = some (.cells #[.slice none 0 0] 78 (0, 0)) := by rw [hW1]; exact heap_alloc_new w _
  have hT1 := hT.below hb1
  have c1 : W1.cell? ⟨tb, 1, none⟩ = some (ptr a) := by rw [cell_of_row _ _ _ _ _ _ hT1.blk]; rfl
  have hfl : (geF [] (flat d t)).length = ps.length := by rw [geF_nil, ← hps, List.length_map]
  have HA := Lib.hid (ascW hT.store (visEnt (fun k hk => hT.store.lt' (by rw [hk]; simp)) w.heap.size (Nat.le_refl _)) none 0 [] (fun h => by simp at h) hO hT.rep hT.ok (hT.root.imp id fun h => by omega) (by have := hO.hi; have := hT.full; omega) [] (by rw [hfl]; simpa using hn) W1 hb1
    ⟨.slice none 0 0, [], hbk, ⟨Own.nil _, rfl, fun e he => by cases he⟩⟩)
  rw [runV_all, geF_nil, hps, List.nil_append] at HA
  have HW1 := Lib.hid hW1
  have c1' := c1
  rw [hW1] at c1'
  clear hT hps hW1 hb1 hbk hT1 c1 hfl
  simp only [List.length_nil] at HA
  go_enter Try.func33, Try.ntmps33
  go_wp2_with fail
  rw [← HW1.out]
  refine HA.out.mono ?_
  rintro e w2 ⟨rfl, ⟨v, es, hc, hcop⟩, hb2⟩
  obtain ⟨Av, cv, rfl, hcl, hcm⟩ := hcop.own.form
  have k2 : w2.cell? ⟨w.heap.size, 0, none⟩ = some (.slice Av es.length cv) := by rw [cell_of_row _ _ _ _ _ _ hc]; rfl
  have hel : es.length = ps.length := by
    have h := congrArg List.length hcop.eq
    rwa [List.length_map] at h
  have HF : Hid (EntsPost w ps (.returned (.slice Av es.length cv)) w2) := Lib.hid ⟨Av, _, cv, w.heap.size, es, rfl, hel, hcl, hcm, hcop, Nat.le_refl _, hb2⟩
  generalize es.length = nl at *
  clear hc hcop hb2 hel HA
  go_wp2_with fail
  go_ret
  exact HF.out
end Go.Proofs.Ytjdcnkbkbcfhfaa
