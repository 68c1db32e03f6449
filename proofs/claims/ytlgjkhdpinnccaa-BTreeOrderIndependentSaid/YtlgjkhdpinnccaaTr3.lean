/-
  The walk of Range.
-/
import Derived.Test.YtlgjkhdpinnccaaTr2
namespace Go.Proofs.Ytlgjkhdpinnccaa
open Go.RowKit Go.Sort

/-- What Range answers. -/
def rangeP (low high : Row) (ps : List PE) : List PE := (ps.filter fun p => decide (¬ cmpR p.1 low < 0)).filter fun p => decide (cmpR p.1 high < 0)

theorem runV_rg (high : Row) : ∀ (s : List PE) (L : List Ent), Ord L → (runV (rgF high) s L).1 = s ++ (L.filter fun x => decide (cmpR x.key.row high < 0)).map pr
  | s, [], _ => by simp [runV]
  | s, x :: L, h => by
    obtain ⟨h1, h2⟩ := List.pairwise_cons.1 h
    rw [runV_cons]
    by_cases hx : cmpR x.key.row high < 0
    · have hf : rgF high s x = (s ++ [pr x], true) := if_pos hx
      rw [hf]
      simp only [if_true]
      rw [runV_rg high _ L h2, List.filter_cons, if_pos (by simpa using hx)]
      simp
    · have hf : rgF high s x = (s, false) := if_neg hx
      rw [hf]
      simp only [Bool.false_eq_true, if_false]
      rw [List.filter_eq_nil_iff.2]
      · simp
      · intro y hy
        rcases List.mem_cons.1 hy with rfl | hy
        · simpa using hx
        · have := rl_le_lt (a := high) (b := x.key.row) (c := y.key.row) hx (h1 y hy)
          have := rl_asymm this
          unfold rl at this
          simpa using this
theorem geF_ord {low : Row} {es : List Ent} (h : Ord es) : Ord (geF low es) := List.Pairwise.sublist List.filter_sublist h
theorem map_filter {f : PE → Bool} (es : List Ent) : (es.filter fun x => f (pr x)).map pr = (es.map pr).filter f := by
  rw [List.filter_map]
  rfl

set_option maxRecDepth 100000 in
set_option maxHeartbeats 4000000 in
theorem rangeW {base m o tb : Nat} (hO : Order m o) {ps : List PE} (w : World) (hT : TreeAt base m o w tb ps) (hn : ps.length ≤ 1000) (AL : Option Addr) (cL : Nat) (low : Row) (hlo : Elems 3 Val.cs w (· < w.heap.size) AL low) (hel : rErr low = 0) (hll : low.length ≤ 12)
    (AH : Option Addr) (cH : Nat) (high : Row) (hhi : Elems 3 Val.cs w (· < w.heap.size) AH high) (heh : rErr high = 0) (hlh : high.length ≤ 12) :
    Calls Try.prog 22 #[ptr tb, .slice AL low.length cL, .slice AH high.length cH, .int .i64 1000] w fun e w' => ∃ (A : Option Addr) (n c ob : Nat) (es : List Ent), e = .returned (.tuple #[.slice A n c, .int .i64 0]) ∧ n = (rangeP low high ps).length ∧ n ≤ c ∧ c ≤ maxLen ∧ Cop ob w' (.slice A n c) (rangeP low high ps) es ∧ w.heap.size ≤ ob ∧ Below w.heap.size w w' := by
  obtain ⟨M, O, d, a, t, fp, hT, hps⟩ := hT
  obtain ⟨W1, hW1⟩ : ∃ W1, W1 = (w.alloc (.cells #[.slice AH high.length cH] 30)).alloc (.cells #[.int .i64 1000] 3) := ⟨_, rfl⟩
  have hb1 : Below w.heap.size w W1 := by rw [hW1]; exact ((Below.refl _ _).alloc (Nat.le_refl _) _).alloc (le_size1 (Nat.le_refl _) _) _
  have hhb : W1.heap[w.heap.size]? = some (.cells #[.slice AH high.length cH] 30 (0, 0)) := by rw [hW1, Below.heap_alloc _ _ _ (by simp)]; exact heap_alloc_new w _
  have hlb : W1.heap[w.heap.size + 1]? = some (.cells #[.int .i64 1000] 3 (0, 0)) := by rw [hW1]; exact alloc2_at w _ _
  have hT1 := hT.below hb1
  have hlo1 := (hlo.keep (Keeps.of_below hb1 fun _ h => h)).more (S' := (· < W1.heap.size)) fun k hk => Nat.lt_of_lt_of_le hk hb1.size
  have hhi1 := (hhi.keep (Keeps.of_below hb1 fun _ h => h)).more (S' := (· < W1.heap.size)) fun k hk => Nat.lt_of_lt_of_le hk hb1.size
  have HCL : Hid (∀ W, Below W1.heap.size W1 W → Calls Try.prog 28 #[.slice AL low.length cL] W fun e w' => e = .returned (.int .i64 0) ∧ Below W1.heap.size W1 w') := Lib.hid fun W hW => by
    have := checkRow AL cL low W ((hlo1.keep (Keeps.of_below hW fun _ h => h)).more fun k hk => Nat.lt_of_lt_of_le hk hW.size) (by unfold maxLen; omega)
    rw [hel] at this
    exact this.mono fun e w' ⟨h1, h2⟩ => ⟨h1, hW.trans (h2.mono hW.size)⟩
  have HCH : Hid (∀ W, Below W1.heap.size W1 W → Calls Try.prog 28 #[.slice AH high.length cH] W fun e w' => e = .returned (.int .i64 0) ∧ Below W1.heap.size W1 w') := Lib.hid fun W hW => by
    have := checkRow AH cH high W ((hhi1.keep (Keeps.of_below hW fun _ h => h)).more fun k hk => Nat.lt_of_lt_of_le hk hW.size) (by unfold maxLen; omega)
    rw [heh] at this
    exact this.mono fun e w' ⟨h1, h2⟩ => ⟨h1, hW.trans (h2.mono hW.size)⟩
  have i0 : ∀ W : World, (Instr.index 78 (.agg #[.slice AL low.length cL, .slice AH high.length cH]) (.int .i64 0)).run Try.prog W = .ok (.slice AL low.length cL) W := fun W => by kernel_rfl
  have i1 : ∀ W : World, (Instr.index 78 (.agg #[.slice AL low.length cL, .slice AH high.length cH]) (.int .i64 1)).run Try.prog W = .ok (.slice AH high.length cH) W := fun W => by kernel_rfl
  have HLO := Lib.hid hlo1
  have HHI := Lib.hid hhi1
  have HT1 := Lib.hid hT1
  have HLB := Lib.hid hlb
  have HHB := Lib.hid hhb
  have HW1 := Lib.hid hW1
  have HB1 := Lib.hid hb1
  have HPS := Lib.hid hps
  have kh : W1.cell? ⟨w.heap.size, 0, none⟩ = some (.slice AH high.length cH) := by rw [cell_of_row _ _ _ _ _ _ hhb]; rfl
  clear hT hps hT1 hlo1 hhi1 hlo hhi hel heh hlb hhb hb1 hW1
  go_enter Try.func22, Try.ntmps22
  go_upto_region 1 with fail
  rw [← HW1.out]
  go_wp2_with fail
  go_loopw [17] (fun vi wr => ∃ i : Nat, vi = .int .i64 (i : Int) ∧ i ≤ 2 ∧ Below W1.heap.size W1 wr) (fun vi _ => 2 - (intOf vi).toNat)
  case atStart => exact ⟨0, rfl, by omega, Below.refl _ _⟩
  case round =>
    obtain ⟨i, rfl, hi, hb⟩ := hrel
    have HB := Lib.hid hb
    clear hb
    have hi3 : i = 0 ∨ i = 1 ∨ i = 2 := by omega
    rcases hi3 with rfl | rfl | rfl
    · go_wp2_with fail
      refine (HCL.out wr HB.out).mono ?_
      rintro e w2 ⟨rfl, hb2⟩
      have HB2 := Lib.hid hb2
      clear hb2
      go_wp2_with fail
      go_roundw
      case rel => exact ⟨1, by go_num, by omega, HB2.out⟩
      case measure => simp [intOf]
    · go_wp2_with fail
      refine (HCH.out wr HB.out).mono ?_
      rintro e w2 ⟨rfl, hb2⟩
      have HB2 := Lib.hid hb2
      clear hb2
      go_wp2_with fail
      go_roundw
      case rel => exact ⟨2, by go_num, by omega, HB2.out⟩
      case measure => simp [intOf]
    · -- both rows are in order
      obtain ⟨W3, hW3⟩ : ∃ W3, W3 = wr.alloc (.cells #[.slice none 0 0] 43) := ⟨_, rfl⟩
      have hTr := HT1.out.below HB.out
      have hba : Below wr.heap.size wr W3 := by rw [hW3]; exact (Below.refl _ _).alloc (Nat.le_refl _) _
      have hbk : W3.heap[wr.heap.size]? = some (.cells #[.slice none 0 0] 43 (0, 0)) := by rw [hW3]; exact heap_alloc_new wr _
      have hTr3 := hTr.below hba
      have c1 : W3.cell? ⟨tb, 1, none⟩ = some (ptr a) := by rw [cell_of_row _ _ _ _ _ _ hTr3.blk]; rfl
      have hlt1 : w.heap.size + 1 < W1.heap.size := (Array.getElem?_eq_some_iff.1 HLB.out).1
      have hlbr : wr.heap[w.heap.size + 1]? = some (.cells #[.int .i64 1000] 3 (0, 0)) := (HB.out.block _ hlt1).trans HLB.out
      have hhbr : wr.heap[w.heap.size]? = some (.cells #[.slice AH high.length cH] 30 (0, 0)) := (HB.out.block _ (by omega)).trans HHB.out
      have hhir := (HHI.out.keep (Keeps.of_below HB.out fun _ h => h)).more (S' := (· < wr.heap.size)) fun k hk => Nat.lt_of_lt_of_le hk HB.out.size
      have hlor := (HLO.out.keep (Keeps.of_below HB.out fun _ h => h)).more (S' := (· < wr.heap.size)) fun k hk => Nat.lt_of_lt_of_le hk HB.out.size
      have hgl : (geF low (flat d t)).length ≤ 1000 := by
        have h1 : (geF low (flat d t)).length ≤ (flat d t).length := List.length_filter_le _ _
        have h2 : (flat d t).length = ps.length := by
          have := congrArg List.length HPS.out
          rwa [List.length_map] at this
        omega
      have HA := Lib.hid (ascW hTr.store (visRange (fun k hk => hTr.store.lt' (by rw [hk]; simp)) wr.heap.size (w.heap.size + 1) w.heap.size (Nat.le_refl _) AH cH high hhir hlbr hhbr) AL cL low hlor hO hTr.rep hTr.ok (hTr.root.imp id fun h => by omega) (by have := hO.hi; have := hTr.full; omega) [] (by simpa using hgl) W3 hba
        ⟨.slice none 0 0, [], hbk, ⟨Own.nil _, rfl, fun e he => by cases he⟩⟩)
      have HRES : Hid ((runV (rgF high) [] (geF low (flat d t))).1 = rangeP low high ps) := Lib.hid (by
        rw [runV_rg high [] _ (geF_ord (flat_ord hTr.ok)), List.nil_append]
        unfold rangeP geF
        rw [← HPS.out]
        rw [← map_filter (f := fun p => decide (¬ cmpR p.1 low < 0)), ← map_filter (f := fun p => decide (cmpR p.1 high < 0))]
        rfl)
      have c1' := c1
      rw [hW3] at c1'
      have HBW : Hid (w.heap.size ≤ wr.heap.size ∧ Below w.heap.size w wr) := Lib.hid ⟨Nat.le_trans HB1.out.size HB.out.size, HB1.out.trans (HB.out.mono HB1.out.size)⟩
      have HW3 := Lib.hid hW3
      clear hTr hTr3 hba hbk c1 hlbr hhbr hhir hlor hW3 HCL HCH
      generalize runV (rgF high) [] (geF low (flat d t)) = rr at *
      obtain ⟨rs, rb⟩ := rr
      go_wp2_with fail
      rw [← HW3.out]
      refine HA.out.mono ?_
      rintro e w4 ⟨rfl, ⟨v, es, hc, hcop⟩, hb4⟩
      have HBF : Hid (Below w.heap.size w w4) := Lib.hid (HBW.out.2.trans (hb4.mono HBW.out.1))
      have hres : rs = rangeP low high ps := HRES.out
      have hcop : Cop wr.heap.size w4 v rs es := hcop
      rw [hres] at hcop
      obtain ⟨Av, cv, rfl, hcl, hcm⟩ := hcop.own.form
      have k2 : w4.cell? ⟨wr.heap.size, 0, none⟩ = some (.slice Av es.length cv) := by rw [cell_of_row _ _ _ _ _ _ hc]; rfl
      have hel : es.length = (rangeP low high ps).length := by
        have h := congrArg List.length hcop.eq
        rwa [List.length_map] at h
      have HF : Hid (∃ (A : Option Addr) (n c ob : Nat) (es' : List Ent), Ending.returned (.tuple #[.slice Av es.length cv, .int .i64 0]) = .returned (.tuple #[.slice A n c, .int .i64 0]) ∧ n = (rangeP low high ps).length ∧ n ≤ c ∧ c ≤ maxLen ∧ Cop ob w4 (.slice A n c) (rangeP low high ps) es' ∧ w.heap.size ≤ ob ∧ Below w.heap.size w w4) := Lib.hid ⟨Av, _, cv, wr.heap.size, es, rfl, hel, hcl, hcm, hcop, HBW.out.1, HBF.out⟩
      generalize es.length = nl at *
      clear hc hcop hb4 hel HA hres
      go_wp2_with fail
      go_ret2
      exact HF.out
end Go.Proofs.Ytlgjkhdpinnccaa
