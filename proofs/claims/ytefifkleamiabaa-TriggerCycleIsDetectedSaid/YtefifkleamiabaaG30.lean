/-
  The walk of the law: two triggers that undo each other's changes lead to ErrCycle.
-/
import Derived.Test.YtefifkleamiabaaG29
namespace Go.Proofs.Ytefifkleamiabaa
open Go.RowKit Go.Sort

theorem elem_opd : ElemT Try.prog 29 28 4 40 := ⟨Try.underlying29, by
  have h : (Try.prog.info? 28).map (fun i => (i.zero, i.size, i.bytes)) = some (some (.agg #[.int .i64 0, .int .i64 0, .int .i64 0, .string ByteArray.empty]), 4, 40) := by kernel_rfl
  obtain ⟨i0, hi, hz0, hz1, hz2⟩ := info_parts h
  exact ⟨i0, _, hi, hz0, hz1, hz2, rfl⟩, by omega⟩
def ups (k : Nat) : List Int := (List.range k).map Int.ofNat
theorem ups_succ (k : Nat) : ups (k + 1) = ups k ++ [(k : Int)] := by unfold ups; rw [List.range_succ, List.map_append]; rfl
theorem ups_len (k : Nat) : (ups k).length = k := by unfold ups; rw [List.length_map, List.length_range]
theorem two_new' (w : World) (a b : Obj) : ((w.alloc a).alloc b).heap[w.heap.size]? = some a ∧ ((w.alloc a).alloc b).heap[w.heap.size + 1]? = some b ∧ Below w.heap.size w ((w.alloc a).alloc b) ∧ ((w.alloc a).alloc b).heap.size = w.heap.size + 2 := by
  refine ⟨?_, alloc2_at w a b, ((Below.refl _ _).alloc (Nat.le_refl _) _).alloc (le_size1 (Nat.le_refl _) _) _, by simp⟩
  rw [Below.heap_alloc _ _ _ (by simp)]
  exact heap_alloc_new w a
theorem tgNew {RA RB AA AB : Option Addr} {ac : Nat} {X : World} (h0 : TrOk (· < X.heap.size) X (tRem RA RB)) (h1 : TrOk (· < X.heap.size) X (tAdd AA AB ac)) :
    TgOk (· < (X.alloc (.cells #[.int .i64 1, .string ⟨#[105, 116, 101, 109]⟩, .slice RA 1 1, .int .i64 2, .string ⟨#[105, 116, 101, 109]⟩, .slice AA 1 1] 34)).heap.size) (X.alloc (.cells #[.int .i64 1, .string ⟨#[105, 116, 101, 109]⟩, .slice RA 1 1, .int .i64 2, .string ⟨#[105, 116, 101, 109]⟩, .slice AA 1 1] 34)) (some ⟨X.heap.size, 0, none⟩) [tRem RA RB, tAdd AA AB ac] := by
  have hb : Below X.heap.size X (X.alloc (.cells #[.int .i64 1, .string ⟨#[105, 116, 101, 109]⟩, .slice RA 1 1, .int .i64 2, .string ⟨#[105, 116, 101, 109]⟩, .slice AA 1 1] 34)) := (Below.refl _ _).alloc (Nat.le_refl _) _
  refine ⟨(elems_block trLay (xs := [tRem RA RB, tAdd AA AB ac]) (heap_alloc_new X _) rfl (by show 2 ≤ maxLen; decide) rfl).more fun g hg => ?_, fun t ht => ?_⟩
  · have hg : g = X.heap.size := hg
    rw [hg]
    simp
  · simp only [List.mem_cons, List.not_mem_nil, or_false] at ht
    rcases ht with rfl | rfl
    · exact h0.on hb
    · exact h1.on hb
theorem chNew {A : Option Addr} {r : Row} {X : World} (hr : KOk (· < X.heap.size) X ⟨A, 4, r⟩) (hl : r.length = 4) :
    Elems 4 ChM.cs (X.alloc (.cells #[.int .i64 1, .string ⟨#[105, 116, 101, 109]⟩, .slice none 0 0, .slice A 4 4] 50)) (· < (X.alloc (.cells #[.int .i64 1, .string ⟨#[105, 116, 101, 109]⟩, .slice none 0 0, .slice A 4 4] 50)).heap.size) (some ⟨X.heap.size, 0, none⟩) [⟨1, nItem, ⟨none, 0, []⟩, ⟨A, 4, r⟩⟩]
    ∧ ChOk (· < (X.alloc (.cells #[.int .i64 1, .string ⟨#[105, 116, 101, 109]⟩, .slice none 0 0, .slice A 4 4] 50)).heap.size) (X.alloc (.cells #[.int .i64 1, .string ⟨#[105, 116, 101, 109]⟩, .slice none 0 0, .slice A 4 4] 50)) ⟨1, nItem, ⟨none, 0, []⟩, ⟨A, 4, r⟩⟩ := by
  have hb : Below X.heap.size X (X.alloc (.cells #[.int .i64 1, .string ⟨#[105, 116, 101, 109]⟩, .slice none 0 0, .slice A 4 4] 50)) := (Below.refl _ _).alloc (Nat.le_refl _) _
  refine ⟨(elems_block chmLay (xs := [⟨1, nItem, ⟨none, 0, []⟩, ⟨A, 4, r⟩⟩]) (heap_alloc_new X _) rfl (by show 1 ≤ maxLen; decide) (by
    show _ = [Value.int .i64 1, .string nItem, .slice none ([] : Row).length 0, .slice A r.length 4]
    rw [hl]
    rfl)).more fun g hg => ?_, KOk.nil, hr.on hb⟩
  have hg : g = X.heap.size := hg
  rw [hg]
  simp
theorem bsS {T IA IP OA OP F FC N : Option Addr} {a b : Int} (ha : 0 ≤ a ∧ a < 7) (hb : 0 ≤ b ∧ b < 7) : BsS (bSc T IA IP OA OP F FC N) a b where
  val := bSc_val
  len := by show 0 < 2; omega
  nm := rfl
  cols := rfl
  pk := rfl
  ti := bSc_item
  fit := fun _ _ h => bSc_fit ha hb h
  ra := ha
  rb := hb

set_option linter.unusedSimpArgs false in
set_option linter.unusedVariables false in
set_option maxRecDepth 100000 in
set_option maxHeartbeats 16000000 in
theorem cycle_law (x y : Int) (w : World) (hx : I64 x) (hy : I64 y) :
    Calls Try.prog 3 #[.int .i64 x, .int .i64 y] w fun e w' => e = .returned (.bool true) ∧ Below w.heap.size w w' := by
  have HIR := Lib.hid (itemRowW x y w hx hy)
  have HR : Hid ((0 ≤ ((md x 5 : Nat) : Int) ∧ ((md x 5 : Nat) : Int) < 7) ∧ (0 ≤ ((md y 7 : Nat) : Int) ∧ ((md y 7 : Nat) : Int) < 7)) := Lib.hid (by
    have h1 := md_lt (k := x) (n := 5) (by omega)
    have h2 := md_lt (k := y) (n := 7) (by omega)
    exact ⟨by omega, by omega⟩)
  clear hx hy
  go_enter Try.func3, Try.ntmps3
  go_wp2_with fail
  refine HIR.out.mono ?_
  rintro e w1 ⟨rfl, hel, hb1, hs1⟩
  have HROW1 : Hid (KOk (· < w1.heap.size) w1 ⟨some ⟨w.heap.size, 0, none⟩, 4, iRow (md x 5 : Nat) (md y 7 : Nat)⟩) := Lib.hid ⟨hel.more fun g hg => by omega, by show 4 ≤ 12; omega⟩
  have HB1 := Lib.hid hb1
  clear hel hb1 hs1
  obtain ⟨w2, hw2⟩ : ∃ w2, w2 = ((w1.alloc (.cells #[.int .i64 0, .int .i64 0, .int .i64 0, .string ⟨#[]⟩] 28)).alloc (.cells #[.int .i64 2, .string ⟨#[105, 116, 101, 109]⟩, .slice (some ⟨w1.heap.size, 0, none⟩) 1 1] 31)).alloc (.cells #[.int .i64 1, .string ⟨#[105, 116, 101, 109]⟩, .slice (some ⟨w1.heap.size + 1, 0, none⟩) 1 1] 34) := ⟨_, rfl⟩
  obtain ⟨a0, a1, a2, a3, a4⟩ := three_new w1 (.cells #[.int .i64 0, .int .i64 0, .int .i64 0, .string ⟨#[]⟩] 28) (.cells #[.int .i64 2, .string ⟨#[105, 116, 101, 109]⟩, .slice (some ⟨w1.heap.size, 0, none⟩) 1 1] 31) (.cells #[.int .i64 1, .string ⟨#[105, 116, 101, 109]⟩, .slice (some ⟨w1.heap.size + 1, 0, none⟩) 1 1] 34)
  rw [← hw2] at a0 a1 a2 a3 a4
  have HTR2 : Hid (TrOk (· < w2.heap.size) w2 (tRem (some ⟨w1.heap.size + 1, 0, none⟩) (some ⟨w1.heap.size, 0, none⟩))) := Lib.hid
    ⟨(elems_block acLay (xs := [⟨2, nItem, some ⟨w1.heap.size, 0, none⟩, 1, [0]⟩]) a1 rfl (by show 1 ≤ maxLen; decide) rfl).more fun g hg => by omega, fun a ha => by
      rw [List.mem_singleton.1 ha]
      exact (elems_block opdLay (xs := [0]) a0 rfl (by decide) rfl).more fun g hg => by omega⟩
  have HG2 := Lib.hid a2
  have HB2 := Lib.hid (And.intro a3 (HB1.out.trans (a3.mono HB1.out.size)))
  have HS2 := Lib.hid a4
  have HW2 := Lib.hid hw2
  clear hw2 a0 a1 a2 a3 a4
  go_upto_region 3 with fail
  rw [← HW2.out]
  go_wp2_with fail
  go_loopw [7, 24] (fun v7 vi wr => ∃ k : Nat, vi = .int .i64 (k : Int) ∧ k ≤ 4 ∧ Own 4 opdCs 28 w2.heap.size wr v7 (ups k) ∧ Below w2.heap.size w2 wr) (fun _ vi _ => 4 - (intOf vi).toNat)
  case atStart => exact ⟨0, rfl, by omega, Own.nil _, Below.refl _ _⟩
  case round =>
    obtain ⟨k, rfl, hk4, ho, hb⟩ := hrel
    obtain ⟨wo, rfl⟩ : ∃ wo, wo = wr := ⟨_, rfl⟩
    obtain ⟨v7, rfl⟩ : ∃ v7, v7 = u7 := ⟨_, rfl⟩
    by_cases hlt : k < 4
    · have hlt' : (k : Int) < 4 := by omega
      have hlen := ups_len k
      have HL1 : Hid (((ups k).length + 1) * 40 ≤ 140737488355328) := Lib.hid (by rw [hlen]; omega)
      have HL2 : Hid ((ups k).length + 1 ≤ maxLen) := Lib.hid (by rw [hlen]; unfold maxLen; omega)
      have HO := Lib.hid ho
      have HS := Lib.hid hb.size
      have HFR : Hid (∀ w3 v3, Ext wo v7 w3 v3 → Below w2.heap.size w2 w3) := Lib.hid fun w3 v3 hx => hb.trans (hx.below hb.size fun g hg => (Own.lt ho g hg).1)
      clear ho hb hlen
      go_wp2_with (at_builtin; refine wpList_app rfl (.tmp 27) (.tmp 30) _ _ rfl rfl rfl (run_push elem_opd opdLay _ _ _ (ups k) (k : Int) #[.int .i64 (k : Int), .int .i64 0, .int .i64 0, .string ⟨#[]⟩] HO.out rfl HL1.out HL2.out HS.out rfl) ?_; rintro v2 w3 ⟨ho2, hx2⟩)
      have HF : Hid (Own 4 opdCs 28 w2.heap.size w3 v2 (ups (k + 1)) ∧ Below w2.heap.size w2 w3) := Lib.hid ⟨by rw [ups_succ]; exact ho2, HFR.out _ _ hx2⟩
      clear ho2 hx2
      go_wp2_with fail
      go_roundw
      case rel => exact ⟨k + 1, by go_num, by omega, HF.out.1, HF.out.2⟩
      case measure => simp [intOf]; omega
    · obtain rfl : k = 4 := by omega
      obtain ⟨A7, ac, hv, -, -⟩ := ho.form
      rw [ups_len] at hv
      subst hv
      have hu : ups 4 = [0, 1, 2, 3] := by decide
      rw [hu] at ho
      obtain ⟨w3, rfl⟩ : ∃ w3, w3 = wo := ⟨_, rfl⟩
      obtain ⟨w4, hw4⟩ : ∃ w4, w4 = (w3.alloc (.cells #[.int .i64 1, .string ⟨#[105, 116, 101, 109]⟩, .slice A7 4 ac] 31)).alloc (.cells #[.int .i64 2, .string ⟨#[105, 116, 101, 109]⟩, .slice (some ⟨w3.heap.size, 0, none⟩) 1 1] 34) := ⟨_, rfl⟩
      obtain ⟨b0, b1, b2, b3⟩ := two_new' w3 (.cells #[.int .i64 1, .string ⟨#[105, 116, 101, 109]⟩, .slice A7 4 ac] 31) (.cells #[.int .i64 2, .string ⟨#[105, 116, 101, 109]⟩, .slice (some ⟨w3.heap.size, 0, none⟩) 1 1] 34)
      rw [← hw4] at b0 b1 b2 b3
      have HTA4 : Hid (TrOk (· < w4.heap.size) w4 (tAdd (some ⟨w3.heap.size, 0, none⟩) A7 ac)) := Lib.hid
        ⟨(elems_block acLay (xs := [⟨1, nItem, A7, ac, [0, 1, 2, 3]⟩]) b0 rfl (by show 1 ≤ maxLen; decide) rfl).more fun g hg => by omega, fun a ha => by
          rw [List.mem_singleton.1 ha]
          exact (((ho.elems opdLay.len rfl).more fun g hg => (Own.lt ho g hg).2).on b2)⟩
      have HG4 := Lib.hid b1
      have HB4 := Lib.hid (And.intro (hb.trans (b2.mono hb.size)) (HB2.out.2.trans ((hb.trans (b2.mono hb.size)).mono HB2.out.2.size)))
      have HS4 := Lib.hid b3
      have HW4 := Lib.hid hw4
      have HSZ := Lib.hid hb.size
      have HBS : Hid (Calls Try.prog 5 #[] w4 fun e w' => ∃ T F N, e = .returned (.agg #[.slice T 2 2, .slice F 1 1, .slice N 1 1]) ∧ Hid (∃ IA IP OA OP FC, ScOk (· < w'.heap.size) w' (bSc T IA IP OA OP F FC N)) ∧ Below w4.heap.size w4 w') := Lib.hid (by
        refine (baseSchemaW w4).mono ?_
        rintro e w' ⟨T, IA, IP, OA, OP, F, FC, N, rfl, hsc, hb⟩
        exact ⟨T, F, N, rfl, Lib.hid ⟨IA, IP, OA, OP, FC, hsc⟩, hb⟩)
      clear ho hb hu hw4 b0 b1 b2 b3 hlt
      go_upto_region 10 with fail
      rw [← HW4.out]
      go_wp2_with fail
      refine HBS.out.mono ?_
      rintro e w5a ⟨T, F, N, rfl, HSC0, hb5a⟩
      obtain ⟨IA, IP, OA, OP, FC, hsc⟩ := HSC0.out
      obtain ⟨gS, hgS⟩ : ∃ gS, gS = w5a.heap.size := ⟨_, rfl⟩
      obtain ⟨w5, hw5⟩ : ∃ w5, w5 = w5a.alloc (.cells #[.slice T 2 2, .slice F 1 1, .slice N 1 1] 39) := ⟨_, rfl⟩
      have hb5 : Below w5a.heap.size w5a w5 := by rw [hw5]; exact (Below.refl _ _).alloc (Nat.le_refl _) _
      have hg5 : w5.heap[w5a.heap.size]? = some (.cells #[.slice T 2 2, .slice F 1 1, .slice N 1 1] 39 (0, 0)) := by rw [hw5]; exact heap_alloc_new w5a _
      rw [← hgS] at hg5
      have hlt5 : gS < w5.heap.size := (Array.getElem?_eq_some_iff.1 hg5).1
      have hb45 := hb5a.trans (hb5.mono hb5a.size)
      have hb25 := HB4.out.1.trans (hb45.mono HB4.out.1.size)
      have HSX : Hid (∀ W, Below w5.heap.size w5 W → W.cell? ⟨gS, 0, none⟩ = some (.slice T 2 2) ∧ W.cell? ⟨gS, 1, none⟩ = some (.slice F 1 1) ∧ W.cell? ⟨gS, 2, none⟩ = some (.slice N 1 1) ∧ W.cell? ⟨w1.heap.size + 1 + 1, 0, none⟩ = some (.int .i64 1) ∧ W.cell? ⟨w1.heap.size + 1 + 1, 1, none⟩ = some (.string ⟨#[105, 116, 101, 109]⟩) ∧ W.cell? ⟨w1.heap.size + 1 + 1, 2, none⟩ = some (.slice (some ⟨w1.heap.size + 1, 0, none⟩) 1 1) ∧ W.cell? ⟨w3.heap.size + 1, 0, none⟩ = some (.int .i64 2) ∧ W.cell? ⟨w3.heap.size + 1, 1, none⟩ = some (.string ⟨#[105, 116, 101, 109]⟩) ∧ W.cell? ⟨w3.heap.size + 1, 2, none⟩ = some (.slice (some ⟨w3.heap.size, 0, none⟩) 1 1)) := Lib.hid fun W hW => by
        have e0 := (hW.block gS hlt5).trans hg5
        have h4W := hb45.trans (hW.mono hb45.size)
        have e1 := (h4W.block (w3.heap.size + 1) (by have := HS4.out; omega)).trans HG4.out
        have h2W := hb25.trans (hW.mono hb25.size)
        have e2 := (h2W.block (w1.heap.size + 1 + 1) (by have := HS2.out; omega)).trans HG2.out
        exact ⟨cell_of_row _ _ 0 _ _ _ e0, cell_of_row _ _ 1 _ _ _ e0, cell_of_row _ _ 2 _ _ _ e0, cell_of_row _ _ 0 _ _ _ e2, cell_of_row _ _ 1 _ _ _ e2, cell_of_row _ _ 2 _ _ _ e2, cell_of_row _ _ 0 _ _ _ e1, cell_of_row _ _ 1 _ _ _ e1, cell_of_row _ _ 2 _ _ _ e1⟩
      have HTR := Lib.hid (HTR2.out.on hb25)
      have HTA := Lib.hid (HTA4.out.on hb45)
      have HSC := Lib.hid (hsc.on hb5)
      have h12 := HB2.out.1
      have h15 := h12.trans (hb25.mono h12.size)
      have HROW := Lib.hid (HROW1.out.on h15)
      have HB5 := Lib.hid (HB4.out.2.trans (hb45.mono HB4.out.2.size))
      have HTC : Hid (∀ t ∈ [tRem (some ⟨w1.heap.size + 1, 0, none⟩) (some ⟨w1.heap.size, 0, none⟩), tAdd (some ⟨w3.heap.size, 0, none⟩) A7 ac], TrC (bSc T IA IP OA OP F FC N) t) := Lib.hid fun t ht => by
        simp only [List.mem_cons, List.not_mem_nil, or_false] at ht
        rcases ht with rfl | rfl
        · exact tRem_ok
        · exact tAdd_ok
      have HEM : Hid (∀ W, Below w5.heap.size w5 W → Calls Try.prog 7 #[.agg #[.slice T 2 2, .slice F 1 1, .slice N 1 1]] W fun e w' => ∃ IA ic, e = .returned (.slice IA 2 ic) ∧ InOk (· < w'.heap.size) w' IA [⟨nItem, none, 0, []⟩, ⟨nOrder, none, 0, []⟩] ∧ Below W.heap.size W w') := Lib.hid fun W hW => emptyW (bSc T IA IP OA OP F FC N) W (HSC.out.on hW) rfl (fun _ => rfl) (fun _ => rfl)
      have HW5 := Lib.hid hw5
      clear hw5 hb5 hg5 hlt5 hb45 hb25 h12 h15 hsc hb5a HTR2 HTA4 HBS HSC0 HIR HROW1
      go_upto_region 11 with fail
      rw [← HW5.out, ← hgS]
      clear hgS
      refine wp_region_held_drew (S := (fun W => W.cell? ⟨gS, 0, none⟩ = some (.slice T 2 2) ∧ W.cell? ⟨gS, 1, none⟩ = some (.slice F 1 1) ∧ W.cell? ⟨gS, 2, none⟩ = some (.slice N 1 1) ∧ W.cell? ⟨w1.heap.size + 1 + 1, 0, none⟩ = some (.int .i64 1) ∧ W.cell? ⟨w1.heap.size + 1 + 1, 1, none⟩ = some (.string ⟨#[105, 116, 101, 109]⟩) ∧ W.cell? ⟨w1.heap.size + 1 + 1, 2, none⟩ = some (.slice (some ⟨w1.heap.size + 1, 0, none⟩) 1 1) ∧ W.cell? ⟨w3.heap.size + 1, 0, none⟩ = some (.int .i64 2) ∧ W.cell? ⟨w3.heap.size + 1, 1, none⟩ = some (.string ⟨#[105, 116, 101, 109]⟩) ∧ W.cell? ⟨w3.heap.size + 1, 2, none⟩ = some (.slice (some ⟨w3.heap.size, 0, none⟩) 1 1))) (by kernel_rfl) (HSX.out _ (Below.refl _ _).drew) (fun hHeld => ?_)
      obtain ⟨x0, hx0⟩ : ∃ x0, x0 = w5.drew := ⟨_, rfl⟩
      have hbx0 : Below w5.heap.size w5 x0 := by rw [hx0]; exact (Below.refl _ _).drew
      rw [← hx0] at hHeld ⊢
      clear hx0
      refine wpAnyH_take (i := 0) (oi := _) (v := ?_) rfl (by kernel_rfl) (by kernel_rfl) (by kernel_rfl) (fun _ _ _ h => h) (Or.inl ⟨by rfl, ?_⟩) hHeld ?_
      rotate_left
      · intro w hSw; (try dsimp only at hSw); go_simp; with_reducible rfl
      simp only [Act.put, List.setIfInBounds_toArray, List.set_cons_zero, List.set_cons_succ, List.getElem_toArray, List.getElem_cons_succ, List.getElem_cons_zero]
      refine wpAnyH_take (i := 1) (oi := _) (v := ?_) rfl (by kernel_rfl) (by kernel_rfl) (by kernel_rfl) (fun _ _ _ h => h) (Or.inl ⟨by rfl, ?_⟩) hHeld ?_
      rotate_left
      · intro w hSw; (try dsimp only at hSw); go_simp; with_reducible rfl
      simp only [Act.put, List.setIfInBounds_toArray, List.set_cons_zero, List.set_cons_succ, List.getElem_toArray, List.getElem_cons_succ, List.getElem_cons_zero]
      refine wpAnyH_take (i := 3) (oi := _) (v := ?_) rfl (by kernel_rfl) (by kernel_rfl) (by kernel_rfl) (fun _ _ _ h => h) (Or.inl ⟨by rfl, ?_⟩) hHeld ?_
      rotate_left
      · intro w hSw; (try dsimp only at hSw); go_simp; with_reducible rfl
      simp only [Act.put, List.setIfInBounds_toArray, List.set_cons_zero, List.set_cons_succ, List.getElem_toArray, List.getElem_cons_succ, List.getElem_cons_zero]
      refine wpAnyH_take (i := 4) (oi := _) (v := ?_) rfl (by kernel_rfl) (by kernel_rfl) (by kernel_rfl) (fun _ _ _ h => h) (Or.inl ⟨by rfl, ?_⟩) hHeld ?_
      rotate_left
      · intro w hSw; (try dsimp only at hSw); go_simp; with_reducible rfl
      simp only [Act.put, List.setIfInBounds_toArray, List.set_cons_zero, List.set_cons_succ, List.getElem_toArray, List.getElem_cons_succ, List.getElem_cons_zero]
      refine wpAnyH_take (i := 6) (oi := _) (v := ?_) rfl (by kernel_rfl) (by kernel_rfl) (by kernel_rfl) (fun _ _ _ h => h) (Or.inl ⟨by rfl, ?_⟩) hHeld ?_
      rotate_left
      · intro w hSw; (try dsimp only at hSw); go_simp; with_reducible rfl
      simp only [Act.put, List.setIfInBounds_toArray, List.set_cons_zero, List.set_cons_succ, List.getElem_toArray, List.getElem_cons_succ, List.getElem_cons_zero]
      refine wpAnyH_take (i := 7) (oi := _) (v := ?_) rfl (by kernel_rfl) (by kernel_rfl) (by kernel_rfl) (fun _ _ _ h => h) (Or.inl ⟨by rfl, ?_⟩) hHeld ?_
      rotate_left
      · intro w hSw; (try dsimp only at hSw); go_simp; with_reducible rfl
      simp only [Act.put, List.setIfInBounds_toArray, List.set_cons_zero, List.set_cons_succ, List.getElem_toArray, List.getElem_cons_succ, List.getElem_cons_zero]
      refine wpAnyH_ready (rs := [2, 5, 8]) (by kernel_rfl) (by simp) ?_
      refine AllReadyH.cons (o := _) rfl (fun K hK => ?_) (AllReadyH.cons (o := _) rfl (fun K hK => ?_) (AllReadyH.cons (o := _) rfl (fun K hK => ?_) AllReadyH.nil))
      · go_simp
        go_at_call 7
        refine (HEM.out x0 hbx0).mono ?_
        rintro e x1 ⟨IA, ic, rfl, hin, hxy⟩
        go_wp2_with fail
        have hbx1 := hbx0.trans (hxy.mono hbx0.size)
        refine hK.out _ _ (HSX.out _ hbx1) (fun hHeld => ?_)
        clear hK K
        try simp only [Act.put, List.setIfInBounds_toArray, List.set_cons_zero, List.set_cons_succ, List.getElem_toArray, List.getElem_cons_succ, List.getElem_cons_zero]
        have HIN := Lib.hid hin
        clear hin hxy hbx0
        refine wpAnyH_ready (rs := [5, 8]) (by kernel_rfl) (by simp) ?_
        refine AllReadyH.cons (o := _) rfl (fun K hK => ?_) (AllReadyH.cons (o := _) rfl (fun K hK => ?_) AllReadyH.nil)
        · go_simp
          have hxy : Below x1.heap.size x1 (x1.alloc (.cells #[.int .i64 1, .string ⟨#[105, 116, 101, 109]⟩, .slice (some ⟨w1.heap.size + 1, 0, none⟩) 1 1, .int .i64 2, .string ⟨#[105, 116, 101, 109]⟩, .slice (some ⟨w3.heap.size, 0, none⟩) 1 1] 34)) := (Below.refl _ _).alloc (Nat.le_refl _) _
          have hbx2 := hbx1.trans (hxy.mono hbx1.size)
          refine hK.out _ _ (HSX.out _ hbx2) (fun hHeld => ?_)
          clear hK K
          try simp only [Act.put, List.setIfInBounds_toArray, List.set_cons_zero, List.set_cons_succ, List.getElem_toArray, List.getElem_cons_succ, List.getElem_cons_zero]
          obtain ⟨x2, hy⟩ : ∃ x2, x2 = x1.alloc (.cells #[.int .i64 1, .string ⟨#[105, 116, 101, 109]⟩, .slice (some ⟨w1.heap.size + 1, 0, none⟩) 1 1, .int .i64 2, .string ⟨#[105, 116, 101, 109]⟩, .slice (some ⟨w3.heap.size, 0, none⟩) 1 1] 34) := ⟨_, rfl⟩
          rw [← hy] at hHeld hxy hbx2 ⊢
          have HTG := Lib.hid (tgNew (HTR.out.on hbx1) (HTA.out.on hbx1))
          rw [← hy] at HTG
          replace HIN := Lib.hid (HIN.out.on hxy)
          clear hxy hbx1 hy
          refine wpAnyH_ready (rs := [8]) (by kernel_rfl) (by simp) ?_
          refine AllReadyH.cons (o := _) rfl (fun K hK => ?_) AllReadyH.nil
          · go_simp
            have hxy : Below x2.heap.size x2 (x2.alloc (.cells #[.int .i64 1, .string ⟨#[105, 116, 101, 109]⟩, .slice none 0 0, .slice (some ⟨w.heap.size, 0, none⟩) 4 4] 50)) := (Below.refl _ _).alloc (Nat.le_refl _) _
            have hbx3 := hbx2.trans (hxy.mono hbx2.size)
            refine hK.out _ _ (HSX.out _ hbx3) (fun hHeld => ?_)
            clear hK K
            try simp only [Act.put, List.setIfInBounds_toArray, List.set_cons_zero, List.set_cons_succ, List.getElem_toArray, List.getElem_cons_succ, List.getElem_cons_zero]
            obtain ⟨x3, hy⟩ : ∃ x3, x3 = x2.alloc (.cells #[.int .i64 1, .string ⟨#[105, 116, 101, 109]⟩, .slice none 0 0, .slice (some ⟨w.heap.size, 0, none⟩) 4 4] 50) := ⟨_, rfl⟩
            rw [← hy] at hHeld hxy hbx3 ⊢
            have HEL := Lib.hid (chNew (HROW.out.on hbx2) rfl)
            rw [← hy] at HEL
            replace HIN := Lib.hid (HIN.out.on hxy)
            replace HTG := Lib.hid (HTG.out.on hxy)
            clear hxy hbx2 hy
            have HZ := Lib.hid (expandW _ _ _ _ _ _ _ _ _ _ 2 ac ic 1 _ _ x3 (bsS HR.out.1 HR.out.2) (HSC.out.on hbx3) HTG.out HTC.out HIN.out rfl HEL.out.1 HEL.out.2 rfl rfl rfl rfl)
            have HZB := Lib.hid hbx3
            clear hbx3
            refine wpAnyH_ready (rs := [9]) (by kernel_rfl) (by simp) ?_
            refine AllReadyH.cons (o := _) rfl (fun K hK => ?_) AllReadyH.nil
            go_simp
            go_at_call 6
            refine HZ.out.mono ?_
            rintro e z ⟨rfl, hbz⟩
            go_wp2_with fail
            refine hK.out _ _ (HSX.out _ (HZB.out.trans (hbz.mono HZB.out.size))) (fun hHeld => ?_)
            clear hK K
            try simp only [Act.put, List.setIfInBounds_toArray, List.set_cons_zero, List.set_cons_succ, List.getElem_toArray, List.getElem_cons_succ, List.getElem_cons_zero]
            refine wpAnyH_take (i := 10) (oi := _) (v := ?_) rfl (by kernel_rfl) (by kernel_rfl) (by kernel_rfl) (fun _ _ _ h => h) (Or.inl ⟨by rfl, ?_⟩) hHeld ?_
            rotate_left
            · intro w hSw; (try dsimp only at hSw); go_simp; with_reducible rfl
            simp only [Act.put, List.setIfInBounds_toArray, List.set_cons_zero, List.set_cons_succ, List.getElem_toArray, List.getElem_cons_succ, List.getElem_cons_zero]
            refine wpAnyH_take (i := 11) (oi := _) (v := ?_) rfl (by kernel_rfl) (by kernel_rfl) (by kernel_rfl) (fun _ _ _ h => h) (Or.inl ⟨by rfl, ?_⟩) hHeld ?_
            rotate_left
            · intro w hSw; (try dsimp only at hSw); go_simp; with_reducible rfl
            simp only [Act.put, List.setIfInBounds_toArray, List.set_cons_zero, List.set_cons_succ, List.getElem_toArray, List.getElem_cons_succ, List.getElem_cons_zero]
            refine wpAnyH_take (i := 12) (oi := _) (v := ?_) rfl (by kernel_rfl) (by kernel_rfl) (by kernel_rfl) (fun _ _ _ h => h) (Or.inl ⟨by rfl, ?_⟩) hHeld ?_
            rotate_left
            · intro w hSw; (try dsimp only at hSw); go_simp; with_reducible rfl
            simp only [Act.put, List.setIfInBounds_toArray, List.set_cons_zero, List.set_cons_succ, List.getElem_toArray, List.getElem_cons_succ, List.getElem_cons_zero]
            refine wpAnyH_take (i := 13) (oi := _) (v := ?_) rfl (by kernel_rfl) (by kernel_rfl) (by kernel_rfl) (fun _ _ _ h => h) (Or.inl ⟨by rfl, ?_⟩) hHeld ?_
            rotate_left
            · intro w hSw; (try dsimp only at hSw); go_simp; with_reducible rfl
            simp only [Act.put, List.setIfInBounds_toArray, List.set_cons_zero, List.set_cons_succ, List.getElem_toArray, List.getElem_cons_succ, List.getElem_cons_zero]
            refine wpAnyH_take (i := 14) (oi := _) (v := ?_) rfl (by kernel_rfl) (by kernel_rfl) (by kernel_rfl) (fun _ _ _ h => h) (Or.inl ⟨by rfl, ?_⟩) hHeld ?_
            rotate_left
            · intro w hSw; (try dsimp only at hSw); go_simp; with_reducible rfl
            simp only [Act.put, List.setIfInBounds_toArray, List.set_cons_zero, List.set_cons_succ, List.getElem_toArray, List.getElem_cons_succ, List.getElem_cons_zero]
            refine wpAnyH_take (i := 15) (oi := _) (v := ?_) rfl (by kernel_rfl) (by kernel_rfl) (by kernel_rfl) (fun _ _ _ h => h) (Or.inl ⟨by rfl, ?_⟩) hHeld ?_
            rotate_left
            · intro w hSw; (try dsimp only at hSw); go_simp; with_reducible rfl
            simp only [Act.put, List.setIfInBounds_toArray, List.set_cons_zero, List.set_cons_succ, List.getElem_toArray, List.getElem_cons_succ, List.getElem_cons_zero]
            refine wpAnyH_take (i := 16) (oi := _) (v := ?_) rfl (by kernel_rfl) (by kernel_rfl) (by kernel_rfl) (fun _ _ _ h => h) (Or.inl ⟨by rfl, ?_⟩) hHeld ?_
            rotate_left
            · intro w hSw; (try dsimp only at hSw); go_simp; with_reducible rfl
            simp only [Act.put, List.setIfInBounds_toArray, List.set_cons_zero, List.set_cons_succ, List.getElem_toArray, List.getElem_cons_succ, List.getElem_cons_zero]
            refine wpAnyH_done (by kernel_rfl) ?_ _
            have HF := Lib.hid (HB5.out.trans ((HZB.out.trans (hbz.mono HZB.out.size)).mono HB5.out.size))
            clear hbz
            go_wp2_with fail
            go_ret
            exact ⟨rfl, HF.out⟩
        · go_simp
          have hxy : Below x1.heap.size x1 (x1.alloc (.cells #[.int .i64 1, .string ⟨#[105, 116, 101, 109]⟩, .slice none 0 0, .slice (some ⟨w.heap.size, 0, none⟩) 4 4] 50)) := (Below.refl _ _).alloc (Nat.le_refl _) _
          have hbx4 := hbx1.trans (hxy.mono hbx1.size)
          refine hK.out _ _ (HSX.out _ hbx4) (fun hHeld => ?_)
          clear hK K
          try simp only [Act.put, List.setIfInBounds_toArray, List.set_cons_zero, List.set_cons_succ, List.getElem_toArray, List.getElem_cons_succ, List.getElem_cons_zero]
          obtain ⟨x4, hy⟩ : ∃ x4, x4 = x1.alloc (.cells #[.int .i64 1, .string ⟨#[105, 116, 101, 109]⟩, .slice none 0 0, .slice (some ⟨w.heap.size, 0, none⟩) 4 4] 50) := ⟨_, rfl⟩
          rw [← hy] at hHeld hxy hbx4 ⊢
          have HEL := Lib.hid (chNew (HROW.out.on hbx1) rfl)
          rw [← hy] at HEL
          replace HIN := Lib.hid (HIN.out.on hxy)
          clear hxy hbx1 hy
          refine wpAnyH_ready (rs := [5]) (by kernel_rfl) (by simp) ?_
          refine AllReadyH.cons (o := _) rfl (fun K hK => ?_) AllReadyH.nil
          · go_simp
            have hxy : Below x4.heap.size x4 (x4.alloc (.cells #[.int .i64 1, .string ⟨#[105, 116, 101, 109]⟩, .slice (some ⟨w1.heap.size + 1, 0, none⟩) 1 1, .int .i64 2, .string ⟨#[105, 116, 101, 109]⟩, .slice (some ⟨w3.heap.size, 0, none⟩) 1 1] 34)) := (Below.refl _ _).alloc (Nat.le_refl _) _
            have hbx5 := hbx4.trans (hxy.mono hbx4.size)
            refine hK.out _ _ (HSX.out _ hbx5) (fun hHeld => ?_)
            clear hK K
            try simp only [Act.put, List.setIfInBounds_toArray, List.set_cons_zero, List.set_cons_succ, List.getElem_toArray, List.getElem_cons_succ, List.getElem_cons_zero]
            obtain ⟨x5, hy⟩ : ∃ x5, x5 = x4.alloc (.cells #[.int .i64 1, .string ⟨#[105, 116, 101, 109]⟩, .slice (some ⟨w1.heap.size + 1, 0, none⟩) 1 1, .int .i64 2, .string ⟨#[105, 116, 101, 109]⟩, .slice (some ⟨w3.heap.size, 0, none⟩) 1 1] 34) := ⟨_, rfl⟩
            rw [← hy] at hHeld hxy hbx5 ⊢
            have HTG := Lib.hid (tgNew (HTR.out.on hbx4) (HTA.out.on hbx4))
            rw [← hy] at HTG
            replace HIN := Lib.hid (HIN.out.on hxy)
            replace HEL := Lib.hid (And.intro (HEL.out.1.on hxy) (HEL.out.2.on hxy))
            clear hxy hbx4 hy
            have HZ := Lib.hid (expandW _ _ _ _ _ _ _ _ _ _ 2 ac ic 1 _ _ x5 (bsS HR.out.1 HR.out.2) (HSC.out.on hbx5) HTG.out HTC.out HIN.out rfl HEL.out.1 HEL.out.2 rfl rfl rfl rfl)
            have HZB := Lib.hid hbx5
            clear hbx5
            refine wpAnyH_ready (rs := [9]) (by kernel_rfl) (by simp) ?_
            refine AllReadyH.cons (o := _) rfl (fun K hK => ?_) AllReadyH.nil
            go_simp
            go_at_call 6
            refine HZ.out.mono ?_
            rintro e z ⟨rfl, hbz⟩
            go_wp2_with fail
            refine hK.out _ _ (HSX.out _ (HZB.out.trans (hbz.mono HZB.out.size))) (fun hHeld => ?_)
            clear hK K
            try simp only [Act.put, List.setIfInBounds_toArray, List.set_cons_zero, List.set_cons_succ, List.getElem_toArray, List.getElem_cons_succ, List.getElem_cons_zero]
            refine wpAnyH_take (i := 10) (oi := _) (v := ?_) rfl (by kernel_rfl) (by kernel_rfl) (by kernel_rfl) (fun _ _ _ h => h) (Or.inl ⟨by rfl, ?_⟩) hHeld ?_
            rotate_left
            · intro w hSw; (try dsimp only at hSw); go_simp; with_reducible rfl
            simp only [Act.put, List.setIfInBounds_toArray, List.set_cons_zero, List.set_cons_succ, List.getElem_toArray, List.getElem_cons_succ, List.getElem_cons_zero]
            refine wpAnyH_take (i := 11) (oi := _) (v := ?_) rfl (by kernel_rfl) (by kernel_rfl) (by kernel_rfl) (fun _ _ _ h => h) (Or.inl ⟨by rfl, ?_⟩) hHeld ?_
            rotate_left
            · intro w hSw; (try dsimp only at hSw); go_simp; with_reducible rfl
            simp only [Act.put, List.setIfInBounds_toArray, List.set_cons_zero, List.set_cons_succ, List.getElem_toArray, List.getElem_cons_succ, List.getElem_cons_zero]
            refine wpAnyH_take (i := 12) (oi := _) (v := ?_) rfl (by kernel_rfl) (by kernel_rfl) (by kernel_rfl) (fun _ _ _ h => h) (Or.inl ⟨by rfl, ?_⟩) hHeld ?_
            rotate_left
            · intro w hSw; (try dsimp only at hSw); go_simp; with_reducible rfl
            simp only [Act.put, List.setIfInBounds_toArray, List.set_cons_zero, List.set_cons_succ, List.getElem_toArray, List.getElem_cons_succ, List.getElem_cons_zero]
            refine wpAnyH_take (i := 13) (oi := _) (v := ?_) rfl (by kernel_rfl) (by kernel_rfl) (by kernel_rfl) (fun _ _ _ h => h) (Or.inl ⟨by rfl, ?_⟩) hHeld ?_
            rotate_left
            · intro w hSw; (try dsimp only at hSw); go_simp; with_reducible rfl
            simp only [Act.put, List.setIfInBounds_toArray, List.set_cons_zero, List.set_cons_succ, List.getElem_toArray, List.getElem_cons_succ, List.getElem_cons_zero]
            refine wpAnyH_take (i := 14) (oi := _) (v := ?_) rfl (by kernel_rfl) (by kernel_rfl) (by kernel_rfl) (fun _ _ _ h => h) (Or.inl ⟨by rfl, ?_⟩) hHeld ?_
            rotate_left
            · intro w hSw; (try dsimp only at hSw); go_simp; with_reducible rfl
            simp only [Act.put, List.setIfInBounds_toArray, List.set_cons_zero, List.set_cons_succ, List.getElem_toArray, List.getElem_cons_succ, List.getElem_cons_zero]
            refine wpAnyH_take (i := 15) (oi := _) (v := ?_) rfl (by kernel_rfl) (by kernel_rfl) (by kernel_rfl) (fun _ _ _ h => h) (Or.inl ⟨by rfl, ?_⟩) hHeld ?_
            rotate_left
            · intro w hSw; (try dsimp only at hSw); go_simp; with_reducible rfl
            simp only [Act.put, List.setIfInBounds_toArray, List.set_cons_zero, List.set_cons_succ, List.getElem_toArray, List.getElem_cons_succ, List.getElem_cons_zero]
            refine wpAnyH_take (i := 16) (oi := _) (v := ?_) rfl (by kernel_rfl) (by kernel_rfl) (by kernel_rfl) (fun _ _ _ h => h) (Or.inl ⟨by rfl, ?_⟩) hHeld ?_
            rotate_left
            · intro w hSw; (try dsimp only at hSw); go_simp; with_reducible rfl
            simp only [Act.put, List.setIfInBounds_toArray, List.set_cons_zero, List.set_cons_succ, List.getElem_toArray, List.getElem_cons_succ, List.getElem_cons_zero]
            refine wpAnyH_done (by kernel_rfl) ?_ _
            have HF := Lib.hid (HB5.out.trans ((HZB.out.trans (hbz.mono HZB.out.size)).mono HB5.out.size))
            clear hbz
            go_wp2_with fail
            go_ret
            exact ⟨rfl, HF.out⟩
      · go_simp
        have hxy : Below x0.heap.size x0 (x0.alloc (.cells #[.int .i64 1, .string ⟨#[105, 116, 101, 109]⟩, .slice (some ⟨w1.heap.size + 1, 0, none⟩) 1 1, .int .i64 2, .string ⟨#[105, 116, 101, 109]⟩, .slice (some ⟨w3.heap.size, 0, none⟩) 1 1] 34)) := (Below.refl _ _).alloc (Nat.le_refl _) _
        have hbx6 := hbx0.trans (hxy.mono hbx0.size)
        refine hK.out _ _ (HSX.out _ hbx6) (fun hHeld => ?_)
        clear hK K
        try simp only [Act.put, List.setIfInBounds_toArray, List.set_cons_zero, List.set_cons_succ, List.getElem_toArray, List.getElem_cons_succ, List.getElem_cons_zero]
        obtain ⟨x6, hy⟩ : ∃ x6, x6 = x0.alloc (.cells #[.int .i64 1, .string ⟨#[105, 116, 101, 109]⟩, .slice (some ⟨w1.heap.size + 1, 0, none⟩) 1 1, .int .i64 2, .string ⟨#[105, 116, 101, 109]⟩, .slice (some ⟨w3.heap.size, 0, none⟩) 1 1] 34) := ⟨_, rfl⟩
        rw [← hy] at hHeld hxy hbx6 ⊢
        have HTG := Lib.hid (tgNew (HTR.out.on hbx0) (HTA.out.on hbx0))
        rw [← hy] at HTG
        clear hxy hbx0 hy
        refine wpAnyH_ready (rs := [2, 8]) (by kernel_rfl) (by simp) ?_
        refine AllReadyH.cons (o := _) rfl (fun K hK => ?_) (AllReadyH.cons (o := _) rfl (fun K hK => ?_) AllReadyH.nil)
        · go_simp
          go_at_call 7
          refine (HEM.out x6 hbx6).mono ?_
          rintro e x7 ⟨IA, ic, rfl, hin, hxy⟩
          go_wp2_with fail
          have hbx7 := hbx6.trans (hxy.mono hbx6.size)
          refine hK.out _ _ (HSX.out _ hbx7) (fun hHeld => ?_)
          clear hK K
          try simp only [Act.put, List.setIfInBounds_toArray, List.set_cons_zero, List.set_cons_succ, List.getElem_toArray, List.getElem_cons_succ, List.getElem_cons_zero]
          have HIN := Lib.hid hin
          replace HTG := Lib.hid (HTG.out.on hxy)
          clear hin hxy hbx6
          refine wpAnyH_ready (rs := [8]) (by kernel_rfl) (by simp) ?_
          refine AllReadyH.cons (o := _) rfl (fun K hK => ?_) AllReadyH.nil
          · go_simp
            have hxy : Below x7.heap.size x7 (x7.alloc (.cells #[.int .i64 1, .string ⟨#[105, 116, 101, 109]⟩, .slice none 0 0, .slice (some ⟨w.heap.size, 0, none⟩) 4 4] 50)) := (Below.refl _ _).alloc (Nat.le_refl _) _
            have hbx8 := hbx7.trans (hxy.mono hbx7.size)
            refine hK.out _ _ (HSX.out _ hbx8) (fun hHeld => ?_)
            clear hK K
            try simp only [Act.put, List.setIfInBounds_toArray, List.set_cons_zero, List.set_cons_succ, List.getElem_toArray, List.getElem_cons_succ, List.getElem_cons_zero]
            obtain ⟨x8, hy⟩ : ∃ x8, x8 = x7.alloc (.cells #[.int .i64 1, .string ⟨#[105, 116, 101, 109]⟩, .slice none 0 0, .slice (some ⟨w.heap.size, 0, none⟩) 4 4] 50) := ⟨_, rfl⟩
            rw [← hy] at hHeld hxy hbx8 ⊢
            have HEL := Lib.hid (chNew (HROW.out.on hbx7) rfl)
            rw [← hy] at HEL
            replace HTG := Lib.hid (HTG.out.on hxy)
            replace HIN := Lib.hid (HIN.out.on hxy)
            clear hxy hbx7 hy
            have HZ := Lib.hid (expandW _ _ _ _ _ _ _ _ _ _ 2 ac ic 1 _ _ x8 (bsS HR.out.1 HR.out.2) (HSC.out.on hbx8) HTG.out HTC.out HIN.out rfl HEL.out.1 HEL.out.2 rfl rfl rfl rfl)
            have HZB := Lib.hid hbx8
            clear hbx8
            refine wpAnyH_ready (rs := [9]) (by kernel_rfl) (by simp) ?_
            refine AllReadyH.cons (o := _) rfl (fun K hK => ?_) AllReadyH.nil
            go_simp
            go_at_call 6
            refine HZ.out.mono ?_
            rintro e z ⟨rfl, hbz⟩
            go_wp2_with fail
            refine hK.out _ _ (HSX.out _ (HZB.out.trans (hbz.mono HZB.out.size))) (fun hHeld => ?_)
            clear hK K
            try simp only [Act.put, List.setIfInBounds_toArray, List.set_cons_zero, List.set_cons_succ, List.getElem_toArray, List.getElem_cons_succ, List.getElem_cons_zero]
            refine wpAnyH_take (i := 10) (oi := _) (v := ?_) rfl (by kernel_rfl) (by kernel_rfl) (by kernel_rfl) (fun _ _ _ h => h) (Or.inl ⟨by rfl, ?_⟩) hHeld ?_
            rotate_left
            · intro w hSw; (try dsimp only at hSw); go_simp; with_reducible rfl
            simp only [Act.put, List.setIfInBounds_toArray, List.set_cons_zero, List.set_cons_succ, List.getElem_toArray, List.getElem_cons_succ, List.getElem_cons_zero]
            refine wpAnyH_take (i := 11) (oi := _) (v := ?_) rfl (by kernel_rfl) (by kernel_rfl) (by kernel_rfl) (fun _ _ _ h => h) (Or.inl ⟨by rfl, ?_⟩) hHeld ?_
            rotate_left
            · intro w hSw; (try dsimp only at hSw); go_simp; with_reducible rfl
            simp only [Act.put, List.setIfInBounds_toArray, List.set_cons_zero, List.set_cons_succ, List.getElem_toArray, List.getElem_cons_succ, List.getElem_cons_zero]
            refine wpAnyH_take (i := 12) (oi := _) (v := ?_) rfl (by kernel_rfl) (by kernel_rfl) (by kernel_rfl) (fun _ _ _ h => h) (Or.inl ⟨by rfl, ?_⟩) hHeld ?_
            rotate_left
            · intro w hSw; (try dsimp only at hSw); go_simp; with_reducible rfl
            simp only [Act.put, List.setIfInBounds_toArray, List.set_cons_zero, List.set_cons_succ, List.getElem_toArray, List.getElem_cons_succ, List.getElem_cons_zero]
            refine wpAnyH_take (i := 13) (oi := _) (v := ?_) rfl (by kernel_rfl) (by kernel_rfl) (by kernel_rfl) (fun _ _ _ h => h) (Or.inl ⟨by rfl, ?_⟩) hHeld ?_
            rotate_left
            · intro w hSw; (try dsimp only at hSw); go_simp; with_reducible rfl
            simp only [Act.put, List.setIfInBounds_toArray, List.set_cons_zero, List.set_cons_succ, List.getElem_toArray, List.getElem_cons_succ, List.getElem_cons_zero]
            refine wpAnyH_take (i := 14) (oi := _) (v := ?_) rfl (by kernel_rfl) (by kernel_rfl) (by kernel_rfl) (fun _ _ _ h => h) (Or.inl ⟨by rfl, ?_⟩) hHeld ?_
            rotate_left
            · intro w hSw; (try dsimp only at hSw); go_simp; with_reducible rfl
            simp only [Act.put, List.setIfInBounds_toArray, List.set_cons_zero, List.set_cons_succ, List.getElem_toArray, List.getElem_cons_succ, List.getElem_cons_zero]
            refine wpAnyH_take (i := 15) (oi := _) (v := ?_) rfl (by kernel_rfl) (by kernel_rfl) (by kernel_rfl) (fun _ _ _ h => h) (Or.inl ⟨by rfl, ?_⟩) hHeld ?_
            rotate_left
            · intro w hSw; (try dsimp only at hSw); go_simp; with_reducible rfl
            simp only [Act.put, List.setIfInBounds_toArray, List.set_cons_zero, List.set_cons_succ, List.getElem_toArray, List.getElem_cons_succ, List.getElem_cons_zero]
            refine wpAnyH_take (i := 16) (oi := _) (v := ?_) rfl (by kernel_rfl) (by kernel_rfl) (by kernel_rfl) (fun _ _ _ h => h) (Or.inl ⟨by rfl, ?_⟩) hHeld ?_
            rotate_left
            · intro w hSw; (try dsimp only at hSw); go_simp; with_reducible rfl
            simp only [Act.put, List.setIfInBounds_toArray, List.set_cons_zero, List.set_cons_succ, List.getElem_toArray, List.getElem_cons_succ, List.getElem_cons_zero]
            refine wpAnyH_done (by kernel_rfl) ?_ _
            have HF := Lib.hid (HB5.out.trans ((HZB.out.trans (hbz.mono HZB.out.size)).mono HB5.out.size))
            clear hbz
            go_wp2_with fail
            go_ret
            exact ⟨rfl, HF.out⟩
        · go_simp
          have hxy : Below x6.heap.size x6 (x6.alloc (.cells #[.int .i64 1, .string ⟨#[105, 116, 101, 109]⟩, .slice none 0 0, .slice (some ⟨w.heap.size, 0, none⟩) 4 4] 50)) := (Below.refl _ _).alloc (Nat.le_refl _) _
          have hbx9 := hbx6.trans (hxy.mono hbx6.size)
          refine hK.out _ _ (HSX.out _ hbx9) (fun hHeld => ?_)
          clear hK K
          try simp only [Act.put, List.setIfInBounds_toArray, List.set_cons_zero, List.set_cons_succ, List.getElem_toArray, List.getElem_cons_succ, List.getElem_cons_zero]
          obtain ⟨x9, hy⟩ : ∃ x9, x9 = x6.alloc (.cells #[.int .i64 1, .string ⟨#[105, 116, 101, 109]⟩, .slice none 0 0, .slice (some ⟨w.heap.size, 0, none⟩) 4 4] 50) := ⟨_, rfl⟩
          rw [← hy] at hHeld hxy hbx9 ⊢
          have HEL := Lib.hid (chNew (HROW.out.on hbx6) rfl)
          rw [← hy] at HEL
          replace HTG := Lib.hid (HTG.out.on hxy)
          clear hxy hbx6 hy
          refine wpAnyH_ready (rs := [2]) (by kernel_rfl) (by simp) ?_
          refine AllReadyH.cons (o := _) rfl (fun K hK => ?_) AllReadyH.nil
          · go_simp
            go_at_call 7
            refine (HEM.out x9 hbx9).mono ?_
            rintro e x10 ⟨IA, ic, rfl, hin, hxy⟩
            go_wp2_with fail
            have hbx10 := hbx9.trans (hxy.mono hbx9.size)
            refine hK.out _ _ (HSX.out _ hbx10) (fun hHeld => ?_)
            clear hK K
            try simp only [Act.put, List.setIfInBounds_toArray, List.set_cons_zero, List.set_cons_succ, List.getElem_toArray, List.getElem_cons_succ, List.getElem_cons_zero]
            have HIN := Lib.hid hin
            replace HTG := Lib.hid (HTG.out.on hxy)
            replace HEL := Lib.hid (And.intro (HEL.out.1.on hxy) (HEL.out.2.on hxy))
            clear hin hxy hbx9
            have HZ := Lib.hid (expandW _ _ _ _ _ _ _ _ _ _ 2 ac ic 1 _ _ x10 (bsS HR.out.1 HR.out.2) (HSC.out.on hbx10) HTG.out HTC.out HIN.out rfl HEL.out.1 HEL.out.2 rfl rfl rfl rfl)
            have HZB := Lib.hid hbx10
            clear hbx10
            refine wpAnyH_ready (rs := [9]) (by kernel_rfl) (by simp) ?_
            refine AllReadyH.cons (o := _) rfl (fun K hK => ?_) AllReadyH.nil
            go_simp
            go_at_call 6
            refine HZ.out.mono ?_
            rintro e z ⟨rfl, hbz⟩
            go_wp2_with fail
            refine hK.out _ _ (HSX.out _ (HZB.out.trans (hbz.mono HZB.out.size))) (fun hHeld => ?_)
            clear hK K
            try simp only [Act.put, List.setIfInBounds_toArray, List.set_cons_zero, List.set_cons_succ, List.getElem_toArray, List.getElem_cons_succ, List.getElem_cons_zero]
            refine wpAnyH_take (i := 10) (oi := _) (v := ?_) rfl (by kernel_rfl) (by kernel_rfl) (by kernel_rfl) (fun _ _ _ h => h) (Or.inl ⟨by rfl, ?_⟩) hHeld ?_
            rotate_left
            · intro w hSw; (try dsimp only at hSw); go_simp; with_reducible rfl
            simp only [Act.put, List.setIfInBounds_toArray, List.set_cons_zero, List.set_cons_succ, List.getElem_toArray, List.getElem_cons_succ, List.getElem_cons_zero]
            refine wpAnyH_take (i := 11) (oi := _) (v := ?_) rfl (by kernel_rfl) (by kernel_rfl) (by kernel_rfl) (fun _ _ _ h => h) (Or.inl ⟨by rfl, ?_⟩) hHeld ?_
            rotate_left
            · intro w hSw; (try dsimp only at hSw); go_simp; with_reducible rfl
            simp only [Act.put, List.setIfInBounds_toArray, List.set_cons_zero, List.set_cons_succ, List.getElem_toArray, List.getElem_cons_succ, List.getElem_cons_zero]
            refine wpAnyH_take (i := 12) (oi := _) (v := ?_) rfl (by kernel_rfl) (by kernel_rfl) (by kernel_rfl) (fun _ _ _ h => h) (Or.inl ⟨by rfl, ?_⟩) hHeld ?_
            rotate_left
            · intro w hSw; (try dsimp only at hSw); go_simp; with_reducible rfl
            simp only [Act.put, List.setIfInBounds_toArray, List.set_cons_zero, List.set_cons_succ, List.getElem_toArray, List.getElem_cons_succ, List.getElem_cons_zero]
            refine wpAnyH_take (i := 13) (oi := _) (v := ?_) rfl (by kernel_rfl) (by kernel_rfl) (by kernel_rfl) (fun _ _ _ h => h) (Or.inl ⟨by rfl, ?_⟩) hHeld ?_
            rotate_left
            · intro w hSw; (try dsimp only at hSw); go_simp; with_reducible rfl
            simp only [Act.put, List.setIfInBounds_toArray, List.set_cons_zero, List.set_cons_succ, List.getElem_toArray, List.getElem_cons_succ, List.getElem_cons_zero]
            refine wpAnyH_take (i := 14) (oi := _) (v := ?_) rfl (by kernel_rfl) (by kernel_rfl) (by kernel_rfl) (fun _ _ _ h => h) (Or.inl ⟨by rfl, ?_⟩) hHeld ?_
            rotate_left
            · intro w hSw; (try dsimp only at hSw); go_simp; with_reducible rfl
            simp only [Act.put, List.setIfInBounds_toArray, List.set_cons_zero, List.set_cons_succ, List.getElem_toArray, List.getElem_cons_succ, List.getElem_cons_zero]
            refine wpAnyH_take (i := 15) (oi := _) (v := ?_) rfl (by kernel_rfl) (by kernel_rfl) (by kernel_rfl) (fun _ _ _ h => h) (Or.inl ⟨by rfl, ?_⟩) hHeld ?_
            rotate_left
            · intro w hSw; (try dsimp only at hSw); go_simp; with_reducible rfl
            simp only [Act.put, List.setIfInBounds_toArray, List.set_cons_zero, List.set_cons_succ, List.getElem_toArray, List.getElem_cons_succ, List.getElem_cons_zero]
            refine wpAnyH_take (i := 16) (oi := _) (v := ?_) rfl (by kernel_rfl) (by kernel_rfl) (by kernel_rfl) (fun _ _ _ h => h) (Or.inl ⟨by rfl, ?_⟩) hHeld ?_
            rotate_left
            · intro w hSw; (try dsimp only at hSw); go_simp; with_reducible rfl
            simp only [Act.put, List.setIfInBounds_toArray, List.set_cons_zero, List.set_cons_succ, List.getElem_toArray, List.getElem_cons_succ, List.getElem_cons_zero]
            refine wpAnyH_done (by kernel_rfl) ?_ _
            have HF := Lib.hid (HB5.out.trans ((HZB.out.trans (hbz.mono HZB.out.size)).mono HB5.out.size))
            clear hbz
            go_wp2_with fail
            go_ret
            exact ⟨rfl, HF.out⟩
      · go_simp
        have hxy : Below x0.heap.size x0 (x0.alloc (.cells #[.int .i64 1, .string ⟨#[105, 116, 101, 109]⟩, .slice none 0 0, .slice (some ⟨w.heap.size, 0, none⟩) 4 4] 50)) := (Below.refl _ _).alloc (Nat.le_refl _) _
        have hbx11 := hbx0.trans (hxy.mono hbx0.size)
        refine hK.out _ _ (HSX.out _ hbx11) (fun hHeld => ?_)
        clear hK K
        try simp only [Act.put, List.setIfInBounds_toArray, List.set_cons_zero, List.set_cons_succ, List.getElem_toArray, List.getElem_cons_succ, List.getElem_cons_zero]
        obtain ⟨x11, hy⟩ : ∃ x11, x11 = x0.alloc (.cells #[.int .i64 1, .string ⟨#[105, 116, 101, 109]⟩, .slice none 0 0, .slice (some ⟨w.heap.size, 0, none⟩) 4 4] 50) := ⟨_, rfl⟩
        rw [← hy] at hHeld hxy hbx11 ⊢
        have HEL := Lib.hid (chNew (HROW.out.on hbx0) rfl)
        rw [← hy] at HEL
        clear hxy hbx0 hy
        refine wpAnyH_ready (rs := [2, 5]) (by kernel_rfl) (by simp) ?_
        refine AllReadyH.cons (o := _) rfl (fun K hK => ?_) (AllReadyH.cons (o := _) rfl (fun K hK => ?_) AllReadyH.nil)
        · go_simp
          go_at_call 7
          refine (HEM.out x11 hbx11).mono ?_
          rintro e x12 ⟨IA, ic, rfl, hin, hxy⟩
          go_wp2_with fail
          have hbx12 := hbx11.trans (hxy.mono hbx11.size)
          refine hK.out _ _ (HSX.out _ hbx12) (fun hHeld => ?_)
          clear hK K
          try simp only [Act.put, List.setIfInBounds_toArray, List.set_cons_zero, List.set_cons_succ, List.getElem_toArray, List.getElem_cons_succ, List.getElem_cons_zero]
          have HIN := Lib.hid hin
          replace HEL := Lib.hid (And.intro (HEL.out.1.on hxy) (HEL.out.2.on hxy))
          clear hin hxy hbx11
          refine wpAnyH_ready (rs := [5]) (by kernel_rfl) (by simp) ?_
          refine AllReadyH.cons (o := _) rfl (fun K hK => ?_) AllReadyH.nil
          · go_simp
            have hxy : Below x12.heap.size x12 (x12.alloc (.cells #[.int .i64 1, .string ⟨#[105, 116, 101, 109]⟩, .slice (some ⟨w1.heap.size + 1, 0, none⟩) 1 1, .int .i64 2, .string ⟨#[105, 116, 101, 109]⟩, .slice (some ⟨w3.heap.size, 0, none⟩) 1 1] 34)) := (Below.refl _ _).alloc (Nat.le_refl _) _
            have hbx13 := hbx12.trans (hxy.mono hbx12.size)
            refine hK.out _ _ (HSX.out _ hbx13) (fun hHeld => ?_)
            clear hK K
            try simp only [Act.put, List.setIfInBounds_toArray, List.set_cons_zero, List.set_cons_succ, List.getElem_toArray, List.getElem_cons_succ, List.getElem_cons_zero]
            obtain ⟨x13, hy⟩ : ∃ x13, x13 = x12.alloc (.cells #[.int .i64 1, .string ⟨#[105, 116, 101, 109]⟩, .slice (some ⟨w1.heap.size + 1, 0, none⟩) 1 1, .int .i64 2, .string ⟨#[105, 116, 101, 109]⟩, .slice (some ⟨w3.heap.size, 0, none⟩) 1 1] 34) := ⟨_, rfl⟩
            rw [← hy] at hHeld hxy hbx13 ⊢
            have HTG := Lib.hid (tgNew (HTR.out.on hbx12) (HTA.out.on hbx12))
            rw [← hy] at HTG
            replace HEL := Lib.hid (And.intro (HEL.out.1.on hxy) (HEL.out.2.on hxy))
            replace HIN := Lib.hid (HIN.out.on hxy)
            clear hxy hbx12 hy
            have HZ := Lib.hid (expandW _ _ _ _ _ _ _ _ _ _ 2 ac ic 1 _ _ x13 (bsS HR.out.1 HR.out.2) (HSC.out.on hbx13) HTG.out HTC.out HIN.out rfl HEL.out.1 HEL.out.2 rfl rfl rfl rfl)
            have HZB := Lib.hid hbx13
            clear hbx13
            refine wpAnyH_ready (rs := [9]) (by kernel_rfl) (by simp) ?_
            refine AllReadyH.cons (o := _) rfl (fun K hK => ?_) AllReadyH.nil
            go_simp
            go_at_call 6
            refine HZ.out.mono ?_
            rintro e z ⟨rfl, hbz⟩
            go_wp2_with fail
            refine hK.out _ _ (HSX.out _ (HZB.out.trans (hbz.mono HZB.out.size))) (fun hHeld => ?_)
            clear hK K
            try simp only [Act.put, List.setIfInBounds_toArray, List.set_cons_zero, List.set_cons_succ, List.getElem_toArray, List.getElem_cons_succ, List.getElem_cons_zero]
            refine wpAnyH_take (i := 10) (oi := _) (v := ?_) rfl (by kernel_rfl) (by kernel_rfl) (by kernel_rfl) (fun _ _ _ h => h) (Or.inl ⟨by rfl, ?_⟩) hHeld ?_
            rotate_left
            · intro w hSw; (try dsimp only at hSw); go_simp; with_reducible rfl
            simp only [Act.put, List.setIfInBounds_toArray, List.set_cons_zero, List.set_cons_succ, List.getElem_toArray, List.getElem_cons_succ, List.getElem_cons_zero]
            refine wpAnyH_take (i := 11) (oi := _) (v := ?_) rfl (by kernel_rfl) (by kernel_rfl) (by kernel_rfl) (fun _ _ _ h => h) (Or.inl ⟨by rfl, ?_⟩) hHeld ?_
            rotate_left
            · intro w hSw; (try dsimp only at hSw); go_simp; with_reducible rfl
            simp only [Act.put, List.setIfInBounds_toArray, List.set_cons_zero, List.set_cons_succ, List.getElem_toArray, List.getElem_cons_succ, List.getElem_cons_zero]
            refine wpAnyH_take (i := 12) (oi := _) (v := ?_) rfl (by kernel_rfl) (by kernel_rfl) (by kernel_rfl) (fun _ _ _ h => h) (Or.inl ⟨by rfl, ?_⟩) hHeld ?_
            rotate_left
            · intro w hSw; (try dsimp only at hSw); go_simp; with_reducible rfl
            simp only [Act.put, List.setIfInBounds_toArray, List.set_cons_zero, List.set_cons_succ, List.getElem_toArray, List.getElem_cons_succ, List.getElem_cons_zero]
            refine wpAnyH_take (i := 13) (oi := _) (v := ?_) rfl (by kernel_rfl) (by kernel_rfl) (by kernel_rfl) (fun _ _ _ h => h) (Or.inl ⟨by rfl, ?_⟩) hHeld ?_
            rotate_left
            · intro w hSw; (try dsimp only at hSw); go_simp; with_reducible rfl
            simp only [Act.put, List.setIfInBounds_toArray, List.set_cons_zero, List.set_cons_succ, List.getElem_toArray, List.getElem_cons_succ, List.getElem_cons_zero]
            refine wpAnyH_take (i := 14) (oi := _) (v := ?_) rfl (by kernel_rfl) (by kernel_rfl) (by kernel_rfl) (fun _ _ _ h => h) (Or.inl ⟨by rfl, ?_⟩) hHeld ?_
            rotate_left
            · intro w hSw; (try dsimp only at hSw); go_simp; with_reducible rfl
            simp only [Act.put, List.setIfInBounds_toArray, List.set_cons_zero, List.set_cons_succ, List.getElem_toArray, List.getElem_cons_succ, List.getElem_cons_zero]
            refine wpAnyH_take (i := 15) (oi := _) (v := ?_) rfl (by kernel_rfl) (by kernel_rfl) (by kernel_rfl) (fun _ _ _ h => h) (Or.inl ⟨by rfl, ?_⟩) hHeld ?_
            rotate_left
            · intro w hSw; (try dsimp only at hSw); go_simp; with_reducible rfl
            simp only [Act.put, List.setIfInBounds_toArray, List.set_cons_zero, List.set_cons_succ, List.getElem_toArray, List.getElem_cons_succ, List.getElem_cons_zero]
            refine wpAnyH_take (i := 16) (oi := _) (v := ?_) rfl (by kernel_rfl) (by kernel_rfl) (by kernel_rfl) (fun _ _ _ h => h) (Or.inl ⟨by rfl, ?_⟩) hHeld ?_
            rotate_left
            · intro w hSw; (try dsimp only at hSw); go_simp; with_reducible rfl
            simp only [Act.put, List.setIfInBounds_toArray, List.set_cons_zero, List.set_cons_succ, List.getElem_toArray, List.getElem_cons_succ, List.getElem_cons_zero]
            refine wpAnyH_done (by kernel_rfl) ?_ _
            have HF := Lib.hid (HB5.out.trans ((HZB.out.trans (hbz.mono HZB.out.size)).mono HB5.out.size))
            clear hbz
            go_wp2_with fail
            go_ret
            exact ⟨rfl, HF.out⟩
        · go_simp
          have hxy : Below x11.heap.size x11 (x11.alloc (.cells #[.int .i64 1, .string ⟨#[105, 116, 101, 109]⟩, .slice (some ⟨w1.heap.size + 1, 0, none⟩) 1 1, .int .i64 2, .string ⟨#[105, 116, 101, 109]⟩, .slice (some ⟨w3.heap.size, 0, none⟩) 1 1] 34)) := (Below.refl _ _).alloc (Nat.le_refl _) _
          have hbx14 := hbx11.trans (hxy.mono hbx11.size)
          refine hK.out _ _ (HSX.out _ hbx14) (fun hHeld => ?_)
          clear hK K
          try simp only [Act.put, List.setIfInBounds_toArray, List.set_cons_zero, List.set_cons_succ, List.getElem_toArray, List.getElem_cons_succ, List.getElem_cons_zero]
          obtain ⟨x14, hy⟩ : ∃ x14, x14 = x11.alloc (.cells #[.int .i64 1, .string ⟨#[105, 116, 101, 109]⟩, .slice (some ⟨w1.heap.size + 1, 0, none⟩) 1 1, .int .i64 2, .string ⟨#[105, 116, 101, 109]⟩, .slice (some ⟨w3.heap.size, 0, none⟩) 1 1] 34) := ⟨_, rfl⟩
          rw [← hy] at hHeld hxy hbx14 ⊢
          have HTG := Lib.hid (tgNew (HTR.out.on hbx11) (HTA.out.on hbx11))
          rw [← hy] at HTG
          replace HEL := Lib.hid (And.intro (HEL.out.1.on hxy) (HEL.out.2.on hxy))
          clear hxy hbx11 hy
          refine wpAnyH_ready (rs := [2]) (by kernel_rfl) (by simp) ?_
          refine AllReadyH.cons (o := _) rfl (fun K hK => ?_) AllReadyH.nil
          · go_simp
            go_at_call 7
            refine (HEM.out x14 hbx14).mono ?_
            rintro e x15 ⟨IA, ic, rfl, hin, hxy⟩
            go_wp2_with fail
            have hbx15 := hbx14.trans (hxy.mono hbx14.size)
            refine hK.out _ _ (HSX.out _ hbx15) (fun hHeld => ?_)
            clear hK K
            try simp only [Act.put, List.setIfInBounds_toArray, List.set_cons_zero, List.set_cons_succ, List.getElem_toArray, List.getElem_cons_succ, List.getElem_cons_zero]
            have HIN := Lib.hid hin
            replace HEL := Lib.hid (And.intro (HEL.out.1.on hxy) (HEL.out.2.on hxy))
            replace HTG := Lib.hid (HTG.out.on hxy)
            clear hin hxy hbx14
            have HZ := Lib.hid (expandW _ _ _ _ _ _ _ _ _ _ 2 ac ic 1 _ _ x15 (bsS HR.out.1 HR.out.2) (HSC.out.on hbx15) HTG.out HTC.out HIN.out rfl HEL.out.1 HEL.out.2 rfl rfl rfl rfl)
            have HZB := Lib.hid hbx15
            clear hbx15
            refine wpAnyH_ready (rs := [9]) (by kernel_rfl) (by simp) ?_
            refine AllReadyH.cons (o := _) rfl (fun K hK => ?_) AllReadyH.nil
            go_simp
            go_at_call 6
            refine HZ.out.mono ?_
            rintro e z ⟨rfl, hbz⟩
            go_wp2_with fail
            refine hK.out _ _ (HSX.out _ (HZB.out.trans (hbz.mono HZB.out.size))) (fun hHeld => ?_)
            clear hK K
            try simp only [Act.put, List.setIfInBounds_toArray, List.set_cons_zero, List.set_cons_succ, List.getElem_toArray, List.getElem_cons_succ, List.getElem_cons_zero]
            refine wpAnyH_take (i := 10) (oi := _) (v := ?_) rfl (by kernel_rfl) (by kernel_rfl) (by kernel_rfl) (fun _ _ _ h => h) (Or.inl ⟨by rfl, ?_⟩) hHeld ?_
            rotate_left
            · intro w hSw; (try dsimp only at hSw); go_simp; with_reducible rfl
            simp only [Act.put, List.setIfInBounds_toArray, List.set_cons_zero, List.set_cons_succ, List.getElem_toArray, List.getElem_cons_succ, List.getElem_cons_zero]
            refine wpAnyH_take (i := 11) (oi := _) (v := ?_) rfl (by kernel_rfl) (by kernel_rfl) (by kernel_rfl) (fun _ _ _ h => h) (Or.inl ⟨by rfl, ?_⟩) hHeld ?_
            rotate_left
            · intro w hSw; (try dsimp only at hSw); go_simp; with_reducible rfl
            simp only [Act.put, List.setIfInBounds_toArray, List.set_cons_zero, List.set_cons_succ, List.getElem_toArray, List.getElem_cons_succ, List.getElem_cons_zero]
            refine wpAnyH_take (i := 12) (oi := _) (v := ?_) rfl (by kernel_rfl) (by kernel_rfl) (by kernel_rfl) (fun _ _ _ h => h) (Or.inl ⟨by rfl, ?_⟩) hHeld ?_
            rotate_left
            · intro w hSw; (try dsimp only at hSw); go_simp; with_reducible rfl
            simp only [Act.put, List.setIfInBounds_toArray, List.set_cons_zero, List.set_cons_succ, List.getElem_toArray, List.getElem_cons_succ, List.getElem_cons_zero]
            refine wpAnyH_take (i := 13) (oi := _) (v := ?_) rfl (by kernel_rfl) (by kernel_rfl) (by kernel_rfl) (fun _ _ _ h => h) (Or.inl ⟨by rfl, ?_⟩) hHeld ?_
            rotate_left
            · intro w hSw; (try dsimp only at hSw); go_simp; with_reducible rfl
            simp only [Act.put, List.setIfInBounds_toArray, List.set_cons_zero, List.set_cons_succ, List.getElem_toArray, List.getElem_cons_succ, List.getElem_cons_zero]
            refine wpAnyH_take (i := 14) (oi := _) (v := ?_) rfl (by kernel_rfl) (by kernel_rfl) (by kernel_rfl) (fun _ _ _ h => h) (Or.inl ⟨by rfl, ?_⟩) hHeld ?_
            rotate_left
            · intro w hSw; (try dsimp only at hSw); go_simp; with_reducible rfl
            simp only [Act.put, List.setIfInBounds_toArray, List.set_cons_zero, List.set_cons_succ, List.getElem_toArray, List.getElem_cons_succ, List.getElem_cons_zero]
            refine wpAnyH_take (i := 15) (oi := _) (v := ?_) rfl (by kernel_rfl) (by kernel_rfl) (by kernel_rfl) (fun _ _ _ h => h) (Or.inl ⟨by rfl, ?_⟩) hHeld ?_
            rotate_left
            · intro w hSw; (try dsimp only at hSw); go_simp; with_reducible rfl
            simp only [Act.put, List.setIfInBounds_toArray, List.set_cons_zero, List.set_cons_succ, List.getElem_toArray, List.getElem_cons_succ, List.getElem_cons_zero]
            refine wpAnyH_take (i := 16) (oi := _) (v := ?_) rfl (by kernel_rfl) (by kernel_rfl) (by kernel_rfl) (fun _ _ _ h => h) (Or.inl ⟨by rfl, ?_⟩) hHeld ?_
            rotate_left
            · intro w hSw; (try dsimp only at hSw); go_simp; with_reducible rfl
            simp only [Act.put, List.setIfInBounds_toArray, List.set_cons_zero, List.set_cons_succ, List.getElem_toArray, List.getElem_cons_succ, List.getElem_cons_zero]
            refine wpAnyH_done (by kernel_rfl) ?_ _
            have HF := Lib.hid (HB5.out.trans ((HZB.out.trans (hbz.mono HZB.out.size)).mono HB5.out.size))
            clear hbz
            go_wp2_with fail
            go_ret
            exact ⟨rfl, HF.out⟩
end Go.Proofs.Ytefifkleamiabaa
