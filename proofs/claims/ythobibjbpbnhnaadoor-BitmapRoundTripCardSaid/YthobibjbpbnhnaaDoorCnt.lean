/-
  The walk of bitmap.Count.
-/
import Derived.Test.YthobibjbpbnhnaaDoorOc
namespace Go.Proofs.YthobibjbpbnhnaaDoor
open Go.RowKit

theorem pcs_rep (m p : Nat) : pcs (List.replicate m p) = m * pc 31 p := by
  unfold pcs
  rw [List.map_replicate, List.sum_replicate_nat]
theorem pcs_one (x : Nat) : pcs [x] = pc 31 x := by
  show (pc 31 x :: []).sum = pc 31 x
  generalize pc 31 x = q
  simp
theorem pc_le : ∀ (f x : Nat), pc f x ≤ f
  | 0, _ => Nat.le_refl _
  | f + 1, x => by
    have := pc_le f (x / 2)
    simp only [pc]
    omega
theorem pcs_le : ∀ gs : List Nat, pcs gs ≤ 31 * gs.length
  | [] => Nat.le_refl _
  | g :: gs => by
    have h1 := pcs_le gs
    have h2 := pc_le 31 g
    unfold pcs at *
    simp only [List.map_cons, List.sum_cons, List.length_cons]
    omega
theorem pc_ones : pc 31 2147483647 = 31 := by decide +kernel
theorem pc_none : pc 31 0 = 0 := by decide +kernel

/-- What Count leaves. -/
def CountPost (w : World) (gs : List Nat) (e : Ending) (w' : World) : Prop := e = .returned (.tuple #[.int .i64 (pcs gs), .int .i64 0]) ∧ Below w.heap.size w w'

set_option maxRecDepth 100000 in
set_option maxHeartbeats 1000000 in
theorem count (n : Nat) (A : Option Addr) (c : Nat) (gs : List Nat) (w : World) (hx : Elems 1 intCs w (· < w.heap.size) A (comp gs)) (hG : Good n gs) (hn : n ≤ 100000) (hn1 : 1 ≤ n) :
    Calls Tryd.prog 8 #[.agg #[.int .i64 n, .slice A (comp gs).length c]] w (CountPost w gs) := by
  have hwc := wc_comp hG.le
  have hec := exp_comp hG.le
  have hgl := hG.len
  have hgc := gc_le hn
  have hwl := ws_len hwc
  rw [hec] at hwl
  have hx1 := (hx.keep (w' := w.alloc (.cells #[.int .i64 n, .slice A (comp gs).length c] 25)) fun k hk => Below.heap_alloc _ _ _ hk).more (S' := (· < (w.alloc (.cells #[.int .i64 n, .slice A (comp gs).length c] 25)).heap.size)) fun k hk => Nat.lt_of_lt_of_le hk (le_size1 (Nat.le_refl _) _)
  have HCH := Lib.hid (checkB n A c gs _ hx1 hG hn hn1)
  clear hx1
  generalize comp gs = ws at *
  have HW := Lib.hid hwc
  have HE := Lib.hid hec
  have hg4 : gs.length ≤ 4000 := by omega
  clear hG hwc hec hgl hgc
  go_enter Tryd.func8, Tryd.ntmps8
  go_wp2_with fail
  refine HCH.out.mono ?_
  rintro e w1 ⟨rfl, hb1⟩
  have hB1 := (hb1.block w.heap.size (by rw [size1]; omega)).trans (heap_alloc_new w (.cells #[.int .i64 n, .slice A ws.length c] 25))
  have b1' := cell_of_row _ _ 1 _ _ _ hB1
  have hb01 : Below w.heap.size w w1 := ((Below.refl _ _).alloc (Nat.le_refl _) _).trans (hb1.mono (le_size1 (Nat.le_refl _) _))
  clear hb1 hB1 HCH
  go_wp2_with fail
  go_loopw [5, 18] (fun t i wr => ∃ k : Nat, k ≤ ws.length ∧ i = .int .i64 k ∧ t = .int .i64 (pcs (exp (ws.take k)) : Nat) ∧ w1 = wr) (fun _ i _ => ws.length - (intOf i).toNat)
  case atStart => exact ⟨0, by omega, rfl, rfl, rfl⟩
  case round =>
    obtain ⟨k, hk, rfl, rfl, rfl⟩ := hrel
    by_cases hlt : k < ws.length
    · obtain ⟨b, off, rfl, hbs, c0⟩ := (hx.keep (Keeps.of_below hb01 fun _ h => h)).int hlt
      have hT : pcs (exp (ws.take (k + 1))) = pcs (exp (ws.take k)) + pcs (expW ws[k]) := by rw [exp_take hlt, pcs_append]
      have hle := exp_take_le ws (k + 1)
      have hpl := pcs_le (exp (ws.take (k + 1)))
      rw [HE.out] at hle
      have hsum : pcs (exp (ws.take k)) + pcs (expW ws[k]) ≤ 124000 := by omega
      have hlit := HW.out.lit _ (List.getElem_mem hlt)
      have hwle := word_le hlt
      rw [HE.out] at hwle
      have HT := Lib.hid hT
      clear hT hle hpl
      by_cases hpos : 0 ≤ (ws[k]'hlt)
      · have he : expW (ws[k]'hlt) = [(ws[k]'hlt).toNat] := if_pos hpos
        rw [he] at HT hsum
        obtain ⟨g, hg⟩ := Int.eq_ofNat_of_zero_le hpos
        have hg2 : g < 2147483648 := by have := (hlit hpos).2; omega
        have ho : pcs [(ws[k]'hlt).toNat] = pc 31 g := by rw [hg, Int.toNat_natCast, pcs_one]
        rw [ho] at HT hsum
        rw [hg] at c0
        have HOC := Lib.hid fun W => onesCount g W hg2
        have hcv : IntKind.u64.wrap (g : Int) = (g : Int) := wrap_u64_small (by omega)
        clear hlit hwle he hpos ho hg hg2
        generalize pcs (exp (ws.take k)) = t at *
        generalize pc 31 g = q at *
        go_wp2_with fail
        refine (HOC.out _).mono ?_
        rintro e w2 ⟨rfl, rfl⟩
        go_wp2_with fail
        go_roundw
        case rel => exact ⟨k + 1, by omega, by go_num, val_int (by rw [HT.out, Int.natCast_add]), trivial⟩
        case measure => simp [intOf]; omega
      · have hneg : (ws[k]'hlt) < 0 := by omega
        have he : expW (ws[k]'hlt) = List.replicate (fillN (ws[k]'hlt)) (fillP (ws[k]'hlt)) := if_neg hpos
        rw [he, pcs_rep] at HT hsum
        have hwl2 := hwle hneg
        have hl1 : -1000000 ≤ (ws[k]'hlt) := by rcases fill_of hneg with ⟨h, _⟩ | ⟨h, _⟩ <;> omega
        have HD := Lib.hid fun W => decodeFill (ws[k]'hlt) W hneg hl1
        have hnn : decide (0 ≤ (ws[k]'hlt)) = false := by rw [decide_eq_false_iff_not]; exact hpos
        have hm4 : fillN (ws[k]'hlt) ≤ 4000 := by omega
        have hpp : fillP (ws[k]'hlt) = 0 ∨ fillP (ws[k]'hlt) = 2147483647 := by unfold fillP; split <;> simp
        have HNEG := Lib.hid hneg
        clear hlit hwle he hpos hneg hwl2 hl1
        rcases hpp with hp | hp
        all_goals
          rw [hp] at HT hsum HD
          clear hp
        · rw [pc_none] at HT hsum
          generalize (ws[k]'hlt) = x at *
          generalize fillN x = m at *
          generalize pcs (exp (ws.take k)) = t at *
          go_wp2_with fail
          refine (HD.out _).mono ?_
          rintro e w2 ⟨rfl, rfl⟩
          go_wp2_with fail
          go_roundw
          case rel => exact ⟨k + 1, by omega, by go_num, val_int (by rw [HT.out]; omega), trivial⟩
          case measure => simp [intOf]; omega
        · rw [pc_ones] at HT hsum
          generalize (ws[k]'hlt) = x at *
          generalize fillN x = m at *
          generalize pcs (exp (ws.take k)) = t at *
          go_wp2_with fail
          refine (HD.out _).mono ?_
          rintro e w2 ⟨rfl, rfl⟩
          go_wp2_with fail
          go_roundw
          case rel => exact ⟨k + 1, by omega, by go_num, val_int (by rw [HT.out]; omega), trivial⟩
          case measure => simp [intOf]; omega
    · have hkl : k = ws.length := by omega
      subst hkl
      rw [List.take_of_length_le (Nat.le_refl _), HE.out]
      go_wp2_with fail
      go_ret2
      exact ⟨rfl, hb01⟩

end Go.Proofs.YthobibjbpbnhnaaDoor
