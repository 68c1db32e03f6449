/-
  The walk of bitmap.FromIndices.
-/
import Derived.Test.YthobibjbpbnhnaaDoorOnes
namespace Go.Proofs.YthobibjbpbnhnaaDoor
open Go.RowKit

def setBit (gs : List Nat) (i : Nat) : List Nat := gs.set (i / 31) (gs.getD (i / 31) 0 ||| 2 ^ (i % 31))
def fromG (n : Nat) (is : List Nat) : List Nat := is.foldl setBit (List.replicate (gc n) 0)

theorem setBit_get {gs : List Nat} {i : Nat} (h : i / 31 < gs.length) (k : Nat) (g : Nat) (hk : (setBit gs i)[k]? = some g) :
    ∃ g0, gs[k]? = some g0 ∧ ∀ j, j < 31 → g.testBit j = (g0.testBit j || decide (31 * k + j = i)) := by
  unfold setBit at hk
  rw [List.getElem?_set] at hk
  by_cases e : i / 31 = k
  · rw [if_pos e, if_pos (by omega)] at hk
    injection hk with hk
    subst hk e
    refine ⟨gs[i / 31], List.getElem?_eq_getElem h, fun j hj => ?_⟩
    rw [Nat.testBit_or, Nat.testBit_two_pow, List.getD_eq_getElem?_getD, List.getElem?_eq_getElem h]
    have hd : decide (i % 31 = j) = decide (31 * (i / 31) + j = i) := by
      have : (i % 31 = j) ↔ (31 * (i / 31) + j = i) := by omega
      simp only [this]
    rw [hd]
    rfl
  · rw [if_neg e] at hk
    refine ⟨g, hk, fun j hj => ?_⟩
    have : decide (31 * k + j = i) = false := by rw [decide_eq_false_iff_not]; omega
    rw [this, Bool.or_false]

theorem good_zero (n : Nat) : Good n (List.replicate (gc n) 0) := by
  refine ⟨by simp, fun k g hk j hj => ?_⟩
  rw [List.getElem?_replicate] at hk
  split at hk
  · injection hk with hk
    subst hk
    simp at hj
  · cases hk

theorem good_setBit {n : Nat} {gs : List Nat} (h : Good n gs) {i : Nat} (hi : i < n) : Good n (setBit gs i) := by
  have hl : i / 31 < gs.length := by rw [h.len]; unfold gc; omega
  refine ⟨by unfold setBit; rw [List.length_set, h.len], fun k g hk j hj => ?_⟩
  by_cases e : i / 31 = k
  · unfold setBit at hk
    rw [List.getElem?_set, if_pos e, if_pos (by omega)] at hk
    injection hk with hk
    subst hk e
    rw [Nat.testBit_or, Nat.testBit_two_pow, List.getD_eq_getElem?_getD, List.getElem?_eq_getElem hl] at hj
    rcases Bool.or_eq_true_iff.1 hj with hj | hj
    · exact h.bit _ _ (List.getElem?_eq_getElem hl) j hj
    · have := of_decide_eq_true hj
      omega
  · unfold setBit at hk
    rw [List.getElem?_set, if_neg e] at hk
    exact h.bit k g hk j hj

theorem good_fold {n : Nat} : ∀ (is : List Nat) (gs : List Nat), Good n gs → (∀ i ∈ is, i < n) → Good n (is.foldl setBit gs)
  | [], gs, h, _ => h
  | i :: is, gs, h, hi => good_fold is _ (good_setBit h (hi i (by simp))) fun x hx => hi x (by simp [hx])
theorem good_from {n : Nat} {is : List Nat} (h : ∀ i ∈ is, i < n) : Good n (fromG n is) := good_fold is _ (good_zero n) h

/-- Bit j of group k, of the groups made of indices. -/
theorem bit_fold {n : Nat} : ∀ (is : List Nat) (gs : List Nat), Good n gs → (∀ i ∈ is, i < n) → ∀ (k g0 g j : Nat), gs[k]? = some g0 → (is.foldl setBit gs)[k]? = some g → j < 31 → g.testBit j = (g0.testBit j || decide (31 * k + j ∈ is))
  | [], gs, _, _, k, g0, g, j, h0, h1, _ => by
    rw [List.foldl_nil, h0] at h1
    injection h1 with h1
    subst h1
    simp
  | i :: is, gs, h, hi, k, g0, g, j, h0, h1, hj => by
    have hl : i / 31 < gs.length := by rw [h.len]; unfold gc; have := hi i (by simp); omega
    have hkl : k < (setBit gs i).length := by
      unfold setBit
      rw [List.length_set]
      exact (List.getElem?_eq_some_iff.1 h0).1
    obtain ⟨g1, hg1, hb⟩ := setBit_get hl k _ (List.getElem?_eq_getElem hkl)
    rw [h0] at hg1
    injection hg1 with hg1
    subst hg1
    rw [List.foldl_cons] at h1
    rw [bit_fold is _ (good_setBit h (hi i (by simp))) (fun x hx => hi x (by simp [hx])) k _ g j (List.getElem?_eq_getElem hkl) h1 hj, hb j hj, Bool.or_assoc]
    congr 1
    by_cases e : 31 * k + j = i <;> simp [e]

theorem setBit_take {is : List Nat} {gs : List Nat} {k : Nat} (hk : k < is.length) : (is.take (k + 1)).foldl setBit gs = setBit ((is.take k).foldl setBit gs) is[k] := by
  rw [List.take_succ_eq_append_getElem hk, List.foldl_append]
  rfl

set_option maxRecDepth 100000 in
set_option maxHeartbeats 1000000 in
theorem fromIndices (n : Nat) (A : Option Addr) (c : Nat) (is : List Nat) (w : World) (hx : Elems 1 natCs w (· < w.heap.size) A is) (hi : ∀ i ∈ is, i < n) (hl : is.length ≤ 100000) (hn : n ≤ 100000) (hn1 : 1 ≤ n) :
    Calls Tryd.prog 7 #[.int .i64 n, .slice A is.length c] w (BmPost w n (fromG n is)) := by
  have h1 : ¬ ((n : Int) < 0) := by omega
  have h2 : ¬ ((100000 : Int) < (n : Int)) := by omega
  have hgc : gc n = (n + 30) / 31 := rfl
  have hg1 := gc_le hn
  have HGC := Lib.hid fun W => groupCount n W hn
  obtain ⟨Z, hmk, hmo⟩ := make_nats (gc n) hg1
  have HMO := Lib.hid hmo
  have HR := Lib.hid (RInv.first w)
  have HGF : Hid (∀ k, Good n ((is.take k).foldl setBit (List.replicate (gc n) 0))) := Lib.hid fun k => good_fold _ _ (good_zero n) fun i h => hi i (List.mem_of_mem_take h)
  have HI := Lib.hid hi
  have HGE := Lib.hid hgc
  clear hmo hgc hi
  go_enter Tryd.func7, Tryd.ntmps7
  go_wp2_with fail
  refine (HGC.out _).mono ?_
  rintro e w1 ⟨rfl, rfl⟩
  go_wp2_with fail
  go_loopw [21] (fun i wr => ∃ k : Nat, k ≤ is.length ∧ i = .int .i64 k ∧ Nats (w.heap.size + 1) wr (.slice (some ⟨w.heap.size + 1, 0, none⟩) (gc n) (gc n)) ((is.take k).foldl setBit (List.replicate (gc n) 0)) ∧ RInv w wr) (fun i _ => is.length - (intOf i).toNat)
  case atStart =>
    refine ⟨0, by omega, rfl, ?_, HR.out.keep ((Below.refl _ _).alloc (Nat.le_refl _) _) (by rw [size1]; omega)⟩
    have h := HMO.out (w.alloc (.cells #[.int .i64 0, .slice none 0 0] 25)) (w.heap.size + 1) (by rw [size1]; omega)
    rw [size1] at h
    simpa using h
  case round =>
    obtain ⟨k, hk, rfl, hok, hri⟩ := hrel
    have HGK := Lib.hid (HGF.out k)
    by_cases hlt : k < is.length
    · obtain ⟨b, off, rfl, hbs, c0⟩ := (hx.keep (Keeps.of_below hri.below fun _ h => h)).nat hlt
      have HT := Lib.hid (setBit_take (gs := List.replicate (gc n) 0) hlt)
      have hin := HI.out _ (List.getElem_mem hlt)
      generalize is[k] = i at *
      generalize (is.take k).foldl setBit (List.replicate (gc n) 0) = gs at *
      have hgl := HGK.out.len
      have hqg : i / 31 < gs.length := by rw [hgl, HGE.out]; omega
      obtain ⟨g1, c1, e1, hg1', hgw1, pz, zz⟩ := Nats.at_ hok hqg
      injection e1 with e1 e3 e2
      injection e1 with e1
      injection e1 with e1
      subst e1
      have hset := Nats.set hok (i / 31) (gs[i / 31] ||| 2 ^ (i % 31))
      have hsb : gs.set (i / 31) (gs[i / 31] ||| 2 ^ (i % 31)) = setBit gs i := by
        unfold setBit
        rw [List.getD_eq_getElem?_getD, List.getElem?_eq_getElem hqg]
        rfl
      rw [hsb] at hset
      have HSET := Lib.hid hset
      have HRI := Lib.hid hri
      have hp2 : 2 ^ (i % 31) ≤ 2147483647 := by
        have : 2 ^ (i % 31) ≤ 2 ^ 30 := Nat.pow_le_pow_right (by omega) (by omega)
        omega
      have hor := bits_or (HGK.out.le _ (List.getElem_mem hqg)) hp2
      have hr31 : i % 31 < 31 := Nat.mod_lt _ (by omega)
      have hqn : ((i / 31 : Nat) : Int) < (gc n : Int) := by rw [hgl] at hqg; omega
      have hxd : (i : Int).tdiv 31 = ((i / 31 : Nat) : Int) := by rw [Int.tdiv_eq_ediv_of_nonneg (by omega)]; omega
      have hxm : (i : Int).tmod 31 = ((i % 31 : Nat) : Int) := by rw [Int.tmod_eq_emod_of_nonneg (by omega)]; omega
      have hxd2 : (i : Int) / 31 = ((i / 31 : Nat) : Int) := by omega
      have hxm2 : (i : Int) % 31 = ((i % 31 : Nat) : Int) := by omega
      have hx0 : ¬ ((i : Int) < 0) := by omega
      have hx1 : ¬ ((n : Int) ≤ (i : Int)) := by omega
      have hw1 : IntKind.i64.wrap ((2 : Int) ^ (i % 31)) = ((2 ^ (i % 31) : Nat) : Int) := by
        have e2 : ((2 : Int) ^ (i % 31)) = ((2 ^ (i % 31) : Nat) : Int) := by simp
        rw [e2]
        exact Lib.wrap_i64_small _ (Nat.lt_of_le_of_lt hp2 (by omega))
      clear e3 e2 hok hset hri hsb hgl hin hp2
      generalize ((gs[i / 31] ||| 2 ^ (i % 31) : Nat) : Int) = zv at *
      generalize ((2 ^ (i % 31) : Nat) : Int) = pv at *
      generalize ((gs[i / 31] : Nat) : Int) = gv at *
      clear hqg
      generalize i / 31 = q at *
      generalize i % 31 = r at *
      generalize ((i : Nat) : Int) = x at *
      go_wp2_with fail
      go_region
      all_goals (go_wp2_with fail)
      go_roundw
      case rel => exact ⟨k + 1, by omega, by go_num, by rw [HT.out]; exact HSET.out.drew, (HRI.out.set (Nat.le_refl _) _).keep (Below.refl _ _).drew (Nat.le_refl _)⟩
      case measure => simp [intOf]; omega
    · have hkl : k = is.length := by omega
      subst hkl
      rw [List.take_of_length_le (Nat.le_refl _)] at hok HGK
      have HG : Hid (Good n (fromG n is)) := HGK
      have HRI2 := Lib.hid hri
      have hs : Nats (w.heap.size + 1) wr (.slice (some ⟨w.heap.size + 1, 0, none⟩) (gc n) (gc n)) (fromG n is) := hok
      have hel := (hs.elems natLay.len rfl).more (S' := (· < wr.heap.size)) fun j hj => (hs.lt j hj).2
      have HCP0 := compress n (some ⟨w.heap.size + 1, 0, none⟩) (gc n) (fromG n is) _ hel (by rw [HG.out.len]; exact hg1) HG.out.le
      rw [HG.out.len] at HCP0
      have HCP := Lib.hid HCP0
      clear HCP0 hel hs hok hri
      go_wp2_with fail
      have hb6 := HRI2.out.lb
      refine HCP.out.mono ?_
      rintro e w5 ⟨v5, rfl, ho5, hb5⟩
      have HK5 := HRI2.out.keep hb5 HRI2.out.lb
      obtain ⟨A5, m5, c5, rfl, hm6, hb7, hr⟩ := rm_store HRI2.out.lb HK5 HG.out ho5
      have y0 := cell_of_row _ _ 0 _ _ _ HK5.b
      have y1 := cell_of_row _ _ 1 _ _ _ HK5.b
      have x0 := frozen_of_row _ _ 0 _ _ HK5.b
      have x1 := frozen_of_row _ _ 1 _ _ HK5.b
      have HM := Lib.hid hm6
      have HB := Lib.hid hb7
      have HRR := Lib.hid hr
      clear HK5 hm6 hb7 hr
      go_wp2_with fail
      have r0 := cell_of_row _ w.heap.size 0 _ _ _ HRR.out
      have r1 := cell_of_row _ w.heap.size 1 _ _ _ HRR.out
      simp at r0 r1
      refine bodyPost_ret (v := .tuple #[.agg #[.int .i64 n, .slice A5 m5 c5], .int .i64 0]) (by simp [results, Tryd.results7, go_sem, r0, r1]) rfl ?_
      exact ⟨_, rfl, HM.out.more fun k hk => ⟨hk.1, by simpa [World.setCell] using hk.2⟩, HB.out⟩

end Go.Proofs.YthobibjbpbnhnaaDoor
