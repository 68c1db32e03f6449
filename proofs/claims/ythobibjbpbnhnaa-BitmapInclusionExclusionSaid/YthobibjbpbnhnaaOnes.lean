/-
  The walk of bitmap.Ones.
-/
import Derived.Test.YthobibjbpbnhnaaFrom
namespace Go.Proofs.Ythobibjbpbnhnaa
open Go.RowKit

set_option maxRecDepth 100000 in
set_option maxHeartbeats 1000000 in
theorem ones (n : Nat) (w : World) (hn : n ≤ 100000) (hn1 : 1 ≤ n) :
    Calls Try.prog 7 #[.int .i64 n] w (BmPost w n (onesG n)) := by
  have h1 : ¬ ((n : Int) < 0) := by omega
  have h2 : ¬ ((100000 : Int) < (n : Int)) := by omega
  have hgc : gc n = (n + 30) / 31 := rfl
  have hg1 := gc_le hn
  have HGC := Lib.hid fun W => groupCount n W hn
  have HLM := Lib.hid fun W => lastMask n W hn
  obtain ⟨Z, hmk, hmo⟩ := make_nats (gc n) hg1
  have HMO := Lib.hid hmo
  have HG := Lib.hid (good_ones hn1)
  have HR := Lib.hid (RInv.first w)
  have hm1 : 1 ≤ gc n := by omega
  obtain ⟨q, hq⟩ : ∃ q : List Nat, q = onesG n := ⟨_, rfl⟩
  have HQ : Hid (∀ m : Nat, m = gc n → (List.replicate m 2147483647 ++ List.replicate (gc n - m) 0).set (m - 1) (mask n) = q) := Lib.hid fun m hm => by
    subst hm
    rw [Nat.sub_self, List.replicate_zero, List.append_nil, hq]
    rfl
  have HQL : Hid (q.length = gc n) := Lib.hid (by rw [hq]; simp [onesG])
  rw [← hq] at HG
  have HQQ := Lib.hid hq
  clear hmo hgc hq
  generalize gc n = m at *
  go_enter Try.func7, Try.ntmps7
  go_wp2_with fail
  refine (HGC.out _).mono ?_
  rintro e w1 ⟨rfl, rfl⟩
  go_wp2_with fail
  go_loopw [18] (fun i wr => ∃ k : Nat, k ≤ m ∧ i = .int .i64 k ∧ Nats (w.heap.size + 1) wr (.slice (some ⟨w.heap.size + 1, 0, none⟩) m m) (List.replicate k 2147483647 ++ List.replicate (m - k) 0) ∧ RInv w wr) (fun i _ => m - (intOf i).toNat)
  case atStart =>
    refine ⟨0, by omega, rfl, ?_, HR.out.keep ((Below.refl _ _).alloc (Nat.le_refl _) _) (by rw [size1]; omega)⟩
    have h := HMO.out (w.alloc (.cells #[.int .i64 0, .slice none 0 0] 24)) (w.heap.size + 1) (by rw [size1]; omega)
    rw [size1] at h
    simpa using h
  case round =>
    obtain ⟨k, hk, rfl, hok, hri⟩ := hrel
    by_cases hlt : k < m
    · obtain ⟨g1, c1, e1, hg1', hgw1, pz, zz⟩ := Nats.at_ hok (k := k) (by simp; omega)
      injection e1 with e1 e3 e2
      injection e1 with e1
      injection e1 with e1
      obtain ⟨zo, pzo⟩ : ∃ zo : Value, wr.cell? ⟨g1, k, none⟩ = some zo := ⟨_, pz⟩
      subst e1
      have hset := Nats.set hok k 2147483647
      rw [rep_set _ hlt] at hset
      have HSET := Lib.hid hset
      have HRI := Lib.hid hri
      have hi0 : (0 : Int) ≤ (k : Int) := by omega
      have hi1 : (k : Int) < (m : Int) := by omega
      clear pz e3 e2 hok hset hri
      go_wp2_with fail
      go_roundw
      case rel => exact ⟨k + 1, by omega, by go_num, HSET.out, HRI.out.set (Nat.le_refl _) _⟩
      case measure => simp [intOf]; omega
    · have hkm : k = m := by omega
      subst hkm
      obtain ⟨g1, c1, e1, hg1', hgw1, pz, zz⟩ := Nats.at_ hok (k := k - 1) (by simp; omega)
      injection e1 with e1 e3 e2
      injection e1 with e1
      injection e1 with e1
      obtain ⟨zo, pzo⟩ : ∃ zo : Value, wr.cell? ⟨g1, k - 1, none⟩ = some zo := ⟨_, pz⟩
      subst e1
      have hset := Nats.set hok (k - 1) (mask n)
      have HSET := Lib.hid hset
      have HRI := Lib.hid hri
      have hi0 : (0 : Int) ≤ (k : Int) - 1 := by omega
      have hi1 : (k : Int) - 1 < (k : Int) := by omega
      have hi2 : (1 : Int) ≤ (k : Int) := by omega
      have hgt : decide ((0 : Int) < (k : Int)) = true := by rw [decide_eq_true_iff]; omega
      have hti : ((k : Int) - 1).toNat = k - 1 := by omega
      clear pz e3 e2 hok hset hri
      go_wp2_with fail
      refine (HLM.out _).mono ?_
      rintro e w2 ⟨rfl, rfl⟩
      go_wp2_with fail
      have hs := HSET.out
      rw [HQ.out k rfl] at hs
      have HRI2 := Lib.hid (HRI.out.set (k := k - 1) (Nat.le_refl _) (.int .i64 (mask n)))
      have hel := (hs.elems natLay.len rfl).more (S' := (· < (wr.setCell ⟨w.heap.size + 1, k - 1, none⟩ (.int .i64 (mask n))).heap.size)) fun j hj => (hs.lt j hj).2
      have HCP0 := compress n (some ⟨w.heap.size + 1, 0, none⟩) k q _ hel (by rw [HQL.out]; exact hg1) HG.out.le
      rw [HQL.out] at HCP0
      have HCP := Lib.hid HCP0
      clear HCP0 hel hs
      have hb6 := HRI2.out.lb
      refine HCP.out.mono ?_
      rintro e w5 ⟨v5, rfl, ho5, hb5⟩
      have HK5 := HRI2.out.keep hb5 HRI2.out.lb
      obtain ⟨A5, m5, c5, rfl, hm6, hb7, hr⟩ := rm_store HRI2.out.lb HK5 HG.out ho5
      have y0 := cell_of_row _ _ 0 _ _ _ HK5.b
      have y1 := cell_of_row _ _ 1 _ _ _ HK5.b
      have x0 := frozen_of_row _ _ 0 _ _ HK5.b
      have x1 := frozen_of_row _ _ 1 _ _ HK5.b
      have HM := Lib.hid hm6
      have HB := Lib.hid hb7
      have HRR := Lib.hid hr
      clear HK5 hm6 hb7 hr
      go_wp2_with fail
      have r0 := cell_of_row _ w.heap.size 0 _ _ _ HRR.out
      have r1 := cell_of_row _ w.heap.size 1 _ _ _ HRR.out
      simp at r0 r1
      refine bodyPost_ret (v := .tuple #[.agg #[.int .i64 n, .slice A5 m5 c5], .int .i64 0]) (by simp [results, Try.results7, go_sem, r0, r1]) rfl ?_
      rw [← HQQ.out]
      exact ⟨_, rfl, HM.out.more fun k hk => ⟨hk.1, by simpa [World.setCell] using hk.2⟩, HB.out⟩

end Go.Proofs.Ythobibjbpbnhnaa
