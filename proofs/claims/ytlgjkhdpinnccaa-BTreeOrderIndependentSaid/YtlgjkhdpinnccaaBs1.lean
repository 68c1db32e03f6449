/-
  The walk of the law BTreeIsShallow.
-/
import Derived.Test.YtlgjkhdpinnccaaBl
import Derived.Test.YtlgjkhdpinnccaaTs2
namespace Go.Proofs.Ytlgjkhdpinnccaa
open Go.RowKit Go.Sort

theorem insP_pos (p : PE) (ps : List PE) : 0 < (insP p ps).length := by
  cases ps with
  | nil => exact Nat.one_pos
  | cons x xs =>
    unfold insP
    split
    · simp
    · split <;> simp
theorem bld_pos (xs : List Int) {i : Nat} (h : 0 < i) : 0 < (bld xs i).length := by
  cases i with
  | zero => omega
  | succ i => exact insP_pos _ _

theorem oper_wp_mul {P : Program} {o : Oper} {a : Act} {w : World} {K : Act → World → Prop} {Q : Exit → Act → World → Prop} {t1 t2 : TypeId} {x y : Operand} (ho : o.op = .binOp .mul t1 x y t2) {p q r : Int} (hx : a.eval x = .int .i64 p) (hy : a.eval y = .int .i64 q)
    (hr : IntKind.i64.wrap (p * q) = r) (h : K (a.put o.dst (.int .i64 r)) w) : o.wp P a w K Q := by
  unfold Oper.wp
  simp only [execOp, ho, hx, hy]
  simp [go_sem, binOp, hr]
  exact h

set_option maxRecDepth 100000 in
set_option maxHeartbeats 4000000 in
theorem shallow_law (or : Int) (A : Option Addr) (c : Nat) (xs : List Int) (w : World) (hor : I64 or) (hx : Elems 1 intCs w (· < w.heap.size) A xs) (_hl : xs.length ≤ c) (_hcm : c ≤ maxLen) (hok : ∀ x ∈ xs, I64 x) (hsz : xs.length * 8 ≤ reachBytes) :
    Calls Try.prog 4 #[.int .i64 or, .slice A xs.length c] w fun e w' => e = .returned (.bool true) ∧ Below w.heap.size w w' := by
  unfold reachBytes at hsz
  have H1 : Hid ((([3] : List Int).length + xs.length) * 8 ≤ 140737488355328) := Lib.hid (by simp; omega)
  have H2 : Hid (([3] : List Int).length + xs.length ≤ maxLen) := Lib.hid (by unfold maxLen; simp; omega)
  have HX := Lib.hid (hx.keep (w' := w.alloc (.cells #[.int .i64 3] 3)) fun k hk => Below.heap_alloc _ _ _ hk)
  have HO := Lib.hid (one_own w 3)
  have hB : w.heap.size ≤ (w.alloc (.cells #[.int .i64 3] 3)).heap.size := by simp
  have HKK : Hid (∀ n ∈ [3] ++ xs, I64 n) := Lib.hid fun n hn => by
    rcases List.mem_append.1 hn with h | h
    · simp at h; subst h; unfold I64; omega
    · exact hok n h
  have HM := Lib.hid (modW or 14 w hor (by omega) (by omega))
  have hmd := md_lt (k := or) (n := 14) (by omega)
  generalize md or 14 = r at *
  have hr14 : (r : Int) ≤ 13 := by omega
  have hmr : md (r : Int) 14 = r := by unfold md; rw [if_neg (by omega)]; omega
  have HMR := Lib.hid hmr
  have HR : Hid (I64 (r : Int)) := Lib.hid (by unfold I64; omega)
  have e3 : (3 : Int) + (r : Int) - 3 = (r : Int) := by omega
  clear hor hx hok hsz hmr
  go_enter Try.func4, Try.ntmps4
  go_wp2_with fail
  refine HM.out.mono ?_
  rintro e w' ⟨rfl, rfl⟩
  go_wp2_with (at_builtin; refine wpList_app rfl (.tmp 16) (.tmp 17) _ _ rfl rfl rfl (run_pushs elem_ints intLay _ (w.alloc (.cells #[.int .i64 3] 3)) _ [3] HO.out HX.out rfl H1.out H2.out hB) ?_; rintro v2 w2 ⟨ho2, hx2⟩; obtain ⟨A2, m2, c2, rfl, hm2⟩ := ho2.form')
  have hb2 : Below w.heap.size w w2 := ((Below.refl _ _).alloc (Nat.le_refl _) _).trans (hx2.below (base := w.heap.size) hB (fun g hg => Nat.le_of_eq (Option.some.inj hg)))
  have hcap : ([3] ++ xs).length ≤ c2 ∧ c2 ≤ maxLen := by
    obtain ⟨A3, c3, hv, h1, h2⟩ := ho2.form
    injection hv with _ _ h3
    rw [h3]
    exact ⟨h1, h2⟩
  have HT0 := treeOfW r A2 c2 ([3] ++ xs) w2 HR.out ((ho2.elems intLay.len rfl).more fun k hk => (ho2.lt k hk).2) hcap.1 hcap.2 HKK.out
  rw [hm2] at HT0
  have HT := Lib.hid HT0
  have HB2 := Lib.hid hb2
  clear HT0 hcap hb2 ho2 hx2 hm2
  refine HT.out.mono ?_
  rintro e w3 ⟨m, o, tb, hO, ho3, rfl, hT3, hb3⟩
  rw [HMR.out] at ho3
  have HO3 := Lib.hid hO
  have hlen := bld_len ([3] ++ xs) (min ([3] ++ xs).length 200)
  have hlen2 : (bld ([3] ++ xs) (min ([3] ++ xs).length 200)).length ≤ 200 := by omega
  have hpos := bld_pos ([3] ++ xs) (i := min ([3] ++ xs).length 200) (by simp; omega)
  generalize bld ([3] ++ xs) (min ([3] ++ xs).length 200) = ps at *
  have HST := Lib.hid (treeStatsW hO w3 hT3 (by omega))
  have HB3 := Lib.hid (HB2.out.trans (hb3.mono HB2.out.size))
  have hme := hO.eq
  have hml := hO.lo
  clear hO hT3 hb3 hlen HT
  generalize ps.length = n at *
  go_wp2_with fail
  refine HST.out.mono ?_
  rintro e w4 ⟨d, x, y, rfl, hsz, hb4⟩
  have HB4 : Hid (Below w.heap.size w (w4.alloc (.cells (stC n (d + 1) (d + 1) x y) 37))) := Lib.hid ((HB3.out.trans (hb4.mono HB3.out.size)).alloc (Nat.le_trans HB3.out.size hb4.size) _)
  have l1 := heap_alloc_new w4 (.cells (stC n (d + 1) (d + 1) x y) 37)
  have hdiv : (3 + (r : Int) + 1) / 2 = (m : Int) := by omega
  have HHZ := Lib.hid hsz
  clear hb4 HST hsz
  go_upto_region 6 with fail
  obtain ⟨w5, hw5⟩ : ∃ w5, w5 = w4.alloc (.cells (stC n (d + 1) (d + 1) x y) 37) := ⟨_, rfl⟩
  rw [← hw5] at l1 HB4 ⊢
  have a0 := cell_of_row _ _ 0 _ _ _ l1
  have a1 := cell_of_row _ _ 1 _ _ _ l1
  have a2 := cell_of_row _ _ 2 _ _ _ l1
  simp only [List.getElem?_toArray, List.getElem?_cons_succ, List.getElem?_cons_zero] at a0 a1 a2
  clear hw5 l1
  generalize w4.heap.size = B at *
  go_wp2_with fail
  go_loopw [8, 9] (fun v8 v9 wr => ∃ q z : Nat, v8 = .int .i64 (q : Int) ∧ v9 = .int .i64 (z : Int) ∧ ((d = 0 ∧ q = 2 ∧ z = 1) ∨ (0 < d ∧ 2 ≤ z ∧ z ≤ d + 1 ∧ q * m ^ (z - 2) = 2 * m ^ (d - 1))) ∧ w5 = wr) (fun _ v9 _ => (intOf v9).toNat)
  case atStart =>
    refine ⟨2, d + 1, rfl, by go_num, ?_, rfl⟩
    rcases Nat.eq_zero_or_pos d with h | h
    · exact .inl ⟨h, rfl, by omega⟩
    · exact .inr ⟨h, by omega, by omega, by rw [show d + 1 - 2 = d - 1 from by omega]⟩
  case round =>
    obtain ⟨q, z, rfl, rfl, hc, rfl⟩ := hrel
    by_cases hz : 2 < z
    · obtain ⟨p1, p2, p3, p4⟩ : 0 < d ∧ 2 ≤ z ∧ z ≤ d + 1 ∧ q * m ^ (z - 2) = 2 * m ^ (d - 1) := by
        rcases hc with ⟨h1, h2, h3⟩ | h
        · omega
        · exact h
      obtain ⟨qm, hqm⟩ : ∃ qm, qm = q * m := ⟨_, rfl⟩
      have hq2 : qm * m ^ (z - 1 - 2) = 2 * m ^ (d - 1) := by
        rw [← p4, hqm, Nat.mul_assoc, show z - 2 = (z - 1 - 2) + 1 from by omega, Nat.pow_succ, Nat.mul_comm m]
      have hqb : qm ≤ 200 := by
        have h1 : 1 ≤ m ^ (z - 1 - 2) := Nat.one_le_pow _ _ (by omega)
        have h2 : qm * 1 ≤ qm * m ^ (z - 1 - 2) := Nat.mul_le_mul_left _ h1
        have h3 : m ^ (d - 1) ≤ m ^ d := Nat.pow_le_pow_right (by omega) (by omega)
        rcases HHZ.out with h | h
        · omega
        · omega
      have hmul : IntKind.i64.wrap ((q : Int) * ((3 + (r : Int) + 1) / 2)) = (qm : Int) := by
        rw [hdiv, show (q : Int) * (m : Int) = (qm : Int) from by rw [hqm]; simp, IntKind.wrap_i64]
        omega
      have hz2 : (2 : Int) < (z : Int) := by omega
      obtain ⟨z1, hz1⟩ : ∃ z1, z1 = z - 1 := ⟨_, rfl⟩
      have hz3 : (z : Int) - 1 = (z1 : Int) := by omega
      have hzb : z ≤ 300 := by
        rcases HHZ.out with h | h
        · omega
        · have := pow_gt d (m := m) (by omega); omega
      have hz1b : z1 < z ∧ 2 ≤ z1 ∧ z1 ≤ d + 1 := by omega
      rw [← hz1] at hq2
      have HQ2 := Lib.hid hq2
      have HMUL := Lib.hid hmul
      clear hqm hq2 hc p4 hmul hz1
      go_wp2_with fail
      refine oper_wp_mul rfl rfl rfl HMUL.out ?_
      simp only [Act.put, List.setIfInBounds_toArray, List.set_cons_succ, List.set_cons_zero]
      go_wp2_with fail
      go_roundw
      case rel => exact ⟨qm, z1, rfl, by go_num, .inr ⟨p1, hz1b.2.1, hz1b.2.2, HQ2.out⟩, by trivial⟩
      case measure => simp [intOf]; omega
    · have hz2 : ¬ ((2 : Int) < (z : Int)) := by omega
      have hle : d = 0 ∨ q ≤ n + 1 := by
        rcases hc with ⟨h, -, -⟩ | ⟨h1, h2, h3, h4⟩
        · exact .inl h
        · right
          rw [show z - 2 = 0 from by omega, Nat.pow_zero, Nat.mul_one] at h4
          have h5 : m ^ (d - 1) ≤ m ^ d := Nat.pow_le_pow_right (by omega) (by omega)
          rcases HHZ.out with h | h <;> omega
      have hn0 : (0 : Int) < (n : Int) := by omega
      have hn2 : (n : Int) ≤ 200 := by omega
      clear hc
      rcases Nat.eq_zero_or_pos d with h | h
      · have hd1 : (d : Int) + 1 = 1 := by omega
        go_wp2_with fail
        go_ret
        exact ⟨by simp, HB4.out⟩
      · have hd1 : ¬ ((d : Int) + 1 = 1) := by omega
        have hq : (q : Int) ≤ (n : Int) + 1 := by omega
        go_wp2_with fail
        go_ret
        exact ⟨by simp, HB4.out⟩
end Go.Proofs.Ytlgjkhdpinnccaa
