/-
  The small walks of bitmap: groupCount, lastMask, decodeFill, the operations.
-/
import Derived.Test.YthobibjbpbnhnaaDoorRows
import Derived.Test.YthobibjbpbnhnaaDoorBmp
namespace Go.Proofs.YthobibjbpbnhnaaDoor
open Go.RowKit

set_option maxRecDepth 100000 in
set_option maxHeartbeats 400000 in
theorem groupCount (n : Nat) (w : World) (hn : n ≤ 100000) :
    Calls Tryd.prog 13 #[.int .i64 n] w fun e w' => e = .returned (.int .i64 (gc n)) ∧ w = w' := by
  have hp : (0 : Int) ≤ (n : Int) + 31 - 1 := by omega
  go_enter Tryd.func13, Tryd.ntmps13
  go_wp2_with fail
  go_ret
  refine ⟨ret_int ?_, rfl⟩
  unfold gc
  omega

set_option maxRecDepth 100000 in
set_option maxHeartbeats 400000 in
theorem decodeFill (x : Int) (w : World) (hx : x < 0) (hl : -1000000 ≤ x) :
    Calls Tryd.prog 16 #[.int .i64 x] w fun e w' => e = .returned (.tuple #[.int .i64 (fillN x), .int .i64 (fillP x)]) ∧ w = w' := by
  rcases fill_of hx with ⟨h1, h2⟩ | ⟨h1, h2⟩
  · rw [h2]
    generalize fillN x = m at *
    subst h1
    have e1 : (-2 * (m : Int)).tmod 2 = 0 := by rw [Int.tmod_eq_emod]; split <;> omega
    have e2 : (-(-2 * (m : Int))).tdiv 2 = (m : Int) := by rw [Int.tdiv_eq_ediv_of_nonneg (by omega)]; omega
    go_enter Tryd.func16, Tryd.ntmps16
    go_wp2_with fail
    go_ret2
    exact ⟨rfl, rfl⟩
  · rw [h2]
    generalize fillN x = m at *
    subst h1
    have e1 : (-2 * (m : Int) - 1).tmod 2 = -1 := by rw [Int.tmod_eq_emod]; split <;> omega
    have e2 : (-(-2 * (m : Int) - 1) - 1).tdiv 2 = (m : Int) := by rw [Int.tdiv_eq_ediv_of_nonneg (by omega)]; omega
    go_enter Tryd.func16, Tryd.ntmps16
    go_wp2_with fail
    go_ret2
    exact ⟨rfl, rfl⟩

set_option maxRecDepth 100000 in
set_option maxHeartbeats 400000 in
theorem lastMask (n : Nat) (w : World) (hn : n ≤ 100000) :
    Calls Tryd.prog 17 #[.int .i64 n] w fun e w' => e = .returned (.int .i64 (mask n)) ∧ w = w' := by
  have e1 : (n : Int).tmod 31 = ((n % 31 : Nat) : Int) := by rw [Int.tmod_eq_emod_of_nonneg (by omega)]; omega
  by_cases h0 : n % 31 = 0
  · have e2 : (n : Int).tmod 31 = 0 := by omega
    have hm : mask n = 2147483647 := if_pos h0
    rw [hm]
    clear e1
    go_enter Tryd.func17, Tryd.ntmps17
    go_wp2_with fail
    go_ret
    exact ⟨rfl, rfl⟩
  · have hm : mask n = 2 ^ (n % 31) - 1 := if_neg h0
    rw [hm]
    have hlt : n % 31 < 31 := Nat.mod_lt _ (by omega)
    generalize n % 31 = m at *
    have h2 : (0 : Int) ≤ (m : Int) := by omega
    have h3 : ((m : Int) == 0) = false := by rw [beq_eq_false_iff_ne]; omega
    have h4 : 2 ^ m ≤ 2 ^ 30 := Nat.pow_le_pow_right (by omega) (by omega)
    have h5 : 0 < 2 ^ m := Nat.two_pow_pos m
    go_enter Tryd.func17, Tryd.ntmps17
    go_wp2_with fail
    go_ret
    refine ⟨ret_int ?_, rfl⟩
    have e2 : ((2 : Int) ^ m) = ((2 ^ m : Nat) : Int) := by simp
    rw [e2]
    generalize 2 ^ m = q at *
    unfold wrap64
    omega

theorem bits_and {a b : Nat} (ha : a ≤ 2147483647) (hb : b ≤ 2147483647) : bits .and .i64 (a : Int) (b : Int) = ((a &&& b : Nat) : Int) :=
  (bits_nat .i64 31 (by decide) (fun n h0 h1 => by rw [IntKind.wrap_i64]; omega) a b (by omega) (by omega)).1
theorem bits_or {a b : Nat} (ha : a ≤ 2147483647) (hb : b ≤ 2147483647) : bits .or .i64 (a : Int) (b : Int) = ((a ||| b : Nat) : Int) :=
  (bits_nat .i64 31 (by decide) (fun n h0 h1 => by rw [IntKind.wrap_i64]; omega) a b (by omega) (by omega)).2
theorem andn_le {a b : Nat} (ha : a ≤ 2147483647) : andn a b ≤ 2147483647 := lt_of_bits fun j hj => by
  rw [testBit_andn] at hj
  have h1 : a.testBit j = true := by
    cases h : a.testBit j with
    | true => rfl
    | false => rw [h] at hj; simp at hj
  have : a &&& 2147483647 = a := by
    have := Nat.and_two_pow_sub_one_of_lt_two_pow (n := 31) (x := a) (by omega)
    simpa using this
  rw [← this, Nat.testBit_and, testBit_ones31] at h1
  simp at h1
  exact h1.2
theorem bits_andn {a b : Nat} (ha : a ≤ 2147483647) : bits .andNot .i64 (a : Int) (b : Int) = ((andn a b : Nat) : Int) := by
  show IntKind.i64.wrap ((BitVec.ofInt 64 (a : Int) &&& ~~~BitVec.ofInt 64 (b : Int)).toNat : Int) = _
  have e : (BitVec.ofInt 64 (a : Int) &&& ~~~BitVec.ofInt 64 (b : Int)).toNat = andn a b := by
    apply Nat.eq_of_testBit_eq
    intro j
    rw [BitVec.ofInt_natCast, BitVec.ofInt_natCast, BitVec.testBit_toNat, BitVec.getLsbD_and, BitVec.getLsbD_not, BitVec.getLsbD_ofNat, BitVec.getLsbD_ofNat, testBit_andn]
    by_cases hj : j < 64
    · simp [hj]
    · have : a.testBit j = false := Nat.testBit_lt_two_pow (Nat.lt_of_lt_of_le (by omega : a < 2 ^ 31) (Nat.pow_le_pow_right (by omega) (by omega)))
      simp [hj, this]
  rw [e]
  exact Lib.wrap_i64_small _ (by have := andn_le (b := b) ha; omega)

theorem or_le {a b : Nat} (ha : a ≤ 2147483647) (hb : b ≤ 2147483647) : a ||| b ≤ 2147483647 := by
  have := Nat.or_lt_two_pow (n := 31) (x := a) (y := b) (by omega) (by omega)
  omega
theorem and_le {a b : Nat} (ha : a ≤ 2147483647) : a &&& b ≤ 2147483647 := Nat.le_trans Nat.and_le_left ha

theorem ent_of {P : Program} {f : FuncId} {fn : Func} {c : Code} (hf : P.funcs[f]? = some fn) (hname : (fn.name == "runtime.NumGoroutine") = false) (hb : fn.body = some c) (args : Array Value) (w : World) : (callFunc f args).run P w = .ok (.enter f args) w := by
  have h1 : fn.name ≠ "runtime.NumGoroutine" := by simpa using hname
  simp [callFunc, hf, h1, hb, mark]

/-- An operation on groups, as combine asks for it. -/
structure Opn (f : FuncId) (op : Nat → Nat → Nat) : Prop where
  run : ∀ (a b : Nat) (w : World), a ≤ 2147483647 → b ≤ 2147483647 → Calls Tryd.prog f #[.int .i64 a, .int .i64 b] w fun e w' => e = .returned (.int .i64 (op a b)) ∧ w = w'
  le : ∀ a b, a ≤ 2147483647 → b ≤ 2147483647 → op a b ≤ 2147483647
  ent : ∀ (args : Array Value) (w : World), (callFunc f args).run Tryd.prog w = .ok (.enter f args) w

end Go.Proofs.YthobibjbpbnhnaaDoor
