/-
  The walks of leaf, fill, search, childIndex.
-/
import Derived.Test.YtlgjkhdpinnccaaTs
import Derived.Test.YtlgjkhdpinnccaaTu
import Derived.Test.YtlgjkhdpinnccaaBs
namespace Go.Proofs.Ytlgjkhdpinnccaa
open Go.RowKit Go.Sort

abbrev ptr (a : Nat) : Value := .pointer (some ⟨a, 0, none⟩)

set_option maxRecDepth 100000 in
theorem leafW (a : Nat) (w : World) (A2 : Option Addr) (n2 c2 : Nat) (h2 : w.cell? ⟨a, 2, none⟩ = some (.slice A2 n2 c2)) :
    Calls Try.prog 33 #[ptr a] w fun e w' => e = .returned (.bool (n2 == 0)) ∧ w = w' := by
  have e : (n2 == 0) = ((n2 : Int) == 0) := by
    rcases Nat.eq_zero_or_pos n2 with h | h
    · subst h; rfl
    · rw [beq_false_of_ne (by omega), beq_false_of_ne (by omega)]
  rw [e]
  go_enter Try.func33, Try.ntmps33
  go_wp2_with fail
  go_ret
  exact ⟨rfl, rfl⟩

set_option maxRecDepth 100000 in
theorem fillW (a : Nat) (w : World) (A0 A2 : Option Addr) (n0 c0 n2 c2 : Nat) (h0 : w.cell? ⟨a, 0, none⟩ = some (.slice A0 n0 c0)) (h2 : w.cell? ⟨a, 2, none⟩ = some (.slice A2 n2 c2)) :
    Calls Try.prog 31 #[ptr a] w fun e w' => e = .returned (.int .i64 (if n2 = 0 then n0 else n2 : Nat)) ∧ w = w' := by
  have HL := Lib.hid (leafW a w A2 n2 c2 h2)
  by_cases hn : n2 = 0
  · have hb : (n2 == 0) = true := by simp [hn]
    rw [if_pos hn]
    clear hn
    go_enter Try.func31, Try.ntmps31
    go_wp2_with fail
    refine HL.out.mono ?_
    rintro e w' ⟨rfl, rfl⟩
    go_wp2_with fail
    go_ret
    exact ⟨rfl, rfl⟩
  · have hb : (n2 == 0) = false := by simp [hn]
    rw [if_neg hn]
    clear hn
    go_enter Try.func31, Try.ntmps31
    go_wp2_with fail
    refine HL.out.mono ?_
    rintro e w' ⟨rfl, rfl⟩
    go_wp2_with fail
    go_ret
    exact ⟨rfl, rfl⟩

set_option maxRecDepth 100000 in
theorem searchW (a : Nat) (w : World) (A0 : Option Addr) (c0 : Nat) (xs : List Ent) (B : Option Addr) (d : Nat) (t : Row) (K R : Nat → Prop) (h0 : w.cell? ⟨a, 0, none⟩ = some (.slice A0 xs.length c0))
    (hx : Elems 2 Ent.cs w (· < w.heap.size) A0 xs) (hK : ∀ k, K k → k < w.heap.size) (hR : ∀ k, R k → k < w.heap.size) (hk : ∀ x ∈ xs, KOk K w x.key) (hs : Ord xs) (hy : Elems 3 Val.cs w R B t) (hl : xs.length ≤ 1000) :
    Calls Try.prog 35 #[ptr a, .slice B t.length d] w (BsPost w er xs t) := by
  have HB := Lib.hid (bsEnts A0 c0 xs B d t w K R hx hK hR hk hs hy hl)
  clear hx hK hR hk hs hy
  go_enter Try.func35, Try.ntmps35
  go_wp2_with fail
  refine HB.out.mono ?_
  rintro e w' ⟨i, f, rfl, hA, hb⟩
  have HA := Lib.hid hA
  clear hA
  go_wp2_with fail
  go_ret2
  exact ⟨i, f, rfl, HA.out, hb⟩

set_option maxRecDepth 100000 in
theorem childIdxW (a : Nat) (w : World) (A1 : Option Addr) (c1 : Nat) (ks : List Key) (B : Option Addr) (d : Nat) (t : Row) (K R : Nat → Prop) (h1 : w.cell? ⟨a, 1, none⟩ = some (.slice A1 ks.length c1))
    (hx : Elems 1 Key.cs w (· < w.heap.size) A1 ks) (hK : ∀ k, K k → k < w.heap.size) (hR : ∀ k, R k → k < w.heap.size) (hk : ∀ x ∈ ks, KOk K w x) (hs : ks.Pairwise fun a b => rl a.row b.row) (hy : Elems 3 Val.cs w R B t) (hl : ks.length ≤ 1000) :
    Calls Try.prog 34 #[ptr a, .slice B t.length d] w fun e w' => ∃ j : Nat, e = .returned (.int .i64 j) ∧ Cov ks t j ∧ Below w.heap.size w w' := by
  have HB := Lib.hid (bsKeys A1 c1 ks B d t w K R hx hK hR hk hs hy hl)
  have HS := Lib.hid hs
  clear hx hK hR hk hs hy
  go_enter Try.func34, Try.ntmps34
  go_wp2_with fail
  refine HB.out.mono ?_
  rintro e w' ⟨i, f, rfl, hA, hb⟩
  have hle := hA.le
  have HA := Lib.hid (cov_of HS.out hA)
  clear hA
  cases f
  · go_wp2_with fail
    go_ret
    exact ⟨i, rfl, by simpa using HA.out, hb⟩
  · go_wp2_with fail
    go_ret
    exact ⟨i + 1, ret_int (by omega), by simpa using HA.out, hb⟩
end Go.Proofs.Ytlgjkhdpinnccaa
