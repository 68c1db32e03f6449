/-
  The encoding of rows as plain functions on lists of bytes. No program in sight.
  The walks of encoding.appendUvarint, appendRow, EncodeRow.
  The walk of encoding.appendRow.
  The walk of encoding.EncodeRow.
  The plain law of heap files: a list of pages, and the pairs of the tree. No program in sight.
  The walk of slottedpage.Update with a record of any length.
-/
import Derived.Test.YtjdcnkbkbcfhfaaHm04
import Derived.Test.YtjdcnkbkbcfhfaaHm01
import Derived.Test.YtjdcnkbkbcfhfaaHm09
import Derived.Deep.RegionHeld3
import Derived.Deep.DrawnRows
import Derived.Test.YtjdcnkbkbcfhfaaHm02
import Derived.Test.YtjdcnkbkbcfhfaaHm03
namespace Go.Proofs.Ytjdcnkbkbcfhfaa

/-- The unsigned varint of n. -/
def encU (n : Nat) : List UInt8 := if n < 128 then [UInt8.ofNat n] else UInt8.ofNat (n % 128 + 128) :: encU (n / 128)
termination_by n
decreasing_by omega

theorem encU_lo {n : Nat} (h : n < 128) : encU n = [UInt8.ofNat n] := by rw [encU, if_pos h]
theorem encU_hi {n : Nat} (h : 128 ≤ n) : encU n = UInt8.ofNat (n % 128 + 128) :: encU (n / 128) := by rw [encU, if_neg (by omega)]

theorem encU_len : ∀ (f n : Nat), n < 128 ^ (f + 1) → (encU n).length ≤ f + 1
  | f, n, h => by
    by_cases hn : n < 128
    · rw [encU_lo hn]; simp
    · cases f with
      | zero => simp at h; omega
      | succ f =>
        rw [encU_hi (by omega)]
        have := encU_len f (n / 128) (by rw [Nat.pow_succ] at h; omega)
        simp
        omega
theorem encU_len10 {n : Nat} (h : IsU64 n) : (encU n).length ≤ 10 := encU_len 9 n (by unfold IsU64 at h; omega)
theorem encU_pos (n : Nat) : 0 < (encU n).length := by
  by_cases hn : n < 128
  · rw [encU_lo hn]; simp
  · rw [encU_hi (by omega)]; simp

/-- The zigzag form. -/
def zig (i : Int) : Nat := if 0 ≤ i then (2 * i).toNat else (-2 * i - 1).toNat

/-- What follows the kind's byte. -/
def encP (v : Val) : List UInt8 :=
  if v.kind = 1 then encU (zig v.int) else if v.kind = 2 then [UInt8.ofNat v.int.toNat] else if v.kind = 3 then UInt8.ofNat v.text.size :: v.text.data.toList else []
def encV (v : Val) : List UInt8 := UInt8.ofNat v.kind.toNat :: encP v
def encR (r : List Val) : List UInt8 := UInt8.ofNat r.length :: r.flatMap encV

/-- What a valid value is. -/
theorem valid_cases {v : Val} (h : v.err = 0) :
    (v.kind = 0 ∧ v.int = 0 ∧ v.text.toList.isEmpty = true) ∨ (v.kind = 1 ∧ -1000000000000 ≤ v.int ∧ v.int ≤ 1000000000000 ∧ v.text.toList.isEmpty = true) ∨
    (v.kind = 2 ∧ (v.int = 0 ∨ v.int = 1) ∧ v.text.toList.isEmpty = true) ∨ (v.kind = 3 ∧ v.int = 0 ∧ v.text.size ≤ 24) := by
  unfold Val.err vErr at h
  by_cases h0 : v.kind = 0
  · rw [if_pos h0] at h
    left
    by_cases hc : v.int = 0 ∧ v.text.toList.isEmpty = true
    · exact ⟨h0, hc.1, hc.2⟩
    · rw [if_neg hc] at h; omega
  rw [if_neg h0] at h
  by_cases h12 : v.kind = 1 ∨ v.kind = 2
  · rw [if_pos h12] at h
    by_cases he : v.text.toList.isEmpty = false
    · rw [if_pos he] at h; omega
    · rw [if_neg he] at h
      have he' : v.text.toList.isEmpty = true := by simpa using he
      by_cases hc : (v.kind = 2 ∧ v.int ≠ 0 ∧ v.int ≠ 1) ∨ v.int < -1000000000000 ∨ 1000000000000 < v.int
      · rw [if_pos hc] at h; omega
      · right
        rcases h12 with h1 | h2
        · left; exact ⟨h1, by omega, by omega, he'⟩
        · right; left; exact ⟨h2, by omega, he'⟩
  rw [if_neg h12] at h
  by_cases h3 : v.kind = 3
  · rw [if_pos h3] at h
    by_cases hn : v.int ≠ 0
    · rw [if_pos hn] at h; omega
    · rw [if_neg hn] at h
      by_cases hs : 24 < v.text.size
      · rw [if_pos hs] at h; omega
      · right; right; right; exact ⟨h3, by omega, by omega⟩
  · rw [if_neg h3] at h; omega

theorem zig_u64 {i : Int} (h1 : -1000000000000 ≤ i) (h2 : i ≤ 1000000000000) : IsU64 (zig i) := by
  unfold IsU64 zig
  split <;> omega

theorem xor_ones (a : Nat) (h : a < 18446744073709551616) : a ^^^ 18446744073709551615 = 18446744073709551615 - a := by
  have h1 : (BitVec.ofNat 64 a ^^^ BitVec.allOnes 64).toNat = 18446744073709551615 - a := by
    rw [BitVec.xor_allOnes, BitVec.toNat_not, BitVec.toNat_ofNat]
    omega
  rw [BitVec.toNat_xor, BitVec.toNat_ofNat, BitVec.toNat_allOnes, Nat.mod_eq_of_lt h] at h1
  exact h1

/-- What the code computes is the zigzag form. -/
theorem zig_walk (n : Int) (h1 : -1000000000000 ≤ n) (h2 : n ≤ 1000000000000) :
    bits .xor .u64 (IntKind.u64.wrap (IntKind.u64.wrap n * 2)) (IntKind.u64.wrap (n / 9223372036854775808)) = (zig n : Int) := by
  by_cases h0 : 0 ≤ n
  · have e1 : IntKind.u64.wrap (IntKind.u64.wrap n * 2) = ((2 * n).toNat : Int) := by simp only [IntKind.wrap_u64]; omega
    have e2 : IntKind.u64.wrap (n / 9223372036854775808) = ((0 : Nat) : Int) := by simp only [IntKind.wrap_u64]; omega
    rw [e1, e2, u64_xor_nat _ _ (by omega) (by omega), Nat.xor_zero]
    unfold zig
    rw [if_pos h0]
  · have e1 : IntKind.u64.wrap (IntKind.u64.wrap n * 2) = ((18446744073709551616 + 2 * n).toNat : Int) := by simp only [IntKind.wrap_u64]; omega
    have e2 : IntKind.u64.wrap (n / 9223372036854775808) = ((18446744073709551615 : Nat) : Int) := by simp only [IntKind.wrap_u64]; omega
    rw [e1, e2, u64_xor_nat _ _ (by omega) (by omega), xor_ones _ (by omega)]
    unfold zig
    rw [if_neg h0]
    omega

theorem encV_len {v : Val} (h : v.err = 0) : (encV v).length ≤ 26 := by
  rcases valid_cases h with ⟨hk, _⟩ | ⟨hk, h1, h2, _⟩ | ⟨hk, _⟩ | ⟨hk, _, hs⟩
  · simp [encV, encP, hk]
  · have := encU_len10 (zig_u64 h1 h2)
    simp [encV, encP, hk]; omega
  · simp [encV, encP, hk]
  · simp only [encV, encP, hk]
    simp
    have : v.text.data.size = v.text.size := rfl
    omega

theorem encVs_len {r : List Val} (h : ∀ v ∈ r, v.err = 0) : (r.flatMap encV).length ≤ 26 * r.length := by
  induction r with
  | nil => simp
  | cons v r ih =>
    have h1 := encV_len (h v (by simp))
    have h2 := ih fun x hx => h x (by simp [hx])
    rw [List.flatMap_cons, List.length_append, List.length_cons]
    omega

theorem encR_len {r : List Val} (h : rErr r = 0) : (encR r).length ≤ 313 := by
  obtain ⟨h1, h2⟩ := rErr_zero h
  have := encVs_len h2
  rw [encR, List.length_cons]
  omega

end Go.Proofs.Ytjdcnkbkbcfhfaa

namespace Go.Proofs.Ytjdcnkbkbcfhfaa
open Go.RowKit

theorem elem_u8 : ElemT Try.prog 64 5 1 1 := ⟨Try.underlying64, by
  have h : (Try.prog.info? 5).map (fun i => (i.zero, i.size, i.bytes)) = some (some (.int .u8 0), 1, 1) := by kernel_rfl
  obtain ⟨i0, hi, hz0, hz1, hz2⟩ := info_parts h
  exact ⟨i0, _, hi, hz0, hz1, hz2, rfl⟩, by omega⟩

/-- A slice of bytes of the call's own. -/
abbrev Buf (base : Nat) (w : World) (v : Value) (bs : List UInt8) : Prop := Own 1 byteCs 5 base w v bs

theorem byte_or (k : Nat) : (#[Value.int .u8 (bits .or .u8 ((k : Int) % 256) 128)] : Array Value).toList = byteCs (UInt8.ofNat (k % 128 + 128)) := by
  have e : bits .or .u8 ((k : Int) % 256) 128 = ((k % 128 + 128 : Nat) : Int) := by
    have h := u8_or_nat (k % 256) 128 (by omega) (by omega)
    have e1 : ((k % 256 : Nat) : Int) = (k : Int) % 256 := by omega
    rw [← e1]
    refine h.trans ?_
    have h2 : ∀ a, a < 256 → a ||| 128 = a % 128 + 128 := by decide +kernel
    have : (k % 256) ||| 128 = k % 128 + 128 := by rw [h2 _ (by omega)]; omega
    rw [this]
  rw [e]
  simp [byteCs]
  omega
theorem byte_lo (k : Nat) (h : k < 128) : (#[Value.int .u8 (k : Int)] : Array Value).toList = byteCs (UInt8.ofNat k) := by
  simp [byteCs]
  omega

set_option maxRecDepth 100000 in
set_option maxHeartbeats 400000 in
theorem appendUvarint (base : Nat) (v : Value) (xs : List UInt8) (m : Nat) (hm : IsU64 m) (w : World) (hown : Buf base w v xs) (hB : base ≤ w.heap.size) (hs : Small (xs.length + (encU m).length)) :
    Calls Try.prog 59 #[v, .int .u64 m] w fun e w' => ∃ v', e = .returned v' ∧ Buf base w' v' (xs ++ encU m) ∧ Ext w v w' v' := by
  go_enter Try.func59, Try.ntmps59
  go_wp2
  go_loopw [0, 1] (fun dst n wr => ∃ (k : Nat) (ys : List UInt8), IsU64 k ∧ n = .int .u64 k ∧ Buf base wr dst ys ∧ ys ++ encU k = xs ++ encU m ∧ Ext w v wr dst) (fun _ n _ => (intOf n).toNat)
  case atStart => exact ⟨m, xs, hm, rfl, hown, rfl, Ext.refl _ _⟩
  case round =>
    obtain ⟨k, ys, hk, rfl, ho, he, hx⟩ := hrel
    have hBr : base ≤ wr.heap.size := Nat.le_trans hB hx.size
    have HE := Lib.hid he
    clear he
    have hp := encU_pos k
    have hsy : Small (ys.length + 1) := hs.le (by have := congrArg List.length HE.out; simp only [List.length_append] at this; omega)
    by_cases hlt : 128 ≤ k
    · have HU := Lib.hid (encU_hi hlt)
      clear hp
      go_wp2_with (at_builtin; refine wpList_app rfl (.tmp 7) (.tmp 11) _ _ rfl rfl rfl (run_push elem_u8 byteLay _ wr u0 ys (UInt8.ofNat (k % 128 + 128)) _ ho (byte_or k) hsy.bytes hsy.maxLen hBr (by simp)) ?_; rintro v1 w1 ⟨ho1, hx1⟩)
      go_roundw
      case rel => exact ⟨k / 128, _, hk.le (Nat.div_le_self _ _), val_int (by omega), ho1, by rw [← HE.out, HU.out]; simp, hx.trans hx1⟩
      case measure => simp [intOf]; omega
    · have HU := Lib.hid (encU_lo (n := k) (by omega))
      clear hp
      go_wp2_with (at_builtin; refine wpList_app rfl (.tmp 15) (.tmp 18) _ _ rfl rfl rfl (run_push elem_u8 byteLay _ wr u0 ys (UInt8.ofNat k) _ ho (byte_lo k (by omega)) hsy.bytes hsy.maxLen hBr (by simp)) ?_; rintro v1 w1 ⟨ho1, hx1⟩)
      go_ret
      exact ⟨_, rfl, by rw [← HE.out, HU.out]; exact ho1, hx.trans hx1⟩

end Go.Proofs.Ytjdcnkbkbcfhfaa

namespace Go.Proofs.Ytjdcnkbkbcfhfaa
open Go.RowKit

theorem info_u8 : (Try.prog.info? 5).map (fun i => (i.zero, i.size, i.bytes)) = some (some (.int .u8 0), 1, 1) := by kernel_rfl

theorem byte_0 : (#[Value.int .u8 0] : Array Value).toList = byteCs 0 := rfl
theorem byte_1 : (#[Value.int .u8 1] : Array Value).toList = byteCs 1 := rfl
theorem byte_2 : (#[Value.int .u8 2] : Array Value).toList = byteCs 2 := rfl
theorem byte_3 : (#[Value.int .u8 3] : Array Value).toList = byteCs 3 := rfl

set_option maxRecDepth 100000 in
set_option maxHeartbeats 400000 in
theorem appendRow (base : Nat) (v : Value) (xs : List UInt8) (A : Option Addr) (c : Nat) (r : List Val) (w : World) (S : Nat → Prop)
    (hown : Buf base w v xs) (hB : base ≤ w.heap.size) (hr : Elems 3 Val.cs w S A r) (hS : ∀ k, S k → k < w.heap.size ∧ some k ≠ v.ownBlock) (hv : rErr r = 0) (hs : Small (xs.length + (encR r).length)) :
    Calls Try.prog 36 #[v, .slice A r.length c] w fun e w' => ∃ v', e = .returned v' ∧ Buf base w' v' (xs ++ encR r) ∧ Ext w v w' v' := by
  obtain ⟨hl12, hval⟩ := rErr_zero hv
  have hs1 : Small (xs.length + 1) := hs.le (by simp only [encR, List.length_cons]; omega)
  have HS := Lib.hid hs
  have HV := Lib.hid hval
  clear hs hval hv
  go_enter Try.func36, Try.ntmps36
  go_wp2_with (at_builtin; (refine wpList_app rfl (.tmp 7) (.tmp 11) _ _ rfl rfl rfl (run_push elem_u8 byteLay _ w v xs (UInt8.ofNat r.length) _ hown (byte_lo _ (by omega)) hs1.bytes hs1.maxLen hB rfl) ?_; rintro v1 w1 ⟨ho1, hx1⟩))
  go_loopw [0, 15] (fun dst i wr => ∃ (k : Nat) (ys : List UInt8), k ≤ r.length ∧ i = .int .i64 k ∧ Buf base wr dst ys ∧ ys ++ (r.drop k).flatMap encV = xs ++ encR r ∧ Ext w v wr dst) (fun _ i _ => r.length - (intOf i).toNat)
  case atStart => exact ⟨0, _, by omega, rfl, ho1, by simp [encR], hx1⟩
  case round =>
    obtain ⟨k, ys, hk, rfl, ho, he, hx⟩ := hrel
    have hBr : base ≤ wr.heap.size := Nat.le_trans hB hx.size
    have hsy : Small ys.length := HS.out.le (by have := congrArg List.length he; simp only [List.length_append] at this ⊢; omega)
    by_cases hlt : k < r.length
    · rw [List.drop_eq_getElem_cons hlt, List.flatMap_cons] at he
      have hx0 : r[k].err = 0 := HV.out _ (List.getElem_mem hlt)
      obtain ⟨b, off, rfl, hbs, c0, c1, c2⟩ := (hr.keep (hx.keeps hS)).val hlt
      have hsk : Small (ys.length + (encV r[k]).length) := HS.out.le (by have := congrArg List.length he; simp only [List.length_append] at this ⊢; omega)
      have hb : b < wr.heap.size := by have := (hS b hbs).1; have := hx.size; omega
      generalize r[k] = x at *
      obtain ⟨kd, n, s⟩ := x
      have hne : u0.ownBlock ≠ some wr.heap.size := fun e => by have := (ho.lt _ e).2; omega
      have HE := Lib.hid he
      have HX := Lib.hid hsk
      have HY := Lib.hid hsy
      clear he hsk hsy HS HV hown hr ho1 hx1 hs1
      simp only at c0 c1 c2
      rcases valid_cases hx0 with ⟨h1, h2, h3⟩ | ⟨h1, h2, h3, h4⟩ | ⟨h1, h2, h3⟩ | ⟨h1, h2, h3⟩
      · simp only at h1 h2 h3
        subst h1
        subst h2
        have hs1 : Small (ys.length + 1) := HX.out.le (by simp [encV, encP])
        go_wp2_with (at_builtin; (refine wpList_app rfl (.tmp 19) (.tmp 23) _ _ rfl rfl rfl (run_push elem_u8 byteLay _ _ u0 ys 0 _ (ho.alloc _) byte_0 hs1.bytes hs1.maxLen (le_size1 hBr _) (size1 _ _)) ?_; rintro v2 w2 ⟨ho2, hx2⟩; have f0 := hx2.old_cell (g := wr.heap.size) (i := 0) (World.cell?_alloc_new _ _ _ _) hne))
        go_roundw
        case rel => exact ⟨k + 1, _, by omega, by go_num, ho2, by rw [← HE.out]; simp [encV, encP], (hx.alloc _).trans hx2⟩
        case measure => simp [intOf]; omega
      · simp only at h1 h2 h3 h4
        subst h1
        have hs1 : Small (ys.length + 1) := HX.out.le (by simp [encV, encP])
        have hs2 : Small ((ys ++ [1]).length + (encU (zig n)).length) := HX.out.le (by simp [encV, encP]; omega)
        have hz := zig_u64 h2 h3
        have HZ := Lib.hid hs2
        clear hs2
        go_wp2_with (first
          | (at_builtin; (refine wpList_app rfl (.tmp 19) (.tmp 23) _ _ rfl rfl rfl (run_push elem_u8 byteLay _ _ u0 ys 1 _ (ho.alloc _) byte_1 hs1.bytes hs1.maxLen (le_size1 hBr _) (size1 _ _)) ?_; rintro v2 w2 ⟨ho2, hx2⟩; have f0 := hx2.old_cell (g := wr.heap.size) (i := 0) (World.cell?_alloc_new _ _ _ _) hne; have f1 := hx2.old_cell (g := wr.heap.size) (i := 1) (World.cell?_alloc_new _ _ _ _) hne))
          | (go_at_call 59; rw [zig_walk n h2 h3]; (refine (appendUvarint base v2 _ _ hz w2 ho2 (hx2.base1 hBr) HZ.out).mono ?_; rintro e w3 ⟨v3, rfl, ho3, hx3⟩)))
        go_roundw
        case rel => exact ⟨k + 1, _, by omega, by go_num, ho3, by rw [← HE.out]; simp [encV, encP], ((hx.alloc _).trans hx2).trans hx3⟩
        case measure => simp [intOf]; omega
      · simp only at h1 h2 h3
        subst h1
        have hs1 : Small (ys.length + 1) := HX.out.le (by simp [encV, encP])
        have hs2 : Small ((ys ++ [2]).length + 1) := HX.out.le (by simp [encV, encP])
        have hn : (#[Value.int .u8 n] : Array Value).toList = byteCs (UInt8.ofNat n.toNat) := by
          rcases h2 with rfl | rfl <;> rfl
        have hn0 : 0 ≤ n := by omega
        have hn1 : n ≤ 255 := by omega
        clear h2
        go_wp2_with (first
          | (at_builtin; (refine wpList_app rfl (.tmp 19) (.tmp 23) _ _ rfl rfl rfl (run_push elem_u8 byteLay _ _ u0 ys 2 _ (ho.alloc _) byte_2 hs1.bytes hs1.maxLen (le_size1 hBr _) (size1 _ _)) ?_; rintro v2 w2 ⟨ho2, hx2⟩; have f0 := hx2.old_cell (g := wr.heap.size) (i := 0) (World.cell?_alloc_new _ _ _ _) hne; have f1 := hx2.old_cell (g := wr.heap.size) (i := 1) (World.cell?_alloc_new _ _ _ _) hne))
          | (at_builtin; (refine wpList_app rfl (.tmp 42) (.tmp 46) _ _ rfl rfl rfl (run_push elem_u8 byteLay _ _ v2 (ys ++ [2]) (UInt8.ofNat n.toNat) _ ho2 hn hs2.bytes hs2.maxLen (hx2.base1 hBr) rfl) ?_; rintro v3 w3 ⟨ho3, hx3⟩)))
        go_roundw
        case rel => exact ⟨k + 1, _, by omega, by go_num, ho3, by rw [← HE.out]; simp [encV, encP], ((hx.alloc _).trans hx2).trans hx3⟩
        case measure => simp [intOf]; omega
      · simp only at h1 h2 h3
        subst h1
        have hs1 : Small (ys.length + 1) := HX.out.le (by simp [encV, encP])
        have hs2 : Small ((ys ++ [3]).length + 1) := HX.out.le (by simp [encV, encP]; omega)
        have hs3 : (((ys ++ [3]) ++ [UInt8.ofNat s.size]).length + s.size) ≤ 140737488355328 := (by have h := HX.out; unfold Small at h; simp [encV, encP] at h ⊢; have : s.data.size = s.size := rfl; omega)
        have HZ := Lib.hid hs3
        clear hs3
        have hws : IntKind.u8.wrap (s.size : Int) = s.size := by simp only [IntKind.wrap_u8]; omega
        go_wp2_with (at_builtin; (refine wpList_app rfl (.tmp 19) (.tmp 23) _ _ rfl rfl rfl (run_push elem_u8 byteLay _ _ u0 ys 3 _ (ho.alloc _) byte_3 hs1.bytes hs1.maxLen (le_size1 hBr _) (size1 _ _)) ?_; rintro v2 w2 ⟨ho2, hx2⟩; have f0 := hx2.old_cell (g := wr.heap.size) (i := 0) (World.cell?_alloc_new _ _ _ _) hne; have f2 := hx2.old_cell (g := wr.heap.size) (i := 2) (World.cell?_alloc_new _ _ _ _) hne))
        have hb2 : base ≤ ((w2.alloc (.cells #[.int .u8 (s.size : Int)] 5)).drew).heap.size := by have := hx2.size; simp at this ⊢; omega
        have hbs2 := byte_lo s.size (by omega)
        have hb3 : base ≤ w2.heap.size := by have := hx2.size; simp at this; omega
        have hlt2 : wr.heap.size < w2.heap.size := by have := hx2.size; simp at this; omega
        have hne2 : v2.ownBlock ≠ some wr.heap.size := hx2.ne hne (by simp)
        go_region_held3 (fun w' => w'.cell? ⟨wr.heap.size, 2, none⟩ = some (.string s)) (go_keep)
          (first
            | (refine step_app (by rfl) (.tmp 56) (.tmp 58) _ _ (by rfl) (by rfl) (by rfl) (run_pushStr Try.underlying64 Try.underlying9 info_u8 _ _ v3 ((ys ++ [3]) ++ [UInt8.ofNat s.size]) s ho3 HZ.out (Nat.le_trans hb3 hx3.size)) ?_; rintro v4 w4 ⟨ho4, hx4⟩; have f4 := hx4.old_cell f3 hne3)
            | (refine step_app (by rfl) (.tmp 50) (.tmp 55) _ _ (by rfl) (by rfl) (by rfl) (run_push_at elem_u8 byteLay _ w2 v2 (ys ++ [3]) (UInt8.ofNat s.size) ((Ext.refl w2 v2).alloc _).drew (ho2.alloc _).drew (heap_alloc_new w2 _) hbs2 hs2.bytes hs2.maxLen hb2) ?_; rintro v3 w3 ⟨ho3, hx3⟩; have f3 := hx3.old_cell f2 hne2; have hne3 := hx3.ne hne2 hlt2))
        go_wp2_with fail
        go_roundw
        case rel => exact ⟨k + 1, _, by omega, by go_num, ho4, by rw [← HE.out]; simp [encV, encP], (((hx.alloc _).trans hx2).trans hx3).trans hx4⟩
        case measure => simp [intOf]; omega
    · go_wp2_with fail
      go_ret
      exact ⟨_, rfl, by rw [List.drop_eq_nil_of_le (by omega)] at he; rw [← he]; simpa using ho, hx⟩
end Go.Proofs.Ytjdcnkbkbcfhfaa

namespace Go.Proofs.Ytjdcnkbkbcfhfaa
open Go.RowKit

/-- What EncodeRow leaves where the row is valid. -/
def EncPost (w : World) (r : List Val) (e : Ending) (w' : World) : Prop :=
  ∃ v, e = .returned (.tuple #[v, .int .i64 0]) ∧ Buf w.heap.size w' v (encR r) ∧ Below w.heap.size w w'

theorem small_encR {r : List Val} (h : rErr r = 0) : Small (([] : List UInt8).length + (encR r).length) := by
  have := encR_len h
  unfold Small
  simp only [List.length_nil]
  omega

set_option maxRecDepth 100000 in
set_option maxHeartbeats 400000 in
theorem encodeRow_no (A : Option Addr) (c : Nat) (r : List Val) (w : World) (hr : Elems 3 Val.cs w (· < w.heap.size) A r) (hl : r.length ≤ maxLen) (he : rErr r ≠ 0) :
    Calls Try.prog 22 #[.slice A r.length c] w fun e w' => e = .returned (.tuple #[.slice none 0 0, .int .i64 (rErr r)]) ∧ Below w.heap.size w w' := by
  have hz : (rErr r != 0) = true := by simp [he]
  clear he
  go_enter Try.func22, Try.ntmps22
  go_wp2_with (go_at_call 35; refine (checkRow A c r w hr hl).mono ?_; rintro e w1 ⟨rfl, hb1⟩)
  go_ret2
  exact ⟨rfl, hb1⟩

set_option maxRecDepth 100000 in
set_option maxHeartbeats 400000 in
theorem encodeRow_ok (A : Option Addr) (c : Nat) (r : List Val) (w : World) (hr : Elems 3 Val.cs w (· < w.heap.size) A r) (hl : r.length ≤ maxLen) (he : rErr r = 0) :
    Calls Try.prog 22 #[.slice A r.length c] w (EncPost w r) := by
  have hz : (rErr r != 0) = false := by simp [he]
  have hs := small_encR he
  have H := Lib.hid he
  clear he
  go_enter Try.func22, Try.ntmps22
  go_wp2_with (first
    | (go_at_call 35; refine (checkRow A c r w hr hl).mono ?_; rintro e w1 ⟨rfl, hb1⟩)
    | (go_at_call 36; refine (appendRow w.heap.size (.slice none 0 0) [] A c r w1 (· < w.heap.size) (Own.nil _) hb1.size (hr.keep (Keeps.of_below hb1 fun _ h => h)) (fun k hk => ⟨Nat.lt_of_lt_of_le hk hb1.size, fun h => nomatch h⟩) H.out hs).mono ?_; rintro e w2 ⟨v2, rfl, ho2, hx2⟩))
  go_ret2
  exact ⟨v2, rfl, ho2, hb1.trans (hx2.below_nil.mono hb1.size)⟩

end Go.Proofs.Ytjdcnkbkbcfhfaa

namespace Go.Proofs.Ytjdcnkbkbcfhfaa
open Go.RowKit Go.Sort

abbrev Pgs := List (List Nat)
def okP (pgs : Pgs) : Prop := ∀ p ∈ pgs, WF p
/-- The record in slot s of page i. -/
def hat (pgs : Pgs) (i s : Nat) : Option (List Nat) := (pgs[i]?).bind fun p => cont p s
/-- A record that a page may hold. -/
structure RecOk (r : List Nat) : Prop where
  pos : 1 ≤ r.length
  len : r.length ≤ 100
  byte : ∀ t, r.getD t 0 < 256

/-- The first page with room. -/
def hfind (r : List Nat) (pgs : Pgs) : Nat := pgs.findIdx fun p => decide (r.length ≤ cap p)
def pin (p r : List Nat) : List Nat := place p (ffree p) r
def halloc (pgs : Pgs) (r : List Nat) : Pgs × Nat × Nat :=
  if h : hfind r pgs < pgs.length then (pgs.set (hfind r pgs) (pin pgs[hfind r pgs] r), hfind r pgs, ffree pgs[hfind r pgs]) else (pgs ++ [pin zeros r], pgs.length, ffree zeros)

theorem pin_spec {p r : List Nat} (h : WF p) (hr : RecOk r) (hc : r.length ≤ cap p) : WF (pin p r) ∧ ffree p < 127 ∧ cont p (ffree p) = none ∧ ∀ j, cont (pin p r) j = if j = ffree p then some r else cont p j := by
  have hF := ffree_spec p
  have hfit : r.length + 2 + 2 * max (B p 0) (ffree p + 1) + S p (B p 0) ≤ 256 := by
    have := h.sum (Nat.le_refl _)
    have := hr.pos
    unfold cap at hc
    omega
  refine ⟨(place_spec h hF.2.2 hr.pos hr.len hr.byte hfit).1, by have := hr.pos; omega, cont_none fun hh => hh.2 (hF.2.2 hh.1), cont_place h hF.2.2 hr.pos hr.len hr.byte hfit⟩

theorem S_zeros : ∀ n, S zeros n = 0
  | 0 => rfl
  | n + 1 => by
    show S zeros n + sl zeros n = 0
    rw [S_zeros n]
    unfold sl
    rw [B_zeros]
theorem cap_zeros : cap zeros = 100 := by
  have h0 := wf_zeros.2
  have hf := (ffree_spec zeros).1
  unfold cap
  rw [h0] at hf ⊢
  have : ffree zeros = 0 := by omega
  rw [this, S_zeros]
  rfl
theorem ffree_zeros : ffree zeros = 0 := by
  have hf := (ffree_spec zeros).1
  rw [wf_zeros.2] at hf
  omega

theorem hat_set {pgs : Pgs} {i : Nat} (hi : i < pgs.length) (q : List Nat) (j t : Nat) : hat (pgs.set i q) j t = if j = i then cont q t else hat pgs j t := by
  unfold hat
  rw [List.getElem?_set]
  by_cases e : i = j
  · subst e
    simp [hi]
  · rw [if_neg e, if_neg (fun e' => e e'.symm)]
theorem hat_push (pgs : Pgs) (q : List Nat) (j t : Nat) : hat (pgs ++ [q]) j t = if j = pgs.length then cont q t else hat pgs j t := by
  unfold hat
  by_cases e : j = pgs.length
  · subst e
    simp
  · rw [if_neg e]
    by_cases h : j < pgs.length
    · rw [List.getElem?_append_left h]
    · rw [List.getElem?_append_right (by omega), List.getElem?_eq_none (by simp; omega), List.getElem?_eq_none (by omega)]
theorem hat_some {pgs : Pgs} {i s : Nat} {r : List Nat} (h : hat pgs i s = some r) : ∃ hi : i < pgs.length, cont pgs[i] s = some r := by
  unfold hat at h
  by_cases hi : i < pgs.length
  · rw [List.getElem?_eq_getElem hi] at h
    exact ⟨hi, h⟩
  · rw [List.getElem?_eq_none (by omega)] at h
    cases h
theorem hat_of {pgs : Pgs} {i s : Nat} (hi : i < pgs.length) : hat pgs i s = cont pgs[i] s := by
  unfold hat
  rw [List.getElem?_eq_getElem hi]
  rfl
theorem okP_set {pgs : Pgs} (h : okP pgs) {q : List Nat} (hq : WF q) (i : Nat) : okP (pgs.set i q) := fun p hp => by
  rcases List.mem_or_eq_of_mem_set hp with hp | rfl
  · exact h p hp
  · exact hq

theorem halloc_spec {pgs : Pgs} {r : List Nat} (h : okP pgs) (hr : RecOk r) :
    okP (halloc pgs r).1 ∧ (halloc pgs r).2.2 < 127 ∧ (halloc pgs r).2.1 < (halloc pgs r).1.length ∧ hat pgs (halloc pgs r).2.1 (halloc pgs r).2.2 = none ∧ pgs.length ≤ (halloc pgs r).1.length ∧ (halloc pgs r).1.length ≤ pgs.length + 1
    ∧ ∀ j t, hat (halloc pgs r).1 j t = if j = (halloc pgs r).2.1 ∧ t = (halloc pgs r).2.2 then some r else hat pgs j t := by
  unfold halloc
  split
  · next hi =>
    have hc : r.length ≤ cap pgs[hfind r pgs] := of_decide_eq_true (List.findIdx_getElem (w := hi))
    obtain ⟨h1, h2, h3, h4⟩ := pin_spec (h _ (List.getElem_mem hi)) hr hc
    refine ⟨okP_set h h1 _, h2, by simpa using hi, by rw [hat_of hi]; exact h3, by simp, by simp, fun j t => ?_⟩
    rw [hat_set hi, h4]
    by_cases e : j = hfind r pgs
    · subst e
      by_cases e2 : t = ffree pgs[hfind r pgs]
      · rw [if_pos rfl, if_pos e2, if_pos ⟨rfl, e2⟩]
      · rw [if_pos rfl, if_neg e2, if_neg (fun hh => e2 hh.2), hat_of hi]
    · rw [if_neg e, if_neg (fun hh => e hh.1)]
  · obtain ⟨h1, h2, h3, h4⟩ := pin_spec wf_zeros.1 hr (by rw [cap_zeros]; exact hr.len)
    refine ⟨fun p hp => ?_, h2, by simp, ?_, by simp, by simp, fun j t => ?_⟩
    · rcases List.mem_append.1 hp with hp | hp
      · exact h p hp
      · rw [List.mem_singleton.1 hp]; exact h1
    · unfold hat
      rw [List.getElem?_eq_none (Nat.le_refl _)]
      rfl
    · rw [hat_push, h4]
      have hz : ∀ t, cont zeros t = none := fun t => cont_none fun hh => by rw [wf_zeros.2] at hh; omega
      by_cases e : j = pgs.length
      · subst e
        by_cases e2 : t = ffree zeros
        · rw [if_pos rfl, if_pos e2, if_pos ⟨rfl, e2⟩]
        · rw [if_pos rfl, if_neg e2, if_neg (fun hh => e2 hh.2), hz]
          unfold hat
          rw [List.getElem?_eq_none (Nat.le_refl _)]
          rfl
      · rw [if_neg e, if_neg (fun hh => e hh.1)]

/-- An empty page; the file without empty pages at its end. -/
def emp (p : List Nat) : Bool := (us p (B p 0)).isEmpty
def htrim (l : Pgs) : Pgs := (l.reverse.dropWhile emp).reverse
theorem htrim_nil : htrim [] = [] := rfl
theorem htrim_snoc (l : Pgs) (p : List Nat) : htrim (l ++ [p]) = if emp p = true then htrim l else l ++ [p] := by
  unfold htrim
  rw [List.reverse_append, List.reverse_singleton, List.singleton_append, List.dropWhile_cons]
  split
  · rfl
  · rw [List.reverse_cons, List.reverse_reverse]
theorem emp_cont {p : List Nat} (h : emp p = true) (s : Nat) : cont p s = none := by
  refine cont_none fun hh => ?_
  have hm := us_mem.2 hh
  unfold emp at h
  rw [List.isEmpty_iff.1 h] at hm
  cases hm
theorem cont_emp {p : List Nat} (h : ∀ s, cont p s = none) : emp p = true := by
  unfold emp
  rw [List.isEmpty_iff]
  cases hu : us p (B p 0) with
  | nil => rfl
  | cons x xs =>
    have hm := us_mem.1 (show x ∈ us p (B p 0) by rw [hu]; exact List.mem_cons_self)
    have := h x
    rw [cont_some hm.1 hm.2] at this
    cases this
theorem snoc_ind {α : Type} {P : List α → Prop} (h0 : P []) (h1 : ∀ l a, P l → P (l ++ [a])) : ∀ l, P l := by
  intro l
  have : ∀ n, ∀ l : List α, l.length = n → P l := by
    intro n
    induction n with
    | zero => intro l h; rw [List.eq_nil_of_length_eq_zero h]; exact h0
    | succ n ih =>
      intro l h
      have hne : l ≠ [] := by intro e; rw [e] at h; cases h
      rw [← List.dropLast_concat_getLast hne]
      exact h1 _ _ (ih _ (by rw [List.length_dropLast, h]; rfl))
  exact this _ l rfl
theorem htrim_spec : ∀ l : Pgs, (∀ i s, hat (htrim l) i s = hat l i s) ∧ (htrim l).length ≤ l.length ∧ (okP l → okP (htrim l)) ∧ ((∀ i s, hat l i s = none) → htrim l = []) := by
  refine snoc_ind ⟨fun _ _ => rfl, Nat.le_refl _, fun h => h, fun _ => rfl⟩ fun l p ih => ?_
  obtain ⟨h1, h2, h3, h4⟩ := ih
  rw [htrim_snoc]
  split
  · next he =>
    refine ⟨fun i s => ?_, by rw [List.length_append]; omega, fun h => h3 fun q hq => h q (List.mem_append_left _ hq), fun h => h4 fun i s => ?_⟩
    · rw [h1, hat_push]
      split
      · next e =>
        rw [emp_cont he, e]
        unfold hat
        rw [List.getElem?_eq_none (Nat.le_refl _)]
        rfl
      · rfl
    · have hh := h i s
      rw [hat_push] at hh
      split at hh
      · next e =>
        rw [e]
        unfold hat
        rw [List.getElem?_eq_none (Nat.le_refl _)]
        rfl
      · exact hh
  · next he =>
    refine ⟨fun _ _ => rfl, Nat.le_refl _, fun h => h, fun h => ?_⟩
    refine absurd (cont_emp fun s => ?_) he
    have hh := h l.length s
    rw [hat_push, if_pos rfl] at hh
    exact hh

/-- Delete a record; drop the empty pages at the end. -/
def hdel (pgs : Pgs) (i s : Nat) : Pgs := pgs.set i (rem (pgs.getD i []) s)
def hrel (pgs : Pgs) (i s : Nat) : Pgs := htrim (hdel pgs i s)
theorem hrel_spec {pgs : Pgs} {i s : Nat} {r : List Nat} (h : okP pgs) (hr : hat pgs i s = some r) :
    okP (hrel pgs i s) ∧ (hrel pgs i s).length ≤ pgs.length ∧ ∀ j t, hat (hrel pgs i s) j t = if j = i ∧ t = s then none else hat pgs j t := by
  obtain ⟨hi, hc⟩ := hat_some hr
  have hw := h _ (List.getElem_mem hi)
  have hs := (cont_of hc).1
  have hg : pgs.getD i [] = pgs[i] := by rw [List.getD_eq_getElem?_getD, List.getElem?_eq_getElem hi]; rfl
  have h0 : okP (hdel pgs i s) := okP_set h (by rw [hg]; exact (rem_spec hw hs).1) _
  obtain ⟨h1, h2, h3, -⟩ := htrim_spec (hdel pgs i s)
  refine ⟨h3 h0, Nat.le_trans h2 (by unfold hdel; simp), fun j t => ?_⟩
  show hat (htrim _) j t = _
  rw [h1]
  unfold hdel
  rw [hat_set hi, hg, cont_rem hw hs]
  by_cases e : j = i
  · subst e
    by_cases e2 : t = s
    · rw [if_pos rfl, if_pos e2, if_pos ⟨rfl, e2⟩]
    · rw [if_pos rfl, if_neg e2, if_neg (fun hh => e2 hh.2), hat_of hi]
  · rw [if_neg e, if_neg (fun hh => e hh.1)]

/-- Replace a record in its slot, where it fits. -/
def fits (p : List Nat) (s : Nat) (r : List Nat) : Prop := r.length + 2 + 2 * max (B (rem p s) 0) (s + 1) + S (rem p s) (B (rem p s) 0) ≤ 256
instance (p : List Nat) (s : Nat) (r : List Nat) : Decidable (fits p s r) := inferInstanceAs (Decidable (_ ≤ _))
def hupd (pgs : Pgs) (i s : Nat) (r : List Nat) : Pgs := pgs.set i (place (rem (pgs.getD i []) s) s r)
theorem upd_page {p : List Nat} {s : Nat} {r r0 : List Nat} (hw : WF p) (hc : cont p s = some r0) (hr : RecOk r) (hf : fits p s r) : WF (place (rem p s) s r) ∧ ∀ t, cont (place (rem p s) s r) t = if t = s then some r else cont p t := by
  have hs := (cont_of hc).1
  obtain ⟨h1, h2, h3, h4, h5⟩ := rem_spec hw hs
  have hfree : s < B (rem p s) 0 → so (rem p s) s = 0 := fun _ => h4
  refine ⟨(place_spec h1 hfree hr.pos hr.len hr.byte hf).1, fun t => ?_⟩
  rw [cont_place h1 hfree hr.pos hr.len hr.byte hf, cont_rem hw hs]
  split <;> rfl
theorem hupd_spec {pgs : Pgs} {i s : Nat} {r r0 : List Nat} (h : okP pgs) (hr0 : hat pgs i s = some r0) (hr : RecOk r) (hf : fits (pgs.getD i []) s r) :
    okP (hupd pgs i s r) ∧ (hupd pgs i s r).length = pgs.length ∧ ∀ j t, hat (hupd pgs i s r) j t = if j = i ∧ t = s then some r else hat pgs j t := by
  obtain ⟨hi, hc⟩ := hat_some hr0
  have hg : pgs.getD i [] = pgs[i] := by rw [List.getD_eq_getElem?_getD, List.getElem?_eq_getElem hi]; rfl
  rw [hg] at hf
  obtain ⟨h1, h2⟩ := upd_page (h _ (List.getElem_mem hi)) hc hr hf
  unfold hupd
  rw [hg]
  refine ⟨okP_set h h1 _, by simp, fun j t => ?_⟩
  rw [hat_set hi, h2]
  by_cases e : j = i
  · subst e
    by_cases e2 : t = s
    · rw [if_pos rfl, if_pos e2, if_pos ⟨rfl, e2⟩]
    · rw [if_pos rfl, if_neg e2, if_neg (fun hh => e2 hh.2), hat_of hi]
  · rw [if_neg e, if_neg (fun hh => e hh.1)]

-- the tree's pairs
theorem mem_getP {k : Row} {v : Int} : ∀ {ps : List PE}, OrdP ps → (getP k ps = some v ↔ (k, v) ∈ ps)
  | [], _ => by simp [getP]
  | x :: xs, h => by
    have hx := List.pairwise_cons.1 h
    unfold getP
    split
    · next hl =>
      rw [mem_getP hx.2]
      refine ⟨fun hm => List.mem_cons_of_mem _ hm, fun hm => ?_⟩
      rcases List.mem_cons.1 hm with e | hm
      · rw [← e, cmpR_refl] at hl
        omega
      · exact hm
    · next hl =>
      split
      · next h0 =>
        have hk := cmpR_zero h0
        refine ⟨fun e => ?_, fun hm => ?_⟩
        · injection e with e
          rw [← hk, ← e]
          exact List.mem_cons_self
        · rcases List.mem_cons.1 hm with e | hm
          · rw [← e]
          · have := hx.1 _ hm
            rw [hk] at this
            exact absurd this (rl_irrefl k)
      · next h0 =>
        refine ⟨fun e => (nomatch e), fun hm => ?_⟩
        rcases List.mem_cons.1 hm with e | hm
        · rw [← e, cmpR_refl] at h0
          exact absurd rfl h0
        · have := hx.1 _ hm
          unfold rl at this
          simp only at this
          omega
theorem mem_insP_iff {k : Row} {v : Int} {q : PE} : ∀ {ps : List PE}, OrdP ps → (q ∈ insP (k, v) ps ↔ q = (k, v) ∨ (q.1 ≠ k ∧ q ∈ ps))
  | [], _ => by simp [insP]
  | x :: xs, h => by
    have hx := List.pairwise_cons.1 h
    unfold insP
    simp only
    split
    · next hl =>
      rw [List.mem_cons, mem_insP_iff hx.2, List.mem_cons]
      have hne : x.1 ≠ k := fun e => by rw [e, cmpR_refl] at hl; omega
      constructor
      · rintro (rfl | rfl | ⟨h1, h2⟩)
        · exact .inr ⟨hne, .inl rfl⟩
        · exact .inl rfl
        · exact .inr ⟨h1, .inr h2⟩
      · rintro (rfl | ⟨h1, rfl | h2⟩)
        · exact .inr (.inl rfl)
        · exact .inl rfl
        · exact .inr (.inr ⟨h1, h2⟩)
    · next hl =>
      split
      · next h0 =>
        have hk := cmpR_zero h0
        rw [List.mem_cons, List.mem_cons, hk]
        have hne : ∀ y ∈ xs, y.1 ≠ k := fun y hy e => by
          have := hx.1 _ hy
          rw [hk, e] at this
          exact rl_irrefl k this
        constructor
        · rintro (rfl | h2)
          · exact .inl rfl
          · exact .inr ⟨hne _ h2, .inr h2⟩
        · rintro (rfl | ⟨h1, rfl | h2⟩)
          · exact .inl rfl
          · exact absurd hk h1
          · exact .inr h2
      · next h0 =>
        have hne : ∀ y ∈ x :: xs, y.1 ≠ k := fun y hy e => by
          rcases List.mem_cons.1 hy with rfl | hy
          · rw [e, cmpR_refl] at h0
            exact h0 rfl
          · have := hx.1 _ hy
            rw [e] at this
            unfold rl at this
            omega
        rw [List.mem_cons]
        constructor
        · rintro (rfl | h2)
          · exact .inl rfl
          · exact .inr ⟨hne _ h2, h2⟩
        · rintro (rfl | ⟨h1, h2⟩)
          · exact .inl rfl
          · exact .inr h2
theorem mem_delP_iff {k : Row} {q : PE} : ∀ {ps : List PE}, OrdP ps → (q ∈ delP k ps ↔ q.1 ≠ k ∧ q ∈ ps)
  | [], _ => by simp [delP]
  | x :: xs, h => by
    have hx := List.pairwise_cons.1 h
    unfold delP
    split
    · next hl =>
      rw [List.mem_cons, mem_delP_iff hx.2, List.mem_cons]
      have hne : x.1 ≠ k := fun e => by rw [e, cmpR_refl] at hl; omega
      constructor
      · rintro (rfl | ⟨h1, h2⟩)
        · exact ⟨hne, .inl rfl⟩
        · exact ⟨h1, .inr h2⟩
      · rintro ⟨h1, rfl | h2⟩
        · exact .inl rfl
        · exact .inr ⟨h1, h2⟩
    · next hl =>
      split
      · next h0 =>
        have hk := cmpR_zero h0
        rw [List.mem_cons]
        have hne : ∀ y ∈ xs, y.1 ≠ k := fun y hy e => by
          have := hx.1 _ hy
          rw [hk, e] at this
          exact rl_irrefl k this
        constructor
        · exact fun h2 => ⟨hne _ h2, .inr h2⟩
        · rintro ⟨h1, rfl | h2⟩
          · exact absurd hk h1
          · exact h2
      · next h0 =>
        have hne : ∀ y ∈ x :: xs, y.1 ≠ k := fun y hy e => by
          rcases List.mem_cons.1 hy with rfl | hy
          · rw [e, cmpR_refl] at h0
            exact h0 rfl
          · have := hx.1 _ hy
            rw [e] at this
            unfold rl at this
            omega
        exact ⟨fun h2 => ⟨hne _ h2, h2⟩, fun h2 => h2.2⟩

/-- The record of a row. -/
def encN (r : Row) : List Nat := (encR r).map UInt8.toNat
theorem encN_len (r : Row) : (encN r).length = (encR r).length := by simp [encN]
theorem encN_byte (r : Row) (t : Nat) : (encN r).getD t 0 < 256 := by
  unfold encN
  rw [List.getD_eq_getElem?_getD, List.getElem?_map]
  cases (encR r)[t]? with
  | none => decide
  | some b => exact b.toNat_lt

/-- What the file holds: each key's row, f, lies where the tree says; nothing else is stored. -/
structure HInv (pgs : Pgs) (ps : List PE) (f : Row → Row) : Prop where
  ok : okP pgs
  loc : ∀ k id, (k, id) ∈ ps → ∃ i s : Nat, id = ((i * 256 + s : Nat) : Int) ∧ s < 127 ∧ hat pgs i s = some (encN (f k)) ∧ rErr (f k) = 0
  inj : ∀ k k' id, (k, id) ∈ ps → (k', id) ∈ ps → k = k'
  used : ∀ i s rec, hat pgs i s = some rec → ∃ k, (k, ((i * 256 + s : Nat) : Int)) ∈ ps

theorem HInv.nil (f : Row → Row) : HInv [] [] f := ⟨fun _ h => (nomatch h), fun _ _ h => (nomatch h), fun _ _ _ h => (nomatch h), fun _ _ _ h => (nomatch h)⟩
theorem hat_lt {pgs : Pgs} (h : okP pgs) {i s : Nat} {r : List Nat} (hr : hat pgs i s = some r) : i < pgs.length ∧ s < 127 := by
  obtain ⟨hi, hc⟩ := hat_some hr
  have := (cont_of hc).1
  have hw := h _ (List.getElem_mem hi)
  have := hw.n_le
  have := hw.room
  have := hw.ds_le
  exact ⟨hi, by omega⟩
def upF (f : Row → Row) (k : Row) (r : Row) : Row → Row := fun x => if x = k then r else f x
theorem HInv.congr {pgs : Pgs} {ps : List PE} {f g : Row → Row} (h : HInv pgs ps f) (hg : ∀ k id, (k, id) ∈ ps → g k = f k) : HInv pgs ps g :=
  ⟨h.ok, fun k id hm => by rw [hg k id hm]; exact h.loc k id hm, h.inj, h.used⟩
/-- A new row. -/
theorem HInv.put_new {pgs : Pgs} {ps : List PE} {f : Row → Row} (h : HInv pgs ps f) (ho : OrdP ps) {k r : Row} (hk : getP k ps = none) (hr : RecOk (encN r)) (he : rErr r = 0) :
    HInv (halloc pgs (encN r)).1 (insP (k, (((halloc pgs (encN r)).2.1 * 256 + (halloc pgs (encN r)).2.2 : Nat) : Int)) ps) (upF f k r) := by
  obtain ⟨h1, h2, h3, h4, h5, h6, h7⟩ := halloc_spec h.ok hr
  generalize halloc pgs (encN r) = Q at *
  obtain ⟨Q, i, s⟩ := Q
  simp only at *
  have hnk : ∀ v, (k, v) ∉ ps := fun v hm => by rw [(mem_getP ho).2 hm] at hk; cases hk
  have hfree : ∀ k', (k', ((i * 256 + s : Nat) : Int)) ∉ ps := fun k' hm => by
    obtain ⟨j, t, e1, e2, e3, -⟩ := h.loc _ _ hm
    have : i = j ∧ s = t := by omega
    rw [← this.1, ← this.2, h4] at e3
    cases e3
  have hnew : ∀ j t rec, hat pgs j t = some rec → ¬ (j = i ∧ t = s) := fun j t rec hh e => by
    rw [e.1, e.2, h4] at hh
    cases hh
  refine ⟨h1, fun k' id hm => ?_, fun k1 k2 id hm1 hm2 => ?_, fun j t rec hh => ?_⟩
  · rcases (mem_insP_iff ho).1 hm with e | ⟨e1, e2⟩
    · injection e with e e'
      subst e e'
      refine ⟨i, s, rfl, h2, ?_, ?_⟩
      · rw [h7, if_pos ⟨rfl, rfl⟩]
        unfold upF
        rw [if_pos rfl]
      · unfold upF
        rw [if_pos rfl]
        exact he
    · obtain ⟨j, t, e3, e4, e5, e6⟩ := h.loc _ _ e2
      have : upF f k r k' = f k' := if_neg e1
      refine ⟨j, t, e3, e4, ?_, by rw [this]; exact e6⟩
      rw [h7, if_neg (hnew _ _ _ e5), this]
      exact e5
  · rcases (mem_insP_iff ho).1 hm1 with e | ⟨e1, e2⟩
    · rcases (mem_insP_iff ho).1 hm2 with e' | ⟨e1', e2'⟩
      · injection e with e _
        injection e' with e' _
        rw [e, e']
      · injection e with e e3
        rw [e3] at e2'
        exact absurd e2' (hfree _)
    · rcases (mem_insP_iff ho).1 hm2 with e' | ⟨e1', e2'⟩
      · injection e' with e e3
        rw [e3] at e2
        exact absurd e2 (hfree _)
      · exact h.inj _ _ _ e2 e2'
  · rw [h7] at hh
    split at hh
    · next e => exact ⟨k, (mem_insP_iff ho).2 (.inl (by rw [e.1, e.2]))⟩
    · obtain ⟨k', hm⟩ := h.used _ _ _ hh
      exact ⟨k', (mem_insP_iff ho).2 (.inr ⟨fun e => hnk _ (by rw [show k' = k from e] at hm; exact hm), hm⟩)⟩
/-- A row in place of the old one, in its slot. -/
theorem HInv.put_same {pgs : Pgs} {ps : List PE} {f : Row → Row} (h : HInv pgs ps f) (ho : OrdP ps) {k r : Row} {i s : Nat} (hk : getP k ps = some ((i * 256 + s : Nat) : Int)) (hs : s < 127) (hr : RecOk (encN r)) (he : rErr r = 0) (hf : fits (pgs.getD i []) s (encN r)) :
    HInv (hupd pgs i s (encN r)) ps (upF f k r) := by
  have hm := (mem_getP ho).1 hk
  obtain ⟨j, t, e1, e2, e3, -⟩ := h.loc _ _ hm
  have hji : i = j ∧ s = t := by omega
  rw [← hji.1, ← hji.2] at e3
  obtain ⟨h1, h2, h3⟩ := hupd_spec h.ok e3 hr hf
  refine ⟨h1, fun k' id hm' => ?_, h.inj, fun j t rec hh => ?_⟩
  · obtain ⟨j, t, e4, e5, e6, e7⟩ := h.loc _ _ hm'
    by_cases e : k' = k
    · subst e
      have hid : id = ((i * 256 + s : Nat) : Int) := by
        have := (mem_getP ho).2 hm'
        rw [hk] at this
        have this := Option.some.inj this
        exact this.symm
      refine ⟨i, s, hid, hs, ?_, ?_⟩
      · rw [h3, if_pos ⟨rfl, rfl⟩]
        unfold upF
        rw [if_pos rfl]
      · unfold upF
        rw [if_pos rfl]
        exact he
    · have hu : upF f k r k' = f k' := if_neg e
      refine ⟨j, t, e4, e5, ?_, by rw [hu]; exact e7⟩
      rw [h3, if_neg, hu]
      · exact e6
      · intro hh
        rw [hh.1, hh.2] at e4
        rw [e4] at hm'
        exact e (h.inj _ _ _ hm' hm)
  · rw [h3] at hh
    split at hh
    · next e => exact ⟨k, by rw [e.1, e.2]; exact hm⟩
    · exact h.used _ _ _ hh
/-- A row taken out. -/
theorem HInv.del {pgs : Pgs} {ps : List PE} {f : Row → Row} (h : HInv pgs ps f) (ho : OrdP ps) {k : Row} {i s : Nat} (hk : getP k ps = some ((i * 256 + s : Nat) : Int)) (hs : s < 127) :
    HInv (hrel pgs i s) (delP k ps) f := by
  have hm := (mem_getP ho).1 hk
  obtain ⟨j, t, e1, e2, e3, -⟩ := h.loc _ _ hm
  have hji : i = j ∧ s = t := by omega
  rw [← hji.1, ← hji.2] at e3
  obtain ⟨h1, h2, h3⟩ := hrel_spec h.ok e3
  refine ⟨h1, fun k' id hm' => ?_, fun k1 k2 id hm1 hm2 => h.inj _ _ _ ((mem_delP_iff ho).1 hm1).2 ((mem_delP_iff ho).1 hm2).2, fun j t rec hh => ?_⟩
  · obtain ⟨e, hm'⟩ := (mem_delP_iff ho).1 hm'
    obtain ⟨j, t, e4, e5, e6, e7⟩ := h.loc _ _ hm'
    refine ⟨j, t, e4, e5, ?_, e7⟩
    rw [h3, if_neg]
    · exact e6
    · intro hh
      rw [hh.1, hh.2] at e4
      rw [e4] at hm'
      exact e (h.inj _ _ _ hm' hm)
  · rw [h3] at hh
    split at hh
    · cases hh
    · next hne =>
      obtain ⟨k', hm'⟩ := h.used _ _ _ hh
      refine ⟨k', (mem_delP_iff ho).2 ⟨fun e => ?_, hm'⟩⟩
      have e : k' = k := e
      rw [e] at hm'
      have := (mem_getP ho).2 hm'
      rw [hk] at this
      have this := Option.some.inj this
      have hjt := (hat_lt h.ok hh).2
      exact hne (by omega)
/-- An insertion of a key that is there: the tree's pairs, another number. -/
theorem HInv.put_move {pgs : Pgs} {ps : List PE} {f : Row → Row} (h : HInv pgs ps f) (ho : OrdP ps) {k r : Row} {i s : Nat} (hk : getP k ps = some ((i * 256 + s : Nat) : Int)) (hs : s < 127) (hr : RecOk (encN r)) (he : rErr r = 0) :
    HInv (hrel (halloc pgs (encN r)).1 i s) (insP (k, (((halloc pgs (encN r)).2.1 * 256 + (halloc pgs (encN r)).2.2 : Nat) : Int)) ps) (upF f k r) := by
  have hm := (mem_getP ho).1 hk
  obtain ⟨j, t, e1, e2, e3, -⟩ := h.loc _ _ hm
  have hji : i = j ∧ s = t := by omega
  rw [← hji.1, ← hji.2] at e3
  obtain ⟨h1, h2, h3, h4, h5, h6, h7⟩ := halloc_spec h.ok hr
  generalize halloc pgs (encN r) = Q at *
  obtain ⟨Q, a, b⟩ := Q
  simp only at *
  have hne : ¬ (i = a ∧ s = b) := fun e => by rw [e.1, e.2, h4] at e3; cases e3
  have e3' : hat Q i s = some (encN (f k)) := by rw [h7, if_neg hne]; exact e3
  obtain ⟨g1, g2, g3⟩ := hrel_spec h1 e3'
  have hfree : ∀ k', (k', ((a * 256 + b : Nat) : Int)) ∉ ps := fun k' hm => by
    obtain ⟨j, t, e1, e2, e3, -⟩ := h.loc _ _ hm
    have : a = j ∧ b = t := by omega
    rw [← this.1, ← this.2, h4] at e3
    cases e3
  refine ⟨g1, fun k' id hm' => ?_, fun k1 k2 id hm1 hm2 => ?_, fun j t rec hh => ?_⟩
  · rcases (mem_insP_iff ho).1 hm' with e | ⟨e1, e2⟩
    · injection e with e e'
      subst e e'
      refine ⟨a, b, rfl, h2, ?_, ?_⟩
      · rw [g3, if_neg (fun e => hne ⟨e.1.symm, e.2.symm⟩), h7, if_pos ⟨rfl, rfl⟩]
        unfold upF
        rw [if_pos rfl]
      · unfold upF
        rw [if_pos rfl]
        exact he
    · obtain ⟨j, t, e3, e4, e5, e6⟩ := h.loc _ _ e2
      have hu : upF f k r k' = f k' := if_neg e1
      have hn1 : ¬ (j = i ∧ t = s) := fun e => by
        rw [e.1, e.2] at e3
        rw [e3] at e2
        exact e1 (h.inj _ _ _ e2 hm)
      have hn2 : ¬ (j = a ∧ t = b) := fun e => by rw [e.1, e.2, h4] at e5; cases e5
      refine ⟨j, t, e3, e4, ?_, by rw [hu]; exact e6⟩
      rw [g3, if_neg hn1, h7, if_neg hn2, hu]
      exact e5
  · rcases (mem_insP_iff ho).1 hm1 with e | ⟨e1, e2⟩
    · rcases (mem_insP_iff ho).1 hm2 with e' | ⟨e1', e2'⟩
      · injection e with e _
        injection e' with e' _
        rw [e, e']
      · injection e with e e3
        rw [e3] at e2'
        exact absurd e2' (hfree _)
    · rcases (mem_insP_iff ho).1 hm2 with e' | ⟨e1', e2'⟩
      · injection e' with e e3
        rw [e3] at e2
        exact absurd e2 (hfree _)
      · exact h.inj _ _ _ e2 e2'
  · rw [g3] at hh
    split at hh
    · cases hh
    · next hns =>
      rw [h7] at hh
      split at hh
      · next e => exact ⟨k, (mem_insP_iff ho).2 (.inl (by rw [e.1, e.2]))⟩
      · obtain ⟨k', hm'⟩ := h.used _ _ _ hh
        refine ⟨k', (mem_insP_iff ho).2 (.inr ⟨fun e => ?_, hm'⟩)⟩
        have e : k' = k := e
        rw [e] at hm'
        have := (mem_getP ho).2 hm'
        rw [hk] at this
        have this := Option.some.inj this
        have hjt := (hat_lt h.ok hh).2
        exact hns (by omega)
/-- Nothing in the tree: no record, and no page behind a deletion. -/
theorem HInv.none_at {pgs : Pgs} {f : Row → Row} (h : HInv pgs [] f) : ∀ i s, hat pgs i s = none := fun i s => by
  cases hh : hat pgs i s with
  | none => rfl
  | some r =>
    obtain ⟨k, hm⟩ := h.used _ _ _ hh
    cases hm
theorem hrel_nil {pgs : Pgs} {f : Row → Row} {i s : Nat} (h : HInv (hrel pgs i s) [] f) : hrel pgs i s = [] := by
  have h0 := h.none_at
  obtain ⟨h1, -, -, h4⟩ := htrim_spec (hdel pgs i s)
  exact h4 fun i' s' => (h1 i' s').symm.trans (h0 i' s')
end Go.Proofs.Ytjdcnkbkbcfhfaa

namespace Go.Proofs.Ytjdcnkbkbcfhfaa
open Go.RowKit

/-- What Update leaves. -/
def UpdAny (w : World) (p : List Nat) (i : Nat) (r : List Nat) (e : Ending) (w' : World) : Prop :=
  Below w.heap.size w w' ∧ (fits p i r → ∃ g' c', e = .returned (.tuple #[.slice (some ⟨g', 0, none⟩) 256 c', .int .i64 0]) ∧ Pg w.heap.size w' g' c' (place (rem p i) i r)) ∧ (¬ fits p i r → e = .returned (.tuple #[.slice none 0 0, .int .i64 18]))

set_option maxRecDepth 100000 in
set_option maxHeartbeats 1000000 in
theorem updateAny {base g c gr cr : Nat} {p r : List Nat} (w : World) (h : Pg base w g c p) (hw : WF p) (hrec : Rec w gr cr r) (hr : RecOk r) (i : Nat) {r0 : List Nat} (hc : cont p i = some r0) :
    Calls Try.prog 27 #[.slice (some ⟨g, 0, none⟩) 256 c, .int .i64 i, .slice (some ⟨gr, 0, none⟩) r.length cr] w (UpdAny w p i r) := by
  obtain ⟨hi, hu, hr0⟩ := cont_of hc
  have hlen := cont_len hw hc
  have hn := hw.n_le
  have hrb := hr.byte
  have hr1 := hr.pos
  have hr2 := hr.len
  have HG := Lib.hid (getPage w h hw i (by omega))
  rw [hc] at HG
  have HRM := Lib.hid fun W (hW : Below w.heap.size w W) => removePage W (h.below hW) hn i hi
  obtain ⟨hrw, hr0n, _, hri, _⟩ := rem_spec hw hi
  have HB0 := Lib.hid fun W (g' c' : Nat) (hW : Pg w.heap.size W g' c' (rem p i)) => hW.at_ (k := 0) (by omega)
  have HCO := Lib.hid fun W (b' g' c' : Nat) (hW : Pg b' W g' c' (rem p i)) => compactPage W hW hrw
  have HDS := Lib.hid fun W (b' g' c' : Nat) (hW : Pg b' W g' c' (compactL (rem p i))) => dataStart W hW
  have HPL := Lib.hid fun W (b' g' c' : Nat) (hb : Below w.heap.size w W) (hW : Pg b' W g' c' (rem p i)) (hfit : fits p i r) => placePage W hW hrw (hrec.below hb) i (by omega) (by omega) hrb hfit
  have hcd := (compact_spec hrw).2.2.1
  have hrn := hrw.n_le
  have hd256 := (compact_spec hrw).1.ds_le
  have hfd : fits p i r ↔ r.length + 2 + 2 * max (B (rem p i) 0) (i + 1) ≤ dS (compactL (rem p i)) := by unfold fits; omega
  have HFD := Lib.hid hfd
  unfold UpdAny
  clear hfd
  generalize place (rem p i) i r = q at *
  generalize fits p i r = FT at *
  generalize dS (compactL (rem p i)) = d at *
  generalize compactL (rem p i) = cq at *
  generalize S (rem p i) (B (rem p i) 0) = sm at *
  generalize B (rem p i) 0 = n at *
  generalize rem p i = rp at *
  obtain ⟨l, hl2⟩ : ∃ l, l = r.length := ⟨_, rfl⟩
  rw [← hl2] at HPL HFD hr1 hr2 ⊢
  obtain ⟨f1, hf1⟩ : ∃ f1, f1 = i + 1 := ⟨_, rfl⟩
  rw [← hf1] at HFD
  have y6 : (i : Int) + 1 = (f1 : Int) := by omega
  have x1 : decide ((l : Int) < 1) = false := decide_eq_false (by omega)
  have x2 : decide ((100 : Int) < (l : Int)) = false := decide_eq_false (by omega)
  have n256 : n < 256 := by omega
  have f256 : f1 < 256 := by omega
  obtain ⟨mx, hmx⟩ : ∃ mx, mx = max n f1 := ⟨_, rfl⟩
  rw [← hmx] at HFD
  have hmi : max (n : Int) (f1 : Int) = (mx : Int) := by omega
  have hm256 : mx < 256 := by omega
  clear h hrec hr hw hrb hl2 hc hr0 hri hrw hcd hlen hf1 hr1 hr2 hi hu hn
  have hcase : (n < f1 ∧ mx = f1) ∨ (f1 ≤ n ∧ mx = n) := by omega
  by_cases hft : l + 2 + 2 * mx ≤ d
  · have HY := Lib.hid (HFD.out.2 hft)
    have x3 : decide ((d : Int) - 2 - 2 * (mx : Int) < (l : Int)) = false := decide_eq_false (by omega)
    have x4 : ¬ ((d : Int) - 2 - 2 * (mx : Int) < (l : Int)) := by omega
    clear hft hmx hmi
    rcases hcase with ⟨y7, rfl⟩ | ⟨y7, rfl⟩
    · have y7' : (n : Int) < (mx : Int) := by omega
      clear y7
      go_enter Try.func27, Try.ntmps27
      go_wp2_with fail
      refine HG.out.mono ?_
      rintro e w1 ⟨hb1, v, he, hv⟩
      subst he
      clear hv
      go_wp2_with fail
      refine (HRM.out w1 hb1).mono ?_
      rintro e w2 ⟨g2, c2, rfl, hp2, hb2⟩
      have hp2' := hp2.mono hb1.size
      have z0 := HB0.out w2 g2 c2 hp2'
      have HP2 := Lib.hid hp2'
      have HB2 := Lib.hid (hb1.trans (hb2.mono hb1.size))
      clear hp2 hb2 hb1 hp2'
      go_wp2_with fail
      refine (HCO.out w2 _ g2 c2 HP2.out).mono ?_
      rintro e w3 ⟨rfl, hp3, hb3⟩
      have HB3 := Lib.hid hb3
      go_wp2_with fail
      refine (HDS.out w3 _ _ _ hp3).mono ?_
      rintro e w4 ⟨rfl, rfl⟩
      clear hp3 hb3
      go_wp2_with fail
      refine (HPL.out w3 _ g2 c2 (HB2.out.trans (HB3.out.mono HB2.out.size)) (HP2.out.below HB3.out) HY.out).mono ?_
      rintro e w5 ⟨g5, c5, rfl, hp5, hb5⟩
      have HP5 := Lib.hid hp5
      clear hp5
      go_wp2_with fail
      go_ret2
      have hs3 := (HB2.out.trans (HB3.out.mono HB2.out.size)).size
      exact ⟨(HB2.out.trans (HB3.out.mono HB2.out.size)).trans (hb5.mono hs3), fun _ => ⟨g5, c5, rfl, HP5.out.mono hs3⟩, fun h => absurd HY.out h⟩
    · have y7' : ¬ ((mx : Int) < (f1 : Int)) := by omega
      clear y7
      go_enter Try.func27, Try.ntmps27
      go_wp2_with fail
      refine HG.out.mono ?_
      rintro e w1 ⟨hb1, v, he, hv⟩
      subst he
      clear hv
      go_wp2_with fail
      refine (HRM.out w1 hb1).mono ?_
      rintro e w2 ⟨g2, c2, rfl, hp2, hb2⟩
      have hp2' := hp2.mono hb1.size
      have z0 := HB0.out w2 g2 c2 hp2'
      have HP2 := Lib.hid hp2'
      have HB2 := Lib.hid (hb1.trans (hb2.mono hb1.size))
      clear hp2 hb2 hb1 hp2'
      go_wp2_with fail
      refine (HCO.out w2 _ g2 c2 HP2.out).mono ?_
      rintro e w3 ⟨rfl, hp3, hb3⟩
      have HB3 := Lib.hid hb3
      go_wp2_with fail
      refine (HDS.out w3 _ _ _ hp3).mono ?_
      rintro e w4 ⟨rfl, rfl⟩
      clear hp3 hb3
      go_wp2_with fail
      refine (HPL.out w3 _ g2 c2 (HB2.out.trans (HB3.out.mono HB2.out.size)) (HP2.out.below HB3.out) HY.out).mono ?_
      rintro e w5 ⟨g5, c5, rfl, hp5, hb5⟩
      have HP5 := Lib.hid hp5
      clear hp5
      go_wp2_with fail
      go_ret2
      have hs3 := (HB2.out.trans (HB3.out.mono HB2.out.size)).size
      exact ⟨(HB2.out.trans (HB3.out.mono HB2.out.size)).trans (hb5.mono hs3), fun _ => ⟨g5, c5, rfl, HP5.out.mono hs3⟩, fun h => absurd HY.out h⟩
  · have HY := Lib.hid fun hh => hft (HFD.out.1 hh)
    have x3 : decide ((d : Int) - 2 - 2 * (mx : Int) < (l : Int)) = true := decide_eq_true (by omega)
    have x4 : (d : Int) - 2 - 2 * (mx : Int) < (l : Int) := by omega
    clear hft hmx hmi
    rcases hcase with ⟨y7, rfl⟩ | ⟨y7, rfl⟩
    · have y7' : (n : Int) < (mx : Int) := by omega
      clear y7
      go_enter Try.func27, Try.ntmps27
      go_wp2_with fail
      refine HG.out.mono ?_
      rintro e w1 ⟨hb1, v, he, hv⟩
      subst he
      clear hv
      go_wp2_with fail
      refine (HRM.out w1 hb1).mono ?_
      rintro e w2 ⟨g2, c2, rfl, hp2, hb2⟩
      have hp2' := hp2.mono hb1.size
      have z0 := HB0.out w2 g2 c2 hp2'
      have HP2 := Lib.hid hp2'
      have HB2 := Lib.hid (hb1.trans (hb2.mono hb1.size))
      clear hp2 hb2 hb1 hp2'
      go_wp2_with fail
      refine (HCO.out w2 _ g2 c2 HP2.out).mono ?_
      rintro e w3 ⟨rfl, hp3, hb3⟩
      have HB3 := Lib.hid hb3
      go_wp2_with fail
      refine (HDS.out w3 _ _ _ hp3).mono ?_
      rintro e w4 ⟨rfl, rfl⟩
      clear hp3 hb3
      go_wp2_with fail
      go_ret2
      exact ⟨HB2.out.trans (HB3.out.mono HB2.out.size), fun h => absurd h HY.out, fun _ => rfl⟩
    · have y7' : ¬ ((mx : Int) < (f1 : Int)) := by omega
      clear y7
      go_enter Try.func27, Try.ntmps27
      go_wp2_with fail
      refine HG.out.mono ?_
      rintro e w1 ⟨hb1, v, he, hv⟩
      subst he
      clear hv
      go_wp2_with fail
      refine (HRM.out w1 hb1).mono ?_
      rintro e w2 ⟨g2, c2, rfl, hp2, hb2⟩
      have hp2' := hp2.mono hb1.size
      have z0 := HB0.out w2 g2 c2 hp2'
      have HP2 := Lib.hid hp2'
      have HB2 := Lib.hid (hb1.trans (hb2.mono hb1.size))
      clear hp2 hb2 hb1 hp2'
      go_wp2_with fail
      refine (HCO.out w2 _ g2 c2 HP2.out).mono ?_
      rintro e w3 ⟨rfl, hp3, hb3⟩
      have HB3 := Lib.hid hb3
      go_wp2_with fail
      refine (HDS.out w3 _ _ _ hp3).mono ?_
      rintro e w4 ⟨rfl, rfl⟩
      clear hp3 hb3
      go_wp2_with fail
      go_ret2
      exact ⟨HB2.out.trans (HB3.out.mono HB2.out.size), fun h => absurd h HY.out, fun _ => rfl⟩

end Go.Proofs.Ytjdcnkbkbcfhfaa
