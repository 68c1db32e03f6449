/-
  The walks of the decoder's methods: byte, string, uvarint.
  The walk of the decoder's method row.
  The walks of bytes.Equal, the decoder's canonical, and DecodeRow.
  The walk of Get.
  A region that draws its order, by a relation that every operation keeps. No program in sight.
-/
import Derived.Test.YtjdcnkbkbcfhfaaRows
import Derived.Test.YtjdcnkbkbcfhfaaHm16
import Derived.Deep.QuietTactic
import Derived.BigQuiet
import Derived.Test.YtjdcnkbkbcfhfaaHm10
import Derived.Test.YtjdcnkbkbcfhfaaHm09
import Derived.Deep.RegionHeld3
import Derived.Deep.RegionLaw
import Derived.Deep.LoopGhost
namespace Go.Proofs.Ytjdcnkbkbcfhfaa
open Go.RowKit

/-- The decoder in block g: what is left of the input lies in blocks of S, none of them g. -/
structure Dec (w : World) (g : Nat) (S : Nat → Prop) (s : DSt) : Prop where
  blk : ∃ (A : Option Addr) (c : Nat), w.heap[g]? = some (.cells #[.slice A s.1.length c, .bool s.2] 131 (0, 0)) ∧ s.1.length ≤ c ∧ c ≤ maxLen ∧ Elems 1 byteCs w S A s.1
  ne : ∀ k, S k → k ≠ g

/-- From w to w' nothing old has turned but block g. -/
abbrev Only (w : World) (g : Nat) (w' : World) : Prop := w.grownBy w' (some g)

theorem Only.setCell (w : World) (g i : Nat) (u : Value) : Only w g (w.setCell ⟨g, i, none⟩ u) :=
  ⟨rfl, rfl, rfl, by simp [World.setCell], fun k _ hk => Below.heap_setCell _ _ _ _ (fun e => hk (by rw [e]))⟩

theorem Dec.mk0 {w : World} {g : Nat} {S : Nat → Prop} {A A' : Option Addr} {n c c' : Nat} {f : Bool} {xs : List UInt8} (h : w.heap[g]? = some (.cells #[.slice A n c, .bool f] 131 (0, 0))) (hne : ∀ k, S k → k ≠ g)
    (hc : xs.length ≤ c') (hm : c' ≤ maxLen) (he : Elems 1 byteCs w S A' xs) {m : Nat} (hl : m = xs.length) : Dec (w.setCell ⟨g, 0, none⟩ (.slice A' m c')) g S (xs, f) := by
  subst hl
  refine ⟨⟨A', c', ?_, hc, hm, he.keep fun k hk => Below.heap_setCell _ _ _ _ (hne k hk)⟩, hne⟩
  rw [heap_setCell_same w g 0 _ _ _ h]
  rfl
theorem Dec.mk1 {w : World} {g : Nat} {S : Nat → Prop} {A : Option Addr} {c : Nat} {f : Bool} {xs : List UInt8} (h : w.heap[g]? = some (.cells #[.slice A xs.length c, .bool f] 131 (0, 0))) (hne : ∀ k, S k → k ≠ g)
    (hc : xs.length ≤ c) (hm : c ≤ maxLen) (he : Elems 1 byteCs w S A xs) (f' : Bool) : Dec (w.setCell ⟨g, 1, none⟩ (.bool f')) g S (xs, f') := by
  refine ⟨⟨A, c, ?_, hc, hm, he.keep fun k hk => Below.heap_setCell _ _ _ _ (hne k hk)⟩, hne⟩
  rw [heap_setCell_same w g 1 _ _ _ h]
  rfl

theorem Elems.tail {α : Type} {sz : Nat} {cs : α → List Value} {w : World} {S : Nat → Prop} {b off : Nat} {x : α} {xs : List α} (h : Elems sz cs w S (some ⟨b, off, none⟩) (x :: xs)) : Elems sz cs w S (some ⟨b, off + sz, none⟩) xs := fun _ => by
  obtain ⟨b', off', e, hs, hc⟩ := h (by simp)
  injection e with e
  injection e with e1 e2
  subst e1 e2
  refine ⟨b, _, rfl, hs, fun i y hy j u hu => ?_⟩
  have := hc (i + 1) y (by simpa using hy) j u hu
  rw [← this]
  congr 2
  rw [Nat.succ_mul]
  omega

theorem cells_of_blk {w : World} {g : Nat} {cs : Array Value} {t : TypeId} (h : w.heap[g]? = some (.cells cs t (0, 0))) (i : Nat) : w.cell? ⟨g, i, none⟩ = cs[i]? := cell_of_row w g i cs t (0, 0) h
theorem frozen_of_blk {w : World} {g : Nat} {cs : Array Value} {t : TypeId} (h : w.heap[g]? = some (.cells cs t (0, 0))) (i : Nat) : w.frozen? ⟨g, i, none⟩ = false := frozen_of_row w g i cs t h

set_option maxRecDepth 100000 in
set_option maxHeartbeats 400000 in
theorem dec_byte (g : Nat) (S : Nat → Prop) (s : DSt) (w : World) (h : Dec w g S s) :
    Calls Try.prog 88 #[.pointer (some ⟨g, 0, none⟩)] w fun e w' => e = .returned (.int .u8 ((dByte s).1.toNat : Int)) ∧ Dec w' g S (dByte s).2 ∧ Only w g w' := by
  obtain ⟨⟨A, c, hg, hlc, hcm, he⟩, hne⟩ := h
  obtain ⟨xs, f⟩ := s
  have c0 := cells_of_blk hg 0
  have c1 := cells_of_blk hg 1
  have f0 := frozen_of_blk hg 0
  have f1 := frozen_of_blk hg 1
  cases xs with
  | nil =>
    simp only [List.length_nil] at c0 hg
    have HF : Hid (Dec (w.setCell ⟨g, 1, none⟩ (.bool true)) g S ([], true)) := Dec.mk1 (xs := []) hg hne hlc hcm he true
    have HO := Lib.hid (Only.setCell w g 1 (.bool true))
    clear hg hne he
    go_enter Try.func88, Try.ntmps88
    go_wp2_with fail
    go_ret
    exact ⟨rfl, HF.out, HO.out⟩
  | cons x xs =>
    obtain ⟨b, off, rfl, hbs, d0⟩ := he.byte (k := 0) (by simp)
    have hbg := hne b hbs
    have ht := he.tail
    simp only [List.length_cons, Nat.add_zero, List.getElem_cons_zero] at c0 d0 hlc
    unfold maxLen at hcm
    by_cases hc1 : c = 1
    · subst hc1
      have hx : xs = [] := List.eq_nil_of_length_eq_zero (by omega)
      subst hx
      have HF : Hid (Dec (w.setCell ⟨g, 0, none⟩ (.slice (some ⟨b, off, none⟩) 0 0)) g S ([], f)) := Dec.mk0 (xs := []) hg hne (by simp) (by unfold maxLen; omega) (Elems.nil _ _ _) rfl
      have HO := Lib.hid (Only.setCell w g 0 (.slice (some ⟨b, off, none⟩) 0 0))
      clear hg hne he ht
      go_enter Try.func88, Try.ntmps88
      go_wp2_with fail
      go_ret
      exact ⟨rfl, HF.out, HO.out⟩
    · have hlt : 1 < c := by omega
      have HF : Hid (Dec (w.setCell ⟨g, 0, none⟩ (.slice (some ⟨b, off + 1, none⟩) xs.length (c - 1))) g S (xs, f)) := Dec.mk0 (xs := xs) hg hne (by omega) (by unfold maxLen; omega) ht rfl
      have HO := Lib.hid (Only.setCell w g 0 (.slice (some ⟨b, off + 1, none⟩) xs.length (c - 1)))
      clear hg hne he ht
      go_enter Try.func88, Try.ntmps88
      go_wp2_with fail
      go_ret
      exact ⟨rfl, HF.out, HO.out⟩


/-- The conversion of a slice of bytes to a string. -/
theorem conv_bytes {w : World} {S : Nat → Prop} {A : Option Addr} {xs : List UInt8} (c : Nat) (h : Elems 1 byteCs w S A xs) :
    (convert 64 9 (.slice A xs.length c)).run Try.prog w = .ok (.string ⟨xs.toArray⟩) w := by
  rcases Nat.eq_zero_or_pos xs.length with h0 | h0
  · have hx : xs = [] := List.eq_nil_of_length_eq_zero h0
    subst hx
    rw [run_convert_bytes_string w 64 9 5 _ _ c Try.underlying64 Try.underlying5 Try.underlying9]
    cases A with
    | none => simp [Conv.bytesToString]; rfl
    | some a =>
      have := run_bytesToString (P := Try.prog) w a 0 c [] (by simp [loadCells, loadCellsFrom])
      exact this
  · obtain ⟨b, off, rfl, _, hc⟩ := h h0
    have e : strOfNums (xs.map fun x => (x.toNat : Int)) = ⟨xs.toArray⟩ := by
      unfold strOfNums
      congr 2
      rw [List.map_map]
      conv => rhs; rw [← List.map_id xs]
      apply List.map_congr_left
      intro x _
      simp
    rw [← e]
    refine run_convert_bytes_arg w 64 5 Try.underlying64 Try.underlying5 b off _ c _ (by simp) (fun i hi => ?_) 9 Try.underlying9
    have := hc i _ (List.getElem?_eq_getElem hi) 0 _ rfl
    simp only [Nat.mul_one, Nat.add_zero] at this
    rw [this]
    simp [List.getD, List.getElem?_eq_getElem hi]


set_option maxRecDepth 100000 in
set_option maxHeartbeats 400000 in
theorem dec_string (g : Nat) (S : Nat → Prop) (s : DSt) (n : Nat) (w : World) (h : Dec w g S s) (hn : n ≤ 255) :
    Calls Try.prog 90 #[.pointer (some ⟨g, 0, none⟩), .int .i64 n] w fun e w' => e = .returned (.string ⟨(dStr n s).1.toArray⟩) ∧ Dec w' g S (dStr n s).2 ∧ Only w g w' := by
  obtain ⟨⟨A, c, hg, hlc, hcm, he⟩, hne⟩ := h
  obtain ⟨xs, f⟩ := s
  have c0 := cells_of_blk hg 0
  have c1 := cells_of_blk hg 1
  have f0 := frozen_of_blk hg 0
  have f1 := frozen_of_blk hg 1
  simp only at hg hlc he
  by_cases hlt : xs.length < n
  · have hd : dStr n (xs, f) = ([], (xs, true)) := by unfold dStr; rw [if_pos hlt]
    rw [hd]
    have HF := Lib.hid (Dec.mk1 hg hne hlc hcm he true)
    have HO := Lib.hid (Only.setCell w g 1 (.bool true))
    unfold maxLen at hcm
    clear hg hne he
    go_enter Try.func90, Try.ntmps90
    go_wp2_with fail
    go_ret
    exact ⟨rfl, HF.out, HO.out⟩
  · have hd : dStr n (xs, f) = (xs.take n, (xs.drop n, f)) := by unfold dStr; rw [if_neg hlt]
    rw [hd]
    have hcv := conv_bytes c (he.take n)
    have hlen : (xs.take n).length = n := by rw [List.length_take]; omega
    rw [hlen] at hcv
    have hle : n ≤ xs.length := by omega
    have HF := Lib.hid (Dec.mk0 (A' := if c = n then A else A.map (·.add (n * 1))) (c' := c - n) (xs := xs.drop n) (m := xs.length - n) hg hne (by rw [List.length_drop]; omega) (by omega) (he.cut hle hlc) (by rw [List.length_drop]))
    have HO := Lib.hid (Only.setCell w g 0 (.slice (if c = n then A else A.map (·.add (n * 1))) (xs.length - n) (c - n)))
    unfold maxLen at hcm
    clear hg hne he hd hlen
    go_enter Try.func90, Try.ntmps90
    go_wp2_with fail
    · have hcn : c = n := by assumption
      have h1 := HF.out
      have h2 := HO.out
      rw [if_pos hcn, show c - n = 0 by omega] at h1 h2
      go_ret
      exact ⟨rfl, h1, h2⟩
    · have hcn : ¬ c = n := by assumption
      have h1 := HF.out
      have h2 := HO.out
      rw [if_neg hcn] at h1 h2
      go_ret
      refine ⟨rfl, ?_, ?_⟩
      · simpa using h1
      · simpa using h2


/-- One step of the varint as the code computes it. -/
theorem uv_step (n : Nat) (c : UInt8) (i : Nat) (hn : IsU64 n) :
    bits .or .u64 (n : Int) (IntKind.u64.wrap (IntKind.u64.wrap (bits .and .u8 (c.toNat : Int) 127) * 2 ^ (7 * i))) = (uvAdd n c i : Int) := by
  have hc : c.toNat < 256 := c.toNat_lt
  have e0 : bits .and .u8 (c.toNat : Int) 127 = ((c.toNat % 128 : Nat) : Int) := by
    have h := u8_and_nat c.toNat 127 hc (by omega)
    have h2 : c.toNat &&& 127 = c.toNat % 128 := Nat.and_two_pow_sub_one_eq_mod c.toNat 7
    rw [h2] at h
    exact h
  have e1 : IntKind.u64.wrap ((c.toNat % 128 : Nat) : Int) = ((c.toNat % 128 : Nat) : Int) := by rw [IntKind.wrap_u64]; omega
  have e2 : IntKind.u64.wrap (((c.toNat % 128 : Nat) : Int) * 2 ^ (7 * i)) = (((c.toNat % 128) * 2 ^ (7 * i) % 18446744073709551616 : Nat) : Int) := by
    generalize c.toNat % 128 = x
    rw [IntKind.wrap_u64]
    have h : ((x * 2 ^ (7 * i) : Nat) : Int) = (x : Int) * 2 ^ (7 * i) := by rw [Int.natCast_mul, Int.natCast_pow]; rfl
    rw [← h]
    omega
  rw [e0, e1, e2, u64_or_nat _ _ hn (Nat.mod_lt _ (by omega))]
  rfl

theorem uvAdd_u64 {n : Nat} {c : UInt8} {i : Nat} (hn : IsU64 n) : IsU64 (uvAdd n c i) := by
  have h := Nat.or_lt_two_pow (n := 64) (x := n) (y := (c.toNat % 128) * 2 ^ (7 * i) % 18446744073709551616) hn (Nat.mod_lt _ (by omega))
  exact h

theorem dUv_lo {k m : Nat} {t : DSt} (hk : k < 10) (h : (dByte t).1.toNat < 128) : dUv (10 - k) k m t = (uvAdd m (dByte t).1 k, (dByte t).2) := by
  rw [show 10 - k = (9 - k) + 1 by omega, dUv, if_pos h]
theorem dUv_hi {k m : Nat} {t : DSt} (hk : k < 10) (h : ¬ (dByte t).1.toNat < 128) : dUv (10 - k) k m t = dUv (10 - (k + 1)) (k + 1) (uvAdd m (dByte t).1 k) (dByte t).2 := by
  rw [show 10 - k = (9 - k) + 1 by omega, dUv, if_neg h, show 10 - (k + 1) = 9 - k by omega]

set_option maxRecDepth 100000 in
set_option maxHeartbeats 400000 in
theorem dec_uvarint (g : Nat) (S : Nat → Prop) (s : DSt) (w : World) (h : Dec w g S s) :
    Calls Try.prog 89 #[.pointer (some ⟨g, 0, none⟩)] w fun e w' => e = .returned (.int .u64 ((dUv 10 0 0 s).1 : Int)) ∧ Dec w' g S (dUv 10 0 0 s).2 ∧ Only w g w' := by
  go_enter Try.func89, Try.ntmps89
  go_wp2_with fail
  go_loopw [3, 6] (fun n i wr => ∃ (k m : Nat) (t : DSt), k ≤ 10 ∧ i = .int .i64 k ∧ n = .int .u64 m ∧ IsU64 m ∧ Dec wr g S t ∧ Only w g wr ∧ dUv (10 - k) k m t = dUv 10 0 0 s) (fun _ i _ => 10 - (intOf i).toNat)
  case atStart => exact ⟨0, 0, s, by omega, rfl, rfl, by unfold IsU64; omega, h, World.grownBy.refl _ _, rfl⟩
  case round =>
    obtain ⟨k, m, t, hk, rfl, rfl, hm, ht, ho, he⟩ := hrel
    have HE := Lib.hid he
    have HM := Lib.hid hm
    clear he hm
    by_cases hlt : k < 10
    · go_wp2_with (go_at_call 88; refine (dec_byte g S t _ ht).mono ?_; rintro e w1 ⟨rfl, hd1, ho1⟩)
      · have h0 : ((dByte t).1.toNat : Int) < 128 := by assumption
        have hl : (dByte t).1.toNat < 128 := by omega
        go_ret
        rw [← HE.out, dUv_lo hlt hl]
        exact ⟨ret_int (uv_step _ _ _ HM.out), hd1, ho.trans ho1⟩
      · have h0 : 128 ≤ ((dByte t).1.toNat : Int) := by assumption
        have hl : ¬ (dByte t).1.toNat < 128 := by omega
        go_roundw
        case rel => exact ⟨k + 1, uvAdd m (dByte t).1 k, _, by omega, by go_num, val_int (uv_step _ _ _ HM.out), uvAdd_u64 HM.out, hd1, ho.trans ho1, by rw [← HE.out, dUv_hi hlt hl]⟩
        case measure => simp [intOf]; omega
    · have hk10 : k = 10 := by omega
      subst hk10
      obtain ⟨⟨A, c, hg, hlc, hcm, hel⟩, hne⟩ := ht
      obtain ⟨xs, f⟩ := t
      have HF := Lib.hid (Dec.mk1 hg hne hlc hcm hel true)
      have HO := Lib.hid (Only.setCell wr g 1 (.bool true))
      have c1 := cells_of_blk hg 1
      have f1 := frozen_of_blk hg 1
      clear hg hne hel hcm hlc
      go_wp2_with fail
      go_ret
      rw [← HE.out]
      exact ⟨rfl, HF.out, ho.trans HO.out⟩

theorem dUv_u64 : ∀ (f i n : Nat) (s : DSt), IsU64 n → IsU64 (dUv f i n s).1
  | 0, _, _, _, _ => by unfold IsU64; simp [dUv]
  | f + 1, i, n, s, h => by
    rw [dUv]
    split
    · exact uvAdd_u64 h
    · exact dUv_u64 f (i + 1) _ _ (uvAdd_u64 h)

/-- The zigzag form undone as the code computes it. -/
theorem unz_walk (u : Nat) (hu : IsU64 u) : bits .xor .i64 (wrap64 ((u : Int) / 2)) (wrap64 (-wrap64 (bits .and .u64 (u : Int) 1))) = unzig u := by
  unfold IsU64 at hu
  have e0 : bits .and .u64 (u : Int) 1 = ((u % 2 : Nat) : Int) := by
    have h := u64_and_nat u 1 hu (by omega)
    have h2 : u &&& 1 = u % 2 := Nat.and_two_pow_sub_one_eq_mod u 1
    rw [h2] at h
    exact h
  have e1 : wrap64 ((u : Int) / 2) = ((u / 2 : Nat) : Int) := by unfold wrap64; omega
  rw [e0, e1]
  unfold unzig
  by_cases h : u % 2 = 0
  · rw [if_pos h, h]
    have e2 : wrap64 (-wrap64 ((0 : Nat) : Int)) = 0 := by unfold wrap64; omega
    rw [e2]
    show IntKind.i64.wrap ((BitVec.ofInt 64 ((u / 2 : Nat) : Int) ^^^ BitVec.ofInt 64 0).toNat : Int) = _
    have e3 : BitVec.ofInt 64 0 = 0#64 := rfl
    rw [e3, BitVec.xor_zero, BitVec.ofInt_natCast, BitVec.toNat_ofNat, IntKind.wrap_i64]
    omega
  · rw [if_neg h, show u % 2 = 1 by omega]
    have e2 : wrap64 (-wrap64 ((1 : Nat) : Int)) = -1 := by unfold wrap64; omega
    rw [e2]
    show IntKind.i64.wrap ((BitVec.ofInt 64 ((u / 2 : Nat) : Int) ^^^ BitVec.ofInt 64 (-1)).toNat : Int) = _
    have e3 : BitVec.ofInt 64 (-1) = BitVec.allOnes 64 := rfl
    rw [e3, BitVec.xor_allOnes, BitVec.toNat_not, BitVec.ofInt_natCast, BitVec.toNat_ofNat, IntKind.wrap_i64]
    omega

theorem sizeSet (w : World) (p : Addr) (u : Value) : (w.setCell p u).heap.size = w.heap.size := by simp [World.setCell]

end Go.Proofs.Ytjdcnkbkbcfhfaa

namespace Go.Proofs.Ytjdcnkbkbcfhfaa
open Go.RowKit

theorem dcElemVal : ElemT Try.prog 35 44 3 32 := ⟨Try.underlying35, by
  have h : (Try.prog.info? 44).map (fun i => (i.zero, i.size, i.bytes)) = some (some (.agg #[.int .i64 0, .int .i64 0, .string ByteArray.empty]), 3, 32) := by kernel_rfl
  obtain ⟨i0, hi, hz0, hz1, hz2⟩ := info_parts h
  exact ⟨i0, _, hi, hz0, hz1, hz2, rfl⟩, by omega⟩
theorem dcValLay : Lay 3 Val.cs := ⟨fun _ => rfl, fun x c hc => by simp [Val.cs] at hc; rcases hc with rfl | rfl | rfl <;> rfl⟩

theorem Own.only {α : Type} {sz : Nat} {cs : α → List Value} {e : TypeId} {base g : Nat} {w w' : World} {v : Value} {xs : List α} (h : Own sz cs e base w v xs) (ho : Only w g w') (hg : g < base) : Own sz cs e base w' v xs := by
  refine h.kept ho ?_
  cases hv : v.ownBlock with
  | none => exact .inl rfl
  | some b => exact .inr (fun e => by injection e with e; have := (h.lt b hv).1; omega)

theorem Dec.alloc {w : World} {g : Nat} {S : Nat → Prop} {s : DSt} (h : Dec w g S s) (hS : ∀ k, S k → k < w.heap.size) (o : Obj) : Dec (w.alloc o) g S s := by
  obtain ⟨⟨A, c, hg, h1, h2, he⟩, hne⟩ := h
  have hlt : g < w.heap.size := (Array.getElem?_eq_some_iff.1 hg).1
  exact ⟨⟨A, c, (Below.heap_alloc w o g hlt).trans hg, h1, h2, he.keep fun k hk => Below.heap_alloc w o k (hS k hk)⟩, hne⟩
/-- The decoder is as it was where only new blocks have turned. -/
theorem Dec.keep {w w' : World} {g : Nat} {S : Nat → Prop} {s : DSt} (h : Dec w g S s) (hg : w'.heap[g]? = w.heap[g]?) (hk : Keeps S w w') : Dec w' g S s := by
  obtain ⟨⟨A, c, hh, h1, h2, he⟩, hne⟩ := h
  exact ⟨⟨A, c, hg.trans hh, h1, h2, he.keep hk⟩, hne⟩
theorem Dec.below {w w' : World} {g B : Nat} {S : Nat → Prop} {s : DSt} (h : Dec w g S s) (hb : Below B w w') (hg : g < B) (hS : ∀ k, S k → k < B) : Dec w' g S s :=
  h.keep (hb.block g hg) (Keeps.of_below hb hS)
theorem Dec.lt {w : World} {g : Nat} {S : Nat → Prop} {s : DSt} (h : Dec w g S s) : g < w.heap.size := by
  obtain ⟨⟨A, c, hh, _⟩, _⟩ := h
  exact (Array.getElem?_eq_some_iff.1 hh).1

theorem Dec.ext {w w' : World} {g base : Nat} {S : Nat → Prop} {s : DSt} {v v' : Value} (h : Dec w g S s) (hx : Ext w v w' v') (hB : base ≤ w.heap.size) (hv : ∀ b, v.ownBlock = some b → base ≤ b) (hg : g < base) (hS : ∀ k, S k → k < base) : Dec w' g S s :=
  h.below (hx.below hB hv) hg hS
theorem Dec.store {w : World} {g : Nat} {S : Nat → Prop} {s : DSt} (h : Dec w g S s) {p : Addr} (hg : g ≠ p.block) (hS : ∀ k, S k → k ≠ p.block) (u : Value) : Dec (w.setCell p u) g S s :=
  h.keep (Below.heap_setCell _ _ _ _ hg) fun k hk => Below.heap_setCell _ _ _ _ (hS k hk)

/-- The byte under a name of its own. -/
theorem dec_byte_at (g : Nat) (S : Nat → Prop) (s : DSt) (kb : Int) (hk : ((dByte s).1.toNat : Int) = kb) (w : World) (h : Dec w g S s) :
    Calls Try.prog 88 #[.pointer (some ⟨g, 0, none⟩)] w fun e w' => e = .returned (.int .u8 kb) ∧ Dec w' g S (dByte s).2 ∧ Only w g w' := by
  subst hk
  exact dec_byte g S s w h

theorem Only.alloc {a w : World} {g : Nat} (h : Only a g w) (o : Obj) : Only a g (w.alloc o) :=
  ⟨h.os, h.tape, h.output, Nat.le_trans h.size (by simp), fun i hi hne => (Below.heap_alloc w o i (Nat.lt_of_lt_of_le hi h.size)).trans (h.block i hi hne)⟩
theorem Only.store {a w : World} {g : Nat} (h : Only a g w) {p : Addr} (hp : a.heap.size ≤ p.block) (u : Value) : Only a g (w.setCell p u) :=
  ⟨h.os, h.tape, h.output, by simpa [World.setCell] using h.size, fun i hi hne => (Below.heap_setCell w p u i (by omega)).trans (h.block i hi hne)⟩
theorem Only.below {a w w' : World} {g : Nat} (h : Only a g w) {B : Nat} (hb : Below B w w') (hB : a.heap.size ≤ B) : Only a g w' :=
  ⟨hb.os.trans h.os, hb.tape.trans h.tape, hb.output.trans h.output, Nat.le_trans h.size hb.size, fun i hi hne => (hb.block i (by omega)).trans (h.block i hi hne)⟩
/-- Two steps, the second of which may turn another block that is new. -/
theorem Only.ext {a w w' : World} {g : Nat} {v v' : Value} (h : Only a g w) (hx : Ext w v w' v') (hv : ∀ b, v.ownBlock = some b → a.heap.size ≤ b) : Only a g w' :=
  h.below (hx.below h.size hv) (Nat.le_refl _)

theorem dVal_1 {s : DSt} (h : (dByte s).1.toNat = 1) : dVal s = (⟨1, unzig (dUv 10 0 0 (dByte s).2).1, ByteArray.empty⟩, (dUv 10 0 0 (dByte s).2).2) := by
  have e : (dByte s).1 = 1 := UInt8.toNat_inj.1 h
  unfold dVal
  simp only [e, if_true]
theorem dVal_2 {s : DSt} (h : (dByte s).1.toNat = 2) : dVal s = (⟨2, ((dByte (dByte s).2).1.toNat : Int), ByteArray.empty⟩, (dByte (dByte s).2).2) := by
  have e : (dByte s).1 = 2 := UInt8.toNat_inj.1 h
  have e1 : (2 : UInt8) ≠ 1 := by decide
  unfold dVal
  simp only [e, if_neg e1, if_true]
theorem dVal_3 {s : DSt} (h : (dByte s).1.toNat = 3) : dVal s = (⟨3, 0, ⟨(dStr (dByte (dByte s).2).1.toNat (dByte (dByte s).2).2).1.toArray⟩⟩, (dStr (dByte (dByte s).2).1.toNat (dByte (dByte s).2).2).2) := by
  have e : (dByte s).1 = 3 := UInt8.toNat_inj.1 h
  have e1 : (3 : UInt8) ≠ 1 := by decide
  have e2 : (3 : UInt8) ≠ 2 := by decide
  unfold dVal
  simp only [e, if_neg e1, if_neg e2, if_true]
theorem dVal_0 {s : DSt} (h1 : (dByte s).1.toNat ≠ 1) (h2 : (dByte s).1.toNat ≠ 2) (h3 : (dByte s).1.toNat ≠ 3) : dVal s = (⟨((dByte s).1.toNat : Int), 0, ByteArray.empty⟩, (dByte s).2) := by
  have e1 : (dByte s).1 ≠ 1 := fun e => h1 (by rw [e]; rfl)
  have e2 : (dByte s).1 ≠ 2 := fun e => h2 (by rw [e]; rfl)
  have e3 : (dByte s).1 ≠ 3 := fun e => h3 (by rw [e]; rfl)
  unfold dVal
  simp only [if_neg e1, if_neg e2, if_neg e3]

/-- What a round of row hands on. -/
theorem row_rel {w W w5 : World} {g k : Nat} {S : Nat → Prop} {u v : Value} {ys : List Val} {x : Val} {s t : DSt} {R : List Val} {T : DSt} (hw : Own 3 Val.cs 44 w.heap.size W u ys) (hd : Dec W g S t) (ho : Only w g W)
    (hx : Ext W u w5 v) (ho5 : Own 3 Val.cs 44 w.heap.size w5 v (ys ++ [x])) (hgw : g < w.heap.size) (hS : ∀ k, S k → k < w.heap.size) (hv : dVal s = (x, t))
    (h1 : ys ++ ((dVal s).1 :: (dVals k (dVal s).2).1) = R) (h2 : (dVals k (dVal s).2).2 = T) :
    Own 3 Val.cs 44 w.heap.size w5 v (ys ++ [x]) ∧ Dec w5 g S t ∧ Only w g w5 ∧ (ys ++ [x]) ++ (dVals k t).1 = R ∧ (dVals k t).2 = T := by
  rw [hv] at h1 h2
  exact ⟨ho5, hd.ext hx ho.size (fun b hb => (hw.lt b hb).1) hgw hS, ho.ext hx (fun b hb => (hw.lt b hb).1), by simpa using h1, h2⟩

set_option maxRecDepth 100000 in
set_option maxHeartbeats 1000000 in
theorem dec_row (g : Nat) (S : Nat → Prop) (s : DSt) (w : World) (h : Dec w g S s) (hS : ∀ k, S k → k < w.heap.size) :
    Calls Try.prog 77 #[.pointer (some ⟨g, 0, none⟩)] w fun e w' => ∃ v, e = .returned v ∧ Own 3 Val.cs 44 w.heap.size w' v (dRow s).1 ∧ Dec w' g S (dRow s).2 ∧ Only w g w' := by
  have hgw := h.lt
  have hn0 := (dByte s).1.toNat_lt
  have HR : Hid (dVals (dByte s).1.toNat (dByte s).2 = dRow s) := rfl
  go_enter Try.func77, Try.ntmps77
  go_wp2_with fail
  refine (dec_byte g S s w h).mono ?_
  rintro e w1 ⟨rfl, hd1, ho1⟩
  go_wp2_with fail
  go_loopw [3, 4] (fun r n wr => ∃ (k : Nat) (ys : List Val) (t : DSt), k + ys.length ≤ 255 ∧ n = .int .u8 k ∧ Own 3 Val.cs 44 w.heap.size wr r ys ∧ Dec wr g S t ∧ Only w g wr ∧ ys ++ (dVals k t).1 = (dRow s).1 ∧ (dVals k t).2 = (dRow s).2) (fun _ n _ => (intOf n).toNat)
  case atStart => exact ⟨_, [], _, by simp; omega, rfl, Own.nil _, hd1, ho1, by rw [HR.out]; rfl, by rw [HR.out]⟩
  case round =>
    obtain ⟨k, ys, t, hk, rfl, hown, hdec, hon, he1, he2⟩ := hrel
    clear hd1 ho1 h hn0
    by_cases hk0 : k = 0
    · subst hk0
      have H1 := Lib.hid he1
      have H2 := Lib.hid he2
      clear he1 he2
      go_wp2_with fail
      go_ret
      refine ⟨_, rfl, ?_, ?_, hon⟩
      · rw [← H1.out]; simpa [dVals] using hown
      · rw [← H2.out]; exact hdec
    · obtain ⟨k, rfl⟩ : ∃ j, k = j + 1 := ⟨k - 1, by omega⟩
      obtain ⟨xs, f⟩ := t
      obtain ⟨⟨A, c, hg, hlc, hcm, hel⟩, hne⟩ := id hdec
      have c1 := cells_of_blk hg 1
      clear hg hlc hcm hel hne
      simp only at c1
      cases f with
      | true =>
        have H1 := Lib.hid he1
        have H2 := Lib.hid he2
        clear he1 he2
        go_wp2_with fail
        go_ret
        refine ⟨_, rfl, ?_, ?_, hon⟩
        · rw [← H1.out]; simpa [dVals] using hown
        · rw [← H2.out]; exact hdec
      | false =>
        rw [dVals, if_neg (by simp)] at he1 he2
        have H1 := Lib.hid he1
        have H2 := Lib.hid he2
        have HK := Lib.hid hdec
        have HW := Lib.hid hown
        clear he1 he2 hdec hown
        have hbd : (ys.length + 1) * 32 ≤ 140737488355328 := by omega
        have hmx : ys.length + 1 ≤ maxLen := by unfold maxLen; omega
        have HY := Lib.hid hbd
        have HM := Lib.hid hmx
        clear hbd hmx
        by_cases hb1 : (dByte (xs, false)).1.toNat = 1
        · have HV := Lib.hid (dVal_1 hb1)
          go_wp2_with fail
          refine (dec_byte_at g S (xs, false) 1 (by rw [hb1]; rfl) wr HK.out).mono ?_
          rintro e w2 ⟨rfl, hd2, ho2⟩
          clear hb1 c1
          have hsz2 : w.heap.size ≤ w2.heap.size := Nat.le_trans hon.size ho2.size
          have hd3 := hd2.alloc (fun k hk => Nat.lt_of_lt_of_le (hS k hk) hsz2) (.cells #[.int .i64 1, .int .i64 0, .string ByteArray.empty] 44)
          go_wp2_with fail
          refine (dec_uvarint g S _ _ hd3).mono ?_
          rintro e w3 ⟨rfl, hd4, ho4⟩
          have hV : w3.heap[w2.heap.size]? = some (.cells #[.int .i64 1, .int .i64 0, .string ByteArray.empty] 44 (0, 0)) :=
            (ho4.block _ (by simp) (fun e => by injection e with e; omega)).trans (heap_alloc_new w2 _)
          have v0 := cells_of_blk hV 0
          have v1 := cells_of_blk hV 1
          have v2 := cells_of_blk hV 2
          have g1 := frozen_of_blk hV 1
          clear hV
          have hu := dUv_u64 10 0 0 (dByte (xs, false)).2 (by unfold IsU64; omega)
          have hsz3 : w2.heap.size + 1 ≤ w3.heap.size := by have := ho4.size; simpa using this
          have hw2 := HW.out.only ho2 hgw
          have hw3 := (hw2.alloc (.cells #[.int .i64 1, .int .i64 0, .string ByteArray.empty] 44)).only ho4 hgw
          have hnb : ∀ b, u3.ownBlock = some b → b ≠ w2.heap.size := fun b hb => by have := (hw2.lt b hb).2; omega
          have hw4 := hw3.setCell (p := ⟨w2.heap.size, 1, none⟩) hnb (.int .i64 (unzig (dUv 10 0 0 (dByte (xs, false)).2).1))
          have hd5 := hd4.store (p := ⟨w2.heap.size, 1, none⟩) (by show g ≠ w2.heap.size; omega) (fun k hk => by have := hS k hk; show k ≠ w2.heap.size; omega) (.int .i64 (unzig (dUv 10 0 0 (dByte (xs, false)).2).1))
          have ho5 := Only.store ((Only.alloc (hon.trans ho2) (.cells #[.int .i64 1, .int .i64 0, .string ByteArray.empty] 44)).trans ho4) (p := ⟨w2.heap.size, 1, none⟩) hsz2 (.int .i64 (unzig (dUv 10 0 0 (dByte (xs, false)).2).1))
          have hbs : w.heap.size ≤ (w3.setCell ⟨w2.heap.size, 1, none⟩ (.int .i64 (unzig (dUv 10 0 0 (dByte (xs, false)).2).1))).heap.size := by rw [sizeSet]; omega
          go_wp2_with (at_builtin; rw [unz_walk _ hu]; refine wpList_app rfl (.tmp 53) (.tmp 55) _ _ rfl rfl rfl (run_push dcElemVal dcValLay _ _ u3 ys ⟨1, unzig (dUv 10 0 0 (dByte (xs, false)).2).1, ByteArray.empty⟩ _ hw4 rfl HY.out HM.out hbs (sizeSet _ _ _)) ?_; rintro v4 w5 ⟨ho6, hx5⟩)
          go_roundw
          case rel => exact ⟨k, _, _, by simp; omega, by go_num, row_rel hw4 hd5 ho5 hx5 ho6 hgw hS HV.out H1.out H2.out⟩
          case measure => simp [intOf]
        by_cases hb2 : (dByte (xs, false)).1.toNat = 2
        · have HV := Lib.hid (dVal_2 hb2)
          go_wp2_with fail
          refine (dec_byte_at g S (xs, false) 2 (by rw [hb2]; rfl) wr HK.out).mono ?_
          rintro e w2 ⟨rfl, hd2, ho2⟩
          clear hb1 hb2 c1
          have hsz2 : w.heap.size ≤ w2.heap.size := Nat.le_trans hon.size ho2.size
          have hd3 := hd2.alloc (fun k hk => Nat.lt_of_lt_of_le (hS k hk) hsz2) (.cells #[.int .i64 2, .int .i64 0, .string ByteArray.empty] 44)
          go_wp2_with fail
          refine (dec_byte g S _ _ hd3).mono ?_
          rintro e w3 ⟨rfl, hd4, ho4⟩
          have hV : w3.heap[w2.heap.size]? = some (.cells #[.int .i64 2, .int .i64 0, .string ByteArray.empty] 44 (0, 0)) :=
            (ho4.block _ (by simp) (fun e => by injection e with e; omega)).trans (heap_alloc_new w2 _)
          have v0 := cells_of_blk hV 0
          have v1 := cells_of_blk hV 1
          have v2 := cells_of_blk hV 2
          have g1 := frozen_of_blk hV 1
          clear hV
          have hb256 := (dByte (dByte (xs, false)).2).1.toNat_lt
          have hsz3 : w2.heap.size + 1 ≤ w3.heap.size := by have := ho4.size; simpa using this
          have hw2 := HW.out.only ho2 hgw
          have hw3 := (hw2.alloc (.cells #[.int .i64 2, .int .i64 0, .string ByteArray.empty] 44)).only ho4 hgw
          have hnb : ∀ b, u3.ownBlock = some b → b ≠ w2.heap.size := fun b hb => by have := (hw2.lt b hb).2; omega
          have hw4 := hw3.setCell (p := ⟨w2.heap.size, 1, none⟩) hnb (.int .i64 ((dByte (dByte (xs, false)).2).1.toNat : Int))
          have hd5 := hd4.store (p := ⟨w2.heap.size, 1, none⟩) (by show g ≠ w2.heap.size; omega) (fun k hk => by have := hS k hk; show k ≠ w2.heap.size; omega) (.int .i64 ((dByte (dByte (xs, false)).2).1.toNat : Int))
          have ho5 := Only.store ((Only.alloc (hon.trans ho2) (.cells #[.int .i64 2, .int .i64 0, .string ByteArray.empty] 44)).trans ho4) (p := ⟨w2.heap.size, 1, none⟩) hsz2 (.int .i64 ((dByte (dByte (xs, false)).2).1.toNat : Int))
          have hbs : w.heap.size ≤ (w3.setCell ⟨w2.heap.size, 1, none⟩ (.int .i64 ((dByte (dByte (xs, false)).2).1.toNat : Int))).heap.size := by rw [sizeSet]; omega
          go_wp2_with (at_builtin; refine wpList_app rfl (.tmp 53) (.tmp 55) _ _ rfl rfl rfl (run_push dcElemVal dcValLay _ _ u3 ys ⟨2, ((dByte (dByte (xs, false)).2).1.toNat : Int), ByteArray.empty⟩ _ hw4 rfl HY.out HM.out hbs (sizeSet _ _ _)) ?_; rintro v4 w5 ⟨ho6, hx5⟩)
          go_roundw
          case rel => exact ⟨k, _, _, by simp; omega, by go_num, row_rel hw4 hd5 ho5 hx5 ho6 hgw hS HV.out H1.out H2.out⟩
          case measure => simp [intOf]
        by_cases hb3 : (dByte (xs, false)).1.toNat = 3
        · have HV := Lib.hid (dVal_3 hb3)
          go_wp2_with fail
          refine (dec_byte_at g S (xs, false) 3 (by rw [hb3]; rfl) wr HK.out).mono ?_
          rintro e w2 ⟨rfl, hd2, ho2⟩
          clear hb1 hb2 hb3 c1
          have hsz2 : w.heap.size ≤ w2.heap.size := Nat.le_trans hon.size ho2.size
          have hd3 := hd2.alloc (fun k hk => Nat.lt_of_lt_of_le (hS k hk) hsz2) (.cells #[.int .i64 3, .int .i64 0, .string ByteArray.empty] 44)
          go_wp2_with fail
          refine (dec_byte g S _ _ hd3).mono ?_
          rintro e w3 ⟨rfl, hd4, ho4⟩
          have hb256 := (dByte (dByte (xs, false)).2).1.toNat_lt
          go_wp2_with fail
          refine (dec_string g S _ _ _ hd4 (by omega)).mono ?_
          rintro e w3b ⟨rfl, hd4b, ho4b⟩
          have ho4c := ho4.trans ho4b
          have hV : w3b.heap[w2.heap.size]? = some (.cells #[.int .i64 3, .int .i64 0, .string ByteArray.empty] 44 (0, 0)) :=
            (ho4c.block _ (by simp) (fun e => by injection e with e; omega)).trans (heap_alloc_new w2 _)
          have v0 := cells_of_blk hV 0
          have v1 := cells_of_blk hV 1
          have v2 := cells_of_blk hV 2
          have g2 := frozen_of_blk hV 2
          clear hV
          have hsz3 : w2.heap.size + 1 ≤ w3b.heap.size := by have := ho4c.size; simpa using this
          have hw2 := HW.out.only ho2 hgw
          have hw3 := (hw2.alloc (.cells #[.int .i64 3, .int .i64 0, .string ByteArray.empty] 44)).only ho4c hgw
          have hnb : ∀ b, u3.ownBlock = some b → b ≠ w2.heap.size := fun b hb => by have := (hw2.lt b hb).2; omega
          generalize hS0 : (dStr (dByte (dByte (xs, false)).2).1.toNat (dByte (dByte (xs, false)).2).2) = sr at *
          have hw4 := hw3.setCell (p := ⟨w2.heap.size, 2, none⟩) hnb (.string ⟨sr.1.toArray⟩)
          have hd5 := hd4b.store (p := ⟨w2.heap.size, 2, none⟩) (by show g ≠ w2.heap.size; omega) (fun k hk => by have := hS k hk; show k ≠ w2.heap.size; omega) (.string ⟨sr.1.toArray⟩)
          have ho5 := Only.store ((Only.alloc (hon.trans ho2) (.cells #[.int .i64 3, .int .i64 0, .string ByteArray.empty] 44)).trans ho4c) (p := ⟨w2.heap.size, 2, none⟩) hsz2 (.string ⟨sr.1.toArray⟩)
          have hbs : w.heap.size ≤ (w3b.setCell ⟨w2.heap.size, 2, none⟩ (.string ⟨sr.1.toArray⟩)).heap.size := by rw [sizeSet]; omega
          clear hS0
          go_wp2_with (at_builtin; refine wpList_app rfl (.tmp 53) (.tmp 55) _ _ rfl rfl rfl (run_push dcElemVal dcValLay _ _ u3 ys ⟨3, 0, ⟨sr.1.toArray⟩⟩ _ hw4 rfl HY.out HM.out hbs (sizeSet _ _ _)) ?_; rintro v4 w5 ⟨ho6, hx5⟩)
          go_roundw
          case rel => exact ⟨k, _, _, by simp; omega, by go_num, row_rel hw4 hd5 ho5 hx5 ho6 hgw hS HV.out H1.out H2.out⟩
          case measure => simp [intOf]
        · have HV := Lib.hid (dVal_0 hb1 hb2 hb3)
          have hb256 := (dByte (xs, false)).1.toNat_lt
          go_wp2_with fail
          refine (dec_byte g S (xs, false) wr HK.out).mono ?_
          rintro e w2 ⟨rfl, hd2, ho2⟩
          clear c1
          have hsz2 : w.heap.size ≤ w2.heap.size := Nat.le_trans hon.size ho2.size
          generalize (dByte (xs, false)).1.toNat = kb at *
          have hd3 := hd2.alloc (fun k hk => Nat.lt_of_lt_of_le (hS k hk) hsz2) (.cells #[.int .i64 (kb : Int), .int .i64 0, .string ByteArray.empty] 44)
          have hw2 := HW.out.only ho2 hgw
          have hw3 := hw2.alloc (.cells #[.int .i64 (kb : Int), .int .i64 0, .string ByteArray.empty] 44)
          have ho5 := Only.alloc (hon.trans ho2) (.cells #[.int .i64 (kb : Int), .int .i64 0, .string ByteArray.empty] 44)
          have hbs : w.heap.size ≤ (w2.alloc (.cells #[.int .i64 (kb : Int), .int .i64 0, .string ByteArray.empty] 44)).heap.size := by simp; omega
          go_wp2_with (at_builtin; refine wpList_app rfl (.tmp 53) (.tmp 55) _ _ rfl rfl rfl (run_push dcElemVal dcValLay _ _ u3 ys ⟨(kb : Int), 0, ByteArray.empty⟩ _ hw3 rfl HY.out HM.out hbs (size1 _ _)) ?_; rintro v4 w5 ⟨ho6, hx5⟩)
          go_roundw
          case rel => exact ⟨k, _, _, by simp; omega, by go_num, row_rel hw3 hd3 ho5 hx5 ho6 hgw hS HV.out H1.out H2.out⟩
          case measure => simp [intOf]

end Go.Proofs.Ytjdcnkbkbcfhfaa

namespace Go.Proofs.Ytjdcnkbkbcfhfaa
open Go.RowKit

set_option maxRecDepth 100000 in
set_option maxHeartbeats 400000 in
theorem bytes_Equal (A B : Option Addr) (c d : Nat) (xs ys : List UInt8) (w : World) (S T : Nat → Prop) (hx : Elems 1 byteCs w S A xs) (hy : Elems 1 byteCs w T B ys) :
    Calls Try.prog 91 #[.slice A xs.length c, .slice B ys.length d] w fun e w' => e = .returned (.bool (decide (xs = ys))) ∧ w' = w := by
  have h1 := conv_bytes c hx
  have h2 := conv_bytes d hy
  clear hx hy
  go_enter Try.func91, Try.ntmps91
  go_wp2_with fail
  go_ret
  exact ⟨ret_bool (by by_cases h : xs = ys <;> simp [h]), rfl⟩

/-- What canonical answers. -/
def canonB (f : Bool) (rest : List UInt8) (er : Int) (inp enc : List UInt8) : Bool := !f && (rest.isEmpty && (er == 0 && decide (inp = enc)))

set_option maxRecDepth 100000 in
set_option maxHeartbeats 400000 in
theorem dec_canonical (g : Nat) (S T U : Nat → Prop) (s : DSt) (A B : Option Addr) (c d : Nat) (xs ys : List UInt8) (er : Int) (w : World) (h : Dec w g S s) (hx : Elems 1 byteCs w T A xs) (hy : Elems 1 byteCs w U B ys) :
    Calls Try.prog 78 #[.pointer (some ⟨g, 0, none⟩), .slice A xs.length c, .slice B ys.length d, .int .i64 er] w fun e w' => e = .returned (.bool (canonB s.2 s.1 er xs ys)) ∧ w' = w := by
  obtain ⟨⟨A0, c0, hg, hlc, hcm, hel⟩, hne⟩ := h
  obtain ⟨rest, f⟩ := s
  have d0 := cells_of_blk hg 0
  have d1 := cells_of_blk hg 1
  clear hg hlc hcm hel hne
  cases f with
  | true =>
    go_enter Try.func78, Try.ntmps78
    go_wp2_with fail
    go_ret
    exact ⟨ret_bool rfl, rfl⟩
  | false =>
    cases rest with
    | cons x rest =>
      have hl : (((x :: rest).length : Int) == 0) = false := by rw [beq_eq_false_iff_ne]; simp only [List.length_cons]; omega
      go_enter Try.func78, Try.ntmps78
      go_wp2_with fail
      go_ret
      exact ⟨ret_bool rfl, rfl⟩
    | nil =>
      by_cases he : er = 0
      · subst he
        go_enter Try.func78, Try.ntmps78
        go_wp2_with (go_at_call 91; refine (bytes_Equal A B c d xs ys w T U hx hy).mono ?_; rintro e w' ⟨rfl, rfl⟩)
        go_ret
        exact ⟨ret_bool rfl, rfl⟩
      · have hb : (er == 0) = false := by simp [he]
        have HE := Lib.hid he
        clear he
        go_enter Try.func78, Try.ntmps78
        go_wp2_with fail
        go_ret
        exact ⟨ret_bool (by simp [canonB, HE.out]), rfl⟩

/-- DecodeRow accepts. -/
def Acc (inp : List UInt8) : Prop := (dRow (inp, false)).2 = ([], false) ∧ rErr (dRow (inp, false)).1 = 0 ∧ encR (dRow (inp, false)).1 = inp
/-- What DecodeRow leaves where it accepts. -/
def DecPost (w : World) (r : List Val) (e : Ending) (w' : World) : Prop :=
  ∃ v, e = .returned (.tuple #[v, .int .i64 0]) ∧ Own 3 Val.cs 44 w.heap.size w' v r ∧ Below w.heap.size w w'

theorem dVals_len : ∀ (n : Nat) (s : DSt), (dVals n s).1.length ≤ n
  | 0, _ => by simp [dVals]
  | n + 1, s => by
    rw [dVals]
    split
    · simp
    · have := dVals_len n (dVal s).2
      simp
      omega
theorem dRow_len (s : DSt) : (dRow s).1.length ≤ maxLen := by
  have h1 := dVals_len (dByte s).1.toNat (dByte s).2
  have h2 := (dByte s).1.toNat_lt
  unfold maxLen
  show (dVals _ _).1.length ≤ _
  omega

set_option maxRecDepth 100000 in
set_option maxHeartbeats 400000 in
theorem decodeRow_long (A : Option Addr) (c : Nat) (xs : List UInt8) (w : World) (hl : xs.length ≤ maxLen) (h : 65536 < xs.length) :
    Calls Try.prog 54 #[.slice A xs.length c] w fun e w' => e = .returned (.tuple #[.slice none 0 0, .int .i64 2]) ∧ Below w.heap.size w w' := by
  unfold maxLen at hl
  have h' : (65536 : Int) < (xs.length : Int) := by omega
  go_enter Try.func54, Try.ntmps54
  go_wp2_with fail
  go_ret2
  exact ⟨rfl, Below.refl _ _⟩

set_option maxRecDepth 100000 in
set_option maxHeartbeats 400000 in
theorem decodeRow_any (A : Option Addr) (c : Nat) (xs : List UInt8) (w : World) (hx : Elems 1 byteCs w (· < w.heap.size) A xs) (hlc : xs.length ≤ c) (hc : c ≤ maxLen) (h : xs.length ≤ 65536) :
    Calls Try.prog 54 #[.slice A xs.length c] w fun e w' => (Acc xs → DecPost w (dRow (xs, false)).1 e w') ∧ (¬ Acc xs → e = .returned (.tuple #[.slice none 0 0, .int .i64 3]) ∧ Below w.heap.size w w') := by
  have h' : ¬ (65536 : Int) < (xs.length : Int) := by omega
  have hD : Dec (w.alloc (.cells #[.slice A xs.length c, .bool false] 131)) w.heap.size (· < w.heap.size) (xs, false) :=
    ⟨⟨A, c, heap_alloc_new w _, hlc, hc, hx.keep fun k hk => Below.heap_alloc w _ k hk⟩, fun k hk => by omega⟩
  have hS : ∀ k, k < w.heap.size → k < (w.alloc (.cells #[.slice A xs.length c, .bool false] 131)).heap.size := fun k hk => by simp; omega
  have HA : Hid (Acc xs ↔ (dRow (xs, false)).2 = ([], false) ∧ rErr (dRow (xs, false)).1 = 0 ∧ encR (dRow (xs, false)).1 = xs) := Iff.rfl
  have hrl := dRow_len (xs, false)
  go_enter Try.func54, Try.ntmps54
  go_wp2_with fail
  refine (dec_row _ _ _ _ hD hS).mono ?_
  rintro e w1 ⟨v, rfl, how, hd1, ho1⟩
  generalize hR : dRow (xs, false) = R at *
  obtain ⟨r, rest, f⟩ := R
  have HR := Lib.hid hR
  clear hR
  obtain ⟨A1, c1, rfl, _, _⟩ := how.form
  have hb1 : Below w.heap.size w w1 := ((Below.refl _ _).alloc (Nat.le_refl _) _).trans ⟨ho1.os, ho1.tape, ho1.output, ho1.size, fun k hk => ho1.block k (by simp; omega) (fun e => by injection e with e; omega)⟩
  have hs1 : w.heap.size + 1 ≤ w1.heap.size := by have := ho1.size; simpa using this
  have hel := (how.elems dcValLay.len rfl).more (S' := (· < w1.heap.size)) fun k hk => (how.lt k hk).2
  simp only at hrl hd1 HA hel
  go_wp2_with fail
  by_cases he : rErr r = 0
  · refine (encodeRow_ok A1 c1 r w1 hel hrl he).mono ?_
    rintro e w2 ⟨v2, rfl, ho2, hb2⟩
    obtain ⟨A2, c2, rfl, _, _⟩ := ho2.form
    have hd2 := hd1.below hb2 (by omega) (fun k hk => by omega)
    have hx2 := hx.keep (Keeps.of_below (hb1.trans (hb2.mono hb1.size)) fun _ h => h)
    have hcan := dec_canonical w.heap.size _ _ _ (rest, f) A A2 c c2 xs (encR r) 0 w2 hd2 hx2 (ho2.elems byteLay.len rfl)
    have HC := Lib.hid hcan
    have hw2 := how.below hb2
    have HW := Lib.hid hw2
    have HE := Lib.hid he
    clear hcan hw2 he hd1 hd2 hel how ho2 hx2 hx hD
    by_cases hcb : canonB f rest 0 xs (encR r) = true
    · simp only [hcb] at HC
      go_wp2_with fail
      refine HC.out.mono ?_
      rintro e w3 ⟨rfl, rfl⟩
      go_wp2_with fail
      go_ret2
      have hacc : Acc xs := by
        rw [HA.out]
        cases f <;> cases rest <;> simp_all [canonB, HE.out]
      rw [HR.out]
      exact ⟨fun _ => ⟨_, rfl, HW.out.mono (by simp), hb1.trans (hb2.mono hb1.size)⟩, fun h => absurd hacc h⟩
    · have hcf : canonB f rest 0 xs (encR r) = false := by simpa using hcb
      simp only [hcf] at HC
      go_wp2_with fail
      refine HC.out.mono ?_
      rintro e w3 ⟨rfl, rfl⟩
      go_wp2_with fail
      go_ret2
      have hacc : ¬ Acc xs := by
        rw [HA.out]
        rintro ⟨h1, _, h3⟩
        injection h1 with h4 h5
        subst h4 h5
        simp [canonB, h3] at hcb
      exact ⟨fun h => absurd h hacc, fun _ => ⟨rfl, hb1.trans (hb2.mono hb1.size)⟩⟩
  · refine (encodeRow_no A1 c1 r w1 hel hrl he).mono ?_
    rintro e w2 ⟨rfl, hb2⟩
    have hd2 := hd1.below hb2 (by omega) (fun k hk => by omega)
    have hx2 := hx.keep (Keeps.of_below (hb1.trans (hb2.mono hb1.size)) fun _ h => h)
    have hcan := dec_canonical w.heap.size _ _ (fun _ => True) (rest, f) A none c 0 xs [] (rErr r) w2 hd2 hx2 (Elems.nil _ _ _)
    have hcf : canonB f rest (rErr r) xs [] = false := by
      have : (rErr r == 0) = false := by simp [he]
      simp [canonB, this]
    simp only [hcf] at hcan
    have HC := Lib.hid hcan
    have HE := Lib.hid he
    clear hcan hcf he hd1 hd2 hel how hx2 hx hD
    go_wp2_with fail
    refine HC.out.mono ?_
    rintro e w3 ⟨rfl, rfl⟩
    go_wp2_with fail
    go_ret2
    have hacc : ¬ Acc xs := fun h => HE.out (HA.out.1 h).2.1
    exact ⟨fun h => absurd h hacc, fun _ => ⟨rfl, hb1.trans (hb2.mono hb1.size)⟩⟩

end Go.Proofs.Ytjdcnkbkbcfhfaa

namespace Go.Proofs.Ytjdcnkbkbcfhfaa
open Go.RowKit Go.Sort

/-- A node of the tree on the way down to the key. -/
structure Way (M : Nodes) (m o : Nat) (key : Row) (top : List Ent) (d a : Nat) (t : T d) (fp : List Nat) : Prop where
  rep : Rep M d a t fp
  ok : Ok m o d t
  ne : d = 0 ∨ 1 ≤ fill d t
  full : fill d t ≤ o
  same : getF key (flat d t) = getF key top

/-- One step down. -/
theorem way_down {m o : Nat} (hO : Order m o) {w : World} {M : Nodes} {O : Own'} (hs : Store w M O) {key : Row} {top : List Ent} {d a : Nat} {t : T (d + 1)} {fp : List Nat} (h : Way M m o key top (d + 1) a t fp) (A : Option Addr) (c : Nat) (hk : Elems 3 Val.cs w (· < w.heap.size) A key) :
    ∃ g n c2, w.cell? ⟨a, 2, none⟩ = some (.slice (some ⟨g, 0, none⟩) n c2) ∧ ∀ k, Calls Try.prog 38 #[ptr a, .slice A key.length c] (w.drewN k) fun e w' => ∃ (j b : Nat) (t' : T d) (fp' : List Nat), e = .returned (.int .i64 j) ∧ (0 : Int) ≤ (j : Int) ∧ (j : Int) < (n : Int) ∧ w'.cell? ⟨a, 2, none⟩ = some (.slice (some ⟨g, 0, none⟩) n c2) ∧ w'.cell? ⟨g, j, none⟩ = some (ptr b) ∧ Way M m o key top d b t' fp' ∧ Below w.heap.size w w' := by
  have hm1 : 1 ≤ m := by have := hO.lo; have := hO.eq; omega
  obtain ⟨hr, hok, hne, hful, hsame⟩ := h
  have hd1 : 1 ≤ t.2.length := by
    rcases hne with h | h
    · cases h
    · exact h
  have hful : t.2.length ≤ o := hful
  obtain ⟨cs, fps, hm, hz, hfp⟩ := hr
  have hzl := hz.len
  obtain ⟨V, hV⟩ := hs.at_ a _ hm
  obtain ⟨b0, hb0⟩ : ∃ b, cs[0]? = some b := ⟨_, List.getElem?_eq_getElem (by omega)⟩
  obtain ⟨g, c2, e2, q2, -, -, -, -⟩ := hV.child hb0
  simp only at q2 e2
  refine ⟨g, cs.length, c2, q2, fun k => ?_⟩
  obtain ⟨A0, c0, A1, c1, A2, c2', e0, e1, e2', h0, h1, h2, hfr, o0, o1, o2⟩ := hV.cells
  simp only at h1 o1
  have hrl : ∀ k, O k = .row → k < w.heap.size := fun k hk => hs.lt' (by rw [hk]; simp)
  have hbk : Below w.heap.size w (w.drewN k) := below_drewN (Below.refl _ _) k
  refine (childIdxW a (w.drewN k) A1 c1 t.1 A c key _ _ h1 ((((o1.drewN k).elems keyLay.len rfl)).more fun i hi => (Own.lt o1 i hi).2) hrl (fun _ h => h) (fun x hx => (hV.rowk x hx).keep fun i _ => rfl) (keys_ord hok hm1) (hk.keep fun i _ => rfl) (by have := hok.1.1; have := hO.hi; omega)).mono ?_
  rintro e w' ⟨j, rfl, hcov, hb1⟩
  have hbw : Below w.heap.size w w' := hbk.trans hb1
  have hjl : j < t.2.length := by have := hcov.1; have := hok.1.1; omega
  obtain ⟨c', hc⟩ : ∃ c, t.2[j]? = some c := ⟨_, List.getElem?_eq_getElem hjl⟩
  obtain ⟨b, hb⟩ : ∃ b, cs[j]? = some b := ⟨_, List.getElem?_eq_getElem (by omega)⟩
  obtain ⟨f, hff, hrb⟩ : ∃ f, fps[j]? = some f ∧ Rep M d b c' f := by
    obtain ⟨a', c'', q1, q2, q3⟩ := hz.at_ hc
    rw [hb] at q1
    injection q1 with q1
    subst q1
    exact ⟨_, q2, q3⟩
  have hV' : NodeAt w' O a ⟨[], t.1, cs⟩ V := hV.below hs.free hbw fun _ _ => rfl
  obtain ⟨g', c2'', e2'', q2', qi, -, -, -⟩ := hV'.child hb
  rw [e2] at e2''
  injection e2'' with x1 x2 x3
  injection x1 with x1
  injection x1 with x1
  subst x1 x3
  have hcok := hok.2 c' (List.mem_of_getElem? hc)
  refine ⟨j, b, c', f, rfl, by omega, by omega, q2', qi, ⟨hrb, hcok.1, .inr (by omega), hcok.2.2, ?_⟩, hbw⟩
  rw [← hsame]
  have hsd := cov_sides hok.1 hcov
  rw [show flat (d + 1) t = flat (d + 1) (t.1, t.2) from rfl, flat_at hc, getF_mid hsd.1 hsd.2]

/-- What Get answers. -/
def getV (r : Option Int) : Value := match r with
  | some v => .tuple #[.int .i64 v, .int .i64 0]
  | none => .tuple #[.int .i64 0, .int .i64 4]

set_option maxRecDepth 100000 in
set_option maxHeartbeats 4000000 in
theorem getW {base m o tb : Nat} (hO : Order m o) {ps : List PE} (w : World) (hT : TreeAt base m o w tb ps) (A : Option Addr) (c : Nat) (key : Row) (hk : Elems 3 Val.cs w (· < w.heap.size) A key) (he : rErr key = 0) (hkl : key.length ≤ 12) :
    Calls Try.prog 24 #[ptr tb, .slice A key.length c] w fun e w' => e = .returned (getV (getP key ps)) ∧ Below w.heap.size w w' := by
  obtain ⟨M, O, d, a, t, fp, hT, hps⟩ := hT
  have HCR := Lib.hid (checkRow A c key w hk (by unfold maxLen; omega))
  rw [he] at HCR
  have HT := Lib.hid hT
  have HPS := Lib.hid hps
  have HK := Lib.hid hk
  clear hT hps hk
  go_enter Try.func24, Try.ntmps24
  go_wp2_with fail
  refine HCR.out.mono ?_
  rintro e w1 ⟨rfl, hb1⟩
  have hT1 := HT.out.below hb1
  have ca : w1.cell? ⟨tb, 1, none⟩ = some (ptr a) := by rw [cell_of_row _ _ _ _ _ _ hT1.blk]; rfl
  have HT1 := Lib.hid hT1
  have HB1 := Lib.hid hb1
  clear hT1 hb1
  go_wp2_with fail
  go_loopg [7] d (fun k v wr => ∃ (b : Nat) (t' : T k) (fp' : List Nat), v = ptr b ∧ Way M m o key (flat d t) k b t' fp' ∧ Below w1.heap.size w1 wr)
  case atStart => exact ⟨a, t, fp, rfl, ⟨HT1.out.rep, HT1.out.ok, HT1.out.root.imp id fun h => by omega, HT1.out.full, rfl⟩, Below.refl _ _⟩
  case round =>
    obtain ⟨b, t', fp', rfl, hW, hb⟩ := hrel
    have hst : Store wr M O := HT1.out.store.below hb
    have hkw : Elems 3 Val.cs wr (· < wr.heap.size) A key := (HK.out.keep (Keeps.of_below (HB1.out.trans (hb.mono HB1.out.size)) fun _ h => h)).more fun i hi => Nat.lt_of_lt_of_le hi (HB1.out.trans (hb.mono HB1.out.size)).size
    have HLF : Hid (Calls Try.prog 37 #[ptr b] wr fun e w' => e = .returned (.bool (gk == 0)) ∧ wr = w') := Lib.hid (leafT hst hW.rep hW.ne 0)
    have HB := Lib.hid hb
    have HST := Lib.hid hst
    have HKW := Lib.hid hkw
    cases gk with
    | zero =>
      obtain ⟨hrep, hok, -, hful, hsame⟩ := hW
      obtain ⟨es, hes, hm, -⟩ := hrep
      have hsame : getF key es = getF key (flat d t) := by rw [hes]; exact hsame
      have hful : es.length ≤ o := by rw [hes]; exact hful
      have hok : Ord es := by rw [hes]; exact hok
      obtain ⟨V, hV⟩ := hst.at_ b _ hm
      obtain ⟨A0, c0, A1, c1, A2, c2, e0, e1, e2, h0, h1, h2, hfr, o0, o1, o2⟩ := hV.cells
      simp only at h0 o0
      have hrl : ∀ k, O k = .row → k < wr.heap.size := fun k hk => hst.lt' (by rw [hk]; simp)
      have HSE := Lib.hid (searchW b wr A0 c0 es A c key _ _ h0 ((o0.elems entLay.len rfl).more fun k hk => (Own.lt o0 k hk).2) hrl (fun _ h => h) hV.rowe hok hkw (by have := hO.hi; omega))
      have hbl := hst.lt hm
      have HO0 := Lib.hid o0
      have HSM := Lib.hid hsame
      have H0 := Lib.hid h0
      have hz0 : (0 == 0) = true := rfl
      rw [hz0] at HLF
      clear hst hkw hb hm hV e0 e1 e2 h0 h1 h2 hfr o0 o1 o2 hrl hsame hok hful hes ca
      go_wp2_with fail
      refine HLF.out.mono ?_
      rintro e w' ⟨rfl, rfl⟩
      clear HLF
      go_wp2_with fail
      refine HSE.out.mono ?_
      rintro e w2 ⟨i, fnd, rfl, hA, hb2⟩
      have HA := Lib.hid hA
      have hil := hA.le
      clear hA
      cases fnd with
      | true =>
        have hlt : i < es.length := by
          obtain ⟨z, r, hd, -⟩ := HA.out.eq.1 rfl
          have := congrArg List.length hd
          simp at this
          omega
        obtain ⟨y, hy, -, -, -, hget⟩ := at_upd (e := ⟨⟨none, 0, key⟩, 0⟩) HA.out
        have hget : getF key es = some y.val := hget
        have ho2 := HO0.out.below hb2
        obtain ⟨g, off, rfl, -, -, hc1⟩ := (ho2.elems entLay.len rfl).ent hlt
        have hey : es[i] = y := by
          have := List.getElem?_eq_getElem hlt
          rw [hy] at this
          exact (Option.some.inj this).symm
        rw [hey] at hc1
        have q0 := (hb2.cell (p := ⟨b, 0, none⟩) hbl).trans H0.out
        have HE : Hid (getV (getP key ps) = .tuple #[.int .i64 y.val, .int .i64 0]) := Lib.hid (by
          rw [← HPS.out, ← get_map, ← HSM.out, hget]; rfl)
        have HBF := Lib.hid (HB1.out.trans ((HB.out.trans (hb2.mono HB.out.size)).mono HB1.out.size))
        have hi0 : (0 : Int) ≤ (i : Int) := by omega
        have hi1 : (i : Int) < (es.length : Int) := by omega
        clear hy hget ho2 hey hb2
        go_wp2_with fail
        go_ret2
        exact ⟨congrArg Ending.returned HE.out.symm, HBF.out⟩
      | false =>
        have hget : getF key es = none := (at_none HA.out).2
        have HE : Hid (getV (getP key ps) = .tuple #[.int .i64 0, .int .i64 4]) := Lib.hid (by
          rw [← HPS.out, ← get_map, ← HSM.out, hget]; rfl)
        have HBF := Lib.hid (HB1.out.trans ((HB.out.trans (hb2.mono HB.out.size)).mono HB1.out.size))
        clear hget hb2
        go_wp2_with fail
        go_ret2
        exact ⟨congrArg Ending.returned HE.out.symm, HBF.out⟩
    | succ k =>
      obtain ⟨g, n, c2, q2, hci⟩ := way_down hO hst hW A c hkw
      have HCI := Lib.hid hci
      have q2d : wr.drew.cell? ⟨b, 2, none⟩ = some (.slice (some ⟨g, 0, none⟩) n c2) := q2
      have HQ := Lib.hid q2d
      clear hci hst hkw hW hb q2d ca
      have hz0 : (k + 1 == 0) = false := rfl
      rw [hz0] at HLF
      go_wp2_with fail
      refine HLF.out.mono ?_
      rintro e w' ⟨rfl, rfl⟩
      clear HLF
      go_upto_region 6 with fail
      go_region_law (first
          | (go_simp; go_at_call 38; refine (HCI.out 1).mono ?_; rintro e w2 ⟨j, b', t'', fp'', rfl, p0, p1, p2, p3, hW2, hb2⟩))
      all_goals
        go_wp2_with fail
        go_roundg k
        case measure => omega
        case rel => exact ⟨b', t'', fp'', rfl, hW2, HB.out.trans (hb2.mono HB.out.size)⟩
end Go.Proofs.Ytjdcnkbkbcfhfaa

namespace Go.Proofs.Ytjdcnkbkbcfhfaa

section
variable {P : Program} {ops : Array Oper} {Q : Exit → Act → World → Prop} {md : Region.Mode}
/-- How many have not come up. -/
def open_ (listed : Array Bool) : Nat := (listed.toList.filter fun b => !b).length
theorem open_set {listed : Array Bool} {i : Nat} (h : listed.getD i true = false) : open_ (listed.setIfInBounds i true) + 1 = open_ listed := by
  have hi : i < listed.size := by
    rcases Nat.lt_or_ge i listed.size with h' | h'
    · exact h'
    · simp [Array.getElem?_eq_none h'] at h
  have hv : listed.toList[i]? = some false := by
    simp only [Array.getD_eq_getD_getElem?, Array.getElem?_eq_getElem hi, Option.getD_some] at h
    rw [Array.getElem?_toList, Array.getElem?_eq_getElem hi, h]
  unfold open_
  rw [Array.toList_setIfInBounds]
  generalize listed.toList = l at *
  obtain ⟨h1, h2⟩ := List.getElem?_eq_some_iff.1 hv
  rw [List.set_eq_take_append_cons_drop, if_pos h1]
  conv => rhs; rw [← List.take_append_drop i l, List.drop_eq_getElem_cons h1, h2]
  simp [List.filter_append]
  omega

theorem wpAny_inv {I : Array Bool → Act → World → Prop} (hstep : ∀ listed a w, I listed a w → ∀ i ∈ Region.ready md ops listed, wpOp P ops Q i (fun a' w' => I (listed.setIfInBounds i true) a' w') a w) (hend : ∀ listed a w, I listed a w → Q .normal a w) :
    ∀ (fuel : Nat) (listed : Array Bool) (a : Act) (w : World), open_ listed ≤ fuel → I listed a w → wpAny P md ops Q fuel listed a w
  | 0, listed, a, w, hf, hI => by
    refine ⟨?_, hend _ _ _ hI⟩
    cases hr : Region.ready md ops listed with
    | nil => rfl
    | cons i r =>
      have := open_set (mem_ready.1 (by rw [hr]; exact List.mem_cons_self : i ∈ Region.ready md ops listed)).1
      omega
  | fuel + 1, listed, a, w, hf, hI => ⟨fun _ => hend _ _ _ hI, fun i hi => wpOp_mono (fun a' w' h => wpAny_inv hstep hend fuel _ a' w' (by
      have := open_set (mem_ready.1 hi).1
      omega) h) (hstep _ _ _ hI i hi)⟩

theorem wpOp_plain {i : Nat} {o : Oper} {K : Act → World → Prop} {a : Act} {w : World} (hi : ops[i]? = some o) (hg : o.guard = none) (h : ∀ K' : Act → World → Prop, (∀ a w, K a w → K' a w) → o.wp P a w K' Q) : wpOp P ops Q i K a w := by
  unfold wpOp
  simp only [hi]
  have hw : Region.wanted o (yielded ops a.tmps) = true := by simp [Region.wanted, hg]
  rw [if_pos hw]
  exact .inl (h K fun _ _ h => h)
end
end Go.Proofs.Ytjdcnkbkbcfhfaa
