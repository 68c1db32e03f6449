/-
  The walks of the decoder's methods: byte, string, uvarint.
-/
import Derived.Test.YtjgghbmlbheknaaRows
import Derived.Test.YtjgghbmlbheknaaDec
import Derived.Deep.QuietTactic
import Derived.BigQuiet
namespace Go.Proofs.Ytjgghbmlbheknaa
open Go.RowKit

/-- The decoder in block g: what is left of the input lies in blocks of S, none of them g. -/
structure Dec (w : World) (g : Nat) (S : Nat → Prop) (s : St) : Prop where
  blk : ∃ (A : Option Addr) (c : Nat), w.heap[g]? = some (.cells #[.slice A s.1.length c, .bool s.2] 59 (0, 0)) ∧ s.1.length ≤ c ∧ c ≤ maxLen ∧ Elems 1 byteCs w S A s.1
  ne : ∀ k, S k → k ≠ g

/-- From w to w' nothing old has turned but block g. -/
abbrev Only (w : World) (g : Nat) (w' : World) : Prop := w.grownBy w' (some g)

theorem Only.setCell (w : World) (g i : Nat) (u : Value) : Only w g (w.setCell ⟨g, i, none⟩ u) :=
  ⟨rfl, rfl, rfl, by simp [World.setCell], fun k _ hk => Below.heap_setCell _ _ _ _ (fun e => hk (by rw [e]))⟩

theorem Dec.mk0 {w : World} {g : Nat} {S : Nat → Prop} {A A' : Option Addr} {n c c' : Nat} {f : Bool} {xs : List UInt8} (h : w.heap[g]? = some (.cells #[.slice A n c, .bool f] 59 (0, 0))) (hne : ∀ k, S k → k ≠ g)
    (hc : xs.length ≤ c') (hm : c' ≤ maxLen) (he : Elems 1 byteCs w S A' xs) {m : Nat} (hl : m = xs.length) : Dec (w.setCell ⟨g, 0, none⟩ (.slice A' m c')) g S (xs, f) := by
  subst hl
  refine ⟨⟨A', c', ?_, hc, hm, he.keep fun k hk => Below.heap_setCell _ _ _ _ (hne k hk)⟩, hne⟩
  rw [heap_setCell_same w g 0 _ _ _ h]
  rfl
theorem Dec.mk1 {w : World} {g : Nat} {S : Nat → Prop} {A : Option Addr} {c : Nat} {f : Bool} {xs : List UInt8} (h : w.heap[g]? = some (.cells #[.slice A xs.length c, .bool f] 59 (0, 0))) (hne : ∀ k, S k → k ≠ g)
    (hc : xs.length ≤ c) (hm : c ≤ maxLen) (he : Elems 1 byteCs w S A xs) (f' : Bool) : Dec (w.setCell ⟨g, 1, none⟩ (.bool f')) g S (xs, f') := by
  refine ⟨⟨A, c, ?_, hc, hm, he.keep fun k hk => Below.heap_setCell _ _ _ _ (hne k hk)⟩, hne⟩
  rw [heap_setCell_same w g 1 _ _ _ h]
  rfl

theorem Elems.tail {α : Type} {sz : Nat} {cs : α → List Value} {w : World} {S : Nat → Prop} {b off : Nat} {x : α} {xs : List α} (h : Elems sz cs w S (some ⟨b, off, none⟩) (x :: xs)) : Elems sz cs w S (some ⟨b, off + sz, none⟩) xs := fun _ => by
  obtain ⟨b', off', e, hs, hc⟩ := h (by simp)
  injection e with e
  injection e with e1 e2
  subst e1 e2
  refine ⟨b, _, rfl, hs, fun i y hy j u hu => ?_⟩
  have := hc (i + 1) y (by simpa using hy) j u hu
  rw [← this]
  congr 2
  rw [Nat.succ_mul]
  omega

theorem cells_of_blk {w : World} {g : Nat} {cs : Array Value} {t : TypeId} (h : w.heap[g]? = some (.cells cs t (0, 0))) (i : Nat) : w.cell? ⟨g, i, none⟩ = cs[i]? := cell_of_row w g i cs t (0, 0) h
theorem frozen_of_blk {w : World} {g : Nat} {cs : Array Value} {t : TypeId} (h : w.heap[g]? = some (.cells cs t (0, 0))) (i : Nat) : w.frozen? ⟨g, i, none⟩ = false := frozen_of_row w g i cs t h

set_option maxRecDepth 100000 in
set_option maxHeartbeats 400000 in
theorem dec_byte (g : Nat) (S : Nat → Prop) (s : St) (w : World) (h : Dec w g S s) :
    Calls Try.prog 30 #[.pointer (some ⟨g, 0, none⟩)] w fun e w' => e = .returned (.int .u8 ((dByte s).1.toNat : Int)) ∧ Dec w' g S (dByte s).2 ∧ Only w g w' := by
  obtain ⟨⟨A, c, hg, hlc, hcm, he⟩, hne⟩ := h
  obtain ⟨xs, f⟩ := s
  have c0 := cells_of_blk hg 0
  have c1 := cells_of_blk hg 1
  have f0 := frozen_of_blk hg 0
  have f1 := frozen_of_blk hg 1
  cases xs with
  | nil =>
    simp only [List.length_nil] at c0 hg
    have HF : Hid (Dec (w.setCell ⟨g, 1, none⟩ (.bool true)) g S ([], true)) := Dec.mk1 (xs := []) hg hne hlc hcm he true
    have HO := Lib.hid (Only.setCell w g 1 (.bool true))
    clear hg hne he
    go_enter Try.func30, Try.ntmps30
    go_wp2_with fail
    go_ret
    exact ⟨rfl, HF.out, HO.out⟩
  | cons x xs =>
    obtain ⟨b, off, rfl, hbs, d0⟩ := he.byte (k := 0) (by simp)
    have hbg := hne b hbs
    have ht := he.tail
    simp only [List.length_cons, Nat.add_zero, List.getElem_cons_zero] at c0 d0 hlc
    unfold maxLen at hcm
    by_cases hc1 : c = 1
    · subst hc1
      have hx : xs = [] := List.eq_nil_of_length_eq_zero (by omega)
      subst hx
      have HF : Hid (Dec (w.setCell ⟨g, 0, none⟩ (.slice (some ⟨b, off, none⟩) 0 0)) g S ([], f)) := Dec.mk0 (xs := []) hg hne (by simp) (by unfold maxLen; omega) (Elems.nil _ _ _) rfl
      have HO := Lib.hid (Only.setCell w g 0 (.slice (some ⟨b, off, none⟩) 0 0))
      clear hg hne he ht
      go_enter Try.func30, Try.ntmps30
      go_wp2_with fail
      go_ret
      exact ⟨rfl, HF.out, HO.out⟩
    · have hlt : 1 < c := by omega
      have HF : Hid (Dec (w.setCell ⟨g, 0, none⟩ (.slice (some ⟨b, off + 1, none⟩) xs.length (c - 1))) g S (xs, f)) := Dec.mk0 (xs := xs) hg hne (by omega) (by unfold maxLen; omega) ht rfl
      have HO := Lib.hid (Only.setCell w g 0 (.slice (some ⟨b, off + 1, none⟩) xs.length (c - 1)))
      clear hg hne he ht
      go_enter Try.func30, Try.ntmps30
      go_wp2_with fail
      go_ret
      exact ⟨rfl, HF.out, HO.out⟩


/-- The conversion of a slice of bytes to a string. -/
theorem conv_bytes {w : World} {S : Nat → Prop} {A : Option Addr} {xs : List UInt8} (c : Nat) (h : Elems 1 byteCs w S A xs) :
    (convert 24 9 (.slice A xs.length c)).run Try.prog w = .ok (.string ⟨xs.toArray⟩) w := by
  rcases Nat.eq_zero_or_pos xs.length with h0 | h0
  · have hx : xs = [] := List.eq_nil_of_length_eq_zero h0
    subst hx
    rw [run_convert_bytes_string w 24 9 5 _ _ c Try.underlying24 Try.underlying5 Try.underlying9]
    cases A with
    | none => simp [Conv.bytesToString]; rfl
    | some a =>
      have := run_bytesToString (P := Try.prog) w a 0 c [] (by simp [loadCells, loadCellsFrom])
      exact this
  · obtain ⟨b, off, rfl, _, hc⟩ := h h0
    have e : strOfNums (xs.map fun x => (x.toNat : Int)) = ⟨xs.toArray⟩ := by
      unfold strOfNums
      congr 2
      rw [List.map_map]
      conv => rhs; rw [← List.map_id xs]
      apply List.map_congr_left
      intro x _
      simp
    rw [← e]
    refine run_convert_bytes_arg w 24 5 Try.underlying24 Try.underlying5 b off _ c _ (by simp) (fun i hi => ?_) 9 Try.underlying9
    have := hc i _ (List.getElem?_eq_getElem hi) 0 _ rfl
    simp only [Nat.mul_one, Nat.add_zero] at this
    rw [this]
    simp [List.getD, List.getElem?_eq_getElem hi]


set_option maxRecDepth 100000 in
set_option maxHeartbeats 400000 in
theorem dec_string (g : Nat) (S : Nat → Prop) (s : St) (n : Nat) (w : World) (h : Dec w g S s) (hn : n ≤ 255) :
    Calls Try.prog 31 #[.pointer (some ⟨g, 0, none⟩), .int .i64 n] w fun e w' => e = .returned (.string ⟨(dStr n s).1.toArray⟩) ∧ Dec w' g S (dStr n s).2 ∧ Only w g w' := by
  obtain ⟨⟨A, c, hg, hlc, hcm, he⟩, hne⟩ := h
  obtain ⟨xs, f⟩ := s
  have c0 := cells_of_blk hg 0
  have c1 := cells_of_blk hg 1
  have f0 := frozen_of_blk hg 0
  have f1 := frozen_of_blk hg 1
  simp only at hg hlc he
  by_cases hlt : xs.length < n
  · have hd : dStr n (xs, f) = ([], (xs, true)) := by unfold dStr; rw [if_pos hlt]
    rw [hd]
    have HF := Lib.hid (Dec.mk1 hg hne hlc hcm he true)
    have HO := Lib.hid (Only.setCell w g 1 (.bool true))
    unfold maxLen at hcm
    clear hg hne he
    go_enter Try.func31, Try.ntmps31
    go_wp2_with fail
    go_ret
    exact ⟨rfl, HF.out, HO.out⟩
  · have hd : dStr n (xs, f) = (xs.take n, (xs.drop n, f)) := by unfold dStr; rw [if_neg hlt]
    rw [hd]
    have hcv := conv_bytes c (he.take n)
    have hlen : (xs.take n).length = n := by rw [List.length_take]; omega
    rw [hlen] at hcv
    have hle : n ≤ xs.length := by omega
    have HF := Lib.hid (Dec.mk0 (A' := if c = n then A else A.map (·.add (n * 1))) (c' := c - n) (xs := xs.drop n) (m := xs.length - n) hg hne (by rw [List.length_drop]; omega) (by omega) (he.cut hle hlc) (by rw [List.length_drop]))
    have HO := Lib.hid (Only.setCell w g 0 (.slice (if c = n then A else A.map (·.add (n * 1))) (xs.length - n) (c - n)))
    unfold maxLen at hcm
    clear hg hne he hd hlen
    go_enter Try.func31, Try.ntmps31
    go_wp2_with fail
    · have hcn : c = n := by assumption
      have h1 := HF.out
      have h2 := HO.out
      rw [if_pos hcn, show c - n = 0 by omega] at h1 h2
      go_ret
      exact ⟨rfl, h1, h2⟩
    · have hcn : ¬ c = n := by assumption
      have h1 := HF.out
      have h2 := HO.out
      rw [if_neg hcn] at h1 h2
      go_ret
      refine ⟨rfl, ?_, ?_⟩
      · simpa using h1
      · simpa using h2


/-- One step of the varint as the code computes it. -/
theorem uv_step (n : Nat) (c : UInt8) (i : Nat) (hn : IsU64 n) :
    bits .or .u64 (n : Int) (IntKind.u64.wrap (IntKind.u64.wrap (bits .and .u8 (c.toNat : Int) 127) * 2 ^ (7 * i))) = (uvAdd n c i : Int) := by
  have hc : c.toNat < 256 := c.toNat_lt
  have e0 : bits .and .u8 (c.toNat : Int) 127 = ((c.toNat % 128 : Nat) : Int) := by
    have h := u8_and_nat c.toNat 127 hc (by omega)
    have h2 : c.toNat &&& 127 = c.toNat % 128 := Nat.and_two_pow_sub_one_eq_mod c.toNat 7
    rw [h2] at h
    exact h
  have e1 : IntKind.u64.wrap ((c.toNat % 128 : Nat) : Int) = ((c.toNat % 128 : Nat) : Int) := by rw [IntKind.wrap_u64]; omega
  have e2 : IntKind.u64.wrap (((c.toNat % 128 : Nat) : Int) * 2 ^ (7 * i)) = (((c.toNat % 128) * 2 ^ (7 * i) % 18446744073709551616 : Nat) : Int) := by
    generalize c.toNat % 128 = x
    rw [IntKind.wrap_u64]
    have h : ((x * 2 ^ (7 * i) : Nat) : Int) = (x : Int) * 2 ^ (7 * i) := by rw [Int.natCast_mul, Int.natCast_pow]; rfl
    rw [← h]
    omega
  rw [e0, e1, e2, u64_or_nat _ _ hn (Nat.mod_lt _ (by omega))]
  rfl

theorem uvAdd_u64 {n : Nat} {c : UInt8} {i : Nat} (hn : IsU64 n) : IsU64 (uvAdd n c i) := by
  have h := Nat.or_lt_two_pow (n := 64) (x := n) (y := (c.toNat % 128) * 2 ^ (7 * i) % 18446744073709551616) hn (Nat.mod_lt _ (by omega))
  exact h

theorem dUv_lo {k m : Nat} {t : St} (hk : k < 10) (h : (dByte t).1.toNat < 128) : dUv (10 - k) k m t = (uvAdd m (dByte t).1 k, (dByte t).2) := by
  rw [show 10 - k = (9 - k) + 1 by omega, dUv, if_pos h]
theorem dUv_hi {k m : Nat} {t : St} (hk : k < 10) (h : ¬ (dByte t).1.toNat < 128) : dUv (10 - k) k m t = dUv (10 - (k + 1)) (k + 1) (uvAdd m (dByte t).1 k) (dByte t).2 := by
  rw [show 10 - k = (9 - k) + 1 by omega, dUv, if_neg h, show 10 - (k + 1) = 9 - k by omega]

set_option maxRecDepth 100000 in
set_option maxHeartbeats 400000 in
theorem dec_uvarint (g : Nat) (S : Nat → Prop) (s : St) (w : World) (h : Dec w g S s) :
    Calls Try.prog 34 #[.pointer (some ⟨g, 0, none⟩)] w fun e w' => e = .returned (.int .u64 ((dUv 10 0 0 s).1 : Int)) ∧ Dec w' g S (dUv 10 0 0 s).2 ∧ Only w g w' := by
  go_enter Try.func34, Try.ntmps34
  go_wp2_with fail
  go_loopw [3, 6] (fun n i wr => ∃ (k m : Nat) (t : St), k ≤ 10 ∧ i = .int .i64 k ∧ n = .int .u64 m ∧ IsU64 m ∧ Dec wr g S t ∧ Only w g wr ∧ dUv (10 - k) k m t = dUv 10 0 0 s) (fun _ i _ => 10 - (intOf i).toNat)
  case atStart => exact ⟨0, 0, s, by omega, rfl, rfl, by unfold IsU64; omega, h, World.grownBy.refl _ _, rfl⟩
  case round =>
    obtain ⟨k, m, t, hk, rfl, rfl, hm, ht, ho, he⟩ := hrel
    have HE := Lib.hid he
    have HM := Lib.hid hm
    clear he hm
    by_cases hlt : k < 10
    · go_wp2_with (go_at_call 30; refine (dec_byte g S t _ ht).mono ?_; rintro e w1 ⟨rfl, hd1, ho1⟩)
      · have h0 : ((dByte t).1.toNat : Int) < 128 := by assumption
        have hl : (dByte t).1.toNat < 128 := by omega
        go_ret
        rw [← HE.out, dUv_lo hlt hl]
        exact ⟨ret_int (uv_step _ _ _ HM.out), hd1, ho.trans ho1⟩
      · have h0 : 128 ≤ ((dByte t).1.toNat : Int) := by assumption
        have hl : ¬ (dByte t).1.toNat < 128 := by omega
        go_roundw
        case rel => exact ⟨k + 1, uvAdd m (dByte t).1 k, _, by omega, by go_num, val_int (uv_step _ _ _ HM.out), uvAdd_u64 HM.out, hd1, ho.trans ho1, by rw [← HE.out, dUv_hi hlt hl]⟩
        case measure => simp [intOf]; omega
    · have hk10 : k = 10 := by omega
      subst hk10
      obtain ⟨⟨A, c, hg, hlc, hcm, hel⟩, hne⟩ := ht
      obtain ⟨xs, f⟩ := t
      have HF := Lib.hid (Dec.mk1 hg hne hlc hcm hel true)
      have HO := Lib.hid (Only.setCell wr g 1 (.bool true))
      have c1 := cells_of_blk hg 1
      have f1 := frozen_of_blk hg 1
      clear hg hne hel hcm hlc
      go_wp2_with fail
      go_ret
      rw [← HE.out]
      exact ⟨rfl, HF.out, ho.trans HO.out⟩

theorem dUv_u64 : ∀ (f i n : Nat) (s : St), IsU64 n → IsU64 (dUv f i n s).1
  | 0, _, _, _, _ => by unfold IsU64; simp [dUv]
  | f + 1, i, n, s, h => by
    rw [dUv]
    split
    · exact uvAdd_u64 h
    · exact dUv_u64 f (i + 1) _ _ (uvAdd_u64 h)

/-- The zigzag form undone as the code computes it. -/
theorem unz_walk (u : Nat) (hu : IsU64 u) : bits .xor .i64 (wrap64 ((u : Int) / 2)) (wrap64 (-wrap64 (bits .and .u64 (u : Int) 1))) = unzig u := by
  unfold IsU64 at hu
  have e0 : bits .and .u64 (u : Int) 1 = ((u % 2 : Nat) : Int) := by
    have h := u64_and_nat u 1 hu (by omega)
    have h2 : u &&& 1 = u % 2 := Nat.and_two_pow_sub_one_eq_mod u 1
    rw [h2] at h
    exact h
  have e1 : wrap64 ((u : Int) / 2) = ((u / 2 : Nat) : Int) := by unfold wrap64; omega
  rw [e0, e1]
  unfold unzig
  by_cases h : u % 2 = 0
  · rw [if_pos h, h]
    have e2 : wrap64 (-wrap64 ((0 : Nat) : Int)) = 0 := by unfold wrap64; omega
    rw [e2]
    show IntKind.i64.wrap ((BitVec.ofInt 64 ((u / 2 : Nat) : Int) ^^^ BitVec.ofInt 64 0).toNat : Int) = _
    have e3 : BitVec.ofInt 64 0 = 0#64 := rfl
    rw [e3, BitVec.xor_zero, BitVec.ofInt_natCast, BitVec.toNat_ofNat, IntKind.wrap_i64]
    omega
  · rw [if_neg h, show u % 2 = 1 by omega]
    have e2 : wrap64 (-wrap64 ((1 : Nat) : Int)) = -1 := by unfold wrap64; omega
    rw [e2]
    show IntKind.i64.wrap ((BitVec.ofInt 64 ((u / 2 : Nat) : Int) ^^^ BitVec.ofInt 64 (-1)).toNat : Int) = _
    have e3 : BitVec.ofInt 64 (-1) = BitVec.allOnes 64 := rfl
    rw [e3, BitVec.xor_allOnes, BitVec.toNat_not, BitVec.ofInt_natCast, BitVec.toNat_ofNat, IntKind.wrap_i64]
    omega

theorem sizeSet (w : World) (p : Addr) (u : Value) : (w.setCell p u).heap.size = w.heap.size := by simp [World.setCell]

end Go.Proofs.Ytjgghbmlbheknaa
