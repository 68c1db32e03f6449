/-
  The walk of the law BitmapDeMorgan. (Printed by wip/demorgan.py.)
-/
import Derived.Test.YthobibjbpbnhnaaDemp
import Derived.Deep.Cut
import Derived.Deep.CutRange
namespace Go.Proofs.Ythobibjbpbnhnaa
open Go.RowKit

/-- A bitmap in a box. -/
structure BV (w : World) (p n : Nat) (A : Option Addr) (m c : Nat) (gs : List Nat) : Prop where
  row : w.heap[p]? = some (.cells #[.int .i64 n, .slice A m c] 24 (0, 0))
  bm : Bm w (· < w.heap.size) (.agg #[.int .i64 n, .slice A m c]) n gs
section
variable {w w' : World} {p n : Nat} {A : Option Addr} {m c : Nat} {gs : List Nat}
theorem BV.lt (h : BV w p n A m c gs) : p < w.heap.size := (Array.getElem?_eq_some_iff.1 h.row).1
theorem BV.c0 (h : BV w p n A m c gs) : w.cell? ⟨p, 0, none⟩ = some (.int .i64 n) := cell_of_row _ _ 0 _ _ _ h.row
theorem BV.c1 (h : BV w p n A m c gs) : w.cell? ⟨p, 1, none⟩ = some (.slice A m c) := cell_of_row _ _ 1 _ _ _ h.row
theorem BV.keep (h : BV w p n A m c gs) (hb : Below w.heap.size w w') : BV w' p n A m c gs :=
  ⟨(hb.block _ h.lt).trans h.row, (h.bm.keep (Keeps.of_below hb fun _ h => h)).more fun k (hk : k < w.heap.size) => Nat.lt_of_lt_of_le hk hb.size⟩
theorem BV.alloc (h : BV w p n A m c gs) (o : Obj) : BV (w.alloc o) p n A m c gs := h.keep ((Below.refl _ _).alloc (Nat.le_refl _) _)
/-- A fresh box. -/
theorem bv_new {S : Nat → Prop} {v : Value} (h : Bm w S v n gs) (hS : ∀ k, S k → k < w.heap.size) : ∃ A m c, v = .agg #[.int .i64 n, .slice A m c] ∧ BV (w.alloc (.cells #[.int .i64 n, .slice A m c] 24)) w.heap.size n A m c gs := by
  obtain ⟨A, c, rfl, he⟩ := h.val
  refine ⟨A, _, c, rfl, heap_alloc_new _ _, ?_⟩
  exact ((h.more hS).keep (Keeps.of_below ((Below.refl _ _).alloc (Nat.le_refl _) (.cells #[.int .i64 n, .slice A (comp gs).length c] 24)) fun _ h => h)).more fun k (hk : k < w.heap.size) => Nat.lt_of_lt_of_le hk (le_size1 (Nat.le_refl _) _)
theorem BV.elems (h : BV w p n A m c gs) : m = (comp gs).length ∧ Elems 1 intCs w (· < w.heap.size) A (comp gs) := by
  obtain ⟨A', c', e, he⟩ := h.bm.val
  have e2 := congrArg (fun v : Value => match v with | .agg a => a.toList | _ => []) e
  simp at e2
  obtain ⟨rfl, rfl, rfl⟩ := e2
  exact ⟨rfl, he⟩
end

/-- The numbers of a bitmap: the first m, and one more. -/
def numsOf (xs : List Int) (m : Nat) (z : Int) : List Int := xs.take m ++ [z]
theorem numsOf_len {xs : List Int} {m : Nat} (h : m ≤ xs.length) (z : Int) : (numsOf xs m z).length = m + 1 := by
  unfold numsOf
  rw [List.length_append, List.length_take]
  simp
  omega

set_option maxRecDepth 100000 in
set_option maxHeartbeats 2000000 in
theorem demorgan_law (A : Option Addr) (c : Nat) (xs : List Int) (B : Option Addr) (d : Nat) (ys : List Int) (w : World) (hx : Elems 1 intCs w (· < w.heap.size) A xs) (hlc : xs.length ≤ c) (hc : c ≤ maxLen) (_hok : ∀ n ∈ xs, I64 n) (hy : Elems 1 intCs w (· < w.heap.size) B ys) (hld : ys.length ≤ d) (hd : d ≤ maxLen) (_hok2 : ∀ n ∈ ys, I64 n) :
    Calls Try.prog 3 #[.slice A xs.length c, .slice B ys.length d] w fun e w' => e = .returned (.bool true) ∧ Below w.heap.size w w' := by
  unfold maxLen at hc hd
  obtain ⟨m, hm⟩ : ∃ m : Nat, m = min (min xs.length ys.length) 400 := ⟨_, rfl⟩
  have hmx : m ≤ xs.length := by omega
  have hmy : m ≤ ys.length := by omega
  have hm4 : m ≤ 400 := by omega
  have hmc : (m : Int) ≤ (c : Int) := by omega
  have hmd : (m : Int) ≤ (d : Int) := by omega
  have hn0 : IntKind.i64.wrap (1 + (m : Int)) = ((m + 1 : Nat) : Int) := by rw [IntKind.wrap_i64]; omega
  have hn1 : 1 + (m : Int) = ((m + 1 : Nat) : Int) := by omega
  have hn2 : ((m + 1 : Nat) : Int) - 1 = (m : Int) := by omega
  have hx1 : (xs.length : Int) ≤ (c : Int) := by omega
  have hy1 : (ys.length : Int) ≤ (d : Int) := by omega
  have htx : m = (xs.take m).length := by rw [List.length_take]; omega
  have hty : m = (ys.take m).length := by rw [List.length_take]; omega
  have HCX := Lib.hid fun W (hW : Elems 1 intCs W (· < W.heap.size) A xs) => clone_ints intLay A m c (xs.take m) W _ (hW.take m) (fun _ h => h) htx (by omega)
  have HCY := Lib.hid fun W (hW : Elems 1 intCs W (· < W.heap.size) B ys) => clone_ints intLay B m d (ys.take m) W _ (hW.take m) (fun _ h => h) hty (by omega)
  have H1 : Hid (((xs.take m).length + 1) * 8 ≤ 140737488355328) := Lib.hid (by omega)
  have H2 : Hid ((xs.take m).length + 1 ≤ maxLen) := Lib.hid (by unfold maxLen; omega)
  have H3 : Hid (((ys.take m).length + 1) * 8 ≤ 140737488355328) := Lib.hid (by omega)
  have H4 : Hid ((ys.take m).length + 1 ≤ maxLen) := Lib.hid (by unfold maxLen; omega)
  have HNX := Lib.hid (numsOf_len hmx 1)
  have HNY := Lib.hid (numsOf_len hmy 0)
  clear htx hty hlc hld hc hd
  obtain ⟨N, hN⟩ : ∃ N : Nat, N = m + 1 := ⟨_, rfl⟩
  have HM := Lib.hid hm
  have HNE := Lib.hid hN
  have hN2 : (N : Int) - 1 = (m : Int) := by omega
  clear hm hn0 hn1 hn2 hN
  go_enter Try.func3, Try.ntmps3
  go_upto_region 1 with fail
  go_cut [5] from 22 to 27 (fun v wx => v = .int .i64 (N : Int) ∧ w = wx)
  case first =>
    go_wp2_with fail
    all_goals (go_meet; exact ⟨val_int (by have := HM.out; have := HNE.out; omega), rfl⟩)
  case rest =>
    obtain ⟨rfl, rfl⟩ := hcut
    go_wp2_with fail
    refine (HCX.out w hx).mono ?_
    rintro e w1 ⟨v1, rfl, ho1, hb1⟩
    go_wp2_with (at_builtin; refine wpList_app rfl (.tmp 33) (.tmp 34) _ _ rfl rfl rfl (run_push elem_ints intLay _ w1 v1 (xs.take m) 1 _ ho1 rfl H1.out H2.out hb1.size rfl) ?_; rintro v2 w2 ⟨ho2, hx2⟩; obtain ⟨A2, m2, c2, rfl, hm2⟩ := ho2.form')
    have hb2 : Below w.heap.size w w2 := hb1.trans (hx2.below hb1.size (fun g hg => (ho1.lt g hg).1))
    have hm2' : m2 = N := by rw [← hm2, HNE.out]; exact HNX.out
    subst hm2'
    have hla : (numsOf xs m 1).length = m2 := hm2
    have hel2 : Elems 1 intCs w2 (· < w2.heap.size) A2 (numsOf xs m 1) := (ho2.elems intLay.len rfl).more fun k hk => (ho2.lt k hk).2
    have hN4 : m2 ≤ 401 := by have := HNE.out; omega
    have hN1 : 1 ≤ m2 := by have := HNE.out; omega
    have HBA0 := bitsOf A2 c2 (numsOf xs m 1) w2 hel2 (by omega) (by omega)
    have hGA := good_bitG (numsOf xs m 1)
    rw [hla] at HBA0 hGA
    have HBA := Lib.hid HBA0
    have HGA := Lib.hid hGA
    clear HBA0 hGA hel2 hla hm2 ho2 ho1 hx2 hb1
    generalize bitG (numsOf xs m 1) = ga at *
    go_wp2_with fail
    refine HBA.out.mono ?_
    rintro e w3 ⟨v3, rfl, hm3, hb3⟩
    obtain ⟨Aa, ma, ca, rfl, Ba⟩ := bv_new hm3 fun k hk => hk.2
    have hb03 : Below w.heap.size w w3 := hb2.trans (hb3.mono hb2.size)
    go_wp2_with fail
    have HBa := Lib.hid Ba
    have hsz3 := hb03.size
    have hb13 : Below w.heap.size w (w3.alloc (.cells #[.int .i64 m2, .slice Aa ma ca] 24)) := hb03.alloc hsz3 _
    have HEY := Lib.hid (hy.keep (Keeps.of_below hb13 fun _ h => h))
    refine (HCY.out _ (HEY.out.more fun k (hk : k < w.heap.size) => Nat.lt_of_lt_of_le hk hb13.size)).mono ?_
    rintro e w4 ⟨v4, rfl, ho4, hb4⟩
    clear Ba
    go_wp2_with (at_builtin; refine wpList_app rfl (.tmp 44) (.tmp 45) _ _ rfl rfl rfl (run_push elem_ints intLay _ w4 v4 (ys.take m) 0 _ ho4 rfl H3.out H4.out hb4.size rfl) ?_; rintro v5 w5 ⟨ho5, hx5⟩; obtain ⟨A5, m5, c5, rfl, hm5⟩ := ho5.form')
    have hb15 := hb4.trans (hx5.below hb4.size (fun g hg => (ho4.lt g hg).1))
    have hm5' : m5 = m2 := by rw [← hm5, HNE.out]; exact HNY.out
    subst hm5'
    have hlb : (numsOf ys m 0).length = m5 := hm5
    have hel5 : Elems 1 intCs w5 (· < w5.heap.size) A5 (numsOf ys m 0) := (ho5.elems intLay.len rfl).more fun k hk => (ho5.lt k hk).2
    have HBB0 := bitsOf A5 c5 (numsOf ys m 0) w5 hel5 (by omega) (by omega)
    have hGB := good_bitG (numsOf ys m 0)
    rw [hlb] at HBB0 hGB
    have HBB := Lib.hid HBB0
    have HGB := Lib.hid hGB
    have hb05 : Below w.heap.size w w5 := hb13.trans (hb15.mono hb13.size)
    have HBa5 := Lib.hid (HBa.out.keep hb15)
    clear HBB0 hGB hel5 hlb hm5 ho5 ho4 hx5 hb4 hb13 hb15 HBa hb03 hsz3 hm3 hb3 hb2
    generalize bitG (numsOf ys m 0) = gb at *
    refine HBB.out.mono ?_
    rintro e w6 ⟨v6, rfl, hm6, hb6⟩
    obtain ⟨Ab, mb, cb, rfl, Bb⟩ := bv_new hm6 fun k hk => hk.2
    have hb06 : Below w.heap.size w w6 := hb05.trans (hb6.mono hb05.size)
    have HBa6 := Lib.hid (HBa5.out.keep hb6)
    have HBb6 := Lib.hid Bb
    clear hm6 hb6 hb05 Bb HBa5
    go_wp2_with fail
    refine (ones m5 _ (by omega) hN1).mono ?_
    rintro e w7 ⟨v7, rfl, hm7, hb7⟩
    obtain ⟨Ao, mo, co, rfl, Bo⟩ := bv_new hm7 fun k hk => hk.2
    have Ba7 := (HBa6.out.alloc (.cells #[.int .i64 m5, .slice Ab mb cb] 24)).keep hb7
    have Bb7 := HBb6.out.keep hb7
    have hb07 : Below w.heap.size w w7 := (hb06.alloc hb06.size (.cells #[.int .i64 m5, .slice Ab mb cb] 24)).trans (hb7.mono (le_size1 hb06.size _))
    have HGO := Lib.hid (good_ones hN1)
    generalize onesG m5 = go at *
    have a0 := Ba7.c0
    have a1 := Ba7.c1
    have al := Ba7.lt
    have b0 := Bb7.c0
    have b1 := Bb7.c1
    have bl := Bb7.lt
    have HA7 := Lib.hid (Ba7.alloc (.cells #[.int .i64 m5, .slice Ao mo co] 24))
    have HB7 := Lib.hid (Bb7.alloc (.cells #[.int .i64 m5, .slice Ao mo co] 24))
    have HO7 := Lib.hid Bo
    have hb08 := hb07.alloc hb07.size (.cells #[.int .i64 m5, .slice Ao mo co] 24)
    clear Ba7 Bb7 Bo hm7 hb7 hb06 HBa6 HBb6 hb07
    go_wp2_with fail
    refine (or_ _ _ m5 ga gb _ HA7.out.bm HB7.out.bm (good_or HGA.out HGB.out) (by omega) hN1).mono ?_
    rintro e w8 ⟨v8, rfl, hm8, hb8⟩
    obtain ⟨A8, m8', c8, rfl, BN8⟩ := bv_new hm8 fun k hk => hk.2
    have HGu := Lib.hid (good_or HGA.out HGB.out)
    clear a0 a1 al b0 b1 bl
    have Xa := HA7.out.keep hb8
    have xa0 := Xa.c0
    have xa1 := Xa.c1
    have xal := Xa.lt
    have Ha8 := Lib.hid (Xa.alloc (.cells #[.int .i64 m5, .slice A8 m8' c8] 24))
    have Xb := HB7.out.keep hb8
    have xb0 := Xb.c0
    have xb1 := Xb.c1
    have xbl := Xb.lt
    have Hb8 := Lib.hid (Xb.alloc (.cells #[.int .i64 m5, .slice A8 m8' c8] 24))
    have Xo := HO7.out.keep hb8
    have xo0 := Xo.c0
    have xo1 := Xo.c1
    have xol := Xo.lt
    have Ho8 := Lib.hid (Xo.alloc (.cells #[.int .i64 m5, .slice A8 m8' c8] 24))
    have Hu8 := Lib.hid BN8
    have hbn8 := hb08.trans (hb8.mono hb08.size)
    have hbq8 := hbn8.alloc hbn8.size (.cells #[.int .i64 m5, .slice A8 m8' c8] 24)
    clear hm8 hb8 BN8 Xa Xb Xo HA7 HB7 HO7 hb08 hbn8
    go_wp2_with fail
    refine (andNot_ _ _ m5 go (zipOp (· ||| ·) ga gb) _ Ho8.out.bm Hu8.out.bm (good_andn HGO.out HGu.out) (by omega) hN1).mono ?_
    rintro e w9 ⟨v9, rfl, hm9, hb9⟩
    obtain ⟨A9, m9', c9, rfl, BN9⟩ := bv_new hm9 fun k hk => hk.2
    have HGl := Lib.hid (good_andn HGO.out HGu.out)
    clear xa0 xa1 xal xb0 xb1 xbl xo0 xo1 xol
    have Xa := Ha8.out.keep hb9
    have xa0 := Xa.c0
    have xa1 := Xa.c1
    have xal := Xa.lt
    have Ha9 := Lib.hid (Xa.alloc (.cells #[.int .i64 m5, .slice A9 m9' c9] 24))
    have Xb := Hb8.out.keep hb9
    have xb0 := Xb.c0
    have xb1 := Xb.c1
    have xbl := Xb.lt
    have Hb9 := Lib.hid (Xb.alloc (.cells #[.int .i64 m5, .slice A9 m9' c9] 24))
    have Xo := Ho8.out.keep hb9
    have xo0 := Xo.c0
    have xo1 := Xo.c1
    have xol := Xo.lt
    have Ho9 := Lib.hid (Xo.alloc (.cells #[.int .i64 m5, .slice A9 m9' c9] 24))
    have Xu := Hu8.out.keep hb9
    have xu0 := Xu.c0
    have xu1 := Xu.c1
    have xul := Xu.lt
    have Hu9 := Lib.hid (Xu.alloc (.cells #[.int .i64 m5, .slice A9 m9' c9] 24))
    have Hl9 := Lib.hid BN9
    have hbn9 := hbq8.trans (hb9.mono hbq8.size)
    have hbq9 := hbn9.alloc hbn9.size (.cells #[.int .i64 m5, .slice A9 m9' c9] 24)
    clear hm9 hb9 BN9 Xa Xb Xo Xu Ha8 Hb8 Ho8 Hu8 hbq8 hbn9
    go_wp2_with fail
    refine (andNot_ _ _ m5 go ga _ Ho9.out.bm Ha9.out.bm (good_andn HGO.out HGA.out) (by omega) hN1).mono ?_
    rintro e w10 ⟨v10, rfl, hm10, hb10⟩
    obtain ⟨A10, m10', c10, rfl, BN10⟩ := bv_new hm10 fun k hk => hk.2
    have HGp := Lib.hid (good_andn HGO.out HGA.out)
    clear xa0 xa1 xal xb0 xb1 xbl xo0 xo1 xol xu0 xu1 xul
    have Xa := Ha9.out.keep hb10
    have xa0 := Xa.c0
    have xa1 := Xa.c1
    have xal := Xa.lt
    have Ha10 := Lib.hid (Xa.alloc (.cells #[.int .i64 m5, .slice A10 m10' c10] 24))
    have Xb := Hb9.out.keep hb10
    have xb0 := Xb.c0
    have xb1 := Xb.c1
    have xbl := Xb.lt
    have Hb10 := Lib.hid (Xb.alloc (.cells #[.int .i64 m5, .slice A10 m10' c10] 24))
    have Xo := Ho9.out.keep hb10
    have xo0 := Xo.c0
    have xo1 := Xo.c1
    have xol := Xo.lt
    have Ho10 := Lib.hid (Xo.alloc (.cells #[.int .i64 m5, .slice A10 m10' c10] 24))
    have Xu := Hu9.out.keep hb10
    have xu0 := Xu.c0
    have xu1 := Xu.c1
    have xul := Xu.lt
    have Hu10 := Lib.hid (Xu.alloc (.cells #[.int .i64 m5, .slice A10 m10' c10] 24))
    have Xl := Hl9.out.keep hb10
    have xl0 := Xl.c0
    have xl1 := Xl.c1
    have xll := Xl.lt
    have Hl10 := Lib.hid (Xl.alloc (.cells #[.int .i64 m5, .slice A10 m10' c10] 24))
    have Hp10 := Lib.hid BN10
    have hbn10 := hbq9.trans (hb10.mono hbq9.size)
    have hbq10 := hbn10.alloc hbn10.size (.cells #[.int .i64 m5, .slice A10 m10' c10] 24)
    clear hm10 hb10 BN10 Xa Xb Xo Xu Xl Ha9 Hb9 Ho9 Hu9 Hl9 hbq9 hbn10
    go_wp2_with fail
    refine (andNot_ _ _ m5 go gb _ Ho10.out.bm Hb10.out.bm (good_andn HGO.out HGB.out) (by omega) hN1).mono ?_
    rintro e w11 ⟨v11, rfl, hm11, hb11⟩
    obtain ⟨A11, m11', c11, rfl, BN11⟩ := bv_new hm11 fun k hk => hk.2
    have HGq := Lib.hid (good_andn HGO.out HGB.out)
    clear xa0 xa1 xal xb0 xb1 xbl xo0 xo1 xol xu0 xu1 xul xl0 xl1 xll
    have Xa := Ha10.out.keep hb11
    have xa0 := Xa.c0
    have xa1 := Xa.c1
    have xal := Xa.lt
    have Ha11 := Lib.hid (Xa.alloc (.cells #[.int .i64 m5, .slice A11 m11' c11] 24))
    have Xb := Hb10.out.keep hb11
    have xb0 := Xb.c0
    have xb1 := Xb.c1
    have xbl := Xb.lt
    have Hb11 := Lib.hid (Xb.alloc (.cells #[.int .i64 m5, .slice A11 m11' c11] 24))
    have Xo := Ho10.out.keep hb11
    have xo0 := Xo.c0
    have xo1 := Xo.c1
    have xol := Xo.lt
    have Ho11 := Lib.hid (Xo.alloc (.cells #[.int .i64 m5, .slice A11 m11' c11] 24))
    have Xu := Hu10.out.keep hb11
    have xu0 := Xu.c0
    have xu1 := Xu.c1
    have xul := Xu.lt
    have Hu11 := Lib.hid (Xu.alloc (.cells #[.int .i64 m5, .slice A11 m11' c11] 24))
    have Xl := Hl10.out.keep hb11
    have xl0 := Xl.c0
    have xl1 := Xl.c1
    have xll := Xl.lt
    have Hl11 := Lib.hid (Xl.alloc (.cells #[.int .i64 m5, .slice A11 m11' c11] 24))
    have Xp := Hp10.out.keep hb11
    have xp0 := Xp.c0
    have xp1 := Xp.c1
    have xpl := Xp.lt
    have Hp11 := Lib.hid (Xp.alloc (.cells #[.int .i64 m5, .slice A11 m11' c11] 24))
    have Hq11 := Lib.hid BN11
    have hbn11 := hbq10.trans (hb11.mono hbq10.size)
    have hbq11 := hbn11.alloc hbn11.size (.cells #[.int .i64 m5, .slice A11 m11' c11] 24)
    clear hm11 hb11 BN11 Xa Xb Xo Xu Xl Xp Ha10 Hb10 Ho10 Hu10 Hl10 Hp10 hbq10 hbn11
    go_wp2_with fail
    refine (and_ _ _ m5 (zipOp andn go ga) (zipOp andn go gb) _ Hp11.out.bm Hq11.out.bm (good_and HGp.out HGq.out) (by omega) hN1).mono ?_
    rintro e w12 ⟨v12, rfl, hm12, hb12⟩
    obtain ⟨A12, m12', c12, rfl, BN12⟩ := bv_new hm12 fun k hk => hk.2
    have HGr := Lib.hid (good_and HGp.out HGq.out)
    clear xa0 xa1 xal xb0 xb1 xbl xo0 xo1 xol xu0 xu1 xul xl0 xl1 xll xp0 xp1 xpl
    have Xa := Ha11.out.keep hb12
    have xa0 := Xa.c0
    have xa1 := Xa.c1
    have xal := Xa.lt
    have Ha12 := Lib.hid (Xa.alloc (.cells #[.int .i64 m5, .slice A12 m12' c12] 24))
    have Xb := Hb11.out.keep hb12
    have xb0 := Xb.c0
    have xb1 := Xb.c1
    have xbl := Xb.lt
    have Hb12 := Lib.hid (Xb.alloc (.cells #[.int .i64 m5, .slice A12 m12' c12] 24))
    have Xo := Ho11.out.keep hb12
    have xo0 := Xo.c0
    have xo1 := Xo.c1
    have xol := Xo.lt
    have Ho12 := Lib.hid (Xo.alloc (.cells #[.int .i64 m5, .slice A12 m12' c12] 24))
    have Xu := Hu11.out.keep hb12
    have xu0 := Xu.c0
    have xu1 := Xu.c1
    have xul := Xu.lt
    have Hu12 := Lib.hid (Xu.alloc (.cells #[.int .i64 m5, .slice A12 m12' c12] 24))
    have Xl := Hl11.out.keep hb12
    have xl0 := Xl.c0
    have xl1 := Xl.c1
    have xll := Xl.lt
    have Hl12 := Lib.hid (Xl.alloc (.cells #[.int .i64 m5, .slice A12 m12' c12] 24))
    have Xp := Hp11.out.keep hb12
    have xp0 := Xp.c0
    have xp1 := Xp.c1
    have xpl := Xp.lt
    have Hp12 := Lib.hid (Xp.alloc (.cells #[.int .i64 m5, .slice A12 m12' c12] 24))
    have Xq := Hq11.out.keep hb12
    have xq0 := Xq.c0
    have xq1 := Xq.c1
    have xql := Xq.lt
    have Hq12 := Lib.hid (Xq.alloc (.cells #[.int .i64 m5, .slice A12 m12' c12] 24))
    have Hr12 := Lib.hid BN12
    have hbn12 := hbq11.trans (hb12.mono hbq11.size)
    have hbq12 := hbn12.alloc hbn12.size (.cells #[.int .i64 m5, .slice A12 m12' c12] 24)
    clear hm12 hb12 BN12 Xa Xb Xo Xu Xl Xp Xq Ha11 Hb11 Ho11 Hu11 Hl11 Hp11 Hq11 hbq11 hbn12
    go_wp2_with fail
    obtain ⟨e1, f1⟩ := Hl12.out.elems
    obtain ⟨e2, f2⟩ := Hr12.out.elems
    rw [← demorgan] at e2 f2
    have hlen : (comp (zipOp andn go (zipOp (· ||| ·) ga gb))).length ≤ 1000000 := by
      have h1 := ws_len (wc_comp HGl.out.le)
      rw [exp_comp HGl.out.le, HGl.out.len] at h1
      have h2 := gc_le (n := m5) (by omega)
      omega
    have HEQ := intsEqual A9 A12 c9 c12 (comp (zipOp andn go (zipOp (· ||| ·) ga gb))) _ _ _ f1 f2 hlen
    rw [← e1] at HEQ
    have e3 : m9' = m12' := e1.trans e2.symm
    subst e3
    have HEQ' := Lib.hid HEQ
    clear HEQ e1 e2 f1 f2 hlen
    refine HEQ'.out.mono ?_
    rintro e w13 ⟨rfl, n13, rfl⟩
    go_wp2_with fail
    go_ret
    exact ⟨rfl, below_drewN hbq12 _⟩

end Go.Proofs.Ythobibjbpbnhnaa

