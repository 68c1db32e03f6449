/-
  The walk of the law BitmapInclusionExclusion. (Printed by wip/incl.py.)
-/
import Derived.Test.YthobibjbpbnhnaaIncp
import Derived.Test.YthobibjbpbnhnaaCnt
import Derived.Deep.Cut
import Derived.Deep.CutRange
namespace Go.Proofs.Ythobibjbpbnhnaa
open Go.RowKit

/-- The counts that have been stored after k rounds. -/
def cArr (a b u q k : Nat) : Array Value := #[.int .i64 ((if 0 < k then a else 0 : Nat) : Int), .int .i64 ((if 1 < k then b else 0 : Nat) : Int), .int .i64 ((if 2 < k then u else 0 : Nat) : Int), .int .i64 ((if 3 < k then q else 0 : Nat) : Int)]
structure CRow (w : World) (a b u q k : Nat) (wr : World) : Prop where
  below : Below w.heap.size w wr
  row : wr.heap[w.heap.size]? = some (.cells (cArr a b u q k) 33 (0, 0))
theorem CRow.lt {w wr : World} {a b u q k : Nat} (h : CRow w a b u q k wr) : w.heap.size < wr.heap.size := (Array.getElem?_eq_some_iff.1 h.row).1
theorem CRow.first (w : World) (a b u q : Nat) : CRow w a b u q 0 (w.alloc (.cells #[.int .i64 0, .int .i64 0, .int .i64 0, .int .i64 0] 33)) :=
  ⟨(Below.refl _ _).alloc (Nat.le_refl _) _, heap_alloc_new _ _⟩
theorem CRow.keep {w wr w' : World} {a b u q k : Nat} (h : CRow w a b u q k wr) (hb : Below wr.heap.size wr w') : CRow w a b u q k w' :=
  ⟨h.below.trans (hb.mono (Nat.le_of_lt h.lt)), (hb.block _ h.lt).trans h.row⟩
theorem CRow.alloc {w wr : World} {a b u q k : Nat} (h : CRow w a b u q k wr) (o : Obj) : CRow w a b u q k (wr.alloc o) := h.keep ((Below.refl _ _).alloc (Nat.le_refl _) o)
theorem CRow.drew {w wr : World} {a b u q k : Nat} (h : CRow w a b u q k wr) : CRow w a b u q k wr.drew := ⟨h.below.drew, h.row⟩
theorem CRow.set0 {w wr : World} {a b u q : Nat} (h : CRow w a b u q 0 wr) : CRow w a b u q 1 (wr.setCell ⟨w.heap.size, 0, none⟩ (.int .i64 a)) := ⟨h.below.setCell (Nat.le_refl _) _, heap_setCell_same _ _ 0 _ _ _ h.row⟩
theorem CRow.set1 {w wr : World} {a b u q : Nat} (h : CRow w a b u q 1 wr) : CRow w a b u q 2 (wr.setCell ⟨w.heap.size, 1, none⟩ (.int .i64 b)) := ⟨h.below.setCell (Nat.le_refl _) _, heap_setCell_same _ _ 1 _ _ _ h.row⟩
theorem CRow.set2 {w wr : World} {a b u q : Nat} (h : CRow w a b u q 2 wr) : CRow w a b u q 3 (wr.setCell ⟨w.heap.size, 2, none⟩ (.int .i64 u)) := ⟨h.below.setCell (Nat.le_refl _) _, heap_setCell_same _ _ 2 _ _ _ h.row⟩
theorem CRow.set3 {w wr : World} {a b u q : Nat} (h : CRow w a b u q 3 wr) : CRow w a b u q 4 (wr.setCell ⟨w.heap.size, 3, none⟩ (.int .i64 q)) := ⟨h.below.setCell (Nat.le_refl _) _, heap_setCell_same _ _ 3 _ _ _ h.row⟩
/-- Count, its result spelt out. -/
theorem countP (n : Nat) (A : Option Addr) (c : Nat) (gs : List Nat) (hG : Good n gs) (hn : n ≤ 100000) (hn1 : 1 ≤ n) (w : World) (hx : Elems 1 intCs w (· < w.heap.size) A (comp gs)) :
    Calls Try.prog 12 #[.agg #[.int .i64 n, .slice A (comp gs).length c]] w fun e w' => e = .returned (.tuple #[.int .i64 (pcs gs), .int .i64 0]) ∧ Below w.heap.size w w' := count n A c gs w hx hG hn hn1

set_option maxRecDepth 100000 in
set_option maxHeartbeats 2000000 in
theorem inclusion_law (A : Option Addr) (c : Nat) (xs : List Int) (B : Option Addr) (d : Nat) (ys : List Int) (w : World) (hx : Elems 1 intCs w (· < w.heap.size) A xs) (hlc : xs.length ≤ c) (hc : c ≤ maxLen) (_hok : ∀ n ∈ xs, I64 n) (hy : Elems 1 intCs w (· < w.heap.size) B ys) (hld : ys.length ≤ d) (hd : d ≤ maxLen) (_hok2 : ∀ n ∈ ys, I64 n) :
    Calls Try.prog 4 #[.slice A xs.length c, .slice B ys.length d] w fun e w' => e = .returned (.bool true) ∧ Below w.heap.size w w' := by
  unfold maxLen at hc hd
  obtain ⟨m, hm⟩ : ∃ m : Nat, m = min (min xs.length ys.length) 400 := ⟨_, rfl⟩
  have hmx : m ≤ xs.length := by omega
  have hmy : m ≤ ys.length := by omega
  have hm4 : m ≤ 400 := by omega
  have hmc : (m : Int) ≤ (c : Int) := by omega
  have hmd : (m : Int) ≤ (d : Int) := by omega
  have hn0 : IntKind.i64.wrap (1 + (m : Int)) = ((m + 1 : Nat) : Int) := by rw [IntKind.wrap_i64]; omega
  have hn1 : 1 + (m : Int) = ((m + 1 : Nat) : Int) := by omega
  have hn2 : ((m + 1 : Nat) : Int) - 1 = (m : Int) := by omega
  have hx1 : (xs.length : Int) ≤ (c : Int) := by omega
  have hy1 : (ys.length : Int) ≤ (d : Int) := by omega
  have htx : m = (xs.take m).length := by rw [List.length_take]; omega
  have hty : m = (ys.take m).length := by rw [List.length_take]; omega
  have HCX := Lib.hid fun W (hW : Elems 1 intCs W (· < W.heap.size) A xs) => clone_ints intLay A m c (xs.take m) W _ (hW.take m) (fun _ h => h) htx (by omega)
  have HCY := Lib.hid fun W (hW : Elems 1 intCs W (· < W.heap.size) B ys) => clone_ints intLay B m d (ys.take m) W _ (hW.take m) (fun _ h => h) hty (by omega)
  have H1 : Hid (((xs.take m).length + 1) * 8 ≤ 140737488355328) := Lib.hid (by omega)
  have H2 : Hid ((xs.take m).length + 1 ≤ maxLen) := Lib.hid (by unfold maxLen; omega)
  have H3 : Hid (((ys.take m).length + 1) * 8 ≤ 140737488355328) := Lib.hid (by omega)
  have H4 : Hid ((ys.take m).length + 1 ≤ maxLen) := Lib.hid (by unfold maxLen; omega)
  have HNX := Lib.hid (numsOf_len hmx 1)
  have HBP := Lib.hid (both_pos xs ys m hmx hmy)
  have HNY := Lib.hid (numsOf_len hmy 1)
  clear htx hty hlc hld hc hd
  obtain ⟨N, hN⟩ : ∃ N : Nat, N = m + 1 := ⟨_, rfl⟩
  have HM := Lib.hid hm
  have HNE := Lib.hid hN
  have hN2 : (N : Int) - 1 = (m : Int) := by omega
  clear hm hn0 hn1 hn2 hN
  go_enter Try.func4, Try.ntmps4
  go_upto_region 1 with fail
  go_cut [5] from 19 to 24 (fun v wx => v = .int .i64 (N : Int) ∧ w = wx)
  case first =>
    go_wp2_with fail
    all_goals (go_meet; exact ⟨val_int (by have := HM.out; have := HNE.out; omega), rfl⟩)
  case rest =>
    obtain ⟨rfl, rfl⟩ := hcut
    go_wp2_with fail
    refine (HCX.out w hx).mono ?_
    rintro e w1 ⟨v1, rfl, ho1, hb1⟩
    go_wp2_with (at_builtin; refine wpList_app rfl (.tmp 30) (.tmp 31) _ _ rfl rfl rfl (run_push elem_ints intLay _ w1 v1 (xs.take m) 1 _ ho1 rfl H1.out H2.out hb1.size rfl) ?_; rintro v2 w2 ⟨ho2, hx2⟩; obtain ⟨A2, m2, c2, rfl, hm2⟩ := ho2.form')
    have hb2 : Below w.heap.size w w2 := hb1.trans (hx2.below hb1.size (fun g hg => (ho1.lt g hg).1))
    have hm2' : m2 = N := by rw [← hm2, HNE.out]; exact HNX.out
    subst hm2'
    have hla : (numsOf xs m 1).length = m2 := hm2
    have hel2 : Elems 1 intCs w2 (· < w2.heap.size) A2 (numsOf xs m 1) := (ho2.elems intLay.len rfl).more fun k hk => (ho2.lt k hk).2
    have hN4 : m2 ≤ 401 := by have := HNE.out; omega
    have hN1 : 1 ≤ m2 := by have := HNE.out; omega
    have HBA0 := bitsOf A2 c2 (numsOf xs m 1) w2 hel2 (by omega) (by omega)
    have hGA := good_bitG (numsOf xs m 1)
    rw [hla] at HBA0 hGA
    have HBA := Lib.hid HBA0
    have HGA := Lib.hid hGA
    clear HBA0 hGA hel2 hla hm2 ho2 ho1 hx2 hb1
    generalize bitG (numsOf xs m 1) = ga at *
    go_wp2_with fail
    refine HBA.out.mono ?_
    rintro e w3 ⟨v3, rfl, hm3, hb3⟩
    obtain ⟨Aa, ma, ca, rfl, Ba⟩ := bv_new hm3 fun k hk => hk.2
    have hb03 : Below w.heap.size w w3 := hb2.trans (hb3.mono hb2.size)
    go_wp2_with fail
    have HBa := Lib.hid Ba
    have hsz3 := hb03.size
    have hb13 : Below w.heap.size w (w3.alloc (.cells #[.int .i64 m2, .slice Aa ma ca] 24)) := hb03.alloc hsz3 _
    have HEY := Lib.hid (hy.keep (Keeps.of_below hb13 fun _ h => h))
    refine (HCY.out _ (HEY.out.more fun k (hk : k < w.heap.size) => Nat.lt_of_lt_of_le hk hb13.size)).mono ?_
    rintro e w4 ⟨v4, rfl, ho4, hb4⟩
    clear Ba
    go_wp2_with (at_builtin; refine wpList_app rfl (.tmp 41) (.tmp 42) _ _ rfl rfl rfl (run_push elem_ints intLay _ w4 v4 (ys.take m) 1 _ ho4 rfl H3.out H4.out hb4.size rfl) ?_; rintro v5 w5 ⟨ho5, hx5⟩; obtain ⟨A5, m5, c5, rfl, hm5⟩ := ho5.form')
    have hb15 := hb4.trans (hx5.below hb4.size (fun g hg => (ho4.lt g hg).1))
    have hm5' : m5 = m2 := by rw [← hm5, HNE.out]; exact HNY.out
    subst hm5'
    have hlb : (numsOf ys m 1).length = m5 := hm5
    have hel5 : Elems 1 intCs w5 (· < w5.heap.size) A5 (numsOf ys m 1) := (ho5.elems intLay.len rfl).more fun k hk => (ho5.lt k hk).2
    have HBB0 := bitsOf A5 c5 (numsOf ys m 1) w5 hel5 (by omega) (by omega)
    have hGB := good_bitG (numsOf ys m 1)
    rw [hlb] at HBB0 hGB
    have HBB := Lib.hid HBB0
    have HGB := Lib.hid hGB
    have hb05 : Below w.heap.size w w5 := hb13.trans (hb15.mono hb13.size)
    have HBa5 := Lib.hid (HBa.out.keep hb15)
    clear HBB0 hGB hel5 hlb hm5 ho5 ho4 hx5 hb4 hb13 hb15 HBa hb03 hsz3 hm3 hb3 hb2
    generalize bitG (numsOf ys m 1) = gb at *
    refine HBB.out.mono ?_
    rintro e w6 ⟨v6, rfl, hm6, hb6⟩
    obtain ⟨Ab, mb, cb, rfl, Bb⟩ := bv_new hm6 fun k hk => hk.2
    have hb06 : Below w.heap.size w w6 := hb05.trans (hb6.mono hb05.size)
    have HBa6 := Lib.hid (HBa5.out.keep hb6)
    have HBb6 := Lib.hid Bb
    clear hm6 hb6 hb05 Bb HBa5
    have Ba7 := HBa6.out.alloc (.cells #[.int .i64 m5, .slice Ab mb cb] 24)
    have Bb7 := HBb6.out
    have hb08 : Below w.heap.size w _ := hb06.alloc hb06.size (.cells #[.int .i64 m5, .slice Ab mb cb] 24)
    have a0 := Ba7.c0
    have a1 := Ba7.c1
    have al := Ba7.lt
    have b0 := Bb7.c0
    have b1 := Bb7.c1
    have bl := Bb7.lt
    have HA7 := Lib.hid Ba7
    have HB7 := Lib.hid Bb7
    clear Ba7 Bb7 HBa6 HBb6 hb06
    go_wp2_with fail
    refine (or_ _ _ m5 ga gb _ HA7.out.bm HB7.out.bm (good_or HGA.out HGB.out) (by omega) hN1).mono ?_
    rintro e w8 ⟨v8, rfl, hm8, hb8⟩
    obtain ⟨A8, m8', c8, rfl, BN8⟩ := bv_new hm8 fun k hk => hk.2
    have HGu := Lib.hid (good_or HGA.out HGB.out)
    clear a0 a1 al b0 b1 bl
    have Xa := HA7.out.keep hb8
    have xa0 := Xa.c0
    have xa1 := Xa.c1
    have xal := Xa.lt
    have Ha8 := Lib.hid (Xa.alloc (.cells #[.int .i64 m5, .slice A8 m8' c8] 24))
    have Xb := HB7.out.keep hb8
    have xb0 := Xb.c0
    have xb1 := Xb.c1
    have xbl := Xb.lt
    have Hb8 := Lib.hid (Xb.alloc (.cells #[.int .i64 m5, .slice A8 m8' c8] 24))
    have Hu8 := Lib.hid BN8
    have hbn8 := hb08.trans (hb8.mono hb08.size)
    have hbq8 := hbn8.alloc hbn8.size (.cells #[.int .i64 m5, .slice A8 m8' c8] 24)
    clear hm8 hb8 BN8 Xa Xb HA7 HB7 hb08 hbn8
    go_wp2_with fail
    refine (and_ _ _ m5 ga gb _ Ha8.out.bm Hb8.out.bm (good_and HGA.out HGB.out) (by omega) hN1).mono ?_
    rintro e w9 ⟨v9, rfl, hm9, hb9⟩
    obtain ⟨A9, m9', c9, rfl, BN9⟩ := bv_new hm9 fun k hk => hk.2
    have HGq := Lib.hid (good_and HGA.out HGB.out)
    clear  xa0 xa1 xal xb0 xb1 xbl
    have Xa := Ha8.out.keep hb9
    have xa0 := Xa.c0
    have xa1 := Xa.c1
    have xal := Xa.lt
    have Ha9 := Lib.hid (Xa.alloc (.cells #[.int .i64 m5, .slice A9 m9' c9] 24))
    have Xb := Hb8.out.keep hb9
    have xb0 := Xb.c0
    have xb1 := Xb.c1
    have xbl := Xb.lt
    have Hb9 := Lib.hid (Xb.alloc (.cells #[.int .i64 m5, .slice A9 m9' c9] 24))
    have Xu := Hu8.out.keep hb9
    have xu0 := Xu.c0
    have xu1 := Xu.c1
    have xul := Xu.lt
    have Hu9 := Lib.hid (Xu.alloc (.cells #[.int .i64 m5, .slice A9 m9' c9] 24))
    have Hq9 := Lib.hid BN9
    have hbn9 := hbq8.trans (hb9.mono hbq8.size)
    have hbq9 := hbn9.alloc hbn9.size (.cells #[.int .i64 m5, .slice A9 m9' c9] 24)
    clear hm9 hb9 BN9 Xa Xb Xu Ha8 Hb8 Hu8 hbq8 hbn9
    go_upto_region 8 with fail
    have a0 := Ha9.out.c0
    have a1 := Ha9.out.c1
    have al := Ha9.out.lt
    have b0 := Hb9.out.c0
    have b1 := Hb9.out.c1
    have bl := Hb9.out.lt
    have u0 := Hu9.out.c0
    have u1 := Hu9.out.c1
    have ul := Hu9.out.lt
    have q0 := Hq9.out.c0
    have q1 := Hq9.out.c1
    have ql := Hq9.out.lt
    obtain ⟨ma1, fa⟩ := Ha9.out.elems
    obtain ⟨mb1, fb⟩ := Hb9.out.elems
    obtain ⟨mu1, fu⟩ := Hu9.out.elems
    obtain ⟨mq1, fq⟩ := Hq9.out.elems
    have HCA := Lib.hid (countP m5 Aa ca ga HGA.out (by omega) hN1)
    have HCB := Lib.hid (countP m5 Ab cb gb HGB.out (by omega) hN1)
    have HCU := Lib.hid (countP m5 A8 c8 (zipOp (· ||| ·) ga gb) HGu.out (by omega) hN1)
    have HCQ := Lib.hid (countP m5 A9 c9 (zipOp (· &&& ·) ga gb) HGq.out (by omega) hN1)
    rw [← ma1] at HCA
    rw [← mb1] at HCB
    rw [← mu1] at HCU
    rw [← mq1] at HCQ
    have hl1 := pcs_le ga
    have hl2 := pcs_le gb
    have hl3 := pcs_le (zipOp (· ||| ·) ga gb)
    have hl4 := pcs_le (zipOp (· &&& ·) ga gb)
    rw [HGA.out.len] at hl1
    rw [HGB.out.len] at hl2
    rw [HGu.out.len] at hl3
    rw [HGq.out.len] at hl4
    have hgc := gc_le (n := m5) (by omega)
    have hsum := pcs_or_and ga gb (HGA.out.len.trans HGB.out.len.symm)
    have HFA := Lib.hid fa
    have HFB := Lib.hid fb
    have HFU := Lib.hid fu
    have HFQ := Lib.hid fq
    have HB9 := Lib.hid hbq9
    clear Ha9 Hb9 Hu9 Hq9 fa fb fu fq hbq9 ma1 mb1 mu1 mq1 xa0 xa1 xal xb0 xb1 xbl xu0 xu1 xul
    clear HBA HBB HEY HGu HGq HM HNE HNX HNY H1 H2 H3 H4 HCX HCY hx hy
    generalize w9.alloc (.cells #[.int .i64 m5, .slice A9 m9' c9] 24) = WP at *
    have hbp := HBP.out
    generalize pcs (zipOp (· &&& ·) ga gb) = nq at *
    generalize pcs (zipOp (· ||| ·) ga gb) = nu at *
    generalize pcs ga = na at *
    generalize pcs gb = nb at *
    have hla : na ≤ 124000 := by omega
    have hlb : nb ≤ 124000 := by omega
    have hlu : nu ≤ 124000 := by omega
    have hlq : nq ≤ 124000 := by omega
    have HSUM := Lib.hid hsum
    have HPOS := Lib.hid hbp
    clear HBP hbp hsum hl1 hl2 hl3 hl4 hgc
    have i0 : ∀ w : World, (Instr.index 34 (.agg #[.int .i64 m5, .slice Aa ma ca, .int .i64 m5, .slice Ab mb cb, .int .i64 m5, .slice A8 m8' c8, .int .i64 m5, .slice A9 m9' c9]) (.int .i64 0)).run Try.prog w = .ok (.agg #[.int .i64 m5, .slice Aa ma ca]) w := fun _ => by kernel_rfl
    have i1 : ∀ w : World, (Instr.index 34 (.agg #[.int .i64 m5, .slice Aa ma ca, .int .i64 m5, .slice Ab mb cb, .int .i64 m5, .slice A8 m8' c8, .int .i64 m5, .slice A9 m9' c9]) (.int .i64 1)).run Try.prog w = .ok (.agg #[.int .i64 m5, .slice Ab mb cb]) w := fun _ => by kernel_rfl
    have i2 : ∀ w : World, (Instr.index 34 (.agg #[.int .i64 m5, .slice Aa ma ca, .int .i64 m5, .slice Ab mb cb, .int .i64 m5, .slice A8 m8' c8, .int .i64 m5, .slice A9 m9' c9]) (.int .i64 2)).run Try.prog w = .ok (.agg #[.int .i64 m5, .slice A8 m8' c8]) w := fun _ => by kernel_rfl
    have i3 : ∀ w : World, (Instr.index 34 (.agg #[.int .i64 m5, .slice Aa ma ca, .int .i64 m5, .slice Ab mb cb, .int .i64 m5, .slice A8 m8' c8, .int .i64 m5, .slice A9 m9' c9]) (.int .i64 3)).run Try.prog w = .ok (.agg #[.int .i64 m5, .slice A9 m9' c9]) w := fun _ => by kernel_rfl
    have HR0 : Hid (CRow WP na nb nu nq 0 (WP.alloc (.cells #[.int .i64 0, .int .i64 0, .int .i64 0, .int .i64 0] 33))) := Lib.hid (CRow.first WP na nb nu nq)
    go_wp2_with fail
    go_loopw [70] (fun i wr => ∃ k : Nat, k ≤ 4 ∧ i = .int .i64 k ∧ CRow WP na nb nu nq k wr) (fun i _ => 4 - (intOf i).toNat)
    case atStart => exact ⟨0, by omega, rfl, HR0.out⟩
    case round =>
      clear HR0 a0 a1 al b0 b1 bl u0 u1 ul q0 q1 ql
      obtain ⟨k, hk, rfl, hr⟩ := hrel
      have HR := Lib.hid hr
      have hk5 : k = 0 ∨ k = 1 ∨ k = 2 ∨ k = 3 ∨ k = 4 := by omega
      have hlt := hr.lt
      have HW : Hid (∀ o : Obj, Below WP.heap.size WP (wr.alloc o)) := Lib.hid fun o => hr.below.alloc (Nat.le_of_lt hr.lt) o
      rcases hk5 with rfl | rfl | rfl | rfl | rfl
      all_goals clear hr
      · go_wp2_with fail
        refine (HCA.out _ ((HFA.out.keep (Keeps.of_below (HW.out _) fun _ h => h)).more fun k (hk : k < WP.heap.size) => Nat.lt_of_lt_of_le hk (HW.out _).size)).mono ?_
        rintro e w10 ⟨rfl, hb10⟩
        have HR1 := (HR.out.alloc _).keep hb10
        have HRH := Lib.hid HR1
        have hlt1 := HR1.lt
        have c0 : w10.cell? ⟨WP.heap.size, 0, none⟩ = some (.int .i64 (0 : Int)) := cell_of_row _ _ 0 _ _ _ HR1.row
        have z0 := frozen_of_row _ _ 0 _ _ HR1.row
        clear HR1 hb10
        go_wp2_with fail
        go_roundw
        case rel => exact ⟨1, by omega, rfl, HRH.out.set0⟩
        case measure => simp [intOf]
      · go_wp2_with fail
        refine (HCB.out _ ((HFB.out.keep (Keeps.of_below (HW.out _) fun _ h => h)).more fun k (hk : k < WP.heap.size) => Nat.lt_of_lt_of_le hk (HW.out _).size)).mono ?_
        rintro e w10 ⟨rfl, hb10⟩
        have HR1 := (HR.out.alloc _).keep hb10
        have HRH := Lib.hid HR1
        have hlt1 := HR1.lt
        have c0 : w10.cell? ⟨WP.heap.size, 1, none⟩ = some (.int .i64 (0 : Int)) := cell_of_row _ _ 1 _ _ _ HR1.row
        have z0 := frozen_of_row _ _ 1 _ _ HR1.row
        clear HR1 hb10
        go_wp2_with fail
        go_roundw
        case rel => exact ⟨2, by omega, rfl, HRH.out.set1⟩
        case measure => simp [intOf]
      · go_wp2_with fail
        refine (HCU.out _ ((HFU.out.keep (Keeps.of_below (HW.out _) fun _ h => h)).more fun k (hk : k < WP.heap.size) => Nat.lt_of_lt_of_le hk (HW.out _).size)).mono ?_
        rintro e w10 ⟨rfl, hb10⟩
        have HR1 := (HR.out.alloc _).keep hb10
        have HRH := Lib.hid HR1
        have hlt1 := HR1.lt
        have c0 : w10.cell? ⟨WP.heap.size, 2, none⟩ = some (.int .i64 (0 : Int)) := cell_of_row _ _ 2 _ _ _ HR1.row
        have z0 := frozen_of_row _ _ 2 _ _ HR1.row
        clear HR1 hb10
        go_wp2_with fail
        go_roundw
        case rel => exact ⟨3, by omega, rfl, HRH.out.set2⟩
        case measure => simp [intOf]
      · go_wp2_with fail
        refine (HCQ.out _ ((HFQ.out.keep (Keeps.of_below (HW.out _) fun _ h => h)).more fun k (hk : k < WP.heap.size) => Nat.lt_of_lt_of_le hk (HW.out _).size)).mono ?_
        rintro e w10 ⟨rfl, hb10⟩
        have HR1 := (HR.out.alloc _).keep hb10
        have HRH := Lib.hid HR1
        have hlt1 := HR1.lt
        have c0 : w10.cell? ⟨WP.heap.size, 3, none⟩ = some (.int .i64 (0 : Int)) := cell_of_row _ _ 3 _ _ _ HR1.row
        have z0 := frozen_of_row _ _ 3 _ _ HR1.row
        clear HR1 hb10
        go_wp2_with fail
        go_roundw
        case rel => exact ⟨4, by omega, rfl, HRH.out.set3⟩
        case measure => simp [intOf]
      · have c0 : wr.cell? ⟨WP.heap.size, 0, none⟩ = some (.int .i64 (na : Int)) := cell_of_row _ _ 0 _ _ _ HR.out.row
        have c1 : wr.cell? ⟨WP.heap.size, 1, none⟩ = some (.int .i64 (nb : Int)) := cell_of_row _ _ 1 _ _ _ HR.out.row
        have c2 : wr.cell? ⟨WP.heap.size, 2, none⟩ = some (.int .i64 (nu : Int)) := cell_of_row _ _ 2 _ _ _ HR.out.row
        have c3 : wr.cell? ⟨WP.heap.size, 3, none⟩ = some (.int .i64 (nq : Int)) := cell_of_row _ _ 3 _ _ _ HR.out.row
        clear i0 i1 i2 i3
        have g1 : decide ((0 : Int) < (nq : Int)) = true := decide_eq_true (by have := HPOS.out; omega)
        have g2 : (na : Int) + (nb : Int) = (nu : Int) + (nq : Int) := by have := HSUM.out; omega
        go_wp2_with fail
        go_ret
        exact ⟨rfl, HB9.out.trans (HR.out.below.mono HB9.out.size)⟩

end Go.Proofs.Ythobibjbpbnhnaa

