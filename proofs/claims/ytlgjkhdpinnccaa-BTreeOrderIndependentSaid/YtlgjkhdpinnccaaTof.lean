/-
  The walk of treeOf.
-/
import Derived.Test.YtlgjkhdpinnccaaIr
import Derived.Test.YtlgjkhdpinnccaaLaw
import Derived.Deep.CutRange
namespace Go.Proofs.Ytlgjkhdpinnccaa
open Go.RowKit Go.Sort

/-- What the first i keys make. -/
def bld (xs : List Int) : Nat → List PE
  | 0 => []
  | i + 1 => insP (rowOf (xs.getD i 0), i) (bld xs i)
theorem bld_len (xs : List Int) : ∀ i, (bld xs i).length ≤ i
  | 0 => Nat.le_refl _
  | i + 1 => by
    show (insP _ _).length ≤ _
    rw [len_insP]
    have := bld_len xs i
    split <;> omega

/-- What treeOf leaves. -/
def TofPost (w : World) (or : Int) (xs : List Int) (e : Ending) (w' : World) : Prop :=
  ∃ m o tb, Order m o ∧ (o : Int) = 3 + md or 14 ∧ e = .returned (.tuple #[ptr tb, .bool true]) ∧ TreeAt w.heap.size m o w' tb (bld xs (min xs.length 200)) ∧ Below w.heap.size w w'

theorem Elems.int {w : World} {S : Nat → Prop} {A : Option Addr} {xs : List Int} {k : Nat} (h : Elems 1 intCs w S A xs) (hk : k < xs.length) :
    ∃ b off, A = some ⟨b, off, none⟩ ∧ S b ∧ w.cell? ⟨b, off + k, none⟩ = some (.int .i64 xs[k]) := by
  obtain ⟨b, off, e, hb, hc⟩ := h.at_ hk
  exact ⟨b, off, e, hb, by simpa using hc 0 _ rfl⟩

set_option maxRecDepth 100000 in
set_option maxHeartbeats 4000000 in
theorem treeOfW (or : Int) (A : Option Addr) (c : Nat) (xs : List Int) (w : World) (hor : I64 or) (hx : Elems 1 intCs w (· < w.heap.size) A xs) (hl : xs.length ≤ c) (hcm : c ≤ maxLen) (hok : ∀ x ∈ xs, I64 x) :
    Calls Try.prog 9 #[.int .i64 or, .slice A xs.length c] w (TofPost w or xs) := by
  have HM := Lib.hid (modW or 14 w hor (by omega) (by omega))
  have hmd := md_lt (k := or) (n := 14) (by omega)
  obtain ⟨o, ho⟩ : ∃ o, o = 3 + md or 14 := ⟨_, rfl⟩
  have hcast : (3 : Int) + (md or 14 : Int) = (o : Int) := by omega
  have hO : Order ((o + 1) / 2) o := ⟨by omega, by omega, rfl⟩
  obtain ⟨m, hm⟩ : ∃ m, m = (o + 1) / 2 := ⟨_, rfl⟩
  rw [← hm] at hO
  have HN := Lib.hid (newW hO w)
  have HCA := Lib.hid hcast
  obtain ⟨n, hn⟩ : ∃ n, n = min xs.length 200 := ⟨_, rfl⟩
  have hnl : n ≤ xs.length ∧ n ≤ 200 := by omega
  have hmin : min (xs.length : Int) 200 = (n : Int) := by omega
  have HX := Lib.hid hx
  have HOK := Lib.hid hok
  have HO := Lib.hid hO
  have HNN := Lib.hid hn
  clear hx hok hn ho hm hO hor
  unfold maxLen at hcm
  generalize hr : md or 14 = r at *
  have HR := Lib.hid hr
  clear hr
  go_enter Try.func9, Try.ntmps9
  go_wp2_with fail
  refine HM.out.mono ?_
  rintro e w' ⟨rfl, rfl⟩
  go_wp2_with fail
  refine HN.out.mono ?_
  rintro e w1 ⟨rfl, hT1, hb1⟩
  have HT1 := Lib.hid hT1
  have HB1 := Lib.hid hb1
  have htbl := hT1.lt
  generalize w.heap.size + 1 = tb at *
  clear hT1 hb1 HM HN
  go_upto_region 4 with fail
  go_cut [29, 30, 31] from 25 to 31 (fun v29 v30 v31 wx => v29 = .slice A n c ∧ v30 = .int .i64 (n : Int) ∧ v31 = .int .i64 (0 : Int) ∧ w1 = wx)
  case first =>
    rcases Nat.lt_or_ge 200 xs.length with h | h
    · have h2 : (200 : Int) < (xs.length : Int) := by omega
      have e1 : n = 200 := by omega
      subst e1
      have hmx : max (200 : Int) 0 = 200 := by decide
      have h4 : (200 : Int) ≤ (c : Int) := by omega
      go_wp2_with fail
      go_meet
      exact ⟨rfl, rfl, rfl, rfl⟩
    · have h2 : (xs.length : Int) ≤ 200 := by omega
      have e1 : n = xs.length := by omega
      subst e1
      go_wp2_with fail
      go_meet
      exact ⟨rfl, rfl, rfl, rfl⟩
  case rest =>
    obtain ⟨rfl, rfl, rfl, rfl⟩ := hcut
    go_wp2_with fail
    go_loopw [31] (fun vi wr => ∃ i : Nat, vi = .int .i64 (i : Int) ∧ i ≤ n ∧ TreeAt w.heap.size m o wr tb (bld xs i) ∧ Below w.heap.size w wr) (fun vi _ => n - (intOf vi).toNat)
    case atStart => exact ⟨0, rfl, by omega, HT1.out, HB1.out⟩
    case round =>
      obtain ⟨i, rfl, hin, hT, hb⟩ := hrel
      have HT := Lib.hid hT
      have HB := Lib.hid hb
      clear hT
      by_cases hlt : i < n
      · obtain ⟨g, off, rfl, hgs, c0⟩ := (HX.out.keep (Keeps.of_below hb fun _ h => h)).int (k := i) (by omega)
        have hI := HOK.out _ (List.getElem_mem (l := xs) (n := i) (by omega))
        have hgd : xs.getD i 0 = xs[i]'(by omega) := by
          rw [List.getD_eq_getElem?_getD, List.getElem?_eq_getElem (by omega)]
          rfl
        have hlen := bld_len xs i
        generalize xs[i]'(by omega) = x at *
        have HIR := Lib.hid (intRowW x wr hI)
        have HGD := Lib.hid hgd
        have hli : (i : Int) < (n : Int) := by omega
        have HLEN := Lib.hid hlen
        clear hI hb hgd hlen
        go_wp2_with fail
        refine HIR.out.mono ?_
        rintro e w2 ⟨A', rfl, hx2, -, hb2⟩
        have HPU := Lib.hid (putW HO.out w2 (Nat.le_trans HB.out.size hb2.size) (HT.out.below hb2) A' 1 (rowOf x) i hx2 (rowOf_ok x) (by show 1 ≤ 12; omega) (by have := HLEN.out; omega))
        have HB2 := Lib.hid (HB.out.trans (hb2.mono HB.out.size))
        clear hx2 hb2 HIR
        have e1 : (rowOf x).length = 1 := rfl
        rw [e1] at HPU
        go_wp2_with fail
        refine HPU.out.mono ?_
        rintro e w3 ⟨rfl, hT3, hb3⟩
        have HT3 : Hid (TreeAt w.heap.size m o w3 tb (bld xs (i + 1))) := Lib.hid (by
          show TreeAt _ _ _ _ _ (insP (rowOf (xs.getD i 0), (i : Int)) (bld xs i))
          rw [HGD.out]
          exact hT3)
        have HB3 := Lib.hid (HB2.out.trans hb3)
        clear hT3 hb3 HPU
        generalize (getP (rowOf x) (bld xs i)).isNone = gg at *
        go_wp2_with fail
        go_roundw
        case rel => exact ⟨i + 1, by go_num, by omega, HT3.out, HB3.out⟩
        case measure => simp [intOf]; omega
      · have hie : i = n := by omega
        subst hie
        have HF : Hid (TofPost w or xs (.returned (.tuple #[ptr tb, .bool true])) wr) := Lib.hid ⟨m, o, tb, HO.out, by rw [HR.out]; exact HCA.out.symm, rfl, by rw [← HNN.out]; exact HT.out, HB.out⟩
        go_wp2_with fail
        go_ret2
        exact HF.out
end Go.Proofs.Ytlgjkhdpinnccaa
