/-
  The walks of the comparison of values and rows.
-/
import Derived.Test.YtefifkleamiabaaCv
import Derived.Test.YtefifkleamiabaaOwn
import Derived.Test.YtefifkleamiabaaRows
import Derived.Lib.Walk
import Derived.Deep.Cut
import Derived.Deep.CutRange
import Derived.Shelf.SlSortCmp.QuietGrown
namespace Go.Proofs.Ytefifkleamiabaa
open Go.RowKit Go.Sort

theorem compareInts (x y : Int) (w : World) :
    Calls Try.prog 38 #[.int .i64 x, .int .i64 y] w fun e w' => e = .returned (.int .i64 (cmpI x y)) ∧ w = w' := by
  go_enter Try.func38, Try.ntmps38
  go_wp2_with fail
  all_goals
    go_ret
    refine ⟨?_, rfl⟩
    unfold cmpI
    (repeat' split) <;> first | rfl | (exfalso; omega)

set_option maxHeartbeats 1000000 in
set_option maxRecDepth 100000 in
theorem compareString (a b : ByteArray) (w : World) :
    Calls Try.prog 55 #[.string a, .string b] w fun e w' => e = .returned (.int .i64 (Lib.compareBytes a.data.toList b.data.toList)) ∧ w = w' := by
  go_enter Try.func55, Try.ntmps55
  go_wp2
  rw [run_callFunc_extern Try.func58 (by kernel_rfl) (by kernel_rfl) (by kernel_rfl) (e := Extern.BytealgCompare.compare) (by kernel_rfl), Lib.run_compareString]
  simp only [Result.andThen]
  rw [Oper.upon_value]
  go_wp2
  go_ret
  exact ⟨rfl, rfl⟩

set_option maxRecDepth 100000 in
theorem stringsCompare (a b : ByteArray) (w : World) :
    Calls Try.prog 49 #[.string a, .string b] w fun e w' => e = .returned (.int .i64 (Lib.compareBytes a.data.toList b.data.toList)) ∧ w = w' := by
  go_enter Try.func49, Try.ntmps49
  go_wp2_with fail
  refine (compareString _ _ _).mono ?_
  rintro e w' ⟨rfl, rfl⟩
  go_wp2_with fail
  go_ret
  exact ⟨rfl, rfl⟩

set_option maxRecDepth 100000 in
set_option maxHeartbeats 1000000 in
theorem compareVals (a b : Val) (w : World) :
    Calls Try.prog 37 #[.agg #[.int .i64 a.kind, .int .i64 a.int, .string a.text], .agg #[.int .i64 b.kind, .int .i64 b.int, .string b.text]] w fun e w' => e = .returned (.int .i64 (cmpV a b)) ∧ ∃ os, w' = grow w os := by
  obtain ⟨k1, n1, t1⟩ := a
  obtain ⟨k2, n2, t2⟩ := b
  have HV : Hid (cmpV ⟨k1, n1, t1⟩ ⟨k2, n2, t2⟩ = if cmpI k1 k2 = 0 then (if cmpI n1 n2 = 0 then Lib.compareBytes t1.data.toList t2.data.toList else cmpI n1 n2) else cmpI k1 k2) := Lib.hid rfl
  have HG : Hid (∀ o1 o2, ∃ os, (w.alloc o1).alloc o2 = grow w os) := Lib.hid fun o1 o2 => ⟨#[o1] ++ #[o2], by rw [alloc_eq_grow, alloc_eq_grow, grow_grow]⟩
  generalize cmpV ⟨k1, n1, t1⟩ ⟨k2, n2, t2⟩ = cv at *
  generalize hc1 : cmpI k1 k2 = x1 at *
  generalize hc2 : cmpI n1 n2 = x2 at *
  have H1 := Lib.hid hc1
  have H2 := Lib.hid hc2
  clear hc1 hc2
  go_enter Try.func37, Try.ntmps37
  go_wp2_with fail
  refine (compareInts _ _ _).mono ?_
  rintro e w' ⟨rfl, rfl⟩
  rw [H1.out]
  by_cases hx1 : x1 = 0
  · have hz : (x1 != 0) = false := by simp [hx1]
    rw [if_pos hx1] at HV
    clear hx1
    go_wp2_with fail
    refine (compareInts _ _ _).mono ?_
    rintro e w' ⟨rfl, rfl⟩
    rw [H2.out]
    by_cases hx2 : x2 = 0
    · have hz2 : (x2 != 0) = false := by simp [hx2]
      rw [if_pos hx2] at HV
      clear hx2
      go_wp2_with fail
      refine (stringsCompare _ _ _).mono ?_
      rintro e w' ⟨rfl, rfl⟩
      go_wp2_with fail
      go_ret
      exact ⟨ret_int HV.out.symm, HG.out _ _⟩
    · have hz2 : (x2 != 0) = true := by simp [hx2]
      rw [if_neg hx2] at HV
      clear hx2
      go_wp2_with fail
      go_ret
      exact ⟨ret_int HV.out.symm, HG.out _ _⟩
  · have hz : (x1 != 0) = true := by simp [hx1]
    rw [if_neg hx1] at HV
    clear hx1
    go_wp2_with fail
    go_ret
    exact ⟨ret_int HV.out.symm, HG.out _ _⟩


theorem mixed : Try.prog.follows .mixedOrders = true := by kernel_rfl

theorem compareVals_grown (a b : Val) (w : World) (n : Nat) (os : Array Obj) :
    Calls Try.prog 37 #[.agg #[.int .i64 a.kind, .int .i64 a.int, .string a.text], .agg #[.int .i64 b.kind, .int .i64 b.int, .string b.text]] (Go.Sort.grow (w.drewN n) os) fun e w' => e = .returned (.int .i64 (cmpV a b)) ∧ ∃ p : GrownBy, w' = Go.Sort.grow (w.drewN p.n) p.os :=
  Calls.grown_of ((compareVals a b _).mono fun _ _ ⟨h1, os', h2⟩ => ⟨h1, 0, os', h2⟩)

theorem below_grow (w : World) (n : Nat) (os : Array Obj) : Below w.heap.size w (Go.Sort.grow (w.drewN n) os) :=
  ⟨rfl, rfl, rfl, by show _ ≤ (Go.Sort.grow (w.drewN n) os).heap.size; rw [size_grow]; exact Nat.le_add_right _ _, fun k hk => heap_grow_old (w.drewN n) os hk⟩
theorem Elems.grow {α : Type} {sz : Nat} {cs : α → List Value} {w : World} {S : Nat → Prop} {A : Option Addr} {xs : List α} (h : Elems sz cs w S A xs) (hS : ∀ k, S k → k < w.heap.size) (n : Nat) (os : Array Obj) : Elems sz cs (Go.Sort.grow (w.drewN n) os) S A xs :=
  h.keep (Keeps.of_below (below_grow w n os) hS)
theorem grow_trans (w : World) (n m : Nat) (os os' : Array Obj) : ∃ p : GrownBy, Go.Sort.grow ((Go.Sort.grow (w.drewN n) os).drewN m) os' = Go.Sort.grow (w.drewN p.n) p.os := by
  refine ⟨⟨n + m, os ++ os'⟩, ?_⟩
  show Go.Sort.grow (Go.Sort.grow ((w.drewN n).drewN m) os) os' = _
  rw [grow_grow, World.drewN_drewN]

set_option maxRecDepth 100000 in
set_option maxHeartbeats 1000000 in
theorem cmpRows (A B : Option Addr) (c d : Nat) (a b : Row) (w : World) (S T : Nat → Prop) (hx : Elems 3 Val.cs w S A a) (hy : Elems 3 Val.cs w T B b) (hS : ∀ k, S k → k < w.heap.size) (hT : ∀ k, T k → k < w.heap.size) (hl : a.length ≤ 1000) :
    Calls Try.prog 18 #[.slice A a.length c, .slice B b.length d] w fun e w' => e = .returned (.int .i64 (cmpR a b)) ∧ ∃ p : GrownBy, w' = Go.Sort.grow (w.drewN p.n) p.os := by
  obtain ⟨m, hm⟩ : ∃ m, m = min a.length b.length := ⟨_, rfl⟩
  have hma : m ≤ a.length ∧ m ≤ b.length := by omega
  have HM : Hid (m = a.length ∨ m = b.length) := Lib.hid (by omega)
  have mixed := mixed
  go_enter Try.func18, Try.ntmps18
  go_upto_region 1 with fail
  go_cut [11, 12] from 7 to 12 (fun v z wx => v = .int .i64 m ∧ z = .int .i64 0 ∧ wx = w)
  case first =>
    have HE : Hid (min (a.length : Int) (b.length : Int) = (m : Int)) := Lib.hid (by omega)
    clear hm hma
    go_wp2_with fail
    go_meet
    exact ⟨val_int HE.out, rfl, rfl⟩
  case rest =>
    obtain ⟨rfl, rfl, rfl⟩ := hcut
    clear hm
    have HX := Lib.hid hx
    have HY := Lib.hid hy
    have HS := Lib.hid hS
    have HT := Lib.hid hT
    clear hx hy hS hT
    go_wp2_with fail
    go_loopw [12] (fun vi wr => ∃ k : Nat, vi = .int .i64 k ∧ k ≤ m ∧ cmpR a b = cmpR (a.drop k) (b.drop k) ∧ ∃ p : GrownBy, wr = Go.Sort.grow (wc.drewN p.n) p.os) (fun vi _ => m - (intOf vi).toNat)
    case atStart => exact ⟨0, rfl, Nat.zero_le _, rfl, ⟨0, #[]⟩, (grow_empty wc).symm⟩
    case round =>
      obtain ⟨k, rfl, hk, he, ⟨pn, po⟩, rfl⟩ := hrel
      have HE := Lib.hid he
      have hx := HX.out.grow HS.out pn po
      have hy := HY.out.grow HT.out pn po
      have HG : Hid (∀ m os', ∃ p : GrownBy, Go.Sort.grow ((Go.Sort.grow (wc.drewN pn) po).drewN m) os' = Go.Sort.grow (wc.drewN p.n) p.os) := Lib.hid fun m os' => grow_trans wc pn m po os'
      have hsz := (below_grow wc pn po).size
      have HW : Hid (∃ p : GrownBy, Go.Sort.grow (wc.drewN pn) po = Go.Sort.grow (wc.drewN p.n) p.os) := Lib.hid ⟨⟨pn, po⟩, rfl⟩
      simp only at hx hy HG hsz ⊢
      generalize Go.Sort.grow (wc.drewN pn) po = wr at *
      clear he
      by_cases hlt : k < m
      · have hka : k < a.length := by omega
        have hkb : k < b.length := by omega
        obtain ⟨ba, oa, rfl, hba, -⟩ := hx.val hka
        obtain ⟨bb, ob, rfl, hbb, -⟩ := hy.val hkb
        have cj := fun q os => (hx.grow (fun k hk => Nat.lt_of_lt_of_le (HS.out k hk) hsz) q os).val hka
        have cp := fun q os => (hy.grow (fun k hk => Nat.lt_of_lt_of_le (HT.out k hk) hsz) q os).val hkb
        have cj' : ∀ q os, (Go.Sort.grow (wr.drewN q) os).cell? ⟨ba, oa + k * 3, none⟩ = some (.int .i64 a[k].kind) ∧ (Go.Sort.grow (wr.drewN q) os).cell? ⟨ba, oa + k * 3 + 1, none⟩ = some (.int .i64 a[k].int) ∧ (Go.Sort.grow (wr.drewN q) os).cell? ⟨ba, oa + k * 3 + 2, none⟩ = some (.string a[k].text) := fun q os => by
          obtain ⟨b', o', e, _, h⟩ := cj q os
          injection e with e
          injection e with e1 e2
          subst e1 e2
          exact h
        have cp' : ∀ q os, (Go.Sort.grow (wr.drewN q) os).cell? ⟨bb, ob + k * 3, none⟩ = some (.int .i64 b[k].kind) ∧ (Go.Sort.grow (wr.drewN q) os).cell? ⟨bb, ob + k * 3 + 1, none⟩ = some (.int .i64 b[k].int) ∧ (Go.Sort.grow (wr.drewN q) os).cell? ⟨bb, ob + k * 3 + 2, none⟩ = some (.string b[k].text) := fun q os => by
          obtain ⟨b', o', e, _, h⟩ := cp q os
          injection e with e
          injection e with e1 e2
          subst e1 e2
          exact h
        have c0 := fun q os => (cj' q os).1
        have c1 := fun q os => (cj' q os).2.1
        have c2 := fun q os => (cj' q os).2.2
        have d0 := fun q os => (cp' q os).1
        have d1 := fun q os => (cp' q os).2.1
        have d2 := fun q os => (cp' q os).2.2
        have HC := Lib.hid fun q os => compareVals_grown a[k] b[k] wr q os
        have HR := Lib.hid (cmpR_drop hka hkb)
        have y1 : (k : Int) < (a.length : Int) := by omega
        have y2 : (k : Int) < (b.length : Int) := by omega
        clear cj cp cj' cp' hx hy
        generalize a[k] = av at *
        generalize b[k] = bv at *
        go_wp2_with fail
        go_quiet_grown (first | (go_at_call 37; exact HC.out _ _))
        have hw := HG.out (GrownBy.n ⟨nq, osq⟩) (GrownBy.os ⟨nq, osq⟩)
        have HWQ : Hid (∃ p : GrownBy, Go.Sort.grow (wr.drewN (GrownBy.n ⟨nq, osq⟩)) (GrownBy.os ⟨nq, osq⟩) = Go.Sort.grow (wc.drewN p.n) p.os) := Lib.hid hw
        generalize Go.Sort.grow (wr.drewN (GrownBy.n ⟨nq, osq⟩)) (GrownBy.os ⟨nq, osq⟩) = wq at hw HWQ ⊢
        clear c0 c1 c2 d0 d1 d2 HC hw HG
        generalize hcv : cmpV av bv = cv at *
        by_cases hz : cv = 0
        · rw [if_pos hz] at HR
          have y7 : (cv != 0) = false := by simp [hz]
          clear hz
          go_wp2_with fail
          go_roundw
          case rel => exact ⟨k + 1, by go_num, by omega, HE.out.trans HR.out, HWQ.out⟩
          case measure => simp [intOf]; omega
        · rw [if_neg hz] at HR
          have y7 : (cv != 0) = true := by simp [hz]
          clear hz
          go_wp2_with fail
          go_ret
          exact ⟨ret_int (HE.out.trans HR.out).symm, HWQ.out⟩
      · have hkm : k = m := by omega
        subst hkm
        have HR := Lib.hid (cmpR_end HM.out hma.1 hma.2)
        clear hx hy
        go_wp2_with fail
        refine (compareInts _ _ _).mono ?_
        rintro e w' ⟨rfl, rfl⟩
        go_wp2_with fail
        go_ret
        exact ⟨ret_int (HE.out.trans HR.out).symm, HW.out⟩

end Go.Proofs.Ytefifkleamiabaa
