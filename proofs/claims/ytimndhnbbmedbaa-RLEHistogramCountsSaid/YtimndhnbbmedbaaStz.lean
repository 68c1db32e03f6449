/-
  The comparison within a region that draws; the walk of insertionSort.
-/
import Derived.Test.YtimndhnbbmedbaaSty
namespace Go.Proofs.Ytimndhnbbmedbaa
open Go.RowKit Go.Sort

theorem mixed : Try.prog.follows .mixedOrders = true := by kernel_rfl

theorem grown_grow {a w : World} {g : Option Nat} (h : a.grownBy w g) (n : Nat) (os : Array Obj) : a.grownBy (grow (w.drewN n) os) g :=
  ⟨h.os, h.tape, h.output, Nat.le_trans h.size (by show _ ≤ (grow (w.drewN n) os).heap.size; rw [size_grow]; exact Nat.le_add_right _ _), fun k hk hne => (heap_grow_old (w.drewN n) os (Nat.lt_of_lt_of_le hk h.size)).trans (h.block k hk hne)⟩
theorem SB.lt {w0 w : World} {g n : Nat} {f : Nat → Run} (h : SB w0 g n w f) : g < w.heap.size := by
  obtain ⟨arr, hb, _⟩ := h.blk
  exact (Array.getElem?_eq_some_iff.1 hb).1
theorem SB.grow {w0 w : World} {g n : Nat} {f : Nat → Run} (h : SB w0 g n w f) (k : Nat) (os : Array Obj) : SB w0 g n (Go.Sort.grow (w.drewN k) os) f := by
  obtain ⟨arr, hb, hc⟩ := h.blk
  exact ⟨grown_grow h.only k os, arr, (heap_grow_old (w.drewN k) os h.lt).trans hb, hc⟩
theorem SB.drewN {w0 w : World} {g n : Nat} {f : Nat → Run} (h : SB w0 g n w f) (k : Nat) : SB w0 g n (w.drewN k) f := by
  have := h.grow k #[]
  rwa [grow_empty] at this

theorem cmp_grown (a b : Run) (w : World) (n : Nat) (os : Array Obj) :
    Calls Try.prog 27 #[a.agg, b.agg] (Go.Sort.grow (w.drewN n) os) fun e w' => e = .returned (.int .i64 (cmpV a.v b.v)) ∧ ∃ p : GrownBy, w' = Go.Sort.grow (w.drewN p.n) p.os :=
  Calls.grown_of ((cmpRuns a b _).mono fun _ _ ⟨h1, os', h2⟩ => ⟨h1, 0, os', h2⟩)

abbrev FN : Value := .func (.func 27) #[] #[]

set_option maxRecDepth 100000 in
set_option maxHeartbeats 4000000 in
theorem insertionSort (g n c a b : Nat) (f : Nat → Run) (w : World) (h : SB w g n w f) (hab : a ≤ b) (hb : b ≤ n) (hn : n ≤ 1000) :
    Calls Try.prog 33 #[.slice (some ⟨g, 0, none⟩) n c, .int .i64 a, .int .i64 b, FN] w fun e w' => e = .returned (.tuple #[]) ∧ ∃ f', SB w g n w' f' ∧ Sw a b f f' ∧ Srt rlt f' a b := by
  have H0 := Lib.hid h
  clear h
  have mixed := mixed
  unfold FN
  go_enter Try.func33, Try.ntmps33
  go_wp2_with fail
  go_loopw [8] (fun vi wr => ∃ (i : Nat) (h : Nat → Run), vi = .int .i64 i ∧ a + 1 ≤ i ∧ i ≤ b + 1 ∧ SB w g n wr h ∧ Sw a b f h ∧ Srt rlt h a i) (fun vi _ => b + 1 - (intOf vi).toNat)
  case atStart => exact ⟨a + 1, f, by go_num, by omega, by omega, H0.out, .refl, Srt.short (by omega)⟩
  case round =>
    obtain ⟨i, h, rfl, hi1, hi2, hs, hsw, hsr⟩ := hrel
    clear H0
    have HS := Lib.hid hs
    have HSW := Lib.hid hsw
    have HSR := Lib.hid hsr
    clear hs hsw hsr
    by_cases hlt : i < b
    · go_wp2_with fail
      go_loopw [9] (fun vj wr => ∃ (j : Nat) (h : Nat → Run), vj = .int .i64 j ∧ j ≤ i ∧ SB w g n wr h ∧ Sw a b f h ∧ Ins rlt h a i j) (fun vj _ => (intOf vj).toNat)
      case atStart => exact ⟨i, h, rfl, Nat.le_refl _, HS.out, HSW.out, Ins.first HSR.out (by omega)⟩
      case round =>
        obtain ⟨j, h, rfl, hji, hs, hsw, hin⟩ := hrel
        clear HS HSW HSR
        have HSW := Lib.hid hsw
        have HIN := Lib.hid hin
        have hle := hin.le
        clear hsw hin
        have hg := hs.lt
        by_cases hja : a < j
        · obtain ⟨p, rfl⟩ : ∃ p, j = p + 1 := ⟨j - 1, by omega⟩
          have cj := fun k os => (hs.grow k os).cells (i := p + 1) (by omega)
          have cp := fun k os => (hs.grow k os).cells (i := p) (by omega)
          have c0 := fun k os => (cj k os).1
          have c1 := fun k os => (cj k os).2.1
          have c2 := fun k os => (cj k os).2.2.1
          have c3 := fun k os => (cj k os).2.2.2
          have d0 := fun k os => (cp k os).1
          have d1 := fun k os => (cp k os).2.1
          have d2 := fun k os => (cp k os).2.2.1
          have d3 := fun k os => (cp k os).2.2.2
          have HC := Lib.hid fun k os => cmp_grown (h (p + 1)) (h p) wr k os
          have HS := Lib.hid hs
          clear cj cp hs
          have HRX := Lib.hid (show rlt (h (p + 1)) (h p) ↔ cmpV (h (p + 1)).v (h p).v < 0 from Iff.rfl)
          have y1 : decide ((a : Int) < (p : Int) + 1) = true := decide_eq_true (by omega)
          have y2 : IntKind.i64.wrap (p : Int) = (p : Int) := by rw [IntKind.wrap_i64]; omega
          have y3 : (0 : Int) ≤ (p : Int) + 1 := by omega
          have y4 : (p : Int) + 1 < (n : Int) := by omega
          have y5 : (p : Int) < (n : Int) := by omega
          have y6 : ((p : Int) + 1).toNat = p + 1 := by omega
          go_wp2_with fail
          go_quiet_grown (first | (go_at_call 27; exact HC.out _ _))
          have hs2 := HS.out.grow nq osq
          have hs3 : SB w g n (Go.Sort.grow (wr.drewN (GrownBy.n ⟨nq, osq⟩)) (GrownBy.os ⟨nq, osq⟩)) h := hs2
          generalize Go.Sort.grow (wr.drewN (GrownBy.n ⟨nq, osq⟩)) (GrownBy.os ⟨nq, osq⟩) = wq at hs3 ⊢
          have HS2 := Lib.hid hs3
          clear c0 c1 c2 c3 d0 d1 d2 d3 HC HS hs2 hs3 hg
          generalize hcv : cmpV (h (p + 1)).v (h p).v = cv at *
          clear hcv
          by_cases hlv : cv < 0
          · obtain ⟨c0, c1, c2, c3⟩ := HS2.out.cells (i := p + 1) (by omega)
            obtain ⟨d0, d1, d2, d3⟩ := HS2.out.cells (i := p) (by omega)
            have fz := fun i => HS2.out.frozen i
            have HSW2 := Lib.hid (HS2.out.swap (i := p + 1) (j := p) (by omega) (by omega) rfl rfl)
            have HIN2 := Lib.hid (HIN.out.step rlt_ord hja (HRX.out.2 hlv))
            have HSS := Lib.hid (HSW.out.step (i := p + 1) (j := p) ⟨by omega, by omega⟩ ⟨by omega, by omega⟩)
            clear HS2 HRX HIN HSW
            have y7 : decide (cv < 0) = true := decide_eq_true hlv
            generalize (h (p + 1)) = ra at *
            generalize (h p) = rb at *
            go_wp2_with fail
            go_region
            go_wp2_with fail
            go_roundw
            case rel => exact ⟨p, _, by go_num, by omega, HSW2.out, HSS.out, HIN2.out⟩
            case measure => simp [intOf]
          · have HD := Lib.hid (HIN.out.done rlt_ord (.inr (fun hr => hlv (HRX.out.1 hr))))
            have y7 : decide (cv < 0) = false := decide_eq_false hlv
            go_wp2_with fail
            go_roundw
            case rel => exact ⟨i + 1, h, by go_num, by omega, by omega, HS2.out, HSW.out, HD.out⟩
            case measure => simp [intOf]; omega
        · have hj : j = a := by omega
          subst hj
          have HD := Lib.hid (HIN.out.done rlt_ord (.inl rfl))
          have y1 : decide ((j : Int) < (j : Int)) = false := decide_eq_false (by omega)
          have HS2 := Lib.hid fun k => hs.drewN k
          clear hs
          go_wp2_with fail
          go_quiet (fail)
          go_wp2_with fail
          go_roundw
          case rel => exact ⟨i + 1, h, by go_num, by omega, by omega, HS2.out _, HSW.out, HD.out⟩
          case measure => simp [intOf]; omega
    · go_wp2_with fail
      go_end0
      exact ⟨rfl, h, HS.out, HSW.out, HSR.out.sub (Nat.le_refl _) (by omega)⟩

end Go.Proofs.Ytimndhnbbmedbaa
