/-
  The walk of symMerge where one side has one element.
-/
import Derived.Test.YtimndhnbbmedbaaStz
import Derived.Test.YtimndhnbbmedbaaStp
namespace Go.Proofs.Ytimndhnbbmedbaa
open Go.RowKit Go.Sort

/-- What a merge leaves. -/
def MergePost (w : World) (g n a b : Nat) (f : Nat → Run) (e : Ending) (w' : World) : Prop := e = .returned (.tuple #[]) ∧ ∃ f', SB w g n w' f' ∧ Sw a b f f' ∧ Srt rlt f' a b

set_option maxRecDepth 100000 in
set_option maxHeartbeats 4000000 in
theorem symMerge1 (g n c a m b : Nat) (f : Nat → Run) (w : World) (h : SB w g n w f) (ham : m = a + 1) (hmb : m < b) (hb : b ≤ n) (hn : n ≤ 1000) (hs2 : Srt rlt f m b) :
    Calls Try.prog 34 #[.slice (some ⟨g, 0, none⟩) n c, .int .i64 a, .int .i64 m, .int .i64 b, FN] w (MergePost w g n a b f) := by
  have H0 := Lib.hid h
  have HM := Lib.hid hs2
  clear h hs2
  have mixed := mixed
  have z1 : ((m : Int) - (a : Int) == 1) = true := by rw [beq_iff_eq]; omega
  have HAM := Lib.hid ham
  have ham2 : a < m := by omega
  clear ham
  unfold FN
  go_enter Try.func34, Try.ntmps34
  go_wp2_with fail
  go_loopw [10, 11] (fun vi vj wr => ∃ i j : Nat, vi = .int .i64 i ∧ vj = .int .i64 j ∧ SB w g n wr f ∧ Bs1 rlt f a m b i j) (fun vi vj _ => (intOf vj).toNat - (intOf vi).toNat)
  case atStart => exact ⟨m, b, rfl, rfl, H0.out, Bs1.first f (by omega)⟩
  case round =>
    obtain ⟨i, j, rfl, rfl, hs, hB⟩ := hrel
    clear H0
    have HB := Lib.hid hB
    obtain ⟨l1, l2, l3⟩ := hB.le
    clear hB
    by_cases hlt : i < j
    · obtain ⟨k, hk⟩ : ∃ k, k = (i + j) / 2 := ⟨_, rfl⟩
      have hik : i ≤ k ∧ k < j := by omega
      have y1 : ((i : Int) + (j : Int)) / 2 = (k : Int) := by omega
      have y3 : (k : Int) < (n : Int) := by omega
      have y4 : (a : Int) < (n : Int) := by omega
      have hg := hs.lt
      clear hk
      have cj := fun q os => (hs.grow q os).cells (i := k) (by omega)
      have cp := fun q os => (hs.grow q os).cells (i := a) (by omega)
      have c0 := fun q os => (cj q os).1
      have c1 := fun q os => (cj q os).2.1
      have c2 := fun q os => (cj q os).2.2.1
      have c3 := fun q os => (cj q os).2.2.2
      have d0 := fun q os => (cp q os).1
      have d1 := fun q os => (cp q os).2.1
      have d2 := fun q os => (cp q os).2.2.1
      have d3 := fun q os => (cp q os).2.2.2
      have HC := Lib.hid fun q os => cmp_grown (f k) (f a) wr q os
      have HS := Lib.hid hs
      have HRX := Lib.hid (show rlt (f k) (f a) ↔ cmpV (f k).v (f a).v < 0 from Iff.rfl)
      clear cj cp hs
      go_wp2_with fail
      go_quiet_grown (first | (go_at_call 27; exact HC.out _ _))
      have hs3 : SB w g n (Go.Sort.grow (wr.drewN (GrownBy.n ⟨nq, osq⟩)) (GrownBy.os ⟨nq, osq⟩)) f := HS.out.grow nq osq
      generalize Go.Sort.grow (wr.drewN (GrownBy.n ⟨nq, osq⟩)) (GrownBy.os ⟨nq, osq⟩) = wq at hs3 ⊢
      have HS2 := Lib.hid hs3
      clear c0 c1 c2 c3 d0 d1 d2 d3 HC HS hs3
      generalize cmpV (f k).v (f a).v = cv at *
      by_cases hlv : cv < 0
      · have HBN := Lib.hid (HB.out.up rlt_ord HM.out ⟨by omega, by omega⟩ (HRX.out.2 hlv))
        have y7 : decide (cv < 0) = true := decide_eq_true hlv
        clear HRX HB
        go_wp2_with fail
        go_roundw
        case rel => exact ⟨k + 1, j, by go_num, rfl, HS2.out, HBN.out⟩
        case measure => simp [intOf]; omega
      · have HBN := Lib.hid (HB.out.down rlt_ord HM.out ⟨by omega, by omega⟩ (fun hr => hlv (HRX.out.1 hr)))
        have y7 : decide (cv < 0) = false := decide_eq_false hlv
        clear HRX HB
        go_wp2_with fail
        go_roundw
        case rel => exact ⟨i, k, rfl, rfl, HS2.out, HBN.out⟩
        case measure => simp [intOf]; omega
    · have hij : i = j := by omega
      subst hij
      obtain ⟨q, rfl⟩ : ∃ q, i = q + 1 := ⟨i - 1, by omega⟩
      have HEND := Lib.hid (HB.out.end_ rlt_ord HAM.out HM.out)
      simp only [Nat.add_sub_cancel] at HEND
      have hs0 := hs
      rw [← bub_first f a] at hs0
      have HS0 := Lib.hid hs0
      have hqm : m ≤ q + 1 := l1
      clear hs hs0 HB HM z1
      go_wp2_with fail
      go_loopw [13] (fun vi wr => ∃ k : Nat, vi = .int .i64 k ∧ a ≤ k ∧ k ≤ q ∧ SB w g n wr (bub f a k)) (fun vi _ => q - (intOf vi).toNat)
      case atStart => exact ⟨a, rfl, Nat.le_refl _, by omega, HS0.out⟩
      case round =>
        obtain ⟨k, rfl, hak, hkq, hs⟩ := hrel
        clear HS0
        by_cases hlt : k < q
        · have y1 : (k : Int) + 1 < (n : Int) := by omega
          have y2 : (k : Int) < (n : Int) := by omega
          have y3 : (0 : Int) ≤ (k : Int) + 1 := by omega
          have y4 : ((k : Int) + 1).toNat = k + 1 := by omega
          obtain ⟨c0, c1, c2, c3⟩ := hs.cells (i := k) (by omega)
          obtain ⟨d0, d1, d2, d3⟩ := hs.cells (i := (k + 1)) (by omega)
          have fz := fun x => hs.frozen x
          have HSW2 := Lib.hid (hs.swap (i := k) (j := (k + 1)) (by omega) (by omega) rfl rfl)
          rw [bub_step f hak] at HSW2
          clear hs
          generalize (bub f a k k) = ra at *
          generalize (bub f a k (k + 1)) = rb at *
          go_wp2_with fail
          go_region
          go_wp2_with fail
          go_roundw
          case rel => exact ⟨k + 1, by go_num, by omega, by omega, HSW2.out⟩
          case measure => simp [intOf]; omega
        · have hkq2 : k = q := by omega
          subst hkq2
          go_wp2_with fail
          go_end0
          exact ⟨rfl, _, hs, HEND.out.2, HEND.out.1⟩

set_option maxRecDepth 100000 in
set_option maxHeartbeats 4000000 in
theorem symMerge2 (g n c a m b : Nat) (f : Nat → Run) (w : World) (h : SB w g n w f) (ham : a + 1 < m) (hmb : b = m + 1) (hb : b ≤ n) (hn : n ≤ 1000) (hs1 : Srt rlt f a m) :
    Calls Try.prog 34 #[.slice (some ⟨g, 0, none⟩) n c, .int .i64 a, .int .i64 m, .int .i64 b, FN] w (MergePost w g n a b f) := by
  have H0 := Lib.hid h
  have HM := Lib.hid hs1
  clear h hs1
  have mixed := mixed
  have z1 : ((m : Int) - (a : Int) == 1) = false := by rw [beq_eq_false_iff_ne]; omega
  have z2 : ((b : Int) - (m : Int) == 1) = true := by rw [beq_iff_eq]; omega
  have HMB := Lib.hid hmb
  have hmb2 : m < b := by omega
  clear hmb
  unfold FN
  go_enter Try.func34, Try.ntmps34
  go_wp2_with fail
  go_loopw [14, 15] (fun vi vj wr => ∃ i j : Nat, vi = .int .i64 i ∧ vj = .int .i64 j ∧ SB w g n wr f ∧ Bs2 rlt f a m i j) (fun vi vj _ => (intOf vj).toNat - (intOf vi).toNat)
  case atStart => exact ⟨a, m, rfl, rfl, H0.out, Bs2.first f (by omega)⟩
  case round =>
    obtain ⟨i, j, rfl, rfl, hs, hB⟩ := hrel
    clear H0
    have HB := Lib.hid hB
    obtain ⟨l1, l2, l3⟩ := hB.le
    clear hB
    by_cases hlt : i < j
    · obtain ⟨k, hk⟩ : ∃ k, k = (i + j) / 2 := ⟨_, rfl⟩
      have hik : i ≤ k ∧ k < j := by omega
      have y1 : ((i : Int) + (j : Int)) / 2 = (k : Int) := by omega
      have y3 : (k : Int) < (n : Int) := by omega
      have y4 : (m : Int) < (n : Int) := by omega
      have hg := hs.lt
      clear hk
      have cj := fun q os => (hs.grow q os).cells (i := m) (by omega)
      have cp := fun q os => (hs.grow q os).cells (i := k) (by omega)
      have c0 := fun q os => (cj q os).1
      have c1 := fun q os => (cj q os).2.1
      have c2 := fun q os => (cj q os).2.2.1
      have c3 := fun q os => (cj q os).2.2.2
      have d0 := fun q os => (cp q os).1
      have d1 := fun q os => (cp q os).2.1
      have d2 := fun q os => (cp q os).2.2.1
      have d3 := fun q os => (cp q os).2.2.2
      have HC := Lib.hid fun q os => cmp_grown (f m) (f k) wr q os
      have HS := Lib.hid hs
      have HRX := Lib.hid (show rlt (f m) (f k) ↔ cmpV (f m).v (f k).v < 0 from Iff.rfl)
      clear cj cp hs
      go_wp2_with fail
      go_quiet_grown (first | (go_at_call 27; exact HC.out _ _))
      have hs3 : SB w g n (Go.Sort.grow (wr.drewN (GrownBy.n ⟨nq, osq⟩)) (GrownBy.os ⟨nq, osq⟩)) f := HS.out.grow nq osq
      generalize Go.Sort.grow (wr.drewN (GrownBy.n ⟨nq, osq⟩)) (GrownBy.os ⟨nq, osq⟩) = wq at hs3 ⊢
      have HS2 := Lib.hid hs3
      clear c0 c1 c2 c3 d0 d1 d2 d3 HC HS hs3
      generalize cmpV (f m).v (f k).v = cv at *
      by_cases hlv : cv < 0
      · have HBN := Lib.hid (HB.out.down rlt_ord HM.out ⟨by omega, by omega⟩ (HRX.out.2 hlv))
        have y7 : decide (cv < 0) = true := decide_eq_true hlv
        clear HRX HB
        simp only [y7, Bool.not_true]
        go_wp2_with fail
        go_roundw
        case rel => exact ⟨i, k, rfl, rfl, HS2.out, HBN.out⟩
        case measure => simp [intOf]; omega
      · have HBN := Lib.hid (HB.out.up rlt_ord HM.out ⟨by omega, by omega⟩ (fun hr => hlv (HRX.out.1 hr)))
        have y7 : decide (cv < 0) = false := decide_eq_false hlv
        clear HRX HB
        simp only [y7, Bool.not_false]
        go_wp2_with fail
        go_roundw
        case rel => exact ⟨k + 1, j, by go_num, rfl, HS2.out, HBN.out⟩
        case measure => simp [intOf]; omega
    · have hij : i = j := by omega
      subst hij
      have HEND := Lib.hid (HB.out.end_ rlt_ord HMB.out HM.out)
      have hs0 := hs
      rw [← bdn_first f m] at hs0
      have HS0 := Lib.hid hs0
      clear hs hs0 HB HM z1 z2
      go_wp2_with fail
      go_loopw [17] (fun vi wr => ∃ k : Nat, vi = .int .i64 k ∧ i ≤ k ∧ k ≤ m ∧ SB w g n wr (bdn f m k)) (fun vi _ => (intOf vi).toNat - i)
      case atStart => exact ⟨m, rfl, by omega, Nat.le_refl _, HS0.out⟩
      case round =>
        obtain ⟨k, rfl, hik, hkm, hs⟩ := hrel
        clear HS0
        by_cases hlt : i < k
        · obtain ⟨p, rfl⟩ : ∃ p, k = p + 1 := ⟨k - 1, by omega⟩
          have y1 : (p : Int) + 1 < (n : Int) := by omega
          have y2 : (p : Int) < (n : Int) := by omega
          have y3 : (0 : Int) ≤ (p : Int) + 1 := by omega
          have y4 : ((p : Int) + 1).toNat = p + 1 := by omega
          have y5 : IntKind.i64.wrap (p : Int) = (p : Int) := by rw [IntKind.wrap_i64]; omega
          have y6 : (i : Int) < (p : Int) + 1 := by omega
          obtain ⟨c0, c1, c2, c3⟩ := hs.cells (i := (p + 1)) (by omega)
          obtain ⟨d0, d1, d2, d3⟩ := hs.cells (i := p) (by omega)
          have fz := fun x => hs.frozen x
          have HSW2 := Lib.hid (hs.swap (i := (p + 1)) (j := p) (by omega) (by omega) rfl rfl)
          rw [bdn_step f hkm] at HSW2
          clear hs
          generalize (bdn f m (p + 1) (p + 1)) = ra at *
          generalize (bdn f m (p + 1) p) = rb at *
          go_wp2_with fail
          go_region
          go_wp2_with fail
          go_roundw
          case rel => exact ⟨p, by go_num, by omega, by omega, HSW2.out⟩
          case measure => simp [intOf]; omega
        · have hkq2 : k = i := by omega
          subst hkq2
          go_wp2_with fail
          go_end0
          exact ⟨rfl, _, hs, HEND.out.2, HEND.out.1⟩

end Go.Proofs.Ytimndhnbbmedbaa
