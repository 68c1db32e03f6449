/-
  The walk of symMerge.
-/
import Derived.Test.YtimndhnbbmedbaaStm
import Derived.Deep.Cut
import Derived.Deep.CutRange
namespace Go.Proofs.Ytimndhnbbmedbaa
open Go.RowKit Go.Sort

set_option maxRecDepth 100000 in
set_option maxHeartbeats 8000000 in
theorem symMergeG (g n c a m b : Nat) (f : Nat → Run) (w : World) (hn : n ≤ 1000)
    (ih : ∀ (a' m' b' : Nat) (f' : Nat → Run) (W : World), b' - a' < b - a → SB W g n W f' → a' < m' → m' < b' → b' ≤ n → Srt rlt f' a' m' → Srt rlt f' m' b' → Calls Try.prog 34 #[.slice (some ⟨g, 0, none⟩) n c, .int .i64 a', .int .i64 m', .int .i64 b', FN] W (MergePost W g n a' b' f'))
    (h : SB w g n w f) (ham : a + 1 < m) (hmb : m + 1 < b) (hb : b ≤ n) (hs1 : Srt rlt f a m) (hs2 : Srt rlt f m b) :
    Calls Try.prog 34 #[.slice (some ⟨g, 0, none⟩) n c, .int .i64 a, .int .i64 m, .int .i64 b, FN] w (MergePost w g n a b f) := by
  have H0 := Lib.hid h
  have HM1 := Lib.hid hs1
  have HM2 := Lib.hid hs2
  have HIH := Lib.hid ih
  clear h hs1 hs2 ih
  have mixed := mixed
  have z1 : ((m : Int) - (a : Int) == 1) = false := by rw [beq_eq_false_iff_ne]; omega
  have z2 : ((b : Int) - (m : Int) == 1) = false := by rw [beq_eq_false_iff_ne]; omega
  obtain ⟨mid, hmid⟩ : ∃ x, x = (a + b) / 2 := ⟨_, rfl⟩
  have w1 : ((a : Int) + (b : Int)) / 2 = (mid : Int) := by omega
  obtain ⟨q, hq⟩ : ∃ x, x = mid + m := ⟨_, rfl⟩
  have w2 : (mid : Int) + (m : Int) = (q : Int) := by omega
  obtain ⟨p, hp⟩ : ∃ x, x = mid + m - 1 := ⟨_, rfl⟩
  have w3 : (q : Int) - 1 = (p : Int) := by omega
  have HMID := Lib.hid hmid
  have HQ := Lib.hid hq
  have HP := Lib.hid hp
  have hmab : a < mid ∧ mid < b := by omega
  have hqb : q ≤ 2000 := by omega
  have hpb : p ≤ 2000 := by omega
  clear hmid hq hp
  unfold FN at HIH ⊢
  go_enter Try.func34, Try.ntmps34
  go_upto_if 140 with fail
  go_cut [20, 21] from 138 to 146 (fun vs vr wx => ∃ s0 r0 : Nat, vs = .int .i64 s0 ∧ vr = .int .i64 r0 ∧ ((mid < m ∧ s0 + b = mid + m ∧ r0 = mid) ∨ (m ≤ mid ∧ s0 = a ∧ r0 = m)) ∧ SB w g n wx f)
  case first =>
    by_cases hc : mid < m
    · have v1 : (mid : Int) < (m : Int) := by omega
      have v2 : (q : Int) - (b : Int) = ((mid + m - b : Nat) : Int) := by have := HMID.out; have := HQ.out; omega
      have HC : Hid (mid < m ∧ (mid + m - b) + b = mid + m ∧ True) := Lib.hid (by have := HMID.out; refine ⟨hc, by omega, trivial⟩)
      generalize mid + m - b = s0 at *
      go_wp2_with fail
      go_meet
      exact ⟨s0, mid, rfl, rfl, .inl ⟨HC.out.1, HC.out.2.1, rfl⟩, H0.out⟩
    · have v1 : ¬ ((mid : Int) < (m : Int)) := by omega
      go_wp2_with fail
      go_meet
      exact ⟨a, m, rfl, rfl, .inr ⟨by omega, rfl, rfl⟩, H0.out⟩
  case rest =>
    obtain ⟨s0, r0, rfl, rfl, hc, hs0⟩ := hcut
    have HC := Lib.hid hc
    have HS0 := Lib.hid hs0
    clear hc hs0 H0
    go_wp2_with fail
    go_loopw [20, 21] (fun vi vj wr => ∃ s r : Nat, vi = .int .i64 s ∧ vj = .int .i64 r ∧ SB w g n wr f ∧ Bs3 rlt f a m b mid s0 r0 s r) (fun vi vj _ => (intOf vj).toNat - (intOf vi).toNat)
    case atStart => exact ⟨s0, r0, rfl, rfl, HS0.out, Bs3.first f HC.out HMID.out ⟨by omega, by omega⟩⟩
    case round =>
      obtain ⟨s, r, rfl, rfl, hs, hB⟩ := hrel
      clear HS0
      have HB := Lib.hid hB
      obtain ⟨l1, l2, l3⟩ := hB.le
      have l4 : r ≤ m ∧ r ≤ mid ∧ a ≤ s ∧ m + mid ≤ s + b := by have := HC.out; have := HMID.out; omega
      clear hB
      by_cases hlt : s < r
      · obtain ⟨k, hk⟩ : ∃ k, k = (s + r) / 2 := ⟨_, rfl⟩
        have hik : s ≤ k ∧ k < r := by omega
        have y1 : ((s : Int) + (r : Int)) / 2 = (k : Int) := by omega
        obtain ⟨x, hx⟩ : ∃ x, x = mid + m - 1 - k := ⟨_, rfl⟩
        have y2 : (p : Int) - (k : Int) = (x : Int) := by have := HP.out; omega
        have hxn : x < n := by omega
        have y5 : IntKind.i64.wrap (x : Int) = (x : Int) := by rw [IntKind.wrap_i64]; omega
        have y3 : (k : Int) < (n : Int) := by omega
        have y4 : (x : Int) < (n : Int) := by omega
        have HXE := Lib.hid hx
        have hg := hs.lt
        clear hk hx
        have cj := fun q os => (hs.grow q os).cells (i := x) (by omega)
        have cp := fun q os => (hs.grow q os).cells (i := k) (by omega)
        have c0 := fun q os => (cj q os).1
        have c1 := fun q os => (cj q os).2.1
        have c2 := fun q os => (cj q os).2.2.1
        have c3 := fun q os => (cj q os).2.2.2
        have d0 := fun q os => (cp q os).1
        have d1 := fun q os => (cp q os).2.1
        have d2 := fun q os => (cp q os).2.2.1
        have d3 := fun q os => (cp q os).2.2.2
        have HC := Lib.hid fun q os => cmp_grown (f x) (f k) wr q os
        have HS := Lib.hid hs
        have HRX := Lib.hid (show rlt (f x) (f k) ↔ cmpV (f x).v (f k).v < 0 from Iff.rfl)
        clear cj cp hs
        go_wp2_with fail
        go_quiet_grown (first | (go_at_call 27; exact HC.out _ _))
        have hs3 : SB w g n (Go.Sort.grow (wr.drewN (GrownBy.n ⟨nq, osq⟩)) (GrownBy.os ⟨nq, osq⟩)) f := HS.out.grow nq osq
        generalize Go.Sort.grow (wr.drewN (GrownBy.n ⟨nq, osq⟩)) (GrownBy.os ⟨nq, osq⟩) = wq at hs3 ⊢
        have HS2 := Lib.hid hs3
        clear c0 c1 c2 c3 d0 d1 d2 d3 HC HS hs3
        generalize cmpV (f x).v (f k).v = cv at *
        by_cases hlv : cv < 0
        · have HBN := Lib.hid (HB.out.down (c := k) rlt_ord HM1.out HM2.out ⟨by omega, by omega⟩ (by rw [← HXE.out]; exact HRX.out.2 hlv))
          have y7 : decide (cv < 0) = true := decide_eq_true hlv
          clear HRX HB
          simp only [y7, Bool.not_true]
          go_wp2_with fail
          go_roundw
          case rel => exact ⟨s, k, rfl, rfl, HS2.out, HBN.out⟩
          case measure => simp [intOf]; omega
        · have HBN := Lib.hid (HB.out.up (c := k) rlt_ord HM1.out HM2.out ⟨by omega, by omega⟩ (by rw [← HXE.out]; exact fun hr => hlv (HRX.out.1 hr)))
          have y7 : decide (cv < 0) = false := decide_eq_false hlv
          clear HRX HB
          simp only [y7, Bool.not_false]
          go_wp2_with fail
          go_roundw
          case rel => exact ⟨k + 1, r, by go_num, rfl, HS2.out, HBN.out⟩
          case measure => simp [intOf]; omega
      · have hsr : s = r := by omega
        subst hsr
        have HCT := Lib.hid (HB.out.end_ rlt_ord)
        have HCS := Lib.hid (cut_srt rlt_ord HCT.out HM1.out HM2.out ⟨by omega, by omega⟩)
        obtain ⟨e, he⟩ : ∃ x, x = m + mid - s := ⟨_, rfl⟩
        have w4 : (q : Int) - (s : Int) = (e : Int) := by have := HQ.out; omega
        rw [← he] at HCS
        have hme : m ≤ e ∧ e ≤ b ∧ mid ≤ e := by omega
        have hs0 := hs
        have HS := Lib.hid hs0
        clear hs hs0 HB HC HM1 HM2 w1 w2 w3 z1 z2
        have HE := Lib.hid he
        clear he
        go_upto_region 39 with fail
        go_cut [185] from 178 to 185 (fun v wx => ∃ bb : Bool, v = .bool bb ∧ (bb = true ↔ s < m ∧ m < e) ∧ SB w g n wx f)
        case first =>
          by_cases c1 : s < m
          · have y1 : (s : Int) < (m : Int) := by omega
            by_cases c2 : m < e
            · have y2 : (m : Int) < (e : Int) := by omega
              have HQQ : Hid (s < m ∧ m < e) := Lib.hid ⟨c1, c2⟩
              go_wp2_with fail
              go_meet
              exact ⟨true, rfl, ⟨fun _ => HQQ.out, fun _ => rfl⟩, HS.out⟩
            · have y2 : ¬ ((m : Int) < (e : Int)) := by omega
              have HQQ : Hid (¬ (s < m ∧ m < e)) := Lib.hid fun h => absurd h.2 c2
              go_wp2_with fail
              go_meet
              exact ⟨false, rfl, ⟨fun h => Bool.noConfusion h, fun h => absurd h HQQ.out⟩, HS.out⟩
          · have y1 : ¬ ((s : Int) < (m : Int)) := by omega
            have HQQ : Hid (¬ (s < m ∧ m < e)) := Lib.hid fun h => absurd h.1 c1
            go_wp2_with fail
            go_meet
            exact ⟨false, rfl, ⟨fun h => Bool.noConfusion h, fun h => absurd h HQQ.out⟩, HS.out⟩
        case rest =>
        obtain ⟨bb, rfl, hbb, hsx⟩ := hcut
        have HBB := Lib.hid hbb
        clear HS hbb
        have HS := Lib.hid hsx
        clear hsx
        go_upto_if 185 with fail
        go_cut [] from 186 to 191 (fun wx => SB w g n wx (rot f s m e) ∧ Sw a b f (rot f s m e))
        case first =>
          cases bb
          · have E1 : Hid (rot f s m e = f) := Lib.hid (rot_none f ⟨by omega, by omega⟩ (by have := HBB.out; have h2 : ¬ (s < m ∧ m < e) := fun h => Bool.noConfusion (this.2 h); omega))
            go_wp2_with fail
            go_meet
            rw [E1.out]
            exact ⟨HS.out, .refl⟩
          · obtain ⟨c1, c2⟩ := HBB.out.1 rfl
            go_wp2_with fail
            refine (rotate g n c s m e _ f _ HS.out.here c1 c2 (by omega) hn).mono ?_
            rintro e2 w2 ⟨rfl, hs2, hsw2⟩
            go_wp2_with fail
            go_meet
            exact ⟨HS.out.trans hs2, hsw2.mono (by omega) (by omega)⟩
        case rest =>
        obtain ⟨hs, hsw⟩ := hcut
        generalize rot f s m e = f1 at *
        have HS1 := Lib.hid hs
        have HSW1 := Lib.hid hsw
        clear hs hsw HS HBB
        go_upto_region 41 with fail
        go_cut [199] from 192 to 199 (fun v wx => ∃ bb : Bool, v = .bool bb ∧ (bb = true ↔ a < s ∧ s < mid) ∧ SB w g n wx f1)
        case first =>
          by_cases c1 : a < s
          · have y1 : (a : Int) < (s : Int) := by omega
            by_cases c2 : s < mid
            · have y2 : (s : Int) < (mid : Int) := by omega
              have HQQ : Hid (a < s ∧ s < mid) := Lib.hid ⟨c1, c2⟩
              go_wp2_with fail
              go_meet
              exact ⟨true, rfl, ⟨fun _ => HQQ.out, fun _ => rfl⟩, HS1.out⟩
            · have y2 : ¬ ((s : Int) < (mid : Int)) := by omega
              have HQQ : Hid (¬ (a < s ∧ s < mid)) := Lib.hid fun h => absurd h.2 c2
              go_wp2_with fail
              go_meet
              exact ⟨false, rfl, ⟨fun h => Bool.noConfusion h, fun h => absurd h HQQ.out⟩, HS1.out⟩
          · have y1 : ¬ ((a : Int) < (s : Int)) := by omega
            have HQQ : Hid (¬ (a < s ∧ s < mid)) := Lib.hid fun h => absurd h.1 c1
            go_wp2_with fail
            go_meet
            exact ⟨false, rfl, ⟨fun h => Bool.noConfusion h, fun h => absurd h HQQ.out⟩, HS1.out⟩
        case rest =>
        obtain ⟨bb, rfl, hbb, hsx⟩ := hcut
        have HBB := Lib.hid hbb
        clear HS1 hbb
        have HS1 := Lib.hid hsx
        clear hsx
        go_upto_if 199 with fail
        go_cut [] from 200 to 205 (fun wx => ∃ f2, SB w g n wx f2 ∧ Sw a mid f1 f2 ∧ Srt rlt f2 a mid)
        case first =>
          cases bb
          · have HX : Hid (Srt rlt f1 a mid) := Lib.hid (by
              have := HBB.out
              have h2 : ¬ (a < s ∧ s < mid) := fun h => Bool.noConfusion (this.2 h)
              by_cases h3 : s = mid
              · exact HCS.out.1.sub (Nat.le_refl _) (by omega)
              · exact HCS.out.2.1.sub (by omega) (Nat.le_refl _))
            go_wp2_with fail
            go_meet
            exact ⟨f1, HS1.out, .refl, HX.out⟩
          · obtain ⟨c1, c2⟩ := HBB.out.1 rfl
            have HCL := Lib.hid (HIH.out a s mid f1 _ (by omega) HS1.out.here c1 c2 (by omega) HCS.out.1 HCS.out.2.1)
            go_wp2_with fail
            refine HCL.out.mono ?_
            rintro e2 w2 ⟨rfl, f2, hs2, hsw2, hst2⟩
            go_wp2_with fail
            go_meet
            exact ⟨f2, HS1.out.trans hs2, hsw2, hst2⟩
        case rest =>
        obtain ⟨f2, hs2, hsw2, hst2⟩ := hcut
        have HS2 := Lib.hid hs2
        have h3 : Srt rlt f2 mid e := HCS.out.2.2.1.congr fun k hk1 hk2 => hsw2.out (by omega)
        have h4 : Srt rlt f2 e b := HCS.out.2.2.2.1.congr fun k hk1 hk2 => hsw2.out (by omega)
        have h5 := cross_sw HCS.out.2.2.2.2 hsw2
        have HX3 := Lib.hid h3
        have HX4 := Lib.hid h4
        have HX5 := Lib.hid h5
        have HSW2 := Lib.hid (HSW1.out.trans (hsw2.mono (Nat.le_refl _) (by omega)))
        have HST2 := Lib.hid hst2
        clear hs2 hsw2 hst2 h3 h4 h5 HS1 HSW1 HCS HBB
        go_upto_region 43 with fail
        go_cut [213] from 206 to 213 (fun v wx => ∃ bb : Bool, v = .bool bb ∧ (bb = true ↔ mid < e ∧ e < b) ∧ SB w g n wx f2)
        case first =>
          by_cases c1 : mid < e
          · have y1 : (mid : Int) < (e : Int) := by omega
            by_cases c2 : e < b
            · have y2 : (e : Int) < (b : Int) := by omega
              have HQQ : Hid (mid < e ∧ e < b) := Lib.hid ⟨c1, c2⟩
              go_wp2_with fail
              go_meet
              exact ⟨true, rfl, ⟨fun _ => HQQ.out, fun _ => rfl⟩, HS2.out⟩
            · have y2 : ¬ ((e : Int) < (b : Int)) := by omega
              have HQQ : Hid (¬ (mid < e ∧ e < b)) := Lib.hid fun h => absurd h.2 c2
              go_wp2_with fail
              go_meet
              exact ⟨false, rfl, ⟨fun h => Bool.noConfusion h, fun h => absurd h HQQ.out⟩, HS2.out⟩
          · have y1 : ¬ ((mid : Int) < (e : Int)) := by omega
            have HQQ : Hid (¬ (mid < e ∧ e < b)) := Lib.hid fun h => absurd h.1 c1
            go_wp2_with fail
            go_meet
            exact ⟨false, rfl, ⟨fun h => Bool.noConfusion h, fun h => absurd h HQQ.out⟩, HS2.out⟩
        case rest =>
        obtain ⟨bb, rfl, hbb, hsx⟩ := hcut
        have HBB := Lib.hid hbb
        clear HS2 hbb
        have HS2 := Lib.hid hsx
        clear hsx
        cases bb
        · have HX : Hid (Srt rlt f2 a b) := Lib.hid (by
            have := HBB.out
            have h2 : ¬ (mid < e ∧ e < b) := fun h => Bool.noConfusion (this.2 h)
            refine Srt.join HST2.out ?_ HX5.out
            by_cases h3 : e = b
            · exact HX3.out.sub (Nat.le_refl _) (by omega)
            · exact HX4.out.sub (by omega) (Nat.le_refl _))
          go_wp2_with fail
          go_end0
          exact ⟨rfl, f2, HS2.out, HSW2.out, HX.out⟩
        · obtain ⟨c1, c2⟩ := HBB.out.1 rfl
          have HCL := Lib.hid (HIH.out mid e b f2 _ (by omega) HS2.out.here c1 c2 hb HX3.out HX4.out)
          go_wp2_with fail
          refine HCL.out.mono ?_
          rintro e2 w2 ⟨rfl, f3, hs3, hsw3, hst3⟩
          go_wp2_with fail
          go_end0
          exact ⟨rfl, f3, HS2.out.trans hs3, HSW2.out.trans (hsw3.mono (by omega) (Nat.le_refl _)), Srt.join (HST2.out.congr fun k hk1 hk2 => hsw3.out (by omega)) hst3 (cross_sw2 HX5.out hsw3)⟩

theorem symMerge (g n c : Nat) (hn : n ≤ 1000) : ∀ (N a m b : Nat) (f : Nat → Run) (w : World), b - a < N → SB w g n w f → a < m → m < b → b ≤ n → Srt rlt f a m → Srt rlt f m b →
    Calls Try.prog 34 #[.slice (some ⟨g, 0, none⟩) n c, .int .i64 a, .int .i64 m, .int .i64 b, FN] w (MergePost w g n a b f)
  | 0, _, _, _, _, _, h, _, _, _, _, _, _ => absurd h (Nat.not_lt_zero _)
  | N + 1, a, m, b, f, w, hN, h, ham, hmb, hb, h1, h2 => by
    by_cases c1 : m = a + 1
    · exact symMerge1 g n c a m b f w h c1 hmb hb hn h2
    · by_cases c2 : b = m + 1
      · exact symMerge2 g n c a m b f w h (by omega) c2 hb hn h1
      · exact symMergeG g n c a m b f w hn (fun a' m' b' f' W hlt => symMerge g n c hn N a' m' b' f' W (by omega)) h (by omega) (by omega) hb h1 h2

end Go.Proofs.Ytimndhnbbmedbaa
