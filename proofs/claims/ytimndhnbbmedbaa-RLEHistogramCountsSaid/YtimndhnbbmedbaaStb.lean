/-
  Blocks in order (plain); the walks of stableCmpFunc and SortStableFunc.
-/
import Derived.Test.YtimndhnbbmedbaaStg
namespace Go.Proofs.Ytimndhnbbmedbaa
open Go.RowKit Go.Sort

section
variable {α : Type} {lt : α → α → Prop}
/-- Each block of bs elements in [lo, hi) is in order. -/
def BS (lt : α → α → Prop) (f : Nat → α) (bs lo hi : Nat) : Prop := ∀ i j, lo ≤ i → i < j → j < hi → i / bs = j / bs → ¬ lt (f j) (f i)
theorem div_q {i q bs : Nat} (h1 : q * bs ≤ i) (h2 : i < q * bs + bs) : i / bs = q := by
  have : (q + 1) * bs = q * bs + bs := Nat.succ_mul q bs
  exact Nat.div_eq_of_lt_le h1 (by show i < (q + 1) * bs; omega)
theorem BS.srt {f : Nat → α} {bs lo hi q a e : Nat} (h : BS lt f bs lo hi) (h1 : lo ≤ a) (ha : q * bs ≤ a) (h2 : e ≤ hi) (h3 : e ≤ q * bs + bs) : Srt lt f a e := fun i j hi hij hj =>
  h i j (by omega) hij (by omega) (by rw [div_q (q := q) (by omega) (by omega), div_q (q := q) (by omega) (by omega)])
theorem BS.push {f f' : Nat → α} {bs q a b : Nat} (h : BS lt f bs 0 a) (hbs : 0 < bs) (ha : a = q * bs) (hs : Sw a b f f') (hsr : Srt lt f' a b) : BS lt f' bs 0 b := by
  intro i j _ hij hj hd
  by_cases hja : j < a
  · rw [hs.out (k := i) (by omega), hs.out (k := j) (by omega)]
    exact h i j (Nat.zero_le _) hij hja hd
  · by_cases hia : a ≤ i
    · exact hsr i j hia hij hj
    · exfalso
      have e1 : i / bs < q := (Nat.div_lt_iff_lt_mul hbs).2 (by omega)
      have e2 : q ≤ j / bs := (Nat.le_div_iff_mul_le hbs).2 (by omega)
      omega
theorem BS.rest {f f' : Nat → α} {bs a b hi : Nat} (h : BS lt f bs a hi) (hab : a ≤ b) (hs : Sw a b f f') : BS lt f' bs b hi := by
  intro i j hi1 hij hj hd
  rw [hs.out (k := i) (by omega), hs.out (k := j) (by omega)]
  exact h i j (by omega) hij hj hd
theorem BS.none (f : Nat → α) (bs a hi : Nat) (h : hi ≤ a) : BS lt f bs a hi := fun i j h1 h2 h3 => by omega
/-- Blocks doubled, where nothing is left to merge. -/
theorem BS.tail {f : Nat → α} {bs q a n : Nat} (h : BS lt f (2 * bs) 0 a) (hr : BS lt f bs a n) (hbs : 0 < bs) (ha : a = q * (2 * bs)) (hn : n ≤ a + bs) : BS lt f (2 * bs) 0 n := by
  refine h.push (q := q) (by omega) ha .refl ?_
  refine hr.srt (q := 2 * q) (Nat.le_refl _) ?_ (Nat.le_refl _) ?_
  · rw [ha, Nat.mul_comm 2 q, Nat.mul_assoc]; exact Nat.le_refl _
  · rw [Nat.mul_comm 2 q, Nat.mul_assoc, ← ha]; exact hn
theorem BS.left {f : Nat → α} {bs q a m n : Nat} (hr : BS lt f bs a n) (ha : a = q * (2 * bs)) (hm : m = a + bs) (hn : m ≤ n) : Srt lt f a m := by
  refine hr.srt (q := 2 * q) (Nat.le_refl _) ?_ hn ?_
  · rw [ha, Nat.mul_comm 2 q, Nat.mul_assoc]; exact Nat.le_refl _
  · rw [Nat.mul_comm 2 q, Nat.mul_assoc, ← ha]; omega
theorem BS.right {f : Nat → α} {bs q a m e n : Nat} (hr : BS lt f bs a n) (ha : a = q * (2 * bs)) (hm : m = a + bs) (he : e ≤ a + 2 * bs) (hn : e ≤ n) : Srt lt f m e := by
  have e1 : (2 * q + 1) * bs = a + bs := by rw [Nat.succ_mul, Nat.mul_comm 2 q, Nat.mul_assoc, ← ha]
  exact hr.srt (q := 2 * q + 1) (by omega) (by omega) hn (by omega)
end

set_option maxRecDepth 100000 in
set_option maxHeartbeats 4000000 in
theorem stable (g n c : Nat) (f : Nat → Run) (w : World) (h : SB w g n w f) (hn : n ≤ 1000) :
    Calls Try.prog 30 #[.slice (some ⟨g, 0, none⟩) n c, .int .i64 n, FN] w (MergePost w g n 0 n f) := by
  have H0 := Lib.hid h
  clear h
  unfold FN
  go_enter Try.func30, Try.ntmps30
  go_wp2_with fail
  go_loopw [7, 8] (fun va vb wr => ∃ (q a : Nat) (h : Nat → Run), va = .int .i64 a ∧ vb = .int .i64 ((a : Int) + 20) ∧ a = q * 20 ∧ a ≤ n ∧ SB w g n wr h ∧ Sw 0 n f h ∧ BS rlt h 20 0 a) (fun va _ _ => n - (intOf va).toNat)
  case atStart => exact ⟨0, 0, f, rfl, rfl, rfl, Nat.zero_le _, H0.out, .refl, BS.none _ _ _ _ (Nat.le_refl _)⟩
  case round =>
    obtain ⟨q, a, h, rfl, rfl, hq, han, hs, hsw, hbs⟩ := hrel
    clear H0
    have HQ := Lib.hid hq
    have HS := Lib.hid hs
    have HSW := Lib.hid hsw
    have HB := Lib.hid hbs
    clear hq hs hsw hbs
    by_cases hlt : a + 20 ≤ n
    · have HC := Lib.hid (insertionSort g n c a (a + 20) h wr HS.out.here (by omega) hlt hn)
      have HC2 : Hid (Calls _ _ #[_, .int .i64 a, .int .i64 ((a : Int) + 20), _] wr _) := Lib.hid (by have := HC.out; rw [show ((a + 20 : Nat) : Int) = (a : Int) + 20 by omega] at this; exact this)
      clear HC
      go_wp2_with fail
      refine HC2.out.mono ?_
      rintro e w1 ⟨rfl, h1, hs1, hsw1, hsr1⟩
      have HS1 := Lib.hid (HS.out.trans hs1)
      have HSW1 := Lib.hid (HSW.out.trans (hsw1.mono (Nat.zero_le _) hlt))
      have HB1 := Lib.hid (HB.out.push (q := q) (by omega) HQ.out hsw1 hsr1)
      clear hs1 hsw1 hsr1 HC2
      go_wp2_with fail
      go_roundw
      case rel => exact ⟨q + 1, a + 20, h1, by go_num, by go_num, by have := HQ.out; omega, hlt, HS1.out, HSW1.out, HB1.out⟩
      case measure => simp [intOf]; omega
    · have HC := Lib.hid (insertionSort g n c a n h wr HS.out.here han (Nat.le_refl _) hn)
      go_wp2_with fail
      refine HC.out.mono ?_
      rintro e w1 ⟨rfl, h1, hs1, hsw1, hsr1⟩
      have HS1 := Lib.hid (HS.out.trans hs1)
      have HSW1 := Lib.hid (HSW.out.trans (hsw1.mono (Nat.zero_le _) (Nat.le_refl _)))
      have HB1 := Lib.hid (HB.out.push (q := q) (by omega) HQ.out hsw1 hsr1)
      clear hs1 hsw1 hsr1 HC HB HSW HS
      go_wp2_with fail
      go_loopw [6] (fun vs wr => ∃ (bs : Nat) (h : Nat → Run), vs = .int .i64 bs ∧ 0 < bs ∧ bs ≤ 4000 ∧ SB w g n wr h ∧ Sw 0 n f h ∧ BS rlt h bs 0 n) (fun vs _ => n - (intOf vs).toNat)
      case atStart => exact ⟨20, h1, rfl, by omega, by omega, HS1.out, HSW1.out, HB1.out⟩
      case round =>
        obtain ⟨bs, h, rfl, hb0, hb1, hs, hsw, hbs⟩ := hrel
        clear HS1 HSW1 HB1 HQ
        have HS := Lib.hid hs
        have HSW := Lib.hid hsw
        have HB := Lib.hid hbs
        clear hs hsw hbs
        by_cases hlt2 : bs < n
        · go_wp2_with fail
          go_loopw [7, 8] (fun va vb wr => ∃ (q a : Nat) (h : Nat → Run), va = .int .i64 a ∧ vb = .int .i64 ((a : Int) + 2 * (bs : Int)) ∧ a = q * (2 * bs) ∧ a ≤ n ∧ SB w g n wr h ∧ Sw 0 n f h ∧ BS rlt h (2 * bs) 0 a ∧ BS rlt h bs a n) (fun va _ _ => n - (intOf va).toNat)
          case atStart => exact ⟨0, 0, h, rfl, by go_num, by omega, Nat.zero_le _, HS.out, HSW.out, BS.none _ _ _ _ (Nat.le_refl _), HB.out⟩
          case round =>
            obtain ⟨q, a, h, rfl, rfl, hq, han, hs, hsw, hbs, hbr⟩ := hrel
            clear HS HSW HB
            have HQ := Lib.hid hq
            have HS := Lib.hid hs
            have HSW := Lib.hid hsw
            have HB := Lib.hid hbs
            have HR := Lib.hid hbr
            clear hq hs hsw hbs hbr
            obtain ⟨m, hm⟩ : ∃ m, m = a + bs := ⟨_, rfl⟩
            have y0 : (a : Int) + (bs : Int) = (m : Int) := by omega
            have HM := Lib.hid hm
            have hm2 : a < m ∧ m ≤ 5000 := by omega
            clear hm
            by_cases hle : a + 2 * bs ≤ n
            · obtain ⟨b, hb⟩ : ∃ b, b = a + 2 * bs := ⟨_, rfl⟩
              have y1 : (a : Int) + 2 * (bs : Int) = (b : Int) := by omega
              have hb2 : m < b ∧ b ≤ n := by have := HM.out; omega
              have HC := Lib.hid (symMerge g n c hn (b - a + 1) a m b h wr (by omega) HS.out.here (by omega) hb2.1 hb2.2 (HR.out.left HQ.out HM.out (by omega)) (HR.out.right HQ.out HM.out (by omega) hb2.2))
              have HBB := Lib.hid hb
              clear hb hle
              go_wp2_with fail
              refine HC.out.mono ?_
              rintro e w1 ⟨rfl, h1, hs1, hsw1, hsr1⟩
              have HS1 := Lib.hid (HS.out.trans hs1)
              have HSW1 := Lib.hid (HSW.out.trans (hsw1.mono (Nat.zero_le _) hb2.2))
              have HB1 := Lib.hid (HB.out.push (q := q) (by omega) HQ.out hsw1 hsr1)
              have HR1 := Lib.hid (HR.out.rest (by omega) hsw1)
              clear hs1 hsw1 hsr1 HC
              go_wp2_with fail
              go_roundw
              case rel => exact ⟨q + 1, b, h1, rfl, by go_num, by rw [Nat.succ_mul, ← HQ.out]; exact HBB.out, hb2.2, HS1.out, HSW1.out, HB1.out, HR1.out⟩
              case measure => simp [intOf]; omega
            · have y1 : ¬ ((a : Int) + 2 * (bs : Int) ≤ (n : Int)) := by omega
              by_cases hmn : m < n
              · have HC := Lib.hid (symMerge g n c hn (n - a + 1) a m n h wr (by omega) HS.out.here (by omega) hmn (Nat.le_refl _) (HR.out.left HQ.out HM.out (by omega)) (HR.out.right HQ.out HM.out (by omega) (Nat.le_refl _)))
                go_wp2_with fail
                refine HC.out.mono ?_
                rintro e w1 ⟨rfl, h1, hs1, hsw1, hsr1⟩
                have HS1 := Lib.hid (HS.out.trans hs1)
                have HSW1 := Lib.hid (HSW.out.trans (hsw1.mono (Nat.zero_le _) (Nat.le_refl _)))
                have HB1 := Lib.hid (HB.out.push (q := q) (by omega) HQ.out hsw1 hsr1)
                clear hs1 hsw1 hsr1 HC
                go_wp2_with fail
                go_roundw
                case rel => exact ⟨2 * bs, h1, by go_num, by omega, by omega, HS1.out, HSW1.out, HB1.out⟩
                case measure => simp [intOf]; omega
              · have HB1 := Lib.hid (HB.out.tail HR.out hb0 HQ.out (by have := HM.out; omega))
                go_wp2_with fail
                go_roundw
                case rel => exact ⟨2 * bs, h, by go_num, by omega, by omega, HS.out, HSW.out, HB1.out⟩
                case measure => simp [intOf]; omega
        · have HF := Lib.hid (HB.out.srt (q := 0) (a := 0) (e := n) (Nat.le_refl _) (by omega) (Nat.le_refl _) (by omega))
          go_wp2_with fail
          go_end0
          exact ⟨rfl, h, HS.out, HSW.out, HF.out⟩

set_option maxRecDepth 100000 in
theorem sortStable (g n c : Nat) (f : Nat → Run) (w : World) (h : SB w g n w f) (hn : n ≤ 1000) :
    Calls Try.prog 26 #[.slice (some ⟨g, 0, none⟩) n c, FN] w (MergePost w g n 0 n f) := by
  have HC := Lib.hid (stable g n c f w h hn)
  clear h
  unfold FN at HC ⊢
  go_enter Try.func26, Try.ntmps26
  go_wp2_with fail
  refine HC.out.mono ?_
  rintro e w1 ⟨rfl, h1, hs1, hsw1, hsr1⟩
  go_wp2_with fail
  go_end0
  exact ⟨rfl, h1, hs1, hsw1, hsr1⟩

end Go.Proofs.Ytimndhnbbmedbaa
