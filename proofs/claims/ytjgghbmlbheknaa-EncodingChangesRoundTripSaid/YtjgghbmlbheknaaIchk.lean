/-
  The walks of validName, CheckInstance, appendString.
-/
import Derived.Test.YtjgghbmlbheknaaIn
namespace Go.Proofs.Ytjgghbmlbheknaa
open Go.RowKit

set_option maxRecDepth 100000 in
set_option maxHeartbeats 1000000 in
theorem validName (s : ByteArray) (w : World) (hs : s.size ≤ maxLen) :
    Calls Try.prog 29 #[.string s] w fun e w' => e = .returned (.bool (nameOk s)) ∧ w = w' := by
  unfold maxLen at hs
  have HNO : Hid (nameOk s = (chsOk s s.size && (!s.toList.isEmpty && decide (s.size ≤ 12)))) := Lib.hid rfl
  have HNK : Hid (∀ k, k < s.size → chOk k (s.data.toList.getD k 0) = false → nameOk s = false) := Lib.hid fun k hk hc => by
    have h : chsOk s s.size = false := by
      cases h : chsOk s s.size with
      | false => rfl
      | true =>
        have := chsOk_of h (show k + 1 ≤ s.size from hk)
        rw [chsOk_succ, hc, Bool.and_false] at this
        cases this
    unfold nameOk
    rw [h]
    rfl
  generalize nameOk s = ok at *
  go_enter Try.func29, Try.ntmps29
  go_wp2_with fail
  go_loopw [7] (fun i wr => ∃ k : Nat, k ≤ s.size ∧ i = .int .i64 k ∧ chsOk s k = true ∧ w = wr) (fun i _ => s.size - (intOf i).toNat)
  case atStart => exact ⟨0, by omega, rfl, rfl, rfl⟩
  case round =>
    obtain ⟨k, hk, rfl, hch, rfl⟩ := hrel
    by_cases hlt : k < s.size
    · have hx : s.data.toList.getD k 0 = s[k]'hlt := by
        rw [List.getD_eq_getElem?_getD, Array.getElem?_toList, Array.getElem?_eq_getElem hlt]
        rfl
      have HCT : Hid ((97 ≤ (s[k]'hlt).toNat ∧ (s[k]'hlt).toNat ≤ 122) ∨ (k ≠ 0 ∧ 48 ≤ (s[k]'hlt).toNat ∧ (s[k]'hlt).toNat ≤ 57) → chsOk s (k + 1) = true) := Lib.hid fun h => by
        rw [chsOk_succ, hch, hx, Bool.true_and]
        unfold chOk
        rcases h with ⟨h1, h2⟩ | ⟨h0, h1, h2⟩
        · rw [decide_eq_true h1, decide_eq_true h2]
          rfl
        · rw [decide_eq_true h1, decide_eq_true h2, decide_eq_false h0]
          simp
      have HCF : Hid (¬ ((97 ≤ (s[k]'hlt).toNat ∧ (s[k]'hlt).toNat ≤ 122) ∨ (k ≠ 0 ∧ 48 ≤ (s[k]'hlt).toNat ∧ (s[k]'hlt).toNat ≤ 57)) → ok = false) := Lib.hid fun h => HNK.out k hlt (by
        rw [hx]
        cases hc : chOk k (s[k]'hlt) with
        | false => rfl
        | true =>
          refine absurd ?_ h
          unfold chOk at hc
          simp only [Bool.or_eq_true, Bool.and_eq_true, decide_eq_true_eq, Bool.not_eq_true', decide_eq_false_iff_not] at hc
          exact hc)
      clear hch hx HNK HNO
      by_cases hk0 : k = 0
      · subst hk0
        go_wp2_with fail
        all_goals first
          | (go_ret; exact ⟨ret_bool (HCF.out (by omega)).symm, rfl⟩)
          | exact ⟨⟨1, by omega, rfl, HCT.out (by omega), trivial⟩, by simp [intOf]; omega⟩
          | exact ⟨⟨0 + 1, by omega, rfl, HCT.out (by omega), trivial⟩, by simp [intOf]; omega⟩
      · have hk1 : ((k : Int) == 0) = false := by rw [beq_eq_false_iff_ne]; omega
        go_wp2_with fail
        all_goals first
          | (go_ret; exact ⟨ret_bool (HCF.out (by omega)).symm, rfl⟩)
          | exact ⟨⟨k + 1, by omega, by go_num, HCT.out (by omega), trivial⟩, by simp [intOf]; omega⟩
    · have hks : k = s.size := by omega
      subst hks
      rw [hch, Bool.true_and] at HNO
      clear hch HNK
      go_wp2_with fail
      all_goals
        go_ret
        refine ⟨ret_bool ?_, rfl⟩
        rw [HNO.out]
        first
          | rw [show decide ((s.size : Int) ≤ 12) = decide (s.size ≤ 12) from decide_eq_decide.2 (by omega)]
          | simp_all

set_option maxRecDepth 100000 in
set_option maxHeartbeats 1000000 in
theorem checkInstance (A : Option Addr) (c : Nat) (ts : List Th) (is : List Rel) (w : World) (h : InstH w (· < w.heap.size) A ts is) (hl : is.length ≤ maxLen) :
    Calls Try.prog 17 #[.slice A is.length c] w fun e w' => e = .returned (.int .i64 (instErr is)) ∧ Below w.heap.size w w' := by
  unfold maxLen at hl
  by_cases h6 : 6 < is.length
  · have hx : (6 : Int) < (is.length : Int) := by omega
    have hz : instErr is = 2 := by unfold instErr; rw [if_pos h6]
    rw [hz]
    clear h hz
    go_enter Try.func17, Try.ntmps17
    go_wp2_with fail
    go_ret
    exact ⟨rfl, Below.refl _ _⟩
  · have hx : ¬ ((6 : Int) < (is.length : Int)) := by omega
    have HE : Hid (instErr is = instErrs (is.drop 0)) := Lib.hid (by unfold instErr; rw [if_neg h6]; rfl)
    have HH := Lib.hid h
    generalize instErr is = er at *
    clear h
    go_enter Try.func17, Try.ntmps17
    go_wp2_with fail
    go_loopw [13] (fun i wr => ∃ k : Nat, k ≤ is.length ∧ i = .int .i64 k ∧ er = instErrs (is.drop k) ∧ Below w.heap.size w wr) (fun i _ => is.length - (intOf i).toNat)
    case atStart => exact ⟨0, by omega, rfl, HE.out, Below.refl _ _⟩
    case round =>
      obtain ⟨k, hk, rfl, he, hbk⟩ := hrel
      clear HE
      by_cases hlt : k < is.length
      · obtain ⟨b, off, t, rfl, hbs, c0, c1, hrel⟩ := (HH.out.keep (Keeps.of_below hbk fun _ h => h)).at_ hlt
        rw [instErrs_drop hlt] at he
        have HEE := Lib.hid he
        have HBK := Lib.hid hbk
        have HRL := Lib.hid hrel
        obtain ⟨x, hx2⟩ : ∃ x, x = is[k] := ⟨_, rfl⟩
        rw [← hx2] at c0 c1 HRL HEE
        have hre : relErr x = if nameOk x.name = false then 3 else if 24 < x.rows.length then 2 else rowsErr x.rows := rfl
        obtain ⟨nm, rows⟩ := x
        obtain ⟨tn, TA, tm, TC⟩ := t
        simp only at c0 c1 hre
        have HRE := Lib.hid hre
        have HVN := Lib.hid fun W => validName nm W HRL.out.sz
        clear he hbk hrel hx2 hre
        have hle := HRL.out.le
        simp only at hle
        unfold maxLen at hle
        have HNX := Lib.hid fun W (hW : Below wr.heap.size wr W) => HRL.out.rows.elim fun hs h => (⟨hs, h.keep (Keeps.of_below (hW.mono HBK.out.size) fun _ h => h)⟩ : ∃ hs, RowsH W (· < w.heap.size) TA hs rows)
        by_cases hn : nameOk nm = false
        · rw [if_pos hn] at HRE
          rw [HRE.out] at HEE
          have hee : er = 3 := HEE.out
          subst hee
          simp only [hn] at HVN
          clear HRL HNX HEE HRE hn
          go_wp2_with fail
          refine (HVN.out _).mono ?_
          rintro e w2 ⟨rfl, rfl⟩
          go_wp2_with fail
          go_ret
          exact ⟨rfl, HBK.out.alloc HBK.out.size _⟩
        · have hn' : nameOk nm = true := by simpa using hn
          rw [if_neg hn] at HRE
          simp only [hn'] at HVN
          clear hn hn'
          by_cases h24 : 24 < rows.length
          · rw [if_pos h24] at HRE
            rw [HRE.out] at HEE
            have hee : er = 2 := HEE.out
            subst hee
            have h24' : (24 : Int) < (rows.length : Int) := by omega
            clear HRL HNX HEE HRE h24
            go_wp2_with fail
            refine (HVN.out _).mono ?_
            rintro e w2 ⟨rfl, rfl⟩
            go_wp2_with fail
            go_ret
            exact ⟨rfl, HBK.out.alloc HBK.out.size _⟩
          · rw [if_neg h24] at HRE
            have h24' : ¬ ((24 : Int) < (rows.length : Int)) := by omega
            obtain ⟨wo, rfl⟩ : ∃ wo, wo = wr := ⟨_, rfl⟩
            clear h24
            go_wp2_with fail
            refine (HVN.out _).mono ?_
            rintro e w2 ⟨rfl, rfl⟩
            go_wp2_with fail
            go_loopw [28] (fun i wi => ∃ k2 : Nat, k2 ≤ rows.length ∧ i = .int .i64 k2 ∧ rowsErr rows = rowsErr (rows.drop k2) ∧ Below wo.heap.size wo wi) (fun i _ => rows.length - (intOf i).toNat)
            case atStart => exact ⟨0, by omega, rfl, rfl, (Below.refl _ _).alloc (Nat.le_refl _) _⟩
            case round =>
              obtain ⟨k2, hk2, rfl, hre2, hb2⟩ := hrel
              by_cases hlt2 : k2 < rows.length
              · obtain ⟨hs, hrs⟩ := HNX.out wr hb2
                obtain ⟨b2, off2, h2, rfl, hbs2, d0, hrow⟩ := hrs.at_ hlt2
                rw [rowsErr_drop hlt2] at hre2
                have HR2 := Lib.hid hre2
                have hb02 := HBK.out.trans (hb2.mono HBK.out.size)
                have HCK := Lib.hid (checkRow h2.A h2.c rows[k2] wr (hrow.el.more fun k (hk : k < w.heap.size) => Nat.lt_of_lt_of_le hk hb02.size) hrow.le)
                have HB2 := Lib.hid hb2
                have HB02 := Lib.hid hb02
                clear hrs hrow hre2 hb2 hb02 hbs2
                generalize rows[k2]'hlt2 = r2 at *
                by_cases hz : rErr r2 = 0
                · rw [if_pos hz] at HR2
                  simp only [hz] at HCK
                  clear hz
                  go_wp2_with fail
                  refine HCK.out.mono ?_
                  rintro e w3 ⟨rfl, hb3⟩
                  go_wp2_with fail
                  go_roundw
                  case rel => exact ⟨k2 + 1, by omega, by go_num, HR2.out, HB2.out.trans (hb3.mono HB2.out.size)⟩
                  case measure => simp [intOf]; omega
                · rw [if_neg hz] at HR2
                  have hee : er = rErr r2 := by
                    have h1 := HEE.out
                    rw [HRE.out, HR2.out, if_neg hz] at h1
                    exact h1
                  have hz2 : (rErr r2 == 0) = false := by rw [beq_eq_false_iff_ne]; exact hz
                  have hz3 : (rErr r2 != 0) = true := by simp [hz]
                  have HEQ := Lib.hid hee
                  clear hz hee HEE HRE HR2
                  generalize rErr r2 = er2 at *
                  go_wp2_with fail
                  refine HCK.out.mono ?_
                  rintro e w3 ⟨rfl, hb3⟩
                  go_wp2_with fail
                  go_ret
                  exact ⟨ret_int HEQ.out.symm, HB02.out.trans (hb3.mono HB02.out.size)⟩
              · have hkl : k2 = rows.length := by omega
                subst hkl
                rw [List.drop_length] at hre2
                have hre0 : rowsErr rows = 0 := hre2
                rw [hre0] at HRE
                rw [HRE.out, if_pos rfl] at HEE
                clear hre2 hre0
                go_wp2_with fail
                go_roundw
                case rel => exact ⟨k + 1, by omega, by go_num, HEE.out, HBK.out.trans (hb2.mono HBK.out.size)⟩
                case measure => simp [intOf]; omega
      · have hkl : k = is.length := by omega
        subst hkl
        rw [List.drop_length] at he
        have he0 : er = 0 := he
        subst he0
        go_wp2_with fail
        go_ret
        exact ⟨rfl, hbk⟩

end Go.Proofs.Ytjgghbmlbheknaa
