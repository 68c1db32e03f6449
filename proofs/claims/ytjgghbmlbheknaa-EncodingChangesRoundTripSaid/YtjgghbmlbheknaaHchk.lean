/-
  The walk of CheckChanges.
-/
import Derived.Test.YtjgghbmlbheknaaHm
import Derived.Test.YtjgghbmlbheknaaIchk
namespace Go.Proofs.Ytjgghbmlbheknaa
open Go.RowKit

theorem checkRow_on {w W : World} {S : Nat → Prop} {h : Hd} {r : List Val} (H : RowH w S h r) (hS : ∀ k, S k → k < w.heap.size) (hb : Below w.heap.size w W) :
    Calls Try.prog 12 #[.slice h.A r.length h.c] W fun e w' => e = .returned (.int .i64 (rErr r)) ∧ Below W.heap.size W w' :=
  checkRow h.A h.c r W ((H.el.keep (Keeps.of_below hb hS)).more fun k hk => Nat.lt_of_lt_of_le (hS k hk) hb.size) H.le

set_option maxRecDepth 100000 in
set_option maxHeartbeats 2000000 in
theorem checkChanges (A : Option Addr) (c : Nat) (ts : List Ch) (cs : List Chg) (w : World) (h : ChgsH w (· < w.heap.size) A ts cs) (hl : cs.length ≤ maxLen) :
    Calls Try.prog 21 #[.slice A cs.length c] w fun e w' => e = .returned (.int .i64 (chgsErr cs)) ∧ Below w.heap.size w w' := by
  unfold maxLen at hl
  by_cases h6 : 24 < cs.length
  · have hx : (24 : Int) < (cs.length : Int) := by omega
    have hz : chgsErr cs = 2 := by unfold chgsErr; rw [if_pos h6]
    rw [hz]
    clear h hz
    go_enter Try.func21, Try.ntmps21
    go_wp2_with fail
    go_ret
    exact ⟨rfl, Below.refl _ _⟩
  · have hx : ¬ ((24 : Int) < (cs.length : Int)) := by omega
    have HE : Hid (chgsErr cs = chgErrs (cs.drop 0)) := Lib.hid (by unfold chgsErr; rw [if_neg h6]; rfl)
    have HH := Lib.hid h
    generalize chgsErr cs = er at *
    clear h
    go_enter Try.func21, Try.ntmps21
    go_wp2_with fail
    go_loopw [15] (fun i wr => ∃ k : Nat, k ≤ cs.length ∧ i = .int .i64 k ∧ er = chgErrs (cs.drop k) ∧ Below w.heap.size w wr) (fun i _ => cs.length - (intOf i).toNat)
    case atStart => exact ⟨0, by omega, rfl, HE.out, Below.refl _ _⟩
    case round =>
      obtain ⟨k, hk, rfl, he, hbk⟩ := hrel
      clear HE
      by_cases hlt : k < cs.length
      · obtain ⟨b, off, t, rfl, hbs, c0, c1, c2, c3, hch⟩ := (HH.out.keep (Keeps.of_below hbk fun _ h => h)).at_ hlt
        rw [chgErrs_drop hlt] at he
        have HEE := Lib.hid he
        have HBK := Lib.hid hbk
        have HCH := Lib.hid hch
        obtain ⟨x, hx2⟩ : ∃ x, x = cs[k] := ⟨_, rfl⟩
        rw [← hx2] at c0 c1 c2 c3 HCH HEE
        have hre : chgErr x = if x.shape ∧ nameOk x.name = true then (if rErr x.old = 0 then rErr x.new else rErr x.old) else 3 := rfl
        have hsh : x.shape ↔ (x.kind = 1 ∧ x.old.length = 0) ∨ (x.kind = 2 ∧ x.new.length = 0) := Iff.rfl
        obtain ⟨kd, nm, old, new⟩ := x
        obtain ⟨tk, tn, t2, t3⟩ := t
        simp only at c0 c1 c2 c3 hre hsh
        have hle2 := HCH.out.old.le
        have hle3 := HCH.out.new.le
        simp only at hle2 hle3
        unfold maxLen at hle2 hle3
        have HVN := Lib.hid fun W => validName nm W HCH.out.sz
        have hsz := hbk.size
        have HC2 := Lib.hid fun W (hW : Below wr.heap.size wr W) => checkRow_on HCH.out.old (fun k (hk : k < w.heap.size) => Nat.lt_of_lt_of_le hk HBK.out.size) hW
        have HC3 := Lib.hid fun W (hW : Below wr.heap.size wr W) => checkRow_on HCH.out.new (fun k (hk : k < w.heap.size) => Nat.lt_of_lt_of_le hk HBK.out.size) hW
        simp only at HC2 HC3
        obtain ⟨A2, n2, d2⟩ := t2
        obtain ⟨A3, n3, d3⟩ := t3
        simp only at c2 c3 HC2 HC3
        have i0 : ∀ W : World, (Instr.index 72 (.agg #[.slice A2 old.length d2, .slice A3 new.length d3]) (.int .i64 0)).run Try.prog W = .ok (.slice A2 old.length d2) W := fun _ => by kernel_rfl
        have i1 : ∀ W : World, (Instr.index 72 (.agg #[.slice A2 old.length d2, .slice A3 new.length d3]) (.int .i64 1)).run Try.prog W = .ok (.slice A3 new.length d3) W := fun _ => by kernel_rfl
        by_cases hs : Chg.shape ⟨kd, nm, old, new⟩
        · have hs' := hsh.1 hs
          by_cases hn : nameOk nm = true
          · rw [if_pos ⟨hs, hn⟩] at hre
            have HRE := Lib.hid hre
            simp only [hn] at HVN
            have HRO := Lib.hid (Classical.em (rErr old = 0))
            generalize rErr old = eo at *
            generalize rErr new = en at *
            clear hre hsh hs hn he hbk hch hx2 HCH
            obtain ⟨wo, rfl⟩ : ∃ wo, wo = wr := ⟨_, rfl⟩
            have HBA : Hid (Below wo.heap.size wo (wo.alloc (.cells #[.int .i64 kd, .string nm, .slice A2 old.length d2, .slice A3 new.length d3] 71))) := Lib.hid ((Below.refl _ _).alloc (Nat.le_refl _) _)
            rcases hs' with ⟨rfl, h0⟩ | ⟨rfl, h0⟩
            · have hz : ((old.length : Int) == 0) = true := by rw [h0]; rfl
              clear h0
              go_wp2_with fail
              refine (HVN.out _).mono ?_
              rintro e w2 ⟨rfl, rfl⟩
              go_wp2_with fail
              go_loopw [54] (fun i wi => ((i = .int .i64 0) ∨ (i = .int .i64 1 ∧ eo = 0) ∨ (i = .int .i64 2 ∧ eo = 0 ∧ en = 0)) ∧ Below wo.heap.size wo wi) (fun i _ => 2 - (intOf i).toNat)
              case atStart => exact ⟨.inl rfl, HBA.out⟩
              case round =>
                obtain ⟨hq, hb2⟩ := hrel
                have HB2 := Lib.hid hb2
                clear HBA c0 c1 c2 c3 hz HVN
                rcases hq with rfl | ⟨rfl, he0⟩ | ⟨rfl, he0, he1⟩
                · have HCK := Lib.hid (HC2.out _ hb2)
                  clear hb2 HC2 HC3
                  by_cases hz : eo = 0
                  · subst hz
                    go_wp2_with fail
                    refine HCK.out.mono ?_
                    rintro e w3 ⟨rfl, hb3⟩
                    go_wp2_with fail
                    go_roundw
                    case rel => exact ⟨.inr (.inl (by simp)), HB2.out.trans (hb3.mono HB2.out.size)⟩
                    case measure => simp [intOf]
                  · have hzz : (eo != 0) = true := by simp [hz]
                    have HEQ : Hid (er = eo) := Lib.hid (by have h1 := HEE.out; have h2 := HRE.out; rw [if_neg hz] at h2; rw [h2, if_neg hz] at h1; exact h1)
                    clear hz
                    go_wp2_with fail
                    refine HCK.out.mono ?_
                    rintro e w3 ⟨rfl, hb3⟩
                    go_wp2_with fail
                    go_ret
                    exact ⟨ret_int HEQ.out.symm, HBK.out.trans ((HB2.out.trans (hb3.mono HB2.out.size)).mono hsz)⟩
                · have HCK := Lib.hid (HC3.out _ hb2)
                  subst he0
                  clear hb2 HC2 HC3
                  by_cases hz : en = 0
                  · subst hz
                    go_wp2_with fail
                    refine HCK.out.mono ?_
                    rintro e w3 ⟨rfl, hb3⟩
                    go_wp2_with fail
                    go_roundw
                    case rel => exact ⟨.inr (.inr (by simp)), HB2.out.trans (hb3.mono HB2.out.size)⟩
                    case measure => simp [intOf]
                  · have hzz : (en != 0) = true := by simp [hz]
                    have HEQ : Hid (er = en) := Lib.hid (by have h1 := HEE.out; have h2 := HRE.out; rw [if_pos rfl] at h2; rw [h2, if_neg hz] at h1; exact h1)
                    clear hz
                    go_wp2_with fail
                    refine HCK.out.mono ?_
                    rintro e w3 ⟨rfl, hb3⟩
                    go_wp2_with fail
                    go_ret
                    exact ⟨ret_int HEQ.out.symm, HBK.out.trans ((HB2.out.trans (hb3.mono HB2.out.size)).mono hsz)⟩
                · have HEQ : Hid (er = chgErrs (cs.drop (k + 1))) := Lib.hid (by have h1 := HEE.out; have h2 := HRE.out; rw [he0, if_pos rfl, he1] at h2; rw [h2, if_pos rfl] at h1; exact h1)
                  clear hb2 HC2 HC3 he0 he1
                  go_wp2_with fail
                  go_roundw
                  case rel => exact ⟨k + 1, by omega, by go_num, HEQ.out, HBK.out.trans (HB2.out.mono hsz)⟩
                  case measure => simp [intOf]; omega
            · have hz : ((new.length : Int) == 0) = true := by rw [h0]; rfl
              clear h0
              go_wp2_with fail
              refine (HVN.out _).mono ?_
              rintro e w2 ⟨rfl, rfl⟩
              go_wp2_with fail
              go_loopw [54] (fun i wi => ((i = .int .i64 0) ∨ (i = .int .i64 1 ∧ eo = 0) ∨ (i = .int .i64 2 ∧ eo = 0 ∧ en = 0)) ∧ Below wo.heap.size wo wi) (fun i _ => 2 - (intOf i).toNat)
              case atStart => exact ⟨.inl rfl, HBA.out⟩
              case round =>
                obtain ⟨hq, hb2⟩ := hrel
                have HB2 := Lib.hid hb2
                clear HBA c0 c1 c2 c3 hz HVN
                rcases hq with rfl | ⟨rfl, he0⟩ | ⟨rfl, he0, he1⟩
                · have HCK := Lib.hid (HC2.out _ hb2)
                  clear hb2 HC2 HC3
                  by_cases hz : eo = 0
                  · subst hz
                    go_wp2_with fail
                    refine HCK.out.mono ?_
                    rintro e w3 ⟨rfl, hb3⟩
                    go_wp2_with fail
                    go_roundw
                    case rel => exact ⟨.inr (.inl (by simp)), HB2.out.trans (hb3.mono HB2.out.size)⟩
                    case measure => simp [intOf]
                  · have hzz : (eo != 0) = true := by simp [hz]
                    have HEQ : Hid (er = eo) := Lib.hid (by have h1 := HEE.out; have h2 := HRE.out; rw [if_neg hz] at h2; rw [h2, if_neg hz] at h1; exact h1)
                    clear hz
                    go_wp2_with fail
                    refine HCK.out.mono ?_
                    rintro e w3 ⟨rfl, hb3⟩
                    go_wp2_with fail
                    go_ret
                    exact ⟨ret_int HEQ.out.symm, HBK.out.trans ((HB2.out.trans (hb3.mono HB2.out.size)).mono hsz)⟩
                · have HCK := Lib.hid (HC3.out _ hb2)
                  subst he0
                  clear hb2 HC2 HC3
                  by_cases hz : en = 0
                  · subst hz
                    go_wp2_with fail
                    refine HCK.out.mono ?_
                    rintro e w3 ⟨rfl, hb3⟩
                    go_wp2_with fail
                    go_roundw
                    case rel => exact ⟨.inr (.inr (by simp)), HB2.out.trans (hb3.mono HB2.out.size)⟩
                    case measure => simp [intOf]
                  · have hzz : (en != 0) = true := by simp [hz]
                    have HEQ : Hid (er = en) := Lib.hid (by have h1 := HEE.out; have h2 := HRE.out; rw [if_pos rfl] at h2; rw [h2, if_neg hz] at h1; exact h1)
                    clear hz
                    go_wp2_with fail
                    refine HCK.out.mono ?_
                    rintro e w3 ⟨rfl, hb3⟩
                    go_wp2_with fail
                    go_ret
                    exact ⟨ret_int HEQ.out.symm, HBK.out.trans ((HB2.out.trans (hb3.mono HB2.out.size)).mono hsz)⟩
                · have HEQ : Hid (er = chgErrs (cs.drop (k + 1))) := Lib.hid (by have h1 := HEE.out; have h2 := HRE.out; rw [he0, if_pos rfl, he1] at h2; rw [h2, if_pos rfl] at h1; exact h1)
                  clear hb2 HC2 HC3 he0 he1
                  go_wp2_with fail
                  go_roundw
                  case rel => exact ⟨k + 1, by omega, by go_num, HEQ.out, HBK.out.trans (HB2.out.mono hsz)⟩
                  case measure => simp [intOf]; omega
          · have hn' : nameOk nm = false := by simpa using hn
            rw [if_neg (fun h => hn h.2)] at hre
            have hee : er = 3 := by have h1 := HEE.out; rw [hre] at h1; exact h1
            subst hee
            simp only [hn'] at HVN
            clear hre hsh hs hn hn' he hbk hch hx2 HCH HEE HC2 HC3
            rcases hs' with ⟨rfl, h0⟩ | ⟨rfl, h0⟩
            · have hz : ((old.length : Int) == 0) = true := by rw [h0]; rfl
              clear h0
              go_wp2_with fail
              refine (HVN.out _).mono ?_
              rintro e w2 ⟨rfl, rfl⟩
              go_wp2_with fail
              go_ret
              exact ⟨rfl, HBK.out.alloc HBK.out.size _⟩
            · have hz : ((new.length : Int) == 0) = true := by rw [h0]; rfl
              clear h0
              go_wp2_with fail
              refine (HVN.out _).mono ?_
              rintro e w2 ⟨rfl, rfl⟩
              go_wp2_with fail
              go_ret
              exact ⟨rfl, HBK.out.alloc HBK.out.size _⟩
        · rw [if_neg (fun h => hs h.1)] at hre
          have hee : er = 3 := by have h1 := HEE.out; rw [hre] at h1; exact h1
          subst hee
          have hs' := fun h => hs (hsh.2 h)
          clear hre hsh hs he hbk hch hx2 HCH HEE HC2 HC3 HVN
          by_cases k1 : kd = 1
          · subst k1
            have hz : ((old.length : Int) == 0) = false := by rw [beq_eq_false_iff_ne]; intro h; exact hs' (.inl ⟨rfl, by omega⟩)
            clear hs'
            go_wp2_with fail
            go_ret
            exact ⟨rfl, HBK.out.alloc HBK.out.size _⟩
          · by_cases k2 : kd = 2
            · subst k2
              have hz : ((new.length : Int) == 0) = false := by rw [beq_eq_false_iff_ne]; intro h; exact hs' (.inr ⟨rfl, by omega⟩)
              clear hs'
              go_wp2_with fail
              go_ret
              exact ⟨rfl, HBK.out.alloc HBK.out.size _⟩
            · have hz : (kd == 1) = false := by simp [k1]
              have hz2 : (kd == 2) = false := by simp [k2]
              clear hs' k1 k2
              go_wp2_with fail
              go_ret
              exact ⟨rfl, HBK.out.alloc HBK.out.size _⟩
      · have hkl : k = cs.length := by omega
        subst hkl
        rw [List.drop_length] at he
        have he0 : er = 0 := he
        subst he0
        go_wp2_with fail
        go_ret
        exact ⟨rfl, hbk⟩

end Go.Proofs.Ytjgghbmlbheknaa
