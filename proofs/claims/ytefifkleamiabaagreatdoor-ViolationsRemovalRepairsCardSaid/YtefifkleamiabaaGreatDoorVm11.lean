/-
  The walks of the reference's CompareRows at keys of one integer, ConformsRow, ValidName.
  The walks of the reference's ValidateTable, FindTable.
  The walks of the reference's validateForeignKey, validateConstraint, ValidateSchema.
  The walks of the reference's ValidOp, validateConstraint.
  The walk of the reference's ValidateSchema.
-/
import Derived.Test.YtefifkleamiabaaGreatDoorVm10
namespace Go.Proofs.YtefifkleamiabaaGreatDoor
open Go.RowKit Go.Sort

def ik (x : Int) : Row := [⟨1, x, ⟨#[]⟩⟩]
set_option maxRecDepth 100000 in
set_option maxHeartbeats 4000000 in
theorem rCmp1 (A B : Option Addr) (c d : Nat) (x y : Int) (w : World) (hx : Elems 3 Val.cs w (· < w.heap.size) A (ik x)) (hy : Elems 3 Val.cs w (· < w.heap.size) B (ik y)) :
    Calls Tryz.prog 58 #[.slice A 1 c, .slice B 1 d] w fun e w' => e = .returned (.int .i64 (c1 x y)) ∧ Below w.heap.size w w' := by
  obtain ⟨ba, oa, rfl, -, a0, a1, a2⟩ := hx.val (k := 0) (by show 0 < 1; omega)
  obtain ⟨bb, ob, rfl, -, b0, b1, b2⟩ := hy.val (k := 0) (by show 0 < 1; omega)
  have HX := Lib.hid hx
  have HY := Lib.hid hy
  have HS : Hid (∀ W, Below w.heap.size w W → W.cell? ⟨ba, oa, none⟩ = some (.int .i64 1) ∧ W.cell? ⟨ba, oa + 1, none⟩ = some (.int .i64 x) ∧ W.cell? ⟨ba, oa + 2, none⟩ = some (.string ⟨#[]⟩) ∧ W.cell? ⟨bb, ob, none⟩ = some (.int .i64 1) ∧ W.cell? ⟨bb, ob + 1, none⟩ = some (.int .i64 y) ∧ W.cell? ⟨bb, ob + 2, none⟩ = some (.string ⟨#[]⟩)) := Lib.hid fun W hW => by
    obtain ⟨ba', oa', e1, -, a0, a1, a2⟩ := (HX.out.on hW).val (k := 0) (by show 0 < 1; omega)
    obtain ⟨bb', ob', e2, -, b0, b1, b2⟩ := (HY.out.on hW).val (k := 0) (by show 0 < 1; omega)
    injection e1 with e1
    injection e1 with e11 e12
    injection e2 with e2
    injection e2 with e21 e22
    subst e11 e12 e21 e22
    rw [Nat.zero_mul, Nat.add_zero] at a0 a1 a2 b0 b1 b2
    exact ⟨a0, a1, a2, b0, b1, b2⟩
  have HL1 : Hid (∀ W m, Below w.heap.size w W → Calls Tryz.prog 96 #[.agg #[.int .i64 1, .int .i64 x, .string ⟨#[]⟩], .agg #[.int .i64 1, .int .i64 y, .string ⟨#[]⟩]] (W.drewN m) fun e w' => e = .returned (.bool (decide (x < y))) ∧ Below w.heap.size w w') := Lib.hid fun W m hW => by
    have hd : Below w.heap.size w (W.drewN m) := below_drewN hW m
    exact (rLess1 x y (W.drewN m)).mono fun e w' h => ⟨h.1, hd.trans (h.2.mono hd.size)⟩
  have HL2 : Hid (∀ W m, Below w.heap.size w W → Calls Tryz.prog 96 #[.agg #[.int .i64 1, .int .i64 y, .string ⟨#[]⟩], .agg #[.int .i64 1, .int .i64 x, .string ⟨#[]⟩]] (W.drewN m) fun e w' => e = .returned (.bool (decide (y < x))) ∧ Below w.heap.size w w') := Lib.hid fun W m hW => by
    have hd : Below w.heap.size w (W.drewN m) := below_drewN hW m
    exact (rLess1 y x (W.drewN m)).mono fun e w' h => ⟨h.1, hd.trans (h.2.mono hd.size)⟩
  clear hx hy a0 a1 a2 b0 b1 b2
  go_enter Tryz.func58, Tryz.ntmps58
  go_wp2_with fail
  go_loopw [5] (fun vi wr => (vi = .int .i64 0 ∧ w = wr) ∨ (vi = .int .i64 1 ∧ x = y ∧ Below w.heap.size w wr)) (fun vi _ => 1 - (intOf vi).toNat)
  case atStart => exact .inl ⟨rfl, rfl⟩
  case round =>
    rcases hrel with ⟨rfl, rfl⟩ | ⟨rfl, hxy, hb⟩
    · have s0 := HS.out w (Below.refl _ _)
      go_wp2_with fail
      go_cut [26] from 18 to 26 (fun v26 wx => v26 = .bool (decide (x < y)) ∧ Below w.heap.size w wx)
      case first =>
        go_region_held3 (fun W => W.cell? ⟨ba, oa, none⟩ = some (.int .i64 1) ∧ W.cell? ⟨ba, oa + 1, none⟩ = some (.int .i64 x) ∧ W.cell? ⟨ba, oa + 2, none⟩ = some (.string ⟨#[]⟩) ∧ W.cell? ⟨bb, ob, none⟩ = some (.int .i64 1) ∧ W.cell? ⟨bb, ob + 1, none⟩ = some (.int .i64 y) ∧ W.cell? ⟨bb, ob + 2, none⟩ = some (.string ⟨#[]⟩)) (first | exact s0 | exact s9)
          (first
          | (go_at_call 96; refine (HL1.out w 1 (Below.refl _ _)).mono ?_; rintro e w2 ⟨rfl, hb2⟩; have s9 := HS.out w2 hb2))
        all_goals
          have HB2 := Lib.hid hb2
          clear hb2 s9
          go_wp2_with fail
          go_meet
          exact ⟨rfl, HB2.out⟩
      case rest =>
        obtain ⟨rfl, hb2⟩ := hcut
        obtain ⟨w2, rfl⟩ : ∃ w2, w2 = wc := ⟨_, rfl⟩
        have HB2 := Lib.hid hb2
        have s2 := HS.out w2 hb2
        clear hb2 s0
        by_cases hlt : x < y
        · have hd : decide (x < y) = true := decide_eq_true hlt
          have HR : Hid (c1 x y = -1) := Lib.hid (if_pos hlt)
          rw [hd]
          clear hd hlt
          go_wp2_with fail
          go_ret
          exact ⟨ret_int HR.out.symm, HB2.out⟩
        · have hd : decide (x < y) = false := decide_eq_false hlt
          have HLT := Lib.hid hlt
          rw [hd]
          clear hd hlt
          go_wp2_with fail
          go_cut [35] from 27 to 35 (fun v35 wx => v35 = .bool (decide (y < x)) ∧ Below w.heap.size w wx)
          case first =>
            go_region_held3 (fun W => W.cell? ⟨ba, oa, none⟩ = some (.int .i64 1) ∧ W.cell? ⟨ba, oa + 1, none⟩ = some (.int .i64 x) ∧ W.cell? ⟨ba, oa + 2, none⟩ = some (.string ⟨#[]⟩) ∧ W.cell? ⟨bb, ob, none⟩ = some (.int .i64 1) ∧ W.cell? ⟨bb, ob + 1, none⟩ = some (.int .i64 y) ∧ W.cell? ⟨bb, ob + 2, none⟩ = some (.string ⟨#[]⟩)) (first | exact s2 | exact s9)
              (first
              | (go_at_call 96; refine (HL2.out w2 1 HB2.out).mono ?_; rintro e w3 ⟨rfl, hb3⟩; have s9 := HS.out w3 hb3))
            all_goals
              have HB3 := Lib.hid hb3
              clear hb3 s9
              go_wp2_with fail
              go_meet
              exact ⟨rfl, HB3.out⟩
          case rest =>
            obtain ⟨rfl, hb3⟩ := hcut
            obtain ⟨w3, rfl⟩ : ∃ w3, w3 = wc := ⟨_, rfl⟩
            have HB3 := Lib.hid hb3
            clear hb3 s2
            by_cases hlt2 : y < x
            · have hd : decide (y < x) = true := decide_eq_true hlt2
              have HR : Hid (c1 x y = 1) := Lib.hid (by unfold c1; rw [if_neg (by have := HLT.out; omega), if_pos hlt2])
              rw [hd]
              clear hd hlt2
              go_wp2_with fail
              go_ret
              exact ⟨ret_int HR.out.symm, HB3.out⟩
            · have hd : decide (y < x) = false := decide_eq_false hlt2
              have HXY : Hid (x = y) := Lib.hid (by have := HLT.out; omega)
              rw [hd]
              clear hd hlt2
              go_wp2_with fail
              go_roundw
              case rel => exact .inr ⟨by go_num, HXY.out, HB3.out⟩
              case measure => simp [intOf]
    · have HR : Hid (c1 x y = 0) := Lib.hid (by unfold c1; rw [if_neg (by omega), if_neg (by omega)])
      have HB2 := Lib.hid hb
      clear hb hxy
      go_wp2_with fail
      go_ret
      exact ⟨ret_int HR.out.symm, HB2.out⟩

set_option maxRecDepth 100000 in
set_option maxHeartbeats 4000000 in
theorem rConformsRow (t : Tbl) (A : Option Addr) (c : Nat) (r : Row) (w : World) (ht : TOk (· < w.heap.size) w t) (hx : Elems 3 Val.cs w (· < w.heap.size) A r) (h6 : t.cols.length ≤ 1000) (hr : RowC t.cols r) :
    Calls Tryz.prog 57 #[t.val, .slice A r.length c] w fun e w' => e = .returned (.int .i64 0) ∧ Below w.heap.size w w' := by
  obtain ⟨name, CA, cc, tc, PA, pc, pk⟩ := t
  have HC := Lib.hid ht.cols
  have HX := Lib.hid hx
  have HR := Lib.hid hr
  obtain ⟨n, hn⟩ : ∃ n, tc.length = n := ⟨_, rfl⟩
  have hrn : r.length = n := by rw [← hn]; exact hr.len
  have h6 : n ≤ 1000 := by rw [← hn]; exact h6
  unfold Tbl.val
  simp only
  rw [hrn, hn]
  have HN := Lib.hid (And.intro hn hrn)
  obtain ⟨w1, hw1⟩ : ∃ w1, w1 = w.alloc (.cells #[.string name, .slice CA n cc, .slice PA pk.length pc] 71) := ⟨_, rfl⟩
  have hbx := heap_alloc_new w (.cells #[.string name, .slice CA n cc, .slice PA pk.length pc] 71)
  rw [← hw1] at hbx
  have hb1 : Below w.heap.size w w1 := by rw [hw1]; exact (Below.refl _ _).alloc (Nat.le_refl _) _
  have hs1 : w.heap.size < w1.heap.size := by rw [hw1]; simp
  have HBK : Hid (∀ W, Below w1.heap.size w1 W → W.cell? ⟨w.heap.size, 1, none⟩ = some (.slice CA n cc)) := Lib.hid fun W hW => by
    rw [cell_of_row _ _ _ _ _ _ ((hW.block w.heap.size hs1).trans hbx)]
    rfl
  have HB1 := Lib.hid hb1
  have HW1 := Lib.hid hw1
  have c1 := HBK.out w1 (Below.refl _ _)
  clear ht hx hr hn hrn hw1 hbx hb1 hs1
  go_enter Tryz.func57, Tryz.ntmps57
  go_upto_region 1 with fail
  rw [← HW1.out]
  go_wp2_with fail
  go_loopw [17] (fun vi wr => ∃ k : Nat, vi = .int .i64 (k : Int) ∧ k ≤ n ∧ Below w1.heap.size w1 wr) (fun vi _ => n - (intOf vi).toNat)
  case atStart => exact ⟨0, rfl, by omega, Below.refl _ _⟩
  case round =>
    obtain ⟨k, rfl, hkn, hb⟩ := hrel
    obtain ⟨wo, rfl⟩ : ∃ wo, wo = wr := ⟨_, rfl⟩
    have hbw : Below w.heap.size w wo := HB1.out.trans (hb.mono HB1.out.size)
    by_cases hlt : k < n
    · have hkr : k < r.length := by have := HN.out; omega
      have hkc : k < tc.length := by have := HN.out; omega
      have hco := HR.out.col k hkr
      have hgd : tc.getD k col0 = tc[k] := by rw [List.getD_eq_getElem?_getD, List.getElem?_eq_getElem hkc]; rfl
      have hco : colOk tc[k] r[k] := hgd ▸ hco
      have her : r[k].err = 0 := HR.out.err _ (List.getElem_mem hkr)
      obtain ⟨b', off', hA', -, p0, p1, p2⟩ := (HX.out.on hbw).val hkr
      obtain ⟨w2, hw2⟩ : ∃ w2, w2 = wo.alloc (.cells #[.int .i64 r[k].kind, .int .i64 r[k].int, .string r[k].text] 60) := ⟨_, rfl⟩
      have hb2 : Below wo.heap.size wo w2 := by rw [hw2]; exact (Below.refl _ _).alloc (Nat.le_refl _) _
      have hg2 : w2.heap[wo.heap.size]? = some (.cells #[.int .i64 r[k].kind, .int .i64 r[k].int, .string r[k].text] 60 (0, 0)) := by rw [hw2]; exact heap_alloc_new wo _
      have hb12 := hb.trans (hb2.mono hb.size)
      have hbw2 := hbw.trans (hb2.mono hbw.size)
      obtain ⟨b, off, hCA, -, q0, q1, q2⟩ := (HC.out.on hbw2).col hkc
      have c2 := HBK.out w2 hb12
      rw [hCA] at c2
      obtain ⟨w3, hw3⟩ : ∃ w3, w3 = w2.alloc (.cells #[.string tc[k].name, .int .i64 tc[k].kind, .bool tc[k].null] 68) := ⟨_, rfl⟩
      have hb3 : Below w2.heap.size w2 w3 := by rw [hw3]; exact (Below.refl _ _).alloc (Nat.le_refl _) _
      have hg3 : w3.heap[w2.heap.size]? = some (.cells #[.string tc[k].name, .int .i64 tc[k].kind, .bool tc[k].null] 68 (0, 0)) := by rw [hw3]; exact heap_alloc_new w2 _
      have hs3 : w2.heap.size < w3.heap.size := by rw [hw3]; simp
      have hs2 : wo.heap.size < w2.heap.size := by rw [hw2]; simp
      have HCE : Hid (∀ W, Below w3.heap.size w3 W → (W.cell? ⟨wo.heap.size, 0, none⟩ = some (.int .i64 r[k].kind) ∧ W.cell? ⟨wo.heap.size, 1, none⟩ = some (.int .i64 r[k].int) ∧ W.cell? ⟨wo.heap.size, 2, none⟩ = some (.string r[k].text)) ∧ W.cell? ⟨w2.heap.size, 1, none⟩ = some (.int .i64 tc[k].kind) ∧ W.cell? ⟨w2.heap.size, 2, none⟩ = some (.bool tc[k].null)) := Lib.hid fun W hW => by
        have e3 := (hW.block w2.heap.size hs3).trans hg3
        have e2 := (hW.block wo.heap.size (by omega)).trans ((hb3.block wo.heap.size hs2).trans hg2)
        exact ⟨⟨cell_of_row _ _ 0 _ _ _ e2, cell_of_row _ _ 1 _ _ _ e2, cell_of_row _ _ 2 _ _ _ e2⟩, cell_of_row _ _ 1 _ _ _ e3, cell_of_row _ _ 2 _ _ _ e3⟩
      have HV := Lib.hid (rValidate r[k] w3 her)
      have HB13 := Lib.hid (hb12.trans (hb3.mono hb12.size))
      have hkn' : (k : Int) < (n : Int) := by omega
      have HW2 := Lib.hid hw2
      have HW3 := Lib.hid hw3
      obtain ⟨⟨v0, v1, v2⟩, y1, y2⟩ := HCE.out w3 (Below.refl _ _)
      rw [hA']
      clear hb hbw hgd her hA' hw2 hb2 hg2 hb12 hbw2 hCA hw3 hb3 hg3 hs3 hs2
      generalize tc[k] = cl at *
      generalize r[k] = v at *
      have hcl : (v.kind ≠ 0 ∧ v.kind = cl.kind) ∨ (v.kind = 0 ∧ cl.null = true) := by
        rcases hco with ⟨h1, h2⟩ | ⟨h1, h2⟩
        · exact .inl ⟨h2, h1⟩
        · exact .inr ⟨h1, h2⟩
      clear hco
      go_upto_region 6 with fail
      rw [← HW2.out]
      go_upto_region 7 with fail
      rw [← HW3.out]
      go_wp2_with fail
      refine HV.out.mono ?_
      rintro e w4 ⟨rfl, hb4⟩
      have HB4 := Lib.hid (HB13.out.trans (hb4.mono HB13.out.size))
      clear v0 v1 v2 y1 y2 c2 q0 q1 q2 p0 p1 p2
      obtain ⟨⟨v0, v1, v2⟩, y1, y2⟩ := HCE.out w4 hb4
      clear hb4
      rcases hcl with ⟨h1, h2⟩ | ⟨h1, h2⟩
      · have g1 : (v.kind == 0) = false := by simp [h1]
        have g2 : (v.kind != 0) = true := by simp [h1]
        have g3 : (v.kind != cl.kind) = false := by simp [h2]
        have g4 : ¬ v.kind = 0 := h1
        have g5 : v.kind = cl.kind := h2
        clear h1 h2
        go_wp2_with fail
        go_roundw
        case rel => exact ⟨k + 1, by go_num, by omega, HB4.out⟩
        case measure => simp [intOf]; omega
      · rw [h1] at v0
        rw [h2] at y2
        clear h1 h2
        go_wp2_with fail
        go_roundw
        case rel => exact ⟨k + 1, by go_num, by omega, HB4.out⟩
        case measure => simp [intOf]; omega
    · have hkn' : k = n := by omega
      subst hkn'
      have HE := Lib.hid hbw
      clear hb hbw
      go_wp2_with fail
      go_ret
      exact ⟨rfl, HE.out⟩

def letters : ByteArray := ⟨#[97, 98, 99, 100, 101, 102, 103, 104, 105, 106, 107, 108, 109, 110, 111, 112, 113, 114, 115, 116, 117, 118, 119, 120, 121, 122]⟩
def alnum : ByteArray := ⟨#[97, 98, 99, 100, 101, 102, 103, 104, 105, 106, 107, 108, 109, 110, 111, 112, 113, 114, 115, 116, 117, 118, 119, 120, 121, 122, 48, 49, 50, 51, 52, 53, 54, 55, 56, 57]⟩
theorem letters_has (c : UInt8) (h : 97 ≤ c.toNat ∧ c.toNat ≤ 122) : 0 ≤ Lib.indexByte letters.data.toList c := by
  have key : ∀ n, n < 256 → (97 ≤ n ∧ n ≤ 122) → 0 ≤ Lib.indexByte letters.data.toList (UInt8.ofNat n) := by decide +kernel
  have := key c.toNat c.toNat_lt h
  rwa [UInt8.ofNat_toNat] at this
theorem alnum_has (c : UInt8) (h : (97 ≤ c.toNat ∧ c.toNat ≤ 122) ∨ (48 ≤ c.toNat ∧ c.toNat ≤ 57)) : alnum.data.toList.contains c = true := by
  have key : ∀ n, n < 256 → ((97 ≤ n ∧ n ≤ 122) ∨ (48 ≤ n ∧ n ≤ 57)) → alnum.data.toList.contains (UInt8.ofNat n) = true := by decide +kernel
  have := key c.toNat c.toNat_lt h
  rwa [UInt8.ofNat_toNat] at this
theorem dropWhile_all {α : Type} (p : α → Bool) (l : List α) (h : ∀ x ∈ l, p x = true) : l.dropWhile p = [] := by
  induction l with
  | nil => rfl
  | cons a l ih => rw [List.dropWhile_cons_of_pos (h a (by simp))]; exact ih fun x hx => h x (by simp [hx])
theorem trim_name (s : ByteArray) (h : NameV s) : Lib.trimS s.data.toList alnum.data.toList = [] := by
  have hr : Lib.trimRightS s.data.toList alnum.data.toList = [] := by
    unfold Lib.trimRightS
    rw [dropWhile_all]
    · rfl
    · intro x hx
      rw [List.mem_reverse] at hx
      obtain ⟨j, hj, rfl⟩ := List.getElem_of_mem hx
      refine alnum_has _ ?_
      have := h.chr j (by show j < s.data.size; simpa using hj)
      rw [List.getD_eq_getElem?_getD, List.getElem?_eq_getElem hj] at this
      exact this
  unfold Lib.trimS
  rw [hr]
  rfl

set_option maxRecDepth 100000 in
set_option maxHeartbeats 4000000 in
theorem rValidName (s : ByteArray) (w : World) (h : NameV s) :
    Calls Tryz.prog 93 #[.string s] w fun e w' => e = .returned (.bool true) ∧ Below w.heap.size w w' := by
  obtain ⟨c, hc, hcl⟩ : ∃ c : UInt8, s.extract 0 1 = ⟨#[c]⟩ ∧ 97 ≤ c.toNat ∧ c.toNat ≤ 122 := by
    obtain ⟨⟨l⟩⟩ := s
    have hp : 1 ≤ l.length := h.pos
    rcases l with _ | ⟨c, l⟩
    · simp at hp
    · have h1 := h.chr 0 h.pos
      have h2 := h.fst
      simp only [List.getD_cons_zero] at h1 h2
      refine ⟨c, ?_, by omega⟩
      apply ByteArray.ext
      rw [ByteArray.data_extract]
      simp
  have HCO := Lib.hid fun W => Tryz.strings_Contains_one letters c W
  have HTR := Lib.hid fun W => Tryz.strings_Trim s alnum W (by have := h.len; omega) (by decide +kernel) (fun j b hj => by
    have key : ∀ x ∈ alnum.data.toList, x.toNat < 128 := by decide +kernel
    exact key b (List.mem_of_getElem? hj))
  have hle : ¬ (12 : Int) < (s.size : Int) := by have := h.len; omega
  have hle2 : (s.size : Int) ≤ 12 := by have := h.len; omega
  have hp1 : (1 : Int) ≤ (s.size : Int) := by have := h.pos; omega
  have hem : s.toList.isEmpty = false := by
    rw [ByteArray.toList_eq]
    have h2 := h.pos
    have h3 : s.size = s.data.toList.length := rfl
    cases hl : s.data.toList with
    | nil => rw [h3, hl] at h2; cases h2
    | cons a l => rfl
  have HTE := Lib.hid (trim_name s h)
  have HL := Lib.hid (letters_has c hcl)
  clear h hcl
  have HCO2 : Hid (∀ W, Calls Tryz.prog 118 #[.string letters, .string ⟨#[c]⟩] W fun e w' => e = .returned (.bool true) ∧ w' = W) := Lib.hid fun W => by
    refine (HCO.out W).mono ?_
    rintro e w' ⟨rfl, rfl⟩
    rw [decide_eq_true HL.out]
    exact ⟨rfl, rfl⟩
  have HTR2 : Hid (∀ W, Calls Tryz.prog 119 #[.string s, .string alnum] W fun e w' => e = .returned (.string ⟨#[]⟩) ∧ Below W.heap.size W w') := Lib.hid fun W => by
    refine (HTR.out W).mono ?_
    rintro e w' ⟨rfl, hb⟩
    rw [HTE.out]
    exact ⟨rfl, hb⟩
  unfold letters at HCO2
  unfold alnum at HTR2
  clear HCO HTR HTE HL
  go_enter Tryz.func93, Tryz.ntmps93
  go_wp2_with fail
  refine (HCO2.out w).mono ?_
  rintro e w' ⟨rfl, rfl⟩
  go_wp2_with fail
  refine (HTR2.out _).mono ?_
  rintro e w' ⟨rfl, hb⟩
  have HB := Lib.hid hb
  clear hb
  go_wp2_with fail
  go_ret
  exact ⟨rfl, HB.out⟩
end Go.Proofs.YtefifkleamiabaaGreatDoor

namespace Go.Proofs.YtefifkleamiabaaGreatDoor
open Go.RowKit Go.Sort

theorem mget_none {l : List (ByteArray × Value)} {s : ByteArray} (h : ∀ p ∈ l, p.1 ≠ s) : mget l s = none := by
  induction l with
  | nil => rfl
  | cons p l ih =>
    unfold mget
    rw [if_neg (h p (by simp))]
    exact ih fun q hq => h q (by simp [hq])
theorem mput_new {l : List (ByteArray × Value)} {s : ByteArray} (v : Value) (h : ∀ p ∈ l, p.1 ≠ s) : mput l s v = l ++ [(s, v)] := by
  induction l with
  | nil => rfl
  | cons p l ih =>
    unfold mput
    rw [if_neg (h p (by simp)), ih fun q hq => h q (by simp [hq])]
    rfl
theorem zero_int (w : World) : (zeroValue 3).run Tryz.prog w = .ok (.int .i64 0) w := by kernel_rfl
/-- The first columns' names, each counted once. -/
def cnt1 (cs : List Col) : List (ByteArray × Value) := cs.map fun c => (c.name, .int .i64 1)
theorem SMap.grown {w w' : World} {b : Nat} {l : List (ByteArray × Value)} {B : Nat} (h : SMap w b l) (hg : w.grownBy w' (some b)) (hB : B ≤ b) : Below B w w' :=
  below_of_grown hg (Nat.le_trans hB (Nat.le_of_lt h.lt)) fun g hg => by injection hg with hg; omega

set_option maxRecDepth 100000 in
set_option maxHeartbeats 4000000 in
theorem rValidateTable (t : Tbl) (w : World) (ht : TOk (· < w.heap.size) w t) (hv : TabV t) (hnd : (t.cols.map Col.name).Nodup) (hpk : t.pk = [0]) :
    Calls Tryz.prog 53 #[t.val] w fun e w' => e = .returned (.int .i64 0) ∧ Below w.heap.size w w' := by
  obtain ⟨name, CA, cc, tc, PA, pc, pk⟩ := t
  have hpk : pk = [0] := hpk
  subst hpk
  have HC := Lib.hid ht
  have HV := Lib.hid hv
  have HND := Lib.hid hnd
  obtain ⟨n, hn⟩ : ∃ n, tc.length = n := ⟨_, rfl⟩
  have hn0 : 0 < n ∧ n ≤ 6 := by rw [← hn]; exact hv.ncols
  obtain ⟨hn0, hn6⟩ := hn0
  obtain ⟨w1, hw1⟩ : ∃ w1, w1 = w.alloc (.cells #[.string name, .slice CA n cc, .slice PA 1 pc] 71) := ⟨_, rfl⟩
  have hb1 : Below w.heap.size w w1 := by rw [hw1]; exact (Below.refl _ _).alloc (Nat.le_refl _) _
  have hg1 : w1.heap[w.heap.size]? = some (.cells #[.string name, .slice CA n cc, .slice PA 1 pc] 71 (0, 0)) := by rw [hw1]; exact heap_alloc_new w _
  have hs1 : w.heap.size < w1.heap.size := by rw [hw1]; simp
  have HBK : Hid (∀ W, Below w1.heap.size w1 W → W.cell? ⟨w.heap.size, 0, none⟩ = some (.string name) ∧ W.cell? ⟨w.heap.size, 1, none⟩ = some (.slice CA n cc) ∧ W.cell? ⟨w.heap.size, 2, none⟩ = some (.slice PA 1 pc)) := Lib.hid fun W hW => by
    have h := (hW.block w.heap.size hs1).trans hg1
    exact ⟨cell_of_row _ _ 0 _ _ _ h, cell_of_row _ _ 1 _ _ _ h, cell_of_row _ _ 2 _ _ _ h⟩
  have HVN := Lib.hid fun s (h : NameV s) W => rValidName s W h
  have HB1 := Lib.hid hb1
  have HN := Lib.hid hn
  have HW1 := Lib.hid hw1
  have hmm := @run_makeMap Tryz.prog
  obtain ⟨c0, c1, c2⟩ := HBK.out w1 (Below.refl _ _)
  have hn0' : ¬ (n : Int) = 0 := by omega
  have hn6' : ¬ (6 : Int) < (n : Int) := by omega
  have hn00 : ((n : Int) == 0) = false := by simp; omega
  unfold Tbl.val
  simp only [List.length_cons, List.length_nil, Nat.zero_add]
  rw [hn]
  clear ht hv hnd hw1 hb1 hg1 hn
  go_enter Tryz.func53, Tryz.ntmps53
  go_upto_region 1 with fail
  rw [← HW1.out]
  go_wp2_with fail
  refine (HVN.out name HV.out.name w1).mono ?_
  rintro e w2 ⟨rfl, hb2⟩
  have HB2 := Lib.hid hb2
  clear c0 c1 c2
  obtain ⟨c0, c1, c2⟩ := HBK.out w2 hb2
  clear hb2
  obtain ⟨w3, hw3⟩ : ∃ w3, w3 = w2.alloc (.map #[] 0) := ⟨_, rfl⟩
  have hb3 : Below w2.heap.size w2 w3 := by rw [hw3]; exact (Below.refl _ _).alloc (Nat.le_refl _) _
  have HM0 : Hid (SMap w3 w2.heap.size []) := Lib.hid (by rw [hw3]; exact SMap.made w2)
  have HB3 := Lib.hid hb3
  have HW3 := Lib.hid hw3
  go_upto_region 8 with fail
  rw [← HW3.out]
  obtain ⟨d0, d1, d2⟩ := HBK.out w3 (HB2.out.trans (hb3.mono HB2.out.size))
  clear c0 c1 c2 hw3 hb3 hmm
  obtain ⟨mb, hmb⟩ : ∃ mb, mb = w2.heap.size := ⟨_, rfl⟩
  have HMB : Hid (w1.heap.size ≤ mb ∧ w.heap.size ≤ mb) := Lib.hid (by have := HB2.out.size; omega)
  have HB13 : Hid (Below w1.heap.size w1 w3) := Lib.hid (HB2.out.trans (HB3.out.mono HB2.out.size))
  rw [← hmb] at HM0 ⊢
  clear hmb hs1
  go_wp2_with fail
  go_loopw [28] (fun vi wr => ∃ k : Nat, vi = .int .i64 (k : Int) ∧ k ≤ n ∧ SMap wr mb (cnt1 (tc.take k)) ∧ Below w1.heap.size w1 wr) (fun vi _ => n - (intOf vi).toNat)
  case atStart => exact ⟨0, rfl, by omega, HM0.out, HB13.out⟩
  case round =>
    obtain ⟨k, rfl, hkn, hm, hb⟩ := hrel
    obtain ⟨wo, rfl⟩ : ∃ wo, wo = wr := ⟨_, rfl⟩
    by_cases hlt : k < n
    · have hkc : k < tc.length := by have := HN.out; omega
      have hbw := HB1.out.trans (hb.mono HB1.out.size)
      obtain ⟨b, off, hCA, -, q0, q1, q2⟩ := (HC.out.on hbw).cols.col hkc
      have q0 : wo.cell? ⟨b, off + k * 3, none⟩ = some (.string tc[k].name) := q0
      have q1 : wo.cell? ⟨b, off + k * 3 + 1, none⟩ = some (.int .i64 tc[k].kind) := q1
      have q2 : wo.cell? ⟨b, off + k * 3 + 2, none⟩ = some (.bool tc[k].null) := q2
      have hCA : CA = some ⟨b, off, none⟩ := hCA
      obtain ⟨hk1, hk2⟩ := HV.out.kind _ (List.getElem_mem hkc)
      have hk1 : 1 ≤ tc[k].kind := hk1
      have hk2 : tc[k].kind ≤ 3 := hk2
      have HNM : Hid (NameV tc[k].name) := Lib.hid (HV.out.cname _ (List.getElem_mem hkc))
      have hnew : ∀ p ∈ cnt1 (tc.take k), p.1 ≠ tc[k].name := fun p hp e => by
        obtain ⟨c, hc, rfl⟩ := List.mem_map.1 hp
        obtain ⟨j, hj, rfl⟩ := List.getElem_of_mem hc
        have hjk : j < k := by rw [List.length_take] at hj; omega
        have hnd := List.nodup_iff_pairwise_ne.1 HND.out
        have h := List.pairwise_iff_getElem.1 hnd j k (by simp; omega) (by simp; omega) hjk
        rw [List.getElem_map, List.getElem_map] at h
        rw [List.getElem_take] at e
        exact h e
      have HSU : Hid (cnt1 (tc.take (k + 1)) = mput (cnt1 (tc.take k)) tc[k].name (.int .i64 1)) := Lib.hid (by
        rw [mput_new _ hnew]
        unfold cnt1
        rw [List.take_succ_eq_append_getElem hkc, List.map_append]
        rfl)
      obtain ⟨w5, hw5⟩ : ∃ w5, w5 = wo.alloc (.cells #[.string tc[k].name, .int .i64 tc[k].kind, .bool tc[k].null] 68) := ⟨_, rfl⟩
      have hb5 : Below wo.heap.size wo w5 := by rw [hw5]; exact (Below.refl _ _).alloc (Nat.le_refl _) _
      have hg5 : w5.heap[wo.heap.size]? = some (.cells #[.string tc[k].name, .int .i64 tc[k].kind, .bool tc[k].null] 68 (0, 0)) := by rw [hw5]; exact heap_alloc_new wo _
      have y0 := cell_of_row _ _ 0 _ _ _ hg5
      have hm5 := hm.below hb5
      have hlk := hm5.look Tryz.underlying115 Tryz.underlying9 (zero_int w5) tc[k].name
      rw [mget_none hnew] at hlk
      have hlk : (Instr.lookup 115 (.map (some mb)) (.string tc[k].name) false).run Tryz.prog w5 = .ok (.int .i64 0) w5 := hlk
      obtain ⟨w6, hup, hm6, hgr⟩ := hm5.update Tryz.underlying115 Tryz.underlying9 tc[k].name (.int .i64 1)
      have hb56 : Below w1.heap.size w5 w6 := hm5.grown hgr HMB.out.1
      have hg6 : w6.heap[wo.heap.size]? = w5.heap[wo.heap.size]? := hgr.block _ (Array.getElem?_eq_some_iff.1 hg5).1 (fun e => by injection e with e; have := hm.lt; omega)
      have HCE : Hid (∀ W, Below w6.heap.size w6 W → W.cell? ⟨wo.heap.size, 0, none⟩ = some (.string tc[k].name) ∧ W.cell? ⟨wo.heap.size, 1, none⟩ = some (.int .i64 tc[k].kind)) := Lib.hid fun W hW => by
        have hlt6 : wo.heap.size < w6.heap.size := Nat.lt_of_lt_of_le (Array.getElem?_eq_some_iff.1 hg5).1 hgr.size
        have h := (hW.block _ hlt6).trans (hg6.trans hg5)
        exact ⟨cell_of_row _ _ 0 _ _ _ h, cell_of_row _ _ 1 _ _ _ h⟩
      rw [← HSU.out] at hm6
      have HLK : Hid (∀ W, SMap W mb (cnt1 (tc.take (k + 1))) → (Instr.lookup 115 (.map (some mb)) (.string tc[k].name) false).run Tryz.prog W = .ok (.int .i64 1) W) := Lib.hid fun W hW => by
        have h := hW.look Tryz.underlying115 Tryz.underlying9 (zero_int W) tc[k].name
        rw [HSU.out, mget_put_same] at h
        exact h
      have HM6 := Lib.hid hm6
      have HB6 : Hid (Below w1.heap.size w1 w6) := Lib.hid ((hb.trans (hb5.mono hb.size)).trans hb56)
      have hlt' : (k : Int) < (n : Int) := by omega
      have hk1' : ¬ tc[k].kind < 1 := by omega
      have hk2' : ¬ 3 < tc[k].kind := by omega
      have HW5 := Lib.hid hw5
      obtain ⟨e0, e1⟩ := HCE.out w6 (Below.refl _ _)
      rw [hCA]
      clear hm hb hbw hw5 hb5 hg5 hm5 hm6 hgr hb56 hg6 hnew hCA hk1 hk2
      generalize tc[k].name = nm at *
      generalize tc[k].kind = kd at *
      go_upto_region 11 with fail
      rw [← HW5.out]
      go_wp2_with fail
      refine (HVN.out nm HNM.out w6).mono ?_
      rintro e w7 ⟨rfl, hb7⟩
      have hm7 := HM6.out.below hb7
      have hl7 := HLK.out w7 hm7
      have HF := Lib.hid (And.intro hm7 (HB6.out.trans (hb7.mono HB6.out.size)))
      clear e0 e1 hlk hup y0 q0 q1 q2
      obtain ⟨e0, e1⟩ := HCE.out w7 hb7
      clear hb7 hm7
      go_wp2_with fail
      go_roundw
      case rel => exact ⟨k + 1, by go_num, by omega, HF.out.1, HF.out.2⟩
      case measure => simp [intOf]; omega
    · have hkn' : k = n := by omega
      subst hkn'
      obtain ⟨z0, z1, z2⟩ := HBK.out wo hb
      have hbw := HB1.out.trans (hb.mono HB1.out.size)
      obtain ⟨bp, offp, hPA, -, p0⟩ := (HC.out.on hbw).pk.int (k := 0) (by show 0 < 1; omega)
      replace p0 : wo.cell? ⟨bp, offp + 0, none⟩ = some (.int .i64 0) := p0
      rw [Nat.add_zero] at p0
      have hPA : PA = some ⟨bp, offp, none⟩ := hPA
      have h0c : 0 < tc.length := by have := HN.out; omega
      obtain ⟨b, off, hCA, -, q0, q1, q2⟩ := (HC.out.on hbw).cols.col h0c
      replace q2 : wo.cell? ⟨b, off + 2, none⟩ = some (.bool tc[0].null) := by have h := q2; rwa [Nat.zero_mul, Nat.add_zero] at h
      have hnl : tc[0].null = false := by
        obtain ⟨-, h2, h3⟩ := HV.out.pk 0 (by show 0 < 1; omega)
        exact h3
      rw [hnl] at q2
      have hCA : CA = some ⟨b, off, none⟩ := hCA
      rw [hCA] at z1
      rw [hPA] at z2
      have HF := Lib.hid hbw
      have hz0 : (0 : Int) < (k : Int) := by omega
      have hz1 : ¬ (k : Int) ≤ 0 := by omega
      have hz2 : ¬ k = 0 := by omega
      clear hm hb hbw hnl q0 q1
      go_wp2_with fail
      go_loopw [6, 61] (fun v6 vi wr => (vi = .int .i64 0 ∧ v6 = .int .i64 (-1) ∧ wo = wr) ∨ (vi = .int .i64 1 ∧ v6 = .int .i64 0 ∧ wo = wr)) (fun _ vi _ => 1 - (intOf vi).toNat)
      case atStart => exact .inl ⟨rfl, rfl, rfl⟩
      case round =>
        rcases hrel with ⟨rfl, rfl, rfl⟩ | ⟨rfl, rfl, rfl⟩
        · go_wp2_with fail
          go_roundw
          case rel => exact .inr ⟨by go_num, rfl, trivial⟩
          case measure => simp [intOf]
        · go_wp2_with fail
          go_ret
          exact ⟨rfl, HF.out⟩

set_option maxRecDepth 100000 in
set_option maxHeartbeats 4000000 in
theorem rFindTable (s : Sc) (name : ByteArray) (i : Nat) (w : World) (hs : ScOk (· < w.heap.size) w s) (hl : s.tabs.length ≤ 1000) (hi : i < s.tabs.length) (hn : tabI name s.tabs = (i : Int)) (tb toff : Nat) (hTA : s.TA = some ⟨tb, toff, none⟩) :
    Calls Tryz.prog 30 #[s.v, .string name] w fun e w' => e = .returned (.pointer (some ⟨tb, toff + i * 3, none⟩)) ∧ Below w.heap.size w w' := by
  have hlt : ∀ (j : Nat) (hj : j < s.tabs.length), j < i → (s.tabs[j].name.toList == name.toList) = false := fun j hj hji => by
    cases hb : (s.tabs[j].name.toList == name.toList) with
    | false => rfl
    | true =>
      have hany : s.tabs.any (fun t => t.name.toList == name.toList) = true := List.any_eq_true.2 ⟨_, List.getElem_mem hj, hb⟩
      unfold tabI fidx at hn
      rw [if_pos hany] at hn
      have hle : s.tabs.findIdx (fun t => t.name.toList == name.toList) ≤ j := Nat.le_of_not_lt fun h => by
        have h2 := List.not_of_lt_findIdx h
        simp only [hb] at h2
        cases h2
      omega
  have hat : (s.tabs[i].name.toList == name.toList) = true := by
    unfold tabI fidx at hn
    by_cases hany : s.tabs.any (fun t => t.name.toList == name.toList) = true
    · rw [if_pos hany] at hn
      have hii : s.tabs.findIdx (fun t => t.name.toList == name.toList) = i := by omega
      have h := List.findIdx_getElem (xs := s.tabs) (p := fun t => t.name.toList == name.toList) (w := by rw [hii]; exact hi)
      simpa [hii] using h
    · rw [if_neg hany] at hn
      omega
  obtain ⟨n, hn2⟩ : ∃ n, s.tabs.length = n := ⟨_, rfl⟩
  obtain ⟨w1, hw1⟩ : ∃ w1, w1 = w.alloc (.cells #[.slice (some ⟨tb, toff, none⟩) n s.tc, .slice s.FA s.fks.length s.fc, .slice s.NA s.cns.length s.nc] 27) := ⟨_, rfl⟩
  have hb1 : Below w.heap.size w w1 := by rw [hw1]; exact (Below.refl _ _).alloc (Nat.le_refl _) _
  have hg1 : w1.heap[w.heap.size]? = some (.cells #[.slice (some ⟨tb, toff, none⟩) n s.tc, .slice s.FA s.fks.length s.fc, .slice s.NA s.cns.length s.nc] 27 (0, 0)) := by rw [hw1]; exact heap_alloc_new w _
  have c0 := cell_of_row _ _ 0 _ _ _ hg1
  have HT := Lib.hid (hs.on hb1).tabs
  have HLT := Lib.hid hlt
  have HAT := Lib.hid hat
  have HN := Lib.hid hn2
  have HTA := Lib.hid hTA
  have HB1 := Lib.hid hb1
  have HW1 := Lib.hid hw1
  have hin : i < n := by omega
  have hn1000 : n ≤ 1000 := by omega
  unfold Sc.v Sc.cells
  rw [hTA, hn2]
  clear hs hl hn hlt hat hw1 hb1 hg1 hn2 hTA
  go_enter Tryz.func30, Tryz.ntmps30
  go_upto_region 1 with fail
  rw [← HW1.out]
  go_wp2_with fail
  go_loopw [9] (fun vi wr => ∃ k : Nat, vi = .int .i64 (k : Int) ∧ k ≤ i ∧ w1 = wr) (fun vi _ => i - (intOf vi).toNat)
  case atStart => exact ⟨0, rfl, by omega, rfl⟩
  case round =>
    obtain ⟨k, rfl, hki, rfl⟩ := hrel
    have hkt : k < s.tabs.length := by have := HN.out; omega
    obtain ⟨tb', toff', e, -, p0, -, -⟩ := HT.out.tbl hkt
    rw [HTA.out] at e
    injection e with e
    injection e with e1 e2
    subst e1 e2
    have hkn : (k : Int) < (n : Int) := by omega
    by_cases hlt : k < i
    · have hb := HLT.out k hkt hlt
      generalize s.tabs[k].name = nm at *
      go_wp2_with fail
      go_roundw
      case rel => exact ⟨k + 1, by go_num, by omega, by trivial⟩
      case measure => simp [intOf]; omega
    · have hki' : k = i := by omega
      subst hki'
      have hb := HAT.out
      generalize s.tabs[k].name = nm at *
      go_wp2_with fail
      go_ret
      exact ⟨rfl, HB1.out⟩
end Go.Proofs.YtefifkleamiabaaGreatDoor

namespace Go.Proofs.YtefifkleamiabaaGreatDoor
open Go.RowKit Go.Sort

set_option maxRecDepth 100000 in
set_option maxHeartbeats 8000000 in
theorem rValidateFk (s : Sc) (f : FkM) (i k : Nat) (w : World) (hs : ScOk (· < w.heap.size) w s) (hf : Elems 1 intCs w (· < w.heap.size) f.A f.cols) (hv : FkV s f i k) (hl : s.tabs.length ≤ 1000) (hfl : f.cols.length ≤ 1000) :
    Calls Tryz.prog 54 #[s.v, f.val] w fun e w' => e = .returned (.int .i64 0) ∧ Below w.heap.size w w' := by
  have hil := hv.il
  have hkl := hv.kl
  obtain ⟨tb, toff, hTA, -, -⟩ := hs.tabs.tbl (k := 0) (by omega)
  have HF1 : Hid (∀ W m, Below w.heap.size w W → Calls Tryz.prog 30 #[s.v, .string f.name] (W.drewN m) fun e w' => e = .returned (.pointer (some ⟨tb, toff + i * 3, none⟩)) ∧ Below W.heap.size W w') := Lib.hid fun W m hW => by
    have hd : Below W.heap.size W (W.drewN m) := below_drewN (Below.refl _ _) m
    exact (rFindTable s f.name i (W.drewN m) (hs.on (hW.trans (hd.mono hW.size))) hl hil hv.fi tb toff hTA).mono fun e w' h => ⟨h.1, hd.trans h.2⟩
  have HF2 : Hid (∀ W m, Below w.heap.size w W → Calls Tryz.prog 30 #[s.v, .string f.ref] (W.drewN m) fun e w' => e = .returned (.pointer (some ⟨tb, toff + k * 3, none⟩)) ∧ Below W.heap.size W w') := Lib.hid fun W m hW => by
    have hd : Below W.heap.size W (W.drewN m) := below_drewN (Below.refl _ _) m
    exact (rFindTable s f.ref k (W.drewN m) (hs.on (hW.trans (hd.mono hW.size))) hl hkl hv.fk tb toff hTA).mono fun e w' h => ⟨h.1, hd.trans h.2⟩
  obtain ⟨n, hn⟩ : ∃ n, f.cols.length = n := ⟨_, rfl⟩
  have hpn : s.tabs[k].pk.length = n := by rw [← hn]; exact hv.len.symm
  obtain ⟨w1, hw1⟩ : ∃ w1, w1 = (w.alloc (.cells s.cells 27)).alloc (.cells #[.string f.name, .slice f.A n f.c, .string f.ref] 73) := ⟨_, rfl⟩
  obtain ⟨g0, g1, hb1, hs1⟩ := (show w1.heap[w.heap.size]? = some (.cells s.cells 27 (0, 0)) ∧ w1.heap[w.heap.size + 1]? = some (.cells #[.string f.name, .slice f.A n f.c, .string f.ref] 73 (0, 0)) ∧ Below w.heap.size w w1 ∧ w1.heap.size = w.heap.size + 2 from by
    rw [hw1]
    exact ⟨by rw [Below.heap_alloc _ _ _ (by simp)]; exact heap_alloc_new w _, alloc2_at w _ _, ((Below.refl _ _).alloc (Nat.le_refl _) _).alloc (le_size1 (Nat.le_refl _) _) _, by simp⟩)
  unfold Sc.cells at g0
  have HSX : Hid (∀ W, Below w1.heap.size w1 W → W.cell? ⟨w.heap.size, 0, none⟩ = some (.slice s.TA s.tabs.length s.tc) ∧ W.cell? ⟨w.heap.size, 1, none⟩ = some (.slice s.FA s.fks.length s.fc) ∧ W.cell? ⟨w.heap.size, 2, none⟩ = some (.slice s.NA s.cns.length s.nc) ∧ W.cell? ⟨w.heap.size + 1, 0, none⟩ = some (.string f.name) ∧ W.cell? ⟨w.heap.size + 1, 1, none⟩ = some (.slice f.A n f.c) ∧ W.cell? ⟨w.heap.size + 1, 2, none⟩ = some (.string f.ref)) := Lib.hid fun W hW => by
    have e0 := (hW.block w.heap.size (by omega)).trans g0
    have e1 := (hW.block (w.heap.size + 1) (by omega)).trans g1
    exact ⟨cell_of_row _ _ 0 _ _ _ e0, cell_of_row _ _ 1 _ _ _ e0, cell_of_row _ _ 2 _ _ _ e0, cell_of_row _ _ 0 _ _ _ e1, cell_of_row _ _ 1 _ _ _ e1, cell_of_row _ _ 2 _ _ _ e1⟩
  have HTK : Hid (∀ W, Below w.heap.size w W → (W.cell? ⟨tb, toff + i * 3 + 1, none⟩ = some (.slice s.tabs[i].CA s.tabs[i].cols.length s.tabs[i].cc)) ∧ W.cell? ⟨tb, toff + k * 3 + 1, none⟩ = some (.slice s.tabs[k].CA s.tabs[k].cols.length s.tabs[k].cc) ∧ W.cell? ⟨tb, toff + k * 3 + 2, none⟩ = some (.slice s.tabs[k].PA n s.tabs[k].pc)) := Lib.hid fun W hW => by
    obtain ⟨tb1, to1, e1, -, p0, p1, p2⟩ := (hs.on hW).tabs.tbl hil
    obtain ⟨tb2, to2, e2, -, q0, q1, q2⟩ := (hs.on hW).tabs.tbl hkl
    rw [hTA] at e1 e2
    injection e1 with e1
    injection e1 with e11 e12
    injection e2 with e2
    injection e2 with e21 e22
    subst e11 e12 e21 e22
    rw [hpn] at q2
    exact ⟨p1, q1, q2⟩
  have HTI := Lib.hid fun W (hW : Below w.heap.size w W) => (hs.on hW).tab _ (List.getElem_mem hil)
  have HTKK := Lib.hid fun W (hW : Below w.heap.size w W) => (hs.on hW).tab _ (List.getElem_mem hkl)
  have HFC := Lib.hid hf
  have HV := Lib.hid hv
  have HN := Lib.hid (And.intro hn hpn)
  have HB1 := Lib.hid hb1
  have HW1 := Lib.hid hw1
  rw [hn] at hfl
  have hs0 := HSX.out w1 (Below.refl _ _)
  unfold Sc.cells at HW1
  unfold Sc.v Sc.cells at HF1 HF2 ⊢
  unfold FkM.val
  rw [hn]
  clear hs hf hv hn hpn hw1 g0 g1 hb1 hs1 hTA hl
  go_enter Tryz.func54, Tryz.ntmps54
  go_upto_region 1 with fail
  rw [← HW1.out]
  go_cut [5, 6] from 9 to 16 (fun v5 v6 wx => v5 = .pointer (some ⟨tb, toff + i * 3, none⟩) ∧ v6 = .pointer (some ⟨tb, toff + k * 3, none⟩) ∧ Below w1.heap.size w1 wx)
  case first =>
    go_region_held3 (fun W => W.cell? ⟨w.heap.size, 0, none⟩ = some (.slice s.TA s.tabs.length s.tc) ∧ W.cell? ⟨w.heap.size, 1, none⟩ = some (.slice s.FA s.fks.length s.fc) ∧ W.cell? ⟨w.heap.size, 2, none⟩ = some (.slice s.NA s.cns.length s.nc) ∧ W.cell? ⟨w.heap.size + 1, 0, none⟩ = some (.string f.name) ∧ W.cell? ⟨w.heap.size + 1, 1, none⟩ = some (.slice f.A n f.c) ∧ W.cell? ⟨w.heap.size + 1, 2, none⟩ = some (.string f.ref)) (first | exact hs0 | exact s9 | exact s8)
      (first
      | (go_at_call 30; refine (HF2.out w2 0 (HB1.out.trans (hb2.mono HB1.out.size))).mono ?_; rintro e w3 ⟨rfl, hb3⟩; have s9 := HSX.out w3 (hb2.trans (hb3.mono hb2.size)))
      | (go_at_call 30; refine (HF1.out w1 1 HB1.out).mono ?_; rintro e w2 ⟨rfl, hb2⟩; have s8 := HSX.out w2 hb2))
    all_goals
      have HB3 := Lib.hid (hb2.trans (hb3.mono hb2.size))
      clear hb2 hb3 s8 s9
      go_wp2_with fail
      go_meet
      exact ⟨rfl, rfl, HB3.out⟩
  case rest =>
    obtain ⟨rfl, rfl, hb2⟩ := hcut
    obtain ⟨w2, rfl⟩ : ∃ w2, w2 = wc := ⟨_, rfl⟩
    have HB2 := Lib.hid (And.intro hb2 (HB1.out.trans (hb2.mono HB1.out.size)))
    obtain ⟨-, -, -, f0, f1, f2⟩ := HSX.out w2 hb2
    obtain ⟨t1, r1, r2⟩ := HTK.out w2 HB2.out.2
    clear hb2 hs0
    go_upto_region 4 with fail
    go_quiet (fail)
    go_wp2_with fail
    go_loopw [37] (fun vi wr => ∃ m : Nat, vi = .int .i64 (m : Int) ∧ m ≤ n ∧ Below w2.heap.size w2 wr) (fun vi _ => n - (intOf vi).toNat)
    case atStart => exact ⟨0, rfl, by omega, by first | exact Below.refl _ _ | exact below_drewN (Below.refl _ _) _⟩
    case round =>
      obtain ⟨m, rfl, hmn, hb⟩ := hrel
      obtain ⟨wo, rfl⟩ : ∃ wo, wo = wr := ⟨_, rfl⟩
      have hbo := HB2.out.2.trans (hb.mono HB2.out.2.size)
      by_cases hlt : m < n
      · have hmf : m < f.cols.length := by have := HN.out.1; omega
        have hmp : m < s.tabs[k].pk.length := by have := HN.out.2; omega
        obtain ⟨v0, v1, v2, v3, v4⟩ := HV.out.col m hmf hmp
        obtain ⟨c, hc⟩ := Int.eq_ofNat_of_zero_le v0
        obtain ⟨p, hp⟩ := Int.eq_ofNat_of_zero_le v2
        rw [hc] at v1 v4
        rw [hp] at v3 v4
        rw [Int.toNat_natCast, Int.toNat_natCast] at v4
        have hci : c < s.tabs[i].cols.length := by omega
        have hpk2 : p < s.tabs[k].cols.length := by omega
        have v4 : s.tabs[i].cols[c].kind = s.tabs[k].cols[p].kind := by
          have h := v4
          rw [List.getD_eq_getElem?_getD, List.getD_eq_getElem?_getD, List.getElem?_eq_getElem hci, List.getElem?_eq_getElem hpk2] at h
          exact h
        obtain ⟨bf, of, hFA, -, q0⟩ := (HFC.out.on hbo).int hmf
        rw [hc] at q0
        obtain ⟨b3, o3, hC1, -, -, y1, -⟩ := (HTI.out wo hbo).cols.col hci
        obtain ⟨b4, o4, hC2, -, -, y2, -⟩ := (HTKK.out wo hbo).cols.col hpk2
        obtain ⟨b5, o5, hP5, -, y3⟩ := (HTKK.out wo hbo).pk.int hmp
        rw [hp] at y3
        rw [v4] at y1
        have hb1o := HB2.out.1.trans (hb.mono HB2.out.1.size)
        clear f0 f1 f2 t1 r1 r2
        obtain ⟨-, -, -, f0, f1, f2⟩ := HSX.out wo hb1o
        obtain ⟨t1, r1, r2⟩ := HTK.out wo hbo
        rw [hC1] at t1
        rw [hC2] at r1
        rw [hP5] at r2
        have HBO := Lib.hid hb
        rw [hFA]
        have hlt' : (m : Int) < (n : Int) := by omega
        have hci' : (c : Int) < (s.tabs[i].cols.length : Int) := by omega
        have hci2 : ¬ (s.tabs[i].cols.length : Int) ≤ (c : Int) := by omega
        have hpk3 : (p : Int) < (s.tabs[k].cols.length : Int) := by omega
        clear hb hbo hb1o v0 v1 v2 v3 v4 hc hp hC1 hC2 hP5 hFA
        go_upto_region 11 with fail
        go_quiet (fail)
        go_wp2_with fail
        go_roundw
        case rel => exact ⟨m + 1, by go_num, by omega, below_drewN HBO.out _⟩
        case measure => simp [intOf]; omega
      · have hmn' : m = n := by omega
        subst hmn'
        have HE := Lib.hid hbo
        clear hb hbo
        go_wp2_with fail
        go_ret
        exact ⟨rfl, HE.out⟩
end Go.Proofs.YtefifkleamiabaaGreatDoor

namespace Go.Proofs.YtefifkleamiabaaGreatDoor
open Go.RowKit Go.Sort

set_option maxRecDepth 100000 in
theorem rValidOp (op : ByteArray) (w : World) (h : OpV op) :
    Calls Tryz.prog 95 #[.string op] w fun e w' => e = .returned (.bool true) ∧ w = w' := by
  have e1 : ((⟨#[60]⟩ : ByteArray).toList == (⟨#[61]⟩ : ByteArray).toList) = false := by decide +kernel
  have e2 : ((⟨#[60, 61]⟩ : ByteArray).toList == (⟨#[61]⟩ : ByteArray).toList) = false := by decide +kernel
  have e3 : ((⟨#[60, 61]⟩ : ByteArray).toList == (⟨#[60]⟩ : ByteArray).toList) = false := by decide +kernel
  rcases h with rfl | rfl | rfl
  all_goals
    go_enter Tryz.func95, Tryz.ntmps95
    go_wp2_with fail
    go_ret
    exact ⟨rfl, rfl⟩

set_option maxRecDepth 100000 in
set_option maxHeartbeats 8000000 in
theorem rValidateCn (s : Sc) (c : Cn) (i l : Nat) (w : World) (hs : ScOk (· < w.heap.size) w s) (hv : CnV s c i l) (hl : s.tabs.length ≤ 1000) :
    Calls Tryz.prog 56 #[s.v, .agg c.cells] w fun e w' => e = .returned (.int .i64 0) ∧ Below w.heap.size w w' := by
  have hil := hv.il
  have hll := hv.ll
  have hleft := hv.left
  have hright := hv.right
  have hkind := hv.kind
  obtain ⟨tb, toff, hTA, -, -⟩ := hs.tabs.tbl (k := 0) (by omega)
  have HF1 := Lib.hid fun W (hW : Below w.heap.size w W) => rFindTable s c.name i W (hs.on hW) hl hil hv.fi tb toff hTA
  obtain ⟨n, hn⟩ : ∃ n, s.tabs[i].cols.length = n := ⟨_, rfl⟩
  have hln : l < n := by omega
  obtain ⟨w1, hw1⟩ : ∃ w1, w1 = (w.alloc (.cells s.cells 27)).alloc (.cells c.cells 62) := ⟨_, rfl⟩
  obtain ⟨g0, g1, hb1, hs1⟩ := (show w1.heap[w.heap.size]? = some (.cells s.cells 27 (0, 0)) ∧ w1.heap[w.heap.size + 1]? = some (.cells c.cells 62 (0, 0)) ∧ Below w.heap.size w w1 ∧ w1.heap.size = w.heap.size + 2 from by
    rw [hw1]
    exact ⟨by rw [Below.heap_alloc _ _ _ (by simp)]; exact heap_alloc_new w _, alloc2_at w _ _, ((Below.refl _ _).alloc (Nat.le_refl _) _).alloc (le_size1 (Nat.le_refl _) _) _, by simp⟩)
  unfold Sc.cells at g0
  have HSX : Hid (∀ W, Below w1.heap.size w1 W → (W.cell? ⟨w.heap.size, 0, none⟩ = some (.slice s.TA s.tabs.length s.tc) ∧ W.cell? ⟨w.heap.size, 1, none⟩ = some (.slice s.FA s.fks.length s.fc) ∧ W.cell? ⟨w.heap.size, 2, none⟩ = some (.slice s.NA s.cns.length s.nc)) ∧ (W.cell? ⟨w.heap.size + 1, 0, none⟩ = some (.string c.name) ∧ W.cell? ⟨w.heap.size + 1, 1, none⟩ = some (.int .i64 (l : Int)) ∧ W.cell? ⟨w.heap.size + 1, 2, none⟩ = some (.string c.op) ∧ W.cell? ⟨w.heap.size + 1, 3, none⟩ = some (.int .i64 (-1)) ∧ W.cell? ⟨w.heap.size + 1, 4, none⟩ = some (.int .i64 c.val.kind) ∧ W.cell? ⟨w.heap.size + 1, 5, none⟩ = some (.int .i64 c.val.int) ∧ W.cell? ⟨w.heap.size + 1, 6, none⟩ = some (.string c.val.text))) := Lib.hid fun W hW => by
    have e0 := (hW.block w.heap.size (by omega)).trans g0
    have e1 := (hW.block (w.heap.size + 1) (by omega)).trans g1
    unfold Cn.cells at e1
    rw [hleft, hright] at e1
    exact ⟨⟨cell_of_row _ _ 0 _ _ _ e0, cell_of_row _ _ 1 _ _ _ e0, cell_of_row _ _ 2 _ _ _ e0⟩, cell_of_row _ _ 0 _ _ _ e1, cell_of_row _ _ 1 _ _ _ e1, cell_of_row _ _ 2 _ _ _ e1, cell_of_row _ _ 3 _ _ _ e1, cell_of_row _ _ 4 _ _ _ e1, cell_of_row _ _ 5 _ _ _ e1, cell_of_row _ _ 6 _ _ _ e1⟩
  have HTK : Hid (∀ W, Below w.heap.size w W → ∃ cb co, s.tabs[i].CA = some ⟨cb, co, none⟩ ∧ W.cell? ⟨tb, toff + i * 3 + 1, none⟩ = some (.slice (some ⟨cb, co, none⟩) n s.tabs[i].cc) ∧ W.cell? ⟨cb, co + l * 3 + 1, none⟩ = some (.int .i64 c.val.kind)) := Lib.hid fun W hW => by
    obtain ⟨tb1, to1, e1, -, p0, p1, p2⟩ := (hs.on hW).tabs.tbl hil
    rw [hTA] at e1
    injection e1 with e1
    injection e1 with e11 e12
    subst e11 e12
    obtain ⟨cb, co, e2, -, q0, q1, q2⟩ := ((hs.on hW).tab _ (List.getElem_mem hil)).cols.col hll
    rw [hn, e2] at p1
    rw [← hkind] at q1
    exact ⟨cb, co, e2, p1, q1⟩
  have HVO := Lib.hid fun W => rValidOp c.op W hv.op
  have HVL := Lib.hid fun W => rValidate c.val W hv.err
  have HB1 := Lib.hid hb1
  have HW1 := Lib.hid hw1
  obtain ⟨⟨s0, s1, s2⟩, k0, k1, k2, k3, k4, k5, k6⟩ := HSX.out w1 (Below.refl _ _)
  have hln1 : (l : Int) < (n : Int) := by omega
  have hln2 : ¬ (n : Int) ≤ (l : Int) := by omega
  have hln3 : ¬ (n : Int) ≤ (-1 : Int) := by omega
  unfold Sc.cells Cn.cells at HW1
  unfold Sc.v Sc.cells at HF1 ⊢
  unfold Cn.cells
  rw [hleft, hright] at HW1 ⊢
  clear hs hn hw1 g0 g1 hb1 hs1 hTA hl hleft hright hkind
  go_enter Tryz.func56, Tryz.ntmps56
  go_upto_region 1 with fail
  rw [← HW1.out]
  go_wp2_with fail
  refine (HF1.out w1 HB1.out).mono ?_
  rintro e w2 ⟨rfl, hb2⟩
  have HB2 := Lib.hid (And.intro hb2 (HB1.out.trans (hb2.mono HB1.out.size)))
  clear hb2 s0 s1 s2 k0 k1 k2 k3 k4 k5 k6
  obtain ⟨⟨s0, s1, s2⟩, k0, k1, k2, k3, k4, k5, k6⟩ := HSX.out w2 HB2.out.1
  obtain ⟨cb, co, -, t1, t2⟩ := HTK.out w2 HB2.out.2
  go_wp2_with fail
  refine (HVO.out w2).mono ?_
  rintro e w3 ⟨rfl, rfl⟩
  go_wp2_with fail
  go_quiet (fail)
  go_wp2_with fail
  refine (HVL.out _).mono ?_
  rintro e w4 ⟨rfl, hb4⟩
  have HB4 : Hid (Below w.heap.size w w4) := Lib.hid (HB2.out.2.trans ((below_drewN (Below.refl _ _) _).trans (hb4.mono (Nat.le_refl _)) |>.mono HB2.out.2.size))
  clear hb4
  go_wp2_with fail
  go_ret
  exact ⟨rfl, HB4.out⟩
end Go.Proofs.YtefifkleamiabaaGreatDoor

namespace Go.Proofs.YtefifkleamiabaaGreatDoor
open Go.RowKit Go.Sort

/-- A schema that the reference takes for valid by this walk: keys at the first column, names apart, at most one key and one constraint. -/
structure RefS (s : Sc) : Prop where
  val : SchV s
  one : s.fks.length = 1
  pk : ∀ t ∈ s.tabs, t.pk = [0]
  nd : ∀ t ∈ s.tabs, (t.cols.map Col.name).Nodup
  less : ∀ (i : Nat) (h : i + 1 < s.tabs.length), Op.bytesLess s.tabs[i].name.toList s.tabs[i + 1].name.toList = true
  fk : ∀ f ∈ s.fks, f.name.size < 10 ∧ f.ref.size < 10 ∧ f.cols.length ≤ 6 ∧ ∀ c ∈ f.cols, 0 ≤ c ∧ c < 10
theorem bSc_ref {T IA IP OA OP F FC N : Option Addr} : RefS (bSc T IA IP OA OP F FC N) where
  val := bSc_val
  one := rfl
  pk := fun t ht => by
    simp only [bSc, List.mem_cons, List.not_mem_nil, or_false] at ht
    rcases ht with rfl | rfl <;> rfl
  nd := fun t ht => by
    simp only [bSc, List.mem_cons, List.not_mem_nil, or_false] at ht
    rcases ht with rfl | rfl
    · show (itemCols.map Col.name).Nodup
      decide +kernel
    · show (orderCols.map Col.name).Nodup
      decide +kernel
  less := by
    intro i h
    have h : i + 1 < 2 := h
    obtain rfl : i = 0 := by omega
    show Op.bytesLess nItem.toList nOrder.toList = true
    decide +kernel
  fk := fun f hf => by
    simp only [bSc, List.mem_cons, List.not_mem_nil, or_false] at hf
    subst hf
    refine ⟨by show nOrder.size < 10; decide +kernel, by show nItem.size < 10; decide +kernel, by show 1 ≤ 6; omega, fun c hc => ?_⟩
    rw [List.mem_singleton.1 (show c ∈ [(1 : Int)] from hc)]
    omega

set_option maxRecDepth 100000 in
set_option maxHeartbeats 8000000 in
theorem rValidateSchema (s : Sc) (w : World) (hs : ScOk (· < w.heap.size) w s) (hr : RefS s) :
    Calls Tryz.prog 27 #[s.v] w fun e w' => e = .returned (.int .i64 0) ∧ Below w.heap.size w w' := by
  obtain ⟨n, hn⟩ : ∃ n, s.tabs.length = n := ⟨_, rfl⟩
  obtain ⟨n2, hn2⟩ : ∃ n2, s.fks.length = n2 := ⟨_, rfl⟩
  obtain ⟨n3, hn3⟩ : ∃ n3, s.cns.length = n3 := ⟨_, rfl⟩
  have hn6 : n ≤ 6 := by rw [← hn]; exact hr.val.ntab
  obtain rfl : n2 = 1 := by rw [← hn2]; exact hr.one
  have hn31 : n3 ≤ 1 := by rw [← hn3]; exact hr.val.ncn
  obtain ⟨w1, hw1⟩ : ∃ w1, w1 = w.alloc (.cells #[.slice s.TA n s.tc, .slice s.FA 1 s.fc, .slice s.NA n3 s.nc] 27) := ⟨_, rfl⟩
  have hb1 : Below w.heap.size w w1 := by rw [hw1]; exact (Below.refl _ _).alloc (Nat.le_refl _) _
  have hg1 : w1.heap[w.heap.size]? = some (.cells #[.slice s.TA n s.tc, .slice s.FA 1 s.fc, .slice s.NA n3 s.nc] 27 (0, 0)) := by rw [hw1]; exact heap_alloc_new w _
  have hs1 : w.heap.size < w1.heap.size := by rw [hw1]; simp
  have HBK : Hid (∀ W, Below w1.heap.size w1 W → W.cell? ⟨w.heap.size, 0, none⟩ = some (.slice s.TA n s.tc) ∧ W.cell? ⟨w.heap.size, 1, none⟩ = some (.slice s.FA 1 s.fc) ∧ W.cell? ⟨w.heap.size, 2, none⟩ = some (.slice s.NA n3 s.nc)) := Lib.hid fun W hW => by
    have h := (hW.block w.heap.size hs1).trans hg1
    exact ⟨cell_of_row _ _ 0 _ _ _ h, cell_of_row _ _ 1 _ _ _ h, cell_of_row _ _ 2 _ _ _ h⟩
  have HTV := Lib.hid fun W (hW : Below w.heap.size w W) t (ht : t ∈ s.tabs) => rValidateTable t W ((hs.on hW).tab t ht) (hr.val.tab t ht) (hr.nd t ht) (hr.pk t ht)
  have HFV := Lib.hid fun W (hW : Below w.heap.size w W) f (hf : f ∈ s.fks) => rValidateFk s f _ _ W (hs.on hW) ((hs.on hW).fk f hf) (hr.val.fk f hf).2.choose_spec.choose_spec (by omega) (hr.val.fk f hf).1
  have HFI := Lib.hid fun W (hW : Below w.heap.size w W) f (hf : f ∈ s.fks) => foreignKeyIDW f W ((hs.on hW).fk f hf) (hr.fk f hf).1 (hr.fk f hf).2.1 (hr.fk f hf).2.2.1 (hr.fk f hf).2.2.2
  have HCV := Lib.hid fun W (hW : Below w.heap.size w W) c (hc : c ∈ s.cns) => rValidateCn s c _ _ W (hs.on hW) (hr.val.cn c hc).choose_spec.choose_spec (by omega)
  have HSC := Lib.hid hs
  have HR := Lib.hid hr
  have HN := Lib.hid (And.intro hn (And.intro hn2 hn3))
  have HB1 := Lib.hid hb1
  have HW1 := Lib.hid hw1
  have hmm := @run_makeMap Tryz.prog
  obtain ⟨c0, c1, c2⟩ := HBK.out w1 (Below.refl _ _)
  unfold Sc.v Sc.cells at HFV HCV ⊢
  rw [hn, hn2, hn3] at HFV HCV ⊢
  clear hs hr hn hn2 hn3 hw1 hb1 hg1 hs1
  go_enter Tryz.func27, Tryz.ntmps27
  go_upto_region 1 with fail
  rw [← HW1.out]
  go_wp2_with fail
  go_loopw [35] (fun vi wr => ∃ k : Nat, vi = .int .i64 (k : Int) ∧ k ≤ n ∧ Below w1.heap.size w1 wr) (fun vi _ => n - (intOf vi).toNat)
  case atStart => exact ⟨0, rfl, by omega, Below.refl _ _⟩
  case round =>
    obtain ⟨k, rfl, hkn, hb⟩ := hrel
    obtain ⟨wo, rfl⟩ : ∃ wo, wo = wr := ⟨_, rfl⟩
    have hbw := HB1.out.trans (hb.mono HB1.out.size)
    by_cases hlt : k < n
    · have hkt : k < s.tabs.length := by have := HN.out.1; omega
      obtain ⟨tb, toff, hTA, -, p0, p1, p2⟩ := (HSC.out.on hbw).tabs.tbl hkt
      obtain ⟨w5, hw5⟩ : ∃ w5, w5 = wo.alloc (.cells #[.string s.tabs[k].name, .slice s.tabs[k].CA s.tabs[k].cols.length s.tabs[k].cc, .slice s.tabs[k].PA s.tabs[k].pk.length s.tabs[k].pc] 71) := ⟨_, rfl⟩
      have hb5 : Below wo.heap.size wo w5 := by rw [hw5]; exact (Below.refl _ _).alloc (Nat.le_refl _) _
      have hg5 : w5.heap[wo.heap.size]? = some (.cells #[.string s.tabs[k].name, .slice s.tabs[k].CA s.tabs[k].cols.length s.tabs[k].cc, .slice s.tabs[k].PA s.tabs[k].pk.length s.tabs[k].pc] 71 (0, 0)) := by rw [hw5]; exact heap_alloc_new wo _
      have hs5 : wo.heap.size < w5.heap.size := by rw [hw5]; simp
      have HTB : Hid (∀ W, Below w5.heap.size w5 W → W.cell? ⟨wo.heap.size, 0, none⟩ = some (.string s.tabs[k].name) ∧ W.cell? ⟨wo.heap.size, 1, none⟩ = some (.slice s.tabs[k].CA s.tabs[k].cols.length s.tabs[k].cc) ∧ W.cell? ⟨wo.heap.size, 2, none⟩ = some (.slice s.tabs[k].PA s.tabs[k].pk.length s.tabs[k].pc)) := Lib.hid fun W hW => by
        have h := (hW.block wo.heap.size hs5).trans hg5
        exact ⟨cell_of_row _ _ 0 _ _ _ h, cell_of_row _ _ 1 _ _ _ h, cell_of_row _ _ 2 _ _ _ h⟩
      obtain ⟨y0, y1, y2⟩ := HTB.out w5 (Below.refl _ _)
      have HB5 := Lib.hid (And.intro (hb.trans (hb5.mono hb.size)) (hbw.trans (hb5.mono hbw.size)))
      have HVT := Lib.hid (HTV.out w5 HB5.out.2 _ (List.getElem_mem hkt))
      unfold Tbl.val at HVT
      have HW5 := Lib.hid hw5
      have hlt' : (k : Int) < (n : Int) := by omega
      have HTA := Lib.hid hTA
      rw [hTA]
      clear hb hbw hw5 hb5 hg5 hs5 hTA
      go_upto_region 6 with fail
      rw [← HW5.out]
      go_wp2_with fail
      refine HVT.out.mono ?_
      rintro e w6 ⟨rfl, hb6⟩
      have HB6 := Lib.hid (And.intro (HB5.out.1.trans (hb6.mono HB5.out.1.size)) (HB5.out.2.trans (hb6.mono HB5.out.2.size)))
      clear y0 y1 y2 c0 c1 c2 p0 p1 p2
      obtain ⟨y0, y1, y2⟩ := HTB.out w6 hb6
      clear hb6
      obtain ⟨c0, c1, c2⟩ := HBK.out w6 HB6.out.1
      rw [HTA.out] at c0
      by_cases hk0 : k = 0
      · have hk1 : ¬ (0 : Int) < (k : Int) := by omega
        go_upto_region 9 with fail
        go_quiet (fail)
        go_wp2_with fail
        go_roundw
        case rel => exact ⟨k + 1, by go_num, by omega, below_drewN HB6.out.1 _⟩
        case measure => simp [intOf]; omega
      · obtain ⟨j, rfl⟩ : ∃ j, k = j + 1 := ⟨k - 1, by omega⟩
        have hjt : j < s.tabs.length := by omega
        obtain ⟨tb', toff', e, -, q0, -, -⟩ := (HSC.out.on HB6.out.2).tabs.tbl hjt
        rw [HTA.out] at e
        injection e with e
        injection e with e1 e2
        subst e1 e2
        have hless := HR.out.less j hkt
        have hk1 : (0 : Int) < ((j + 1 : Nat) : Int) := by omega
        have hj2 : ((j + 1 : Nat) : Int) - 1 = (j : Int) := by omega
        have hjn : (j : Int) < (n : Int) := by omega
        generalize s.tabs[j].name = nmj at *
        generalize s.tabs[j + 1].name = nmk at *
        go_upto_region 9 with fail
        go_quiet (fail)
        go_wp2_with fail
        go_roundw
        case rel => exact ⟨j + 1 + 1, by go_num, by omega, below_drewN HB6.out.1 _⟩
        case measure => simp [intOf]; omega
    · have hkn' : k = n := by omega
      subst hkn'
      have hbw2 := hbw
      clear c0 c1 c2
      obtain ⟨c0, c1, c2⟩ := HBK.out wo hb
      obtain ⟨w3, hw3⟩ : ∃ w3, w3 = wo.alloc (.map #[] 0) := ⟨_, rfl⟩
      have hb3 : Below wo.heap.size wo w3 := by rw [hw3]; exact (Below.refl _ _).alloc (Nat.le_refl _) _
      have HM0 : Hid (SMap w3 wo.heap.size []) := Lib.hid (by rw [hw3]; exact SMap.made wo)
      have HW3 := Lib.hid hw3
      have HB3 := Lib.hid (And.intro (hb.trans (hb3.mono hb.size)) (hbw.trans (hb3.mono hbw.size)))
      have HMB : Hid (w1.heap.size ≤ wo.heap.size) := Lib.hid hb.size
      clear hw3 hb3 hb hbw hbw2
      go_upto_region 13 with fail
      rw [← HW3.out]
      obtain ⟨mb, hmb⟩ : ∃ mb, mb = wo.heap.size := ⟨_, rfl⟩
      rw [← hmb] at HM0 HMB ⊢
      clear hmb c0 c1 c2 hmm
      obtain ⟨c0, c1, c2⟩ := HBK.out w3 HB3.out.1
      go_wp2_with fail
      go_loopw [64] (fun vi wr => (vi = .int .i64 0 ∧ w3 = wr) ∨ (vi = .int .i64 1 ∧ Below w1.heap.size w1 wr)) (fun vi _ => 1 - (intOf vi).toNat)
      case atStart => exact .inl ⟨rfl, rfl⟩
      case round =>
        rcases hrel with ⟨rfl, rfl⟩ | ⟨rfl, hcut⟩
        · have hft : 0 < s.fks.length := by have := HN.out.2.1; omega
          obtain ⟨fb, fo, hFA, -, p0, p1, p2⟩ := (HSC.out.on HB3.out.2).fks.fkm hft
          rw [Nat.zero_mul, Nat.add_zero] at p0 p1 p2
          obtain ⟨w5, hw5⟩ : ∃ w5, w5 = w3.alloc (.cells #[.string s.fks[0].name, .slice s.fks[0].A s.fks[0].cols.length s.fks[0].c, .string s.fks[0].ref] 73) := ⟨_, rfl⟩
          have hb5 : Below w3.heap.size w3 w5 := by rw [hw5]; exact (Below.refl _ _).alloc (Nat.le_refl _) _
          have hg5 : w5.heap[w3.heap.size]? = some (.cells #[.string s.fks[0].name, .slice s.fks[0].A s.fks[0].cols.length s.fks[0].c, .string s.fks[0].ref] 73 (0, 0)) := by rw [hw5]; exact heap_alloc_new w3 _
          have hs5 : w3.heap.size < w5.heap.size := by rw [hw5]; simp
          have HFB : Hid (∀ W, Below w5.heap.size w5 W → W.cell? ⟨w3.heap.size, 0, none⟩ = some (.string s.fks[0].name) ∧ W.cell? ⟨w3.heap.size, 1, none⟩ = some (.slice s.fks[0].A s.fks[0].cols.length s.fks[0].c) ∧ W.cell? ⟨w3.heap.size, 2, none⟩ = some (.string s.fks[0].ref)) := Lib.hid fun W hW => by
            have h := (hW.block w3.heap.size hs5).trans hg5
            exact ⟨cell_of_row _ _ 0 _ _ _ h, cell_of_row _ _ 1 _ _ _ h, cell_of_row _ _ 2 _ _ _ h⟩
          have HB5 := Lib.hid (And.intro (HB3.out.1.trans (hb5.mono HB3.out.1.size)) (HB3.out.2.trans (hb5.mono HB3.out.2.size)))
          have HM5 := Lib.hid (HM0.out.below hb5)
          have HV5 := Lib.hid (HFV.out w5 HB5.out.2 _ (List.getElem_mem hft))
          have HI5 := Lib.hid fun W (hW : Below w.heap.size w W) => HFI.out W hW _ (List.getElem_mem hft)
          unfold FkM.val at HV5 HI5
          have HW5 := Lib.hid hw5
          obtain ⟨y0, y1, y2⟩ := HFB.out w5 (Below.refl _ _)
          have d0 := (HBK.out w5 HB5.out.1).1
          have d1 := (HBK.out w5 HB5.out.1).2.1
          have d2 := (HBK.out w5 HB5.out.1).2.2
          rw [hFA] at c1 d1 ⊢
          rw [hFA] at HV5
          have HFAH := Lib.hid hFA
          clear hw5 hb5 hg5 hs5 hFA
          go_upto_region 16 with fail
          rw [← HW5.out]
          go_wp2_with fail
          refine HV5.out.mono ?_
          rintro e w6 ⟨rfl, hb6⟩
          have HB6 := Lib.hid (And.intro (HB5.out.1.trans (hb6.mono HB5.out.1.size)) (HB5.out.2.trans (hb6.mono HB5.out.2.size)))
          have HM6 := Lib.hid (HM5.out.below hb6)
          clear y0 y1 y2 d0 d1 d2 c0 c1 c2 p0 p1 p2
          obtain ⟨y0, y1, y2⟩ := HFB.out w6 hb6
          clear hb6
          go_wp2_with fail
          refine (HI5.out w6 HB6.out.2).mono ?_
          rintro e w7 ⟨⟨t, rfl⟩, hb7⟩
          have HB7 := Lib.hid (HB6.out.1.trans (hb7.mono HB6.out.1.size))
          have hm7 := HM6.out.below hb7
          have hlk := hm7.look Tryz.underlying115 Tryz.underlying9 (zero_int w7) t
          replace hlk : (Instr.lookup 115 (.map (some mb)) (.string t) false).run Tryz.prog w7 = .ok (.int .i64 0) w7 := hlk
          obtain ⟨w8, hup, hm8, hgr⟩ := hm7.update Tryz.underlying115 Tryz.underlying9 t (.int .i64 1)
          have hl8 := hm8.look Tryz.underlying115 Tryz.underlying9 (zero_int w8) t
          rw [mget_put_same] at hl8
          replace hl8 : (Instr.lookup 115 (.map (some mb)) (.string t) false).run Tryz.prog w8 = .ok (.int .i64 1) w8 := hl8
          have HB8 := Lib.hid (HB7.out.trans (hm7.grown hgr HMB.out))
          clear hb7 hm7 hm8 hgr y0 y1 y2
          go_wp2_with fail
          go_roundw
          case rel => exact .inr ⟨by go_num, HB8.out⟩
          case measure => simp [intOf]
        · obtain ⟨w4, rfl⟩ : ∃ w4, w4 = wr := ⟨_, rfl⟩
          have HB4 := Lib.hid (And.intro hcut (HB1.out.trans (hcut.mono HB1.out.size)))
          clear hcut c0 c1 c2
          obtain ⟨c0, c1, c2⟩ := HBK.out w4 HB4.out.1
          go_wp2_with fail
          go_loopw [88] (fun vi wr => (vi = .int .i64 0 ∧ w4 = wr) ∨ (vi = .int .i64 1 ∧ n3 = 1 ∧ Below w1.heap.size w1 wr)) (fun vi _ => 1 - (intOf vi).toNat)
          case atStart => exact .inl ⟨rfl, rfl⟩
          case round =>
            rcases hrel with ⟨rfl, rfl⟩ | ⟨rfl, hn3', hb⟩
            · by_cases h0 : n3 = 0
              · subst h0
                go_wp2_with fail
                go_ret
                exact ⟨rfl, HB4.out.2⟩
              · have h1 : n3 = 1 := by omega
                have H1 := Lib.hid h1
                have h1' : (0 : Int) < (n3 : Int) := by omega
                have hct : 0 < s.cns.length := by have := HN.out.2.2; omega
                clear h1 h0
                obtain ⟨fb, fo, hFA, -, p0, p1, p2, p3, p4, p5, p6⟩ := (HSC.out.on HB4.out.2).cns.cn hct
                rw [Nat.zero_mul, Nat.add_zero] at p0 p1 p2 p3 p4 p5 p6
                obtain ⟨w5, hw5⟩ : ∃ w5, w5 = w4.alloc (.cells s.cns[0].cells 62) := ⟨_, rfl⟩
                have hb5 : Below w4.heap.size w4 w5 := by rw [hw5]; exact (Below.refl _ _).alloc (Nat.le_refl _) _
                have hg5 : w5.heap[w4.heap.size]? = some (.cells s.cns[0].cells 62 (0, 0)) := by rw [hw5]; exact heap_alloc_new w4 _
                unfold Cn.cells at hg5
                have y0 := cell_of_row _ _ 0 _ _ _ hg5
                have y1 := cell_of_row _ _ 1 _ _ _ hg5
                have y2 := cell_of_row _ _ 2 _ _ _ hg5
                have y3 := cell_of_row _ _ 3 _ _ _ hg5
                have y4 := cell_of_row _ _ 4 _ _ _ hg5
                have y5 := cell_of_row _ _ 5 _ _ _ hg5
                have y6 := cell_of_row _ _ 6 _ _ _ hg5
                have HB5 := Lib.hid (And.intro (HB4.out.1.trans (hb5.mono HB4.out.1.size)) (HB4.out.2.trans (hb5.mono HB4.out.2.size)))
                have HV5 := Lib.hid (HCV.out w5 HB5.out.2 _ (List.getElem_mem hct))
                unfold Cn.cells at HV5
                have HW5 := Lib.hid hw5
                unfold Cn.cells at HW5
                obtain ⟨d0, d1, d2⟩ := HBK.out w5 HB5.out.1
                rw [hFA] at c2 d2 ⊢
                rw [hFA] at HV5
                have HFAH := Lib.hid hFA
                clear hw5 hb5 hg5 hFA
                go_upto_region 27 with fail
                rw [← HW5.out]
                go_wp2_with fail
                refine HV5.out.mono ?_
                rintro e w6 ⟨rfl, hb6⟩
                have HB6 := Lib.hid (HB5.out.1.trans (hb6.mono HB5.out.1.size))
                clear y0 y1 y2 y3 y4 y5 y6 d0 d1 d2 c0 c1 c2 p0 p1 p2 p3 p4 p5 p6 hb6
                obtain ⟨c0, c1, c2⟩ := HBK.out w6 HB6.out
                rw [HFAH.out] at c2
                go_wp2_with fail
                go_loopw [104] (fun vi wr => vi = .int .i64 0 ∧ w6 = wr) (fun _ _ => 0)
                case atStart => exact ⟨rfl, rfl⟩
                case round =>
                  obtain ⟨rfl, rfl⟩ := hrel
                  go_wp2_with fail
                  go_roundw
                  case rel => exact .inr ⟨by go_num, H1.out, HB6.out⟩
                  case measure => simp [intOf]
            · subst hn3'
              have HF := Lib.hid (HB1.out.trans (hb.mono HB1.out.size))
              clear hb
              go_wp2_with fail
              go_ret
              exact ⟨rfl, HF.out⟩
end Go.Proofs.YtefifkleamiabaaGreatDoor
