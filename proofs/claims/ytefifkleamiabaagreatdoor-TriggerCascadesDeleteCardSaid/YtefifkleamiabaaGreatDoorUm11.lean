/-
  The walks of the reference's ValidateValue, ConformsRow, project, KeyOf, LessValue, CompareRows.
  Contracts of Go's library laid at this dump, in plain words (printed by the kit's lay-plain.mjs, one laying by hand; of the seat mig.ZD alone): strings.Builder, strings.Trim, strings.Contains.
  The walks of the reference's CompareRows at keys of one integer, ConformsRow, ValidName.
  The walks of the reference's ValidateTable, FindTable.
-/
import Derived.Test.YtefifkleamiabaaGreatDoorUm10
import Derived.Shelf.Strings.Builder1
import Derived.Shelf.Strings.SlTrimAscii
import Derived.Shelf.Strings.Search1
import Derived.Shelf.Strings.Search2
import Derived.Shelf.Strings.Search3
import Derived.Test.YtefifkleamiabaaGreatDoorProg
namespace Go.Proofs.YtefifkleamiabaaGreatDoor
open Go.RowKit Go.Sort

theorem nil_of_empty {s : ByteArray} (h : s.toList.isEmpty = true) : s = ⟨#[]⟩ := by
  have h1 : s.toList = [] := List.isEmpty_iff.1 h
  have h2 : s.data.toList = [] := by rw [ByteArray.toList_eq] at h1; exact h1
  obtain ⟨a⟩ := s
  obtain ⟨l⟩ := a
  have h2 : l = [] := h2
  subst h2
  rfl
/-- A valid value, kind by kind. -/
theorem err_cases {v : Val} (h : v.err = 0) : (v = ⟨0, 0, ⟨#[]⟩⟩) ∨ (v.kind = 1 ∧ v.text = ⟨#[]⟩ ∧ -1000000000000 ≤ v.int ∧ v.int ≤ 1000000000000) ∨ (v.kind = 2 ∧ v.text = ⟨#[]⟩ ∧ (v.int = 0 ∨ v.int = 1)) ∨ (v.kind = 3 ∧ v.int = 0 ∧ v.text.size ≤ 24) := by
  obtain ⟨k, n, s⟩ := v
  have h : vErr k n s = 0 := h
  unfold vErr at h
  by_cases h0 : k = 0
  · rw [if_pos h0] at h
    by_cases h1 : n = 0 ∧ s.toList.isEmpty = true
    · refine .inl ?_
      rw [h0, h1.1, nil_of_empty h1.2]
    · rw [if_neg h1] at h; cases h
  · rw [if_neg h0] at h
    by_cases h1 : k = 1 ∨ k = 2
    · rw [if_pos h1] at h
      by_cases h2 : s.toList.isEmpty = false
      · rw [if_pos h2] at h; cases h
      · rw [if_neg h2] at h
        have hs : s = ⟨#[]⟩ := nil_of_empty (by simpa using h2)
        by_cases h3 : (k = 2 ∧ n ≠ 0 ∧ n ≠ 1) ∨ n < -1000000000000 ∨ 1000000000000 < n
        · rw [if_pos h3] at h; cases h
        · rcases h1 with h1 | h1
          · exact .inr (.inl ⟨h1, hs, by show -1000000000000 ≤ n; omega, by show n ≤ 1000000000000; omega⟩)
          · exact .inr (.inr (.inl ⟨h1, hs, by show n = 0 ∨ n = 1; omega⟩))
    · rw [if_neg h1] at h
      by_cases h2 : k = 3
      · rw [if_pos h2] at h
        by_cases h3 : n ≠ 0
        · rw [if_pos h3] at h; cases h
        · rw [if_neg h3] at h
          by_cases h4 : 24 < s.size
          · rw [if_pos h4] at h; cases h
          · exact .inr (.inr (.inr ⟨h2, by simpa using h3, by show s.size ≤ 24; omega⟩))
      · rw [if_neg h2] at h; cases h

set_option maxRecDepth 100000 in
set_option maxHeartbeats 4000000 in
theorem rValidate (v : Val) (w : World) (h : v.err = 0) :
    Calls Tryz.prog 59 #[.agg #[.int .i64 v.kind, .int .i64 v.int, .string v.text]] w fun e w' => e = .returned (.int .i64 0) ∧ Below w.heap.size w w' := by
  have HB : Hid (∀ o, Below w.heap.size w (w.alloc o)) := Lib.hid fun o => (Below.refl _ _).alloc (Nat.le_refl _) o
  obtain ⟨k, n, s⟩ := v
  rcases err_cases h with h1 | ⟨h1, h2, h3, h4⟩ | ⟨h1, h2, h3⟩ | ⟨h1, h2, h3⟩
  · injection h1 with e1 e2 e3
    subst e1 e2 e3
    clear h
    simp only
    go_enter Tryz.func59, Tryz.ntmps59
    go_wp2_with fail
    go_ret
    exact ⟨rfl, HB.out _⟩
  · simp only at h1 h2 h3 h4
    subst h1 h2
    have h5 : ¬ (1000000000000 : Int) < n := by omega
    have h6 : ¬ n < (-1000000000000 : Int) := by omega
    clear h
    simp only
    go_enter Tryz.func59, Tryz.ntmps59
    go_wp2_with fail
    go_ret
    exact ⟨rfl, HB.out _⟩
  · simp only at h1 h2 h3
    subst h1 h2
    clear h
    simp only
    rcases h3 with rfl | rfl
    · go_enter Tryz.func59, Tryz.ntmps59
      go_wp2_with fail
      go_ret
      exact ⟨rfl, HB.out _⟩
    · go_enter Tryz.func59, Tryz.ntmps59
      go_wp2_with fail
      go_ret
      exact ⟨rfl, HB.out _⟩
  · simp only at h1 h2 h3
    subst h1 h2
    have h5 : ¬ (24 : Int) < (s.size : Int) := by omega
    clear h h3
    simp only
    go_enter Tryz.func59, Tryz.ntmps59
    go_wp2_with fail
    go_ret
    exact ⟨rfl, HB.out _⟩
set_option maxRecDepth 100000 in
set_option maxHeartbeats 1000000 in
theorem projectB (A : Option Addr) (c : Nat) (row : Row) (B : Option Addr) (d : Nat) (pk : List Int) (w : World) (hx : Elems 3 Val.cs w (· < w.heap.size) A row) (hy : Elems 1 intCs w (· < w.heap.size) B pk) (hp : pk.length ≤ 1000) :
    Calls Tryz.prog 52 #[.slice A row.length c, .slice B pk.length d] w fun e w' => ∃ v, e = .returned v ∧ Own 3 Val.cs 60 w.heap.size w' v (keyOf pk row) ∧ Below w.heap.size w w' := by
  have HP := Lib.hid hy
  have HX := Lib.hid hx
  obtain ⟨n, hn⟩ : ∃ n, pk.length = n := ⟨_, rfl⟩
  rw [hn] at hp ⊢
  have HN := Lib.hid hn
  clear hx hy hn
  go_enter Tryz.func52, Tryz.ntmps52
  go_wp2_with fail
  go_loopw [5, 11] (fun v5 vi wr => ∃ k : Nat, vi = .int .i64 (k : Int) ∧ k ≤ n ∧ Own 3 Val.cs 60 w.heap.size wr v5 (keyOf (pk.take k) row) ∧ Below w.heap.size w wr) (fun _ vi _ => n - (intOf vi).toNat)
  case atStart => exact ⟨0, rfl, by omega, Own.nil _, Below.refl _ _⟩
  case round =>
    obtain ⟨k, rfl, hkn, ho, hb⟩ := hrel
    by_cases hlt : k < n
    · have hki : k < pk.length := by have := HN.out; omega
      obtain ⟨b, off, rfl, hbs, c0⟩ := (HP.out.on hb).int hki
      have HKO := Lib.hid (keyOf_take (row := row) hki)
      have HX1 := Lib.hid (HX.out.on hb)
      have hki' : (k : Int) < (n : Int) := by omega
      generalize pk[k] = col at *
      have HL1 : Hid (((keyOf (pk.take k) row).length + 1) * 32 ≤ 140737488355328) := Lib.hid (by unfold keyOf; rw [List.length_map, List.length_take]; omega)
      have HL2 : Hid ((keyOf (pk.take k) row).length + 1 ≤ maxLen) := Lib.hid (by unfold keyOf maxLen; rw [List.length_map, List.length_take]; omega)
      have HO1 : Hid (∀ o, Own 3 Val.cs 60 w.heap.size (wr.alloc o) u5 (keyOf (pk.take k) row)) := Lib.hid fun o => ho.alloc o
      have HS1 : Hid (∀ o, w.heap.size ≤ (wr.alloc o).heap.size) := Lib.hid fun o => le_size1 hb.size o
      have HFR : Hid (∀ o w2 v2, Ext (wr.alloc o) u5 w2 v2 → Below w.heap.size w w2) := Lib.hid fun o w2 v2 hx => (hb.alloc hb.size o).trans (hx.below (le_size1 hb.size o) fun g hg => (ho.lt g hg).1)
      have hcrow : ∀ o, Elems 3 Val.cs (wr.alloc o) (fun k => k < (wr.alloc o).heap.size) A row := fun o => HX1.out.on ((Below.refl _ _).alloc (Nat.le_refl _) o)
      by_cases hin : 0 ≤ col ∧ col < (row.length : Int)
      · obtain ⟨j, rfl⟩ := Int.eq_ofNat_of_zero_le hin.1
        have hj : j < row.length := by omega
        have hka : keyAt row (j : Int) = row[j] := by
          unfold keyAt
          rw [if_pos hin, Int.toNat_natCast, List.getD_eq_getElem?_getD, List.getElem?_eq_getElem hj]
          rfl
        have HKA := Lib.hid hka
        obtain ⟨b', off', rfl, hbs', -⟩ := HX1.out.val hj
        have e0 : ∀ o, (wr.alloc o).cell? ⟨b', off' + j * 3, none⟩ = some (.int .i64 row[j].kind) ∧ (wr.alloc o).cell? ⟨b', off' + j * 3 + 1, none⟩ = some (.int .i64 row[j].int) ∧ (wr.alloc o).cell? ⟨b', off' + j * 3 + 2, none⟩ = some (.string row[j].text) := fun o => by
          obtain ⟨b'', off'', e, -, h⟩ := (hcrow o).val hj
          injection e with e
          injection e with e1 e2
          subst e1 e2
          exact h
        have d0 := fun o => (e0 o).1
        have d1 := fun o => (e0 o).2.1
        have d2 := fun o => (e0 o).2.2
        have hj2 : (j : Int) < (row.length : Int) := hin.2
        have HB2 := Lib.hid hb
        clear hka hin ho e0 hcrow hbs' hb
        generalize row[j] = x at *
        go_wp2_with (at_builtin; refine wpList_app rfl (.tmp 28) (.tmp 30) _ _ rfl rfl rfl (run_push elem_val valLay _ _ _ (keyOf (pk.take k) row) x _ (HO1.out _) rfl HL1.out HL2.out (HS1.out _) (size1 _ _)) ?_; rintro v2 w2 ⟨ho2, hx2⟩)
        have HF : Hid (Own 3 Val.cs 60 w.heap.size w2 v2 (keyOf (pk.take (k + 1)) row) ∧ Below w.heap.size w w2) := Lib.hid ⟨by rw [HKO.out, HKA.out]; exact ho2, HFR.out _ _ _ hx2⟩
        clear ho2 hx2
        go_wp2_with fail
        go_roundw
        case rel => exact ⟨k + 1, by go_num, by omega, HF.out.1, HF.out.2⟩
        case measure => simp [intOf]; omega
      · have HKA : Hid (keyAt row col = zeroV) := Lib.hid (if_neg hin)
        rcases Int.lt_or_le col 0 with hc | hc
        · clear hin hb ho hcrow
          go_wp2_with (at_builtin; refine wpList_app rfl (.tmp 28) (.tmp 30) _ _ rfl rfl rfl (run_push elem_val valLay _ _ _ (keyOf (pk.take k) row) zeroV _ (HO1.out _) rfl HL1.out HL2.out (HS1.out _) (size1 _ _)) ?_; rintro v2 w2 ⟨ho2, hx2⟩)
          have HF : Hid (Own 3 Val.cs 60 w.heap.size w2 v2 (keyOf (pk.take (k + 1)) row) ∧ Below w.heap.size w w2) := Lib.hid ⟨by rw [HKO.out, HKA.out]; exact ho2, HFR.out _ _ _ hx2⟩
          clear ho2 hx2
          go_wp2_with fail
          go_roundw
          case rel => exact ⟨k + 1, by go_num, by omega, HF.out.1, HF.out.2⟩
          case measure => simp [intOf]; omega
        · have hc2 : (row.length : Int) ≤ col := by omega
          clear hin hb ho hcrow
          go_wp2_with (at_builtin; refine wpList_app rfl (.tmp 28) (.tmp 30) _ _ rfl rfl rfl (run_push elem_val valLay _ _ _ (keyOf (pk.take k) row) zeroV _ (HO1.out _) rfl HL1.out HL2.out (HS1.out _) (size1 _ _)) ?_; rintro v2 w2 ⟨ho2, hx2⟩)
          have HF : Hid (Own 3 Val.cs 60 w.heap.size w2 v2 (keyOf (pk.take (k + 1)) row) ∧ Below w.heap.size w w2) := Lib.hid ⟨by rw [HKO.out, HKA.out]; exact ho2, HFR.out _ _ _ hx2⟩
          clear ho2 hx2
          go_wp2_with fail
          go_roundw
          case rel => exact ⟨k + 1, by go_num, by omega, HF.out.1, HF.out.2⟩
          case measure => simp [intOf]; omega
    · have hkn' : k = n := by omega
      subst hkn'
      have HF : Hid (Own 3 Val.cs 60 w.heap.size wr u5 (keyOf pk row) ∧ Below w.heap.size w wr) := Lib.hid ⟨by rwa [List.take_of_length_le (by have := HN.out; omega)] at ho, hb⟩
      clear ho hb
      go_wp2_with fail
      go_ret
      exact ⟨_, rfl, HF.out.1, HF.out.2⟩


set_option maxRecDepth 100000 in
set_option maxHeartbeats 1000000 in
theorem keyOfB (t : Tbl) (A : Option Addr) (c : Nat) (row : Row) (w : World) (ht : TOk (· < w.heap.size) w t) (hx : Elems 3 Val.cs w (· < w.heap.size) A row) (hp : t.pk.length ≤ 1000) :
    Calls Tryz.prog 25 #[t.val, .slice A row.length c] w fun e w' => ∃ v, e = .returned v ∧ Own 3 Val.cs 60 w.heap.size w' v (keyOf t.pk row) ∧ Below w.heap.size w w' := by
  obtain ⟨name, CA, cc, cols, PA, pc, pk⟩ := t
  have HP : Hid (∀ o, Calls Tryz.prog 52 #[.slice A row.length c, .slice PA pk.length pc] (w.alloc o) fun e w' => ∃ v, e = .returned v ∧ Own 3 Val.cs 60 w.heap.size w' v (keyOf pk row) ∧ Below w.heap.size w w') := Lib.hid fun o => by
    have hb : Below w.heap.size w (w.alloc o) := (Below.refl _ _).alloc (Nat.le_refl _) o
    refine (projectB A c row PA pc pk (w.alloc o) (hx.on hb) (ht.pk.on hb) hp).mono ?_
    rintro e w' ⟨v, rfl, ho, hb'⟩
    exact ⟨v, rfl, ho.mono hb.size, hb.trans (hb'.mono hb.size)⟩
  clear ht hx hp
  unfold Tbl.val
  simp only
  generalize pk.length = n at *
  generalize row.length = m at *
  go_enter Tryz.func25, Tryz.ntmps25
  go_wp2_with fail
  refine (HP.out _).mono ?_
  rintro e w' ⟨v, rfl, ho, hb⟩
  have HF : Hid (Own 3 Val.cs 60 w.heap.size w' v (keyOf pk row) ∧ Below w.heap.size w w') := Lib.hid ⟨ho, hb⟩
  clear ho hb
  go_wp2_with fail
  go_ret
  exact ⟨_, rfl, HF.out.1, HF.out.2⟩

/-- How the reference compares two keys of one integer. -/
def c1 (x y : Int) : Int := if x < y then -1 else if y < x then 1 else 0
set_option maxRecDepth 100000 in
theorem rLess1 (x y : Int) (w : World) :
    Calls Tryz.prog 96 #[.agg #[.int .i64 1, .int .i64 x, .string ⟨#[]⟩], .agg #[.int .i64 1, .int .i64 y, .string ⟨#[]⟩]] w fun e w' => e = .returned (.bool (decide (x < y))) ∧ Below w.heap.size w w' := by
  have HB : Hid (∀ o o', Below w.heap.size w ((w.alloc o).alloc o')) := Lib.hid fun o o' => ((Below.refl _ _).alloc (Nat.le_refl _) o).alloc (le_size1 (Nat.le_refl _) _) o'
  by_cases hxy : x = y
  · subst hxy
    have hl : decide (x < x) = false := decide_eq_false (by omega)
    rw [hl]
    have HL := Lib.hid hl
    clear hl
    have hb : Op.bytesLess (⟨#[]⟩ : ByteArray).toList (⟨#[]⟩ : ByteArray).toList = false := by decide +kernel
    go_enter Tryz.func96, Tryz.ntmps96
    go_wp2_with fail
    go_ret
    exact ⟨by first | rfl | exact ret_bool hb, HB.out _ _⟩
  · have hne : (x != y) = true := by simpa using hxy
    go_enter Tryz.func96, Tryz.ntmps96
    go_wp2_with fail
    go_ret
    exact ⟨by simp, HB.out _ _⟩
end Go.Proofs.YtefifkleamiabaaGreatDoor

namespace Go.Proofs
open Go.Shelf
def Tryz.lays169_ren : Go.Shelf.Ren := ⟨fun | 169 => 62 | n => n, fun | 70 => 122 | 9 => 9 | 0 => 0 | 72 => 125 | 37 => 123 | 127 => 155 | 3 => 3 | 5 => 5 | n => n, fun | n => n⟩
theorem Tryz.lays169 : Go.Proofs.Lays.n169 Tryz.prog Tryz.lays169_ren := {
  mixed := by kernel_rfl
  f169 := Tryz.func62.trans (congrArg some (by kernel_rfl))
  t0 := Tryz.underlying0
  a0 := Tryz.isAgg0
  z0 := Tryz.sizeOf0
  v0 := Tryz.zeroValue0
  t3 := Tryz.underlying3
  a3 := Tryz.isAgg3
  z3 := Tryz.sizeOf3
  v3 := Tryz.zeroValue3
  t9 := Tryz.underlying9
  a9 := Tryz.isAgg9
  z9 := Tryz.sizeOf9
  v9 := Tryz.zeroValue9
  t37 := Tryz.underlying123
  a37 := Tryz.isAgg123
  z37 := Tryz.sizeOf123
  v37 := Tryz.zeroValue123
  t70 := Tryz.underlying122
  a70 := Tryz.isAgg122
  z70 := Tryz.sizeOf122
  v70 := Tryz.zeroValue122
  t72 := Tryz.underlying125
  a72 := Tryz.isAgg125
  z72 := Tryz.sizeOf125
  v72 := Tryz.zeroValue125
  t127 := Tryz.underlying155
  a127 := Tryz.isAgg155
  z127 := Tryz.sizeOf155
  v127 := Tryz.zeroValue155 }
theorem Tryz.Builder_Extra_169 : Builder.Extra Tryz.prog Tryz.lays169_ren := {
  sizeBuilder := by kernel_rfl
  liesBuilder := by kernel_rfl
  t5 := Tryz.underlying5
  a5 := Tryz.isAgg5
  z5 := Tryz.sizeOf5
  v5 := Tryz.zeroValue5
  infoByte := by kernel_rfl
  cellsByte := by kernel_rfl
  sizeByte := by kernel_rfl
  neB5 := by decide }
open Go.RowKit in
theorem Tryz.Builder_String_any (B b : Nat) (l : List UInt8) (w : World) (h : Lib.IsBuilder 125 5 B b (Lib.byteCells l) w) (hBw : B ≤ w.heap.size) :
    Calls Tryz.prog 62 #[.pointer (some ⟨b, 0, none⟩)] w fun e w' => e = .returned (.string ⟨l.toArray⟩) ∧ Below B w w' := Any.Builder_String_any Tryz.lays169 Tryz.Builder_Extra_169 B b l w h hBw
def Tryz.lays160_ren : Go.Shelf.Ren := ⟨fun | 160 => 119 | 232 => 134 | 231 => 133 | 227 => 135 | 234 => 137 | 233 => 136 | 236 => 139 | 235 => 138 | 228 => 149 | 271 => 152 | 151 => 151 | 197 => 150 | 120 => 167 | 152 => 166 | 260 => 165 | 137 => 173 | 119 => 174 | 224 => 163 | 225 => 162 | 217 => 161 | 266 => 171 | n => n, fun | 9 => 9 | 4 => 4 | 3 => 3 | 5 => 5 | 117 => 189 | 116 => 188 | 0 => 0 | 124 => 192 | 21 => 21 | 105 => 202 | 46 => 199 | 119 => 218 | 139 => 221 | 138 => 220 | n => n, fun | 3 => 2 | 4 => 3 | n => n⟩
theorem Tryz.lays160 : Go.Proofs.Lays.n160 Tryz.prog Tryz.lays160_ren := {
  mixed := by kernel_rfl
  f119 := Tryz.func174.trans (congrArg some (by kernel_rfl))
  f120 := Tryz.func167.trans (congrArg some (by kernel_rfl))
  f137 := Tryz.func173.trans (congrArg some (by kernel_rfl))
  f151 := Tryz.func151.trans (congrArg some (by kernel_rfl))
  f152 := Tryz.func166.trans (congrArg some (by kernel_rfl))
  f160 := Tryz.func119.trans (congrArg some (by kernel_rfl))
  f197 := Tryz.func150.trans (congrArg some (by kernel_rfl))
  f217 := Tryz.func161.trans (congrArg some (by kernel_rfl))
  f224 := Tryz.func163.trans (congrArg some (by kernel_rfl))
  f225 := Tryz.func162.trans (congrArg some (by kernel_rfl))
  f227 := Tryz.func135.trans (congrArg some (by kernel_rfl))
  f228 := Tryz.func149.trans (congrArg some (by kernel_rfl))
  f231 := Tryz.func133.trans (congrArg some (by kernel_rfl))
  f232 := Tryz.func134.trans (congrArg some (by kernel_rfl))
  f233 := Tryz.func136.trans (congrArg some (by kernel_rfl))
  f234 := Tryz.func137.trans (congrArg some (by kernel_rfl))
  f235 := Tryz.func138.trans (congrArg some (by kernel_rfl))
  f236 := Tryz.func139.trans (congrArg some (by kernel_rfl))
  f260 := Tryz.func165.trans (congrArg some (by kernel_rfl))
  f266 := Tryz.func171.trans (congrArg some (by kernel_rfl))
  f271 := Tryz.func152.trans (congrArg some (by kernel_rfl))
  t0 := Tryz.underlying0
  a0 := Tryz.isAgg0
  z0 := Tryz.sizeOf0
  v0 := Tryz.zeroValue0
  t3 := Tryz.underlying3
  a3 := Tryz.isAgg3
  z3 := Tryz.sizeOf3
  v3 := Tryz.zeroValue3
  t4 := Tryz.underlying4
  a4 := Tryz.isAgg4
  z4 := Tryz.sizeOf4
  v4 := Tryz.zeroValue4
  t5 := Tryz.underlying5
  a5 := Tryz.isAgg5
  z5 := Tryz.sizeOf5
  v5 := Tryz.zeroValue5
  t9 := Tryz.underlying9
  a9 := Tryz.isAgg9
  z9 := Tryz.sizeOf9
  v9 := Tryz.zeroValue9
  t21 := Tryz.underlying21
  a21 := Tryz.isAgg21
  z21 := Tryz.sizeOf21
  v21 := Tryz.zeroValue21
  t46 := Tryz.underlying199
  a46 := Tryz.isAgg199
  z46 := Tryz.sizeOf199
  v46 := Tryz.zeroValue199
  t105 := Tryz.underlying202
  a105 := Tryz.isAgg202
  z105 := Tryz.sizeOf202
  v105 := Tryz.zeroValue202
  t116 := Tryz.underlying188
  a116 := Tryz.isAgg188
  z116 := Tryz.sizeOf188
  t117 := Tryz.underlying189
  a117 := Tryz.isAgg189
  z117 := Tryz.sizeOf189
  v117 := Tryz.zeroValue189
  t119 := Tryz.underlying218
  a119 := Tryz.isAgg218
  z119 := Tryz.sizeOf218
  t124 := Tryz.underlying192
  a124 := Tryz.isAgg192
  z124 := Tryz.sizeOf192
  v124 := Tryz.zeroValue192
  t138 := Tryz.underlying220
  a138 := Tryz.isAgg220
  z138 := Tryz.sizeOf220
  v138 := Tryz.zeroValue220
  t139 := Tryz.underlying221
  a139 := Tryz.isAgg221
  z139 := Tryz.sizeOf221
  v139 := Tryz.zeroValue221
  g3 := by kernel_rfl
  g4 := by kernel_rfl }
def Tryz.lays144_ren : Go.Shelf.Ren := ⟨fun | 144 => 118 | 143 => 132 | 219 => 148 | 217 => 161 | 225 => 162 | 224 => 163 | 267 => 164 | 266 => 171 | 314 => 172 | n => n, fun | 9 => 9 | 4 => 4 | 3 => 3 | 5 => 5 | 46 => 199 | 146 => 216 | 51 => 208 | n => n, fun | 1 => 1 | n => n⟩
theorem Tryz.lays144 : Go.Proofs.Lays.n144 Tryz.prog Tryz.lays144_ren := {
  mixed := by kernel_rfl
  f143 := Tryz.func132.trans (congrArg some (by kernel_rfl))
  f144 := Tryz.func118.trans (congrArg some (by kernel_rfl))
  f217 := Tryz.func161.trans (congrArg some (by kernel_rfl))
  f219 := Tryz.func148.trans (congrArg some (by kernel_rfl))
  f224 := Tryz.func163.trans (congrArg some (by kernel_rfl))
  f225 := Tryz.func162.trans (congrArg some (by kernel_rfl))
  f266 := Tryz.func171.trans (congrArg some (by kernel_rfl))
  f267 := Tryz.func164.trans (congrArg some (by kernel_rfl))
  f314 := Tryz.func172.trans (congrArg some (by kernel_rfl))
  t3 := Tryz.underlying3
  a3 := Tryz.isAgg3
  z3 := Tryz.sizeOf3
  v3 := Tryz.zeroValue3
  t4 := Tryz.underlying4
  a4 := Tryz.isAgg4
  z4 := Tryz.sizeOf4
  v4 := Tryz.zeroValue4
  t5 := Tryz.underlying5
  a5 := Tryz.isAgg5
  z5 := Tryz.sizeOf5
  v5 := Tryz.zeroValue5
  t9 := Tryz.underlying9
  a9 := Tryz.isAgg9
  z9 := Tryz.sizeOf9
  v9 := Tryz.zeroValue9
  t46 := Tryz.underlying199
  a46 := Tryz.isAgg199
  z46 := Tryz.sizeOf199
  v46 := Tryz.zeroValue199
  t51 := Tryz.underlying208
  a51 := Tryz.isAgg208
  z51 := Tryz.sizeOf208
  v51 := Tryz.zeroValue208
  t146 := Tryz.underlying216
  a146 := Tryz.isAgg216
  z146 := Tryz.sizeOf216
  v146 := Tryz.zeroValue216
  g1 := by kernel_rfl }
open Go.RowKit Go.Lib in
theorem Tryz.strings_Contains_one (s : ByteArray) (c : UInt8) (w : World) :
    Calls Tryz.prog 118 #[.string s, .string ⟨#[c]⟩] w fun e w' => e = .returned (.bool (decide (0 ≤ Lib.indexByte s.data.toList c))) ∧ w' = w := Any.strings_Contains_one Tryz.lays144 s c w
def Tryz.lays166_ren : Go.Shelf.Ren := ⟨fun | 166 => 60 | 240 => 97 | 276 => 120 | n => n, fun | 20 => 20 | 37 => 123 | 70 => 122 | 72 => 125 | 75 => 127 | 164 => 174 | 80 => 131 | n => n, fun | n => n⟩
theorem Tryz.lays166 : Go.Proofs.Lays.n166 Tryz.prog Tryz.lays166_ren := {
  mixed := by kernel_rfl
  f166 := Tryz.func60.trans (congrArg some (by kernel_rfl))
  f240 := Tryz.func97.trans (congrArg some (by kernel_rfl))
  f276 := Tryz.func120.trans (congrArg some (by kernel_rfl))
  t0 := Tryz.underlying0
  a0 := Tryz.isAgg0
  z0 := Tryz.sizeOf0
  v0 := Tryz.zeroValue0
  t3 := Tryz.underlying3
  a3 := Tryz.isAgg3
  z3 := Tryz.sizeOf3
  v3 := Tryz.zeroValue3
  t4 := Tryz.underlying4
  a4 := Tryz.isAgg4
  z4 := Tryz.sizeOf4
  v4 := Tryz.zeroValue4
  t9 := Tryz.underlying9
  a9 := Tryz.isAgg9
  z9 := Tryz.sizeOf9
  v9 := Tryz.zeroValue9
  t20 := Tryz.underlying20
  a20 := Tryz.isAgg20
  z20 := Tryz.sizeOf20
  v20 := Tryz.zeroValue20
  t37 := Tryz.underlying123
  a37 := Tryz.isAgg123
  z37 := Tryz.sizeOf123
  v37 := Tryz.zeroValue123
  t70 := Tryz.underlying122
  a70 := Tryz.isAgg122
  z70 := Tryz.sizeOf122
  v70 := Tryz.zeroValue122
  t72 := Tryz.underlying125
  a72 := Tryz.isAgg125
  z72 := Tryz.sizeOf125
  v72 := Tryz.zeroValue125
  t75 := Tryz.underlying127
  a75 := Tryz.isAgg127
  z75 := Tryz.sizeOf127
  v75 := Tryz.zeroValue127
  t164 := Tryz.underlying174
  a164 := Tryz.isAgg174
  z164 := Tryz.sizeOf174
  v164 := Tryz.zeroValue174 }
theorem Tryz.Builder_Extra_166 : Builder.Extra Tryz.prog Tryz.lays166_ren := {
  sizeBuilder := by kernel_rfl
  liesBuilder := by kernel_rfl
  t5 := Tryz.underlying5
  a5 := Tryz.isAgg5
  z5 := Tryz.sizeOf5
  v5 := Tryz.zeroValue5
  infoByte := by kernel_rfl
  cellsByte := by kernel_rfl
  sizeByte := by kernel_rfl
  neB5 := by decide }
open Go.RowKit in
theorem Tryz.Builder_WriteString (B b : Nat) (bs : List Value) (s : ByteArray) (w : World) (h : Lib.IsBuilder 125 5 B b bs w) (hlen : bs.length + s.size ≤ 140737488355328) (hBw : B ≤ w.heap.size) :
    Calls Tryz.prog 60 #[.pointer (some ⟨b, 0, none⟩), .string s] w fun e w' => e = .returned (.tuple #[.int .i64 s.size, .nilIface]) ∧ (Lib.BuilderAt 125 5 B b (.pointer (some ⟨b, 0, none⟩)) (bs ++ Lib.strCells s) w' ∧ Below B w w') := Any.Builder_WriteString Tryz.lays166 Tryz.Builder_Extra_166 B b bs s w h hlen hBw
open Go.RowKit in
theorem Tryz.strings_Trim (s cutset : ByteArray) (w : World) (hs : s.size ≤ 9223372036854775807) (hcs : cutset.size < 4294967281) (hascii : ∀ (j : Nat) (b : UInt8), cutset.data.toList[j]? = some b → b.toNat < 128) :
    Calls Tryz.prog 119 #[.string s, .string cutset] w fun e w' => e = .returned (.string ⟨(Lib.trimS s.data.toList cutset.data.toList).toArray⟩) ∧ Below w.heap.size w w' := Any.strings_Trim_laid Tryz.lays160 (by kernel_rfl) s cutset w hs hcs hascii
end Go.Proofs

namespace Go.Proofs.YtefifkleamiabaaGreatDoor
open Go.RowKit Go.Sort

def ik (x : Int) : Row := [⟨1, x, ⟨#[]⟩⟩]
set_option maxRecDepth 100000 in
set_option maxHeartbeats 4000000 in
theorem rCmp1 (A B : Option Addr) (c d : Nat) (x y : Int) (w : World) (hx : Elems 3 Val.cs w (· < w.heap.size) A (ik x)) (hy : Elems 3 Val.cs w (· < w.heap.size) B (ik y)) :
    Calls Tryz.prog 58 #[.slice A 1 c, .slice B 1 d] w fun e w' => e = .returned (.int .i64 (c1 x y)) ∧ Below w.heap.size w w' := by
  obtain ⟨ba, oa, rfl, -, a0, a1, a2⟩ := hx.val (k := 0) (by show 0 < 1; omega)
  obtain ⟨bb, ob, rfl, -, b0, b1, b2⟩ := hy.val (k := 0) (by show 0 < 1; omega)
  have HX := Lib.hid hx
  have HY := Lib.hid hy
  have HS : Hid (∀ W, Below w.heap.size w W → W.cell? ⟨ba, oa, none⟩ = some (.int .i64 1) ∧ W.cell? ⟨ba, oa + 1, none⟩ = some (.int .i64 x) ∧ W.cell? ⟨ba, oa + 2, none⟩ = some (.string ⟨#[]⟩) ∧ W.cell? ⟨bb, ob, none⟩ = some (.int .i64 1) ∧ W.cell? ⟨bb, ob + 1, none⟩ = some (.int .i64 y) ∧ W.cell? ⟨bb, ob + 2, none⟩ = some (.string ⟨#[]⟩)) := Lib.hid fun W hW => by
    obtain ⟨ba', oa', e1, -, a0, a1, a2⟩ := (HX.out.on hW).val (k := 0) (by show 0 < 1; omega)
    obtain ⟨bb', ob', e2, -, b0, b1, b2⟩ := (HY.out.on hW).val (k := 0) (by show 0 < 1; omega)
    injection e1 with e1
    injection e1 with e11 e12
    injection e2 with e2
    injection e2 with e21 e22
    subst e11 e12 e21 e22
    rw [Nat.zero_mul, Nat.add_zero] at a0 a1 a2 b0 b1 b2
    exact ⟨a0, a1, a2, b0, b1, b2⟩
  have HL1 : Hid (∀ W m, Below w.heap.size w W → Calls Tryz.prog 96 #[.agg #[.int .i64 1, .int .i64 x, .string ⟨#[]⟩], .agg #[.int .i64 1, .int .i64 y, .string ⟨#[]⟩]] (W.drewN m) fun e w' => e = .returned (.bool (decide (x < y))) ∧ Below w.heap.size w w') := Lib.hid fun W m hW => by
    have hd : Below w.heap.size w (W.drewN m) := below_drewN hW m
    exact (rLess1 x y (W.drewN m)).mono fun e w' h => ⟨h.1, hd.trans (h.2.mono hd.size)⟩
  have HL2 : Hid (∀ W m, Below w.heap.size w W → Calls Tryz.prog 96 #[.agg #[.int .i64 1, .int .i64 y, .string ⟨#[]⟩], .agg #[.int .i64 1, .int .i64 x, .string ⟨#[]⟩]] (W.drewN m) fun e w' => e = .returned (.bool (decide (y < x))) ∧ Below w.heap.size w w') := Lib.hid fun W m hW => by
    have hd : Below w.heap.size w (W.drewN m) := below_drewN hW m
    exact (rLess1 y x (W.drewN m)).mono fun e w' h => ⟨h.1, hd.trans (h.2.mono hd.size)⟩
  clear hx hy a0 a1 a2 b0 b1 b2
  go_enter Tryz.func58, Tryz.ntmps58
  go_wp2_with fail
  go_loopw [5] (fun vi wr => (vi = .int .i64 0 ∧ w = wr) ∨ (vi = .int .i64 1 ∧ x = y ∧ Below w.heap.size w wr)) (fun vi _ => 1 - (intOf vi).toNat)
  case atStart => exact .inl ⟨rfl, rfl⟩
  case round =>
    rcases hrel with ⟨rfl, rfl⟩ | ⟨rfl, hxy, hb⟩
    · have s0 := HS.out w (Below.refl _ _)
      go_wp2_with fail
      go_cut [26] from 18 to 26 (fun v26 wx => v26 = .bool (decide (x < y)) ∧ Below w.heap.size w wx)
      case first =>
        go_region_held3 (fun W => W.cell? ⟨ba, oa, none⟩ = some (.int .i64 1) ∧ W.cell? ⟨ba, oa + 1, none⟩ = some (.int .i64 x) ∧ W.cell? ⟨ba, oa + 2, none⟩ = some (.string ⟨#[]⟩) ∧ W.cell? ⟨bb, ob, none⟩ = some (.int .i64 1) ∧ W.cell? ⟨bb, ob + 1, none⟩ = some (.int .i64 y) ∧ W.cell? ⟨bb, ob + 2, none⟩ = some (.string ⟨#[]⟩)) (first | exact s0 | exact s9)
          (first
          | (go_at_call 96; refine (HL1.out w 1 (Below.refl _ _)).mono ?_; rintro e w2 ⟨rfl, hb2⟩; have s9 := HS.out w2 hb2))
        all_goals
          have HB2 := Lib.hid hb2
          clear hb2 s9
          go_wp2_with fail
          go_meet
          exact ⟨rfl, HB2.out⟩
      case rest =>
        obtain ⟨rfl, hb2⟩ := hcut
        obtain ⟨w2, rfl⟩ : ∃ w2, w2 = wc := ⟨_, rfl⟩
        have HB2 := Lib.hid hb2
        have s2 := HS.out w2 hb2
        clear hb2 s0
        by_cases hlt : x < y
        · have hd : decide (x < y) = true := decide_eq_true hlt
          have HR : Hid (c1 x y = -1) := Lib.hid (if_pos hlt)
          rw [hd]
          clear hd hlt
          go_wp2_with fail
          go_ret
          exact ⟨ret_int HR.out.symm, HB2.out⟩
        · have hd : decide (x < y) = false := decide_eq_false hlt
          have HLT := Lib.hid hlt
          rw [hd]
          clear hd hlt
          go_wp2_with fail
          go_cut [35] from 27 to 35 (fun v35 wx => v35 = .bool (decide (y < x)) ∧ Below w.heap.size w wx)
          case first =>
            go_region_held3 (fun W => W.cell? ⟨ba, oa, none⟩ = some (.int .i64 1) ∧ W.cell? ⟨ba, oa + 1, none⟩ = some (.int .i64 x) ∧ W.cell? ⟨ba, oa + 2, none⟩ = some (.string ⟨#[]⟩) ∧ W.cell? ⟨bb, ob, none⟩ = some (.int .i64 1) ∧ W.cell? ⟨bb, ob + 1, none⟩ = some (.int .i64 y) ∧ W.cell? ⟨bb, ob + 2, none⟩ = some (.string ⟨#[]⟩)) (first | exact s2 | exact s9)
              (first
              | (go_at_call 96; refine (HL2.out w2 1 HB2.out).mono ?_; rintro e w3 ⟨rfl, hb3⟩; have s9 := HS.out w3 hb3))
            all_goals
              have HB3 := Lib.hid hb3
              clear hb3 s9
              go_wp2_with fail
              go_meet
              exact ⟨rfl, HB3.out⟩
          case rest =>
            obtain ⟨rfl, hb3⟩ := hcut
            obtain ⟨w3, rfl⟩ : ∃ w3, w3 = wc := ⟨_, rfl⟩
            have HB3 := Lib.hid hb3
            clear hb3 s2
            by_cases hlt2 : y < x
            · have hd : decide (y < x) = true := decide_eq_true hlt2
              have HR : Hid (c1 x y = 1) := Lib.hid (by unfold c1; rw [if_neg (by have := HLT.out; omega), if_pos hlt2])
              rw [hd]
              clear hd hlt2
              go_wp2_with fail
              go_ret
              exact ⟨ret_int HR.out.symm, HB3.out⟩
            · have hd : decide (y < x) = false := decide_eq_false hlt2
              have HXY : Hid (x = y) := Lib.hid (by have := HLT.out; omega)
              rw [hd]
              clear hd hlt2
              go_wp2_with fail
              go_roundw
              case rel => exact .inr ⟨by go_num, HXY.out, HB3.out⟩
              case measure => simp [intOf]
    · have HR : Hid (c1 x y = 0) := Lib.hid (by unfold c1; rw [if_neg (by omega), if_neg (by omega)])
      have HB2 := Lib.hid hb
      clear hb hxy
      go_wp2_with fail
      go_ret
      exact ⟨ret_int HR.out.symm, HB2.out⟩

set_option maxRecDepth 100000 in
set_option maxHeartbeats 4000000 in
theorem rConformsRow (t : Tbl) (A : Option Addr) (c : Nat) (r : Row) (w : World) (ht : TOk (· < w.heap.size) w t) (hx : Elems 3 Val.cs w (· < w.heap.size) A r) (h6 : t.cols.length ≤ 1000) (hr : RowC t.cols r) :
    Calls Tryz.prog 57 #[t.val, .slice A r.length c] w fun e w' => e = .returned (.int .i64 0) ∧ Below w.heap.size w w' := by
  obtain ⟨name, CA, cc, tc, PA, pc, pk⟩ := t
  have HC := Lib.hid ht.cols
  have HX := Lib.hid hx
  have HR := Lib.hid hr
  obtain ⟨n, hn⟩ : ∃ n, tc.length = n := ⟨_, rfl⟩
  have hrn : r.length = n := by rw [← hn]; exact hr.len
  have h6 : n ≤ 1000 := by rw [← hn]; exact h6
  unfold Tbl.val
  simp only
  rw [hrn, hn]
  have HN := Lib.hid (And.intro hn hrn)
  obtain ⟨w1, hw1⟩ : ∃ w1, w1 = w.alloc (.cells #[.string name, .slice CA n cc, .slice PA pk.length pc] 71) := ⟨_, rfl⟩
  have hbx := heap_alloc_new w (.cells #[.string name, .slice CA n cc, .slice PA pk.length pc] 71)
  rw [← hw1] at hbx
  have hb1 : Below w.heap.size w w1 := by rw [hw1]; exact (Below.refl _ _).alloc (Nat.le_refl _) _
  have hs1 : w.heap.size < w1.heap.size := by rw [hw1]; simp
  have HBK : Hid (∀ W, Below w1.heap.size w1 W → W.cell? ⟨w.heap.size, 1, none⟩ = some (.slice CA n cc)) := Lib.hid fun W hW => by
    rw [cell_of_row _ _ _ _ _ _ ((hW.block w.heap.size hs1).trans hbx)]
    rfl
  have HB1 := Lib.hid hb1
  have HW1 := Lib.hid hw1
  have c1 := HBK.out w1 (Below.refl _ _)
  clear ht hx hr hn hrn hw1 hbx hb1 hs1
  go_enter Tryz.func57, Tryz.ntmps57
  go_upto_region 1 with fail
  rw [← HW1.out]
  go_wp2_with fail
  go_loopw [17] (fun vi wr => ∃ k : Nat, vi = .int .i64 (k : Int) ∧ k ≤ n ∧ Below w1.heap.size w1 wr) (fun vi _ => n - (intOf vi).toNat)
  case atStart => exact ⟨0, rfl, by omega, Below.refl _ _⟩
  case round =>
    obtain ⟨k, rfl, hkn, hb⟩ := hrel
    obtain ⟨wo, rfl⟩ : ∃ wo, wo = wr := ⟨_, rfl⟩
    have hbw : Below w.heap.size w wo := HB1.out.trans (hb.mono HB1.out.size)
    by_cases hlt : k < n
    · have hkr : k < r.length := by have := HN.out; omega
      have hkc : k < tc.length := by have := HN.out; omega
      have hco := HR.out.col k hkr
      have hgd : tc.getD k col0 = tc[k] := by rw [List.getD_eq_getElem?_getD, List.getElem?_eq_getElem hkc]; rfl
      have hco : colOk tc[k] r[k] := hgd ▸ hco
      have her : r[k].err = 0 := HR.out.err _ (List.getElem_mem hkr)
      obtain ⟨b', off', hA', -, p0, p1, p2⟩ := (HX.out.on hbw).val hkr
      obtain ⟨w2, hw2⟩ : ∃ w2, w2 = wo.alloc (.cells #[.int .i64 r[k].kind, .int .i64 r[k].int, .string r[k].text] 60) := ⟨_, rfl⟩
      have hb2 : Below wo.heap.size wo w2 := by rw [hw2]; exact (Below.refl _ _).alloc (Nat.le_refl _) _
      have hg2 : w2.heap[wo.heap.size]? = some (.cells #[.int .i64 r[k].kind, .int .i64 r[k].int, .string r[k].text] 60 (0, 0)) := by rw [hw2]; exact heap_alloc_new wo _
      have hb12 := hb.trans (hb2.mono hb.size)
      have hbw2 := hbw.trans (hb2.mono hbw.size)
      obtain ⟨b, off, hCA, -, q0, q1, q2⟩ := (HC.out.on hbw2).col hkc
      have c2 := HBK.out w2 hb12
      rw [hCA] at c2
      obtain ⟨w3, hw3⟩ : ∃ w3, w3 = w2.alloc (.cells #[.string tc[k].name, .int .i64 tc[k].kind, .bool tc[k].null] 68) := ⟨_, rfl⟩
      have hb3 : Below w2.heap.size w2 w3 := by rw [hw3]; exact (Below.refl _ _).alloc (Nat.le_refl _) _
      have hg3 : w3.heap[w2.heap.size]? = some (.cells #[.string tc[k].name, .int .i64 tc[k].kind, .bool tc[k].null] 68 (0, 0)) := by rw [hw3]; exact heap_alloc_new w2 _
      have hs3 : w2.heap.size < w3.heap.size := by rw [hw3]; simp
      have hs2 : wo.heap.size < w2.heap.size := by rw [hw2]; simp
      have HCE : Hid (∀ W, Below w3.heap.size w3 W → (W.cell? ⟨wo.heap.size, 0, none⟩ = some (.int .i64 r[k].kind) ∧ W.cell? ⟨wo.heap.size, 1, none⟩ = some (.int .i64 r[k].int) ∧ W.cell? ⟨wo.heap.size, 2, none⟩ = some (.string r[k].text)) ∧ W.cell? ⟨w2.heap.size, 1, none⟩ = some (.int .i64 tc[k].kind) ∧ W.cell? ⟨w2.heap.size, 2, none⟩ = some (.bool tc[k].null)) := Lib.hid fun W hW => by
        have e3 := (hW.block w2.heap.size hs3).trans hg3
        have e2 := (hW.block wo.heap.size (by omega)).trans ((hb3.block wo.heap.size hs2).trans hg2)
        exact ⟨⟨cell_of_row _ _ 0 _ _ _ e2, cell_of_row _ _ 1 _ _ _ e2, cell_of_row _ _ 2 _ _ _ e2⟩, cell_of_row _ _ 1 _ _ _ e3, cell_of_row _ _ 2 _ _ _ e3⟩
      have HV := Lib.hid (rValidate r[k] w3 her)
      have HB13 := Lib.hid (hb12.trans (hb3.mono hb12.size))
      have hkn' : (k : Int) < (n : Int) := by omega
      have HW2 := Lib.hid hw2
      have HW3 := Lib.hid hw3
      obtain ⟨⟨v0, v1, v2⟩, y1, y2⟩ := HCE.out w3 (Below.refl _ _)
      rw [hA']
      clear hb hbw hgd her hA' hw2 hb2 hg2 hb12 hbw2 hCA hw3 hb3 hg3 hs3 hs2
      generalize tc[k] = cl at *
      generalize r[k] = v at *
      have hcl : (v.kind ≠ 0 ∧ v.kind = cl.kind) ∨ (v.kind = 0 ∧ cl.null = true) := by
        rcases hco with ⟨h1, h2⟩ | ⟨h1, h2⟩
        · exact .inl ⟨h2, h1⟩
        · exact .inr ⟨h1, h2⟩
      clear hco
      go_upto_region 6 with fail
      rw [← HW2.out]
      go_upto_region 7 with fail
      rw [← HW3.out]
      go_wp2_with fail
      refine HV.out.mono ?_
      rintro e w4 ⟨rfl, hb4⟩
      have HB4 := Lib.hid (HB13.out.trans (hb4.mono HB13.out.size))
      clear v0 v1 v2 y1 y2 c2 q0 q1 q2 p0 p1 p2
      obtain ⟨⟨v0, v1, v2⟩, y1, y2⟩ := HCE.out w4 hb4
      clear hb4
      rcases hcl with ⟨h1, h2⟩ | ⟨h1, h2⟩
      · have g1 : (v.kind == 0) = false := by simp [h1]
        have g2 : (v.kind != 0) = true := by simp [h1]
        have g3 : (v.kind != cl.kind) = false := by simp [h2]
        have g4 : ¬ v.kind = 0 := h1
        have g5 : v.kind = cl.kind := h2
        clear h1 h2
        go_wp2_with fail
        go_roundw
        case rel => exact ⟨k + 1, by go_num, by omega, HB4.out⟩
        case measure => simp [intOf]; omega
      · rw [h1] at v0
        rw [h2] at y2
        clear h1 h2
        go_wp2_with fail
        go_roundw
        case rel => exact ⟨k + 1, by go_num, by omega, HB4.out⟩
        case measure => simp [intOf]; omega
    · have hkn' : k = n := by omega
      subst hkn'
      have HE := Lib.hid hbw
      clear hb hbw
      go_wp2_with fail
      go_ret
      exact ⟨rfl, HE.out⟩

def letters : ByteArray := ⟨#[97, 98, 99, 100, 101, 102, 103, 104, 105, 106, 107, 108, 109, 110, 111, 112, 113, 114, 115, 116, 117, 118, 119, 120, 121, 122]⟩
def alnum : ByteArray := ⟨#[97, 98, 99, 100, 101, 102, 103, 104, 105, 106, 107, 108, 109, 110, 111, 112, 113, 114, 115, 116, 117, 118, 119, 120, 121, 122, 48, 49, 50, 51, 52, 53, 54, 55, 56, 57]⟩
theorem letters_has (c : UInt8) (h : 97 ≤ c.toNat ∧ c.toNat ≤ 122) : 0 ≤ Lib.indexByte letters.data.toList c := by
  have key : ∀ n, n < 256 → (97 ≤ n ∧ n ≤ 122) → 0 ≤ Lib.indexByte letters.data.toList (UInt8.ofNat n) := by decide +kernel
  have := key c.toNat c.toNat_lt h
  rwa [UInt8.ofNat_toNat] at this
theorem alnum_has (c : UInt8) (h : (97 ≤ c.toNat ∧ c.toNat ≤ 122) ∨ (48 ≤ c.toNat ∧ c.toNat ≤ 57)) : alnum.data.toList.contains c = true := by
  have key : ∀ n, n < 256 → ((97 ≤ n ∧ n ≤ 122) ∨ (48 ≤ n ∧ n ≤ 57)) → alnum.data.toList.contains (UInt8.ofNat n) = true := by decide +kernel
  have := key c.toNat c.toNat_lt h
  rwa [UInt8.ofNat_toNat] at this
theorem dropWhile_all {α : Type} (p : α → Bool) (l : List α) (h : ∀ x ∈ l, p x = true) : l.dropWhile p = [] := by
  induction l with
  | nil => rfl
  | cons a l ih => rw [List.dropWhile_cons_of_pos (h a (by simp))]; exact ih fun x hx => h x (by simp [hx])
theorem trim_name (s : ByteArray) (h : NameV s) : Lib.trimS s.data.toList alnum.data.toList = [] := by
  have hr : Lib.trimRightS s.data.toList alnum.data.toList = [] := by
    unfold Lib.trimRightS
    rw [dropWhile_all]
    · rfl
    · intro x hx
      rw [List.mem_reverse] at hx
      obtain ⟨j, hj, rfl⟩ := List.getElem_of_mem hx
      refine alnum_has _ ?_
      have := h.chr j (by show j < s.data.size; simpa using hj)
      rw [List.getD_eq_getElem?_getD, List.getElem?_eq_getElem hj] at this
      exact this
  unfold Lib.trimS
  rw [hr]
  rfl

set_option maxRecDepth 100000 in
set_option maxHeartbeats 4000000 in
theorem rValidName (s : ByteArray) (w : World) (h : NameV s) :
    Calls Tryz.prog 93 #[.string s] w fun e w' => e = .returned (.bool true) ∧ Below w.heap.size w w' := by
  obtain ⟨c, hc, hcl⟩ : ∃ c : UInt8, s.extract 0 1 = ⟨#[c]⟩ ∧ 97 ≤ c.toNat ∧ c.toNat ≤ 122 := by
    obtain ⟨⟨l⟩⟩ := s
    have hp : 1 ≤ l.length := h.pos
    rcases l with _ | ⟨c, l⟩
    · simp at hp
    · have h1 := h.chr 0 h.pos
      have h2 := h.fst
      simp only [List.getD_cons_zero] at h1 h2
      refine ⟨c, ?_, by omega⟩
      apply ByteArray.ext
      rw [ByteArray.data_extract]
      simp
  have HCO := Lib.hid fun W => Tryz.strings_Contains_one letters c W
  have HTR := Lib.hid fun W => Tryz.strings_Trim s alnum W (by have := h.len; omega) (by decide +kernel) (fun j b hj => by
    have key : ∀ x ∈ alnum.data.toList, x.toNat < 128 := by decide +kernel
    exact key b (List.mem_of_getElem? hj))
  have hle : ¬ (12 : Int) < (s.size : Int) := by have := h.len; omega
  have hle2 : (s.size : Int) ≤ 12 := by have := h.len; omega
  have hp1 : (1 : Int) ≤ (s.size : Int) := by have := h.pos; omega
  have hem : s.toList.isEmpty = false := by
    rw [ByteArray.toList_eq]
    have h2 := h.pos
    have h3 : s.size = s.data.toList.length := rfl
    cases hl : s.data.toList with
    | nil => rw [h3, hl] at h2; cases h2
    | cons a l => rfl
  have HTE := Lib.hid (trim_name s h)
  have HL := Lib.hid (letters_has c hcl)
  clear h hcl
  have HCO2 : Hid (∀ W, Calls Tryz.prog 118 #[.string letters, .string ⟨#[c]⟩] W fun e w' => e = .returned (.bool true) ∧ w' = W) := Lib.hid fun W => by
    refine (HCO.out W).mono ?_
    rintro e w' ⟨rfl, rfl⟩
    rw [decide_eq_true HL.out]
    exact ⟨rfl, rfl⟩
  have HTR2 : Hid (∀ W, Calls Tryz.prog 119 #[.string s, .string alnum] W fun e w' => e = .returned (.string ⟨#[]⟩) ∧ Below W.heap.size W w') := Lib.hid fun W => by
    refine (HTR.out W).mono ?_
    rintro e w' ⟨rfl, hb⟩
    rw [HTE.out]
    exact ⟨rfl, hb⟩
  unfold letters at HCO2
  unfold alnum at HTR2
  clear HCO HTR HTE HL
  go_enter Tryz.func93, Tryz.ntmps93
  go_wp2_with fail
  refine (HCO2.out w).mono ?_
  rintro e w' ⟨rfl, rfl⟩
  go_wp2_with fail
  refine (HTR2.out _).mono ?_
  rintro e w' ⟨rfl, hb⟩
  have HB := Lib.hid hb
  clear hb
  go_wp2_with fail
  go_ret
  exact ⟨rfl, HB.out⟩
end Go.Proofs.YtefifkleamiabaaGreatDoor

namespace Go.Proofs.YtefifkleamiabaaGreatDoor
open Go.RowKit Go.Sort

theorem mget_none {l : List (ByteArray × Value)} {s : ByteArray} (h : ∀ p ∈ l, p.1 ≠ s) : mget l s = none := by
  induction l with
  | nil => rfl
  | cons p l ih =>
    unfold mget
    rw [if_neg (h p (by simp))]
    exact ih fun q hq => h q (by simp [hq])
theorem mput_new {l : List (ByteArray × Value)} {s : ByteArray} (v : Value) (h : ∀ p ∈ l, p.1 ≠ s) : mput l s v = l ++ [(s, v)] := by
  induction l with
  | nil => rfl
  | cons p l ih =>
    unfold mput
    rw [if_neg (h p (by simp)), ih fun q hq => h q (by simp [hq])]
    rfl
theorem zero_int (w : World) : (zeroValue 3).run Tryz.prog w = .ok (.int .i64 0) w := by kernel_rfl
/-- The first columns' names, each counted once. -/
def cnt1 (cs : List Col) : List (ByteArray × Value) := cs.map fun c => (c.name, .int .i64 1)
theorem SMap.grown {w w' : World} {b : Nat} {l : List (ByteArray × Value)} {B : Nat} (h : SMap w b l) (hg : w.grownBy w' (some b)) (hB : B ≤ b) : Below B w w' :=
  below_of_grown hg (Nat.le_trans hB (Nat.le_of_lt h.lt)) fun g hg => by injection hg with hg; omega

set_option maxRecDepth 100000 in
set_option maxHeartbeats 4000000 in
theorem rValidateTable (t : Tbl) (w : World) (ht : TOk (· < w.heap.size) w t) (hv : TabV t) (hnd : (t.cols.map Col.name).Nodup) (hpk : t.pk = [0]) :
    Calls Tryz.prog 53 #[t.val] w fun e w' => e = .returned (.int .i64 0) ∧ Below w.heap.size w w' := by
  obtain ⟨name, CA, cc, tc, PA, pc, pk⟩ := t
  have hpk : pk = [0] := hpk
  subst hpk
  have HC := Lib.hid ht
  have HV := Lib.hid hv
  have HND := Lib.hid hnd
  obtain ⟨n, hn⟩ : ∃ n, tc.length = n := ⟨_, rfl⟩
  have hn0 : 0 < n ∧ n ≤ 6 := by rw [← hn]; exact hv.ncols
  obtain ⟨hn0, hn6⟩ := hn0
  obtain ⟨w1, hw1⟩ : ∃ w1, w1 = w.alloc (.cells #[.string name, .slice CA n cc, .slice PA 1 pc] 71) := ⟨_, rfl⟩
  have hb1 : Below w.heap.size w w1 := by rw [hw1]; exact (Below.refl _ _).alloc (Nat.le_refl _) _
  have hg1 : w1.heap[w.heap.size]? = some (.cells #[.string name, .slice CA n cc, .slice PA 1 pc] 71 (0, 0)) := by rw [hw1]; exact heap_alloc_new w _
  have hs1 : w.heap.size < w1.heap.size := by rw [hw1]; simp
  have HBK : Hid (∀ W, Below w1.heap.size w1 W → W.cell? ⟨w.heap.size, 0, none⟩ = some (.string name) ∧ W.cell? ⟨w.heap.size, 1, none⟩ = some (.slice CA n cc) ∧ W.cell? ⟨w.heap.size, 2, none⟩ = some (.slice PA 1 pc)) := Lib.hid fun W hW => by
    have h := (hW.block w.heap.size hs1).trans hg1
    exact ⟨cell_of_row _ _ 0 _ _ _ h, cell_of_row _ _ 1 _ _ _ h, cell_of_row _ _ 2 _ _ _ h⟩
  have HVN := Lib.hid fun s (h : NameV s) W => rValidName s W h
  have HB1 := Lib.hid hb1
  have HN := Lib.hid hn
  have HW1 := Lib.hid hw1
  have hmm := @run_makeMap Tryz.prog
  obtain ⟨c0, c1, c2⟩ := HBK.out w1 (Below.refl _ _)
  have hn0' : ¬ (n : Int) = 0 := by omega
  have hn6' : ¬ (6 : Int) < (n : Int) := by omega
  have hn00 : ((n : Int) == 0) = false := by simp; omega
  unfold Tbl.val
  simp only [List.length_cons, List.length_nil, Nat.zero_add]
  rw [hn]
  clear ht hv hnd hw1 hb1 hg1 hn
  go_enter Tryz.func53, Tryz.ntmps53
  go_upto_region 1 with fail
  rw [← HW1.out]
  go_wp2_with fail
  refine (HVN.out name HV.out.name w1).mono ?_
  rintro e w2 ⟨rfl, hb2⟩
  have HB2 := Lib.hid hb2
  clear c0 c1 c2
  obtain ⟨c0, c1, c2⟩ := HBK.out w2 hb2
  clear hb2
  obtain ⟨w3, hw3⟩ : ∃ w3, w3 = w2.alloc (.map #[] 0) := ⟨_, rfl⟩
  have hb3 : Below w2.heap.size w2 w3 := by rw [hw3]; exact (Below.refl _ _).alloc (Nat.le_refl _) _
  have HM0 : Hid (SMap w3 w2.heap.size []) := Lib.hid (by rw [hw3]; exact SMap.made w2)
  have HB3 := Lib.hid hb3
  have HW3 := Lib.hid hw3
  go_upto_region 8 with fail
  rw [← HW3.out]
  obtain ⟨d0, d1, d2⟩ := HBK.out w3 (HB2.out.trans (hb3.mono HB2.out.size))
  clear c0 c1 c2 hw3 hb3 hmm
  obtain ⟨mb, hmb⟩ : ∃ mb, mb = w2.heap.size := ⟨_, rfl⟩
  have HMB : Hid (w1.heap.size ≤ mb ∧ w.heap.size ≤ mb) := Lib.hid (by have := HB2.out.size; omega)
  have HB13 : Hid (Below w1.heap.size w1 w3) := Lib.hid (HB2.out.trans (HB3.out.mono HB2.out.size))
  rw [← hmb] at HM0 ⊢
  clear hmb hs1
  go_wp2_with fail
  go_loopw [28] (fun vi wr => ∃ k : Nat, vi = .int .i64 (k : Int) ∧ k ≤ n ∧ SMap wr mb (cnt1 (tc.take k)) ∧ Below w1.heap.size w1 wr) (fun vi _ => n - (intOf vi).toNat)
  case atStart => exact ⟨0, rfl, by omega, HM0.out, HB13.out⟩
  case round =>
    obtain ⟨k, rfl, hkn, hm, hb⟩ := hrel
    obtain ⟨wo, rfl⟩ : ∃ wo, wo = wr := ⟨_, rfl⟩
    by_cases hlt : k < n
    · have hkc : k < tc.length := by have := HN.out; omega
      have hbw := HB1.out.trans (hb.mono HB1.out.size)
      obtain ⟨b, off, hCA, -, q0, q1, q2⟩ := (HC.out.on hbw).cols.col hkc
      have q0 : wo.cell? ⟨b, off + k * 3, none⟩ = some (.string tc[k].name) := q0
      have q1 : wo.cell? ⟨b, off + k * 3 + 1, none⟩ = some (.int .i64 tc[k].kind) := q1
      have q2 : wo.cell? ⟨b, off + k * 3 + 2, none⟩ = some (.bool tc[k].null) := q2
      have hCA : CA = some ⟨b, off, none⟩ := hCA
      obtain ⟨hk1, hk2⟩ := HV.out.kind _ (List.getElem_mem hkc)
      have hk1 : 1 ≤ tc[k].kind := hk1
      have hk2 : tc[k].kind ≤ 3 := hk2
      have HNM : Hid (NameV tc[k].name) := Lib.hid (HV.out.cname _ (List.getElem_mem hkc))
      have hnew : ∀ p ∈ cnt1 (tc.take k), p.1 ≠ tc[k].name := fun p hp e => by
        obtain ⟨c, hc, rfl⟩ := List.mem_map.1 hp
        obtain ⟨j, hj, rfl⟩ := List.getElem_of_mem hc
        have hjk : j < k := by rw [List.length_take] at hj; omega
        have hnd := List.nodup_iff_pairwise_ne.1 HND.out
        have h := List.pairwise_iff_getElem.1 hnd j k (by simp; omega) (by simp; omega) hjk
        rw [List.getElem_map, List.getElem_map] at h
        rw [List.getElem_take] at e
        exact h e
      have HSU : Hid (cnt1 (tc.take (k + 1)) = mput (cnt1 (tc.take k)) tc[k].name (.int .i64 1)) := Lib.hid (by
        rw [mput_new _ hnew]
        unfold cnt1
        rw [List.take_succ_eq_append_getElem hkc, List.map_append]
        rfl)
      obtain ⟨w5, hw5⟩ : ∃ w5, w5 = wo.alloc (.cells #[.string tc[k].name, .int .i64 tc[k].kind, .bool tc[k].null] 68) := ⟨_, rfl⟩
      have hb5 : Below wo.heap.size wo w5 := by rw [hw5]; exact (Below.refl _ _).alloc (Nat.le_refl _) _
      have hg5 : w5.heap[wo.heap.size]? = some (.cells #[.string tc[k].name, .int .i64 tc[k].kind, .bool tc[k].null] 68 (0, 0)) := by rw [hw5]; exact heap_alloc_new wo _
      have y0 := cell_of_row _ _ 0 _ _ _ hg5
      have hm5 := hm.below hb5
      have hlk := hm5.look Tryz.underlying115 Tryz.underlying9 (zero_int w5) tc[k].name
      rw [mget_none hnew] at hlk
      have hlk : (Instr.lookup 115 (.map (some mb)) (.string tc[k].name) false).run Tryz.prog w5 = .ok (.int .i64 0) w5 := hlk
      obtain ⟨w6, hup, hm6, hgr⟩ := hm5.update Tryz.underlying115 Tryz.underlying9 tc[k].name (.int .i64 1)
      have hb56 : Below w1.heap.size w5 w6 := hm5.grown hgr HMB.out.1
      have hg6 : w6.heap[wo.heap.size]? = w5.heap[wo.heap.size]? := hgr.block _ (Array.getElem?_eq_some_iff.1 hg5).1 (fun e => by injection e with e; have := hm.lt; omega)
      have HCE : Hid (∀ W, Below w6.heap.size w6 W → W.cell? ⟨wo.heap.size, 0, none⟩ = some (.string tc[k].name) ∧ W.cell? ⟨wo.heap.size, 1, none⟩ = some (.int .i64 tc[k].kind)) := Lib.hid fun W hW => by
        have hlt6 : wo.heap.size < w6.heap.size := Nat.lt_of_lt_of_le (Array.getElem?_eq_some_iff.1 hg5).1 hgr.size
        have h := (hW.block _ hlt6).trans (hg6.trans hg5)
        exact ⟨cell_of_row _ _ 0 _ _ _ h, cell_of_row _ _ 1 _ _ _ h⟩
      rw [← HSU.out] at hm6
      have HLK : Hid (∀ W, SMap W mb (cnt1 (tc.take (k + 1))) → (Instr.lookup 115 (.map (some mb)) (.string tc[k].name) false).run Tryz.prog W = .ok (.int .i64 1) W) := Lib.hid fun W hW => by
        have h := hW.look Tryz.underlying115 Tryz.underlying9 (zero_int W) tc[k].name
        rw [HSU.out, mget_put_same] at h
        exact h
      have HM6 := Lib.hid hm6
      have HB6 : Hid (Below w1.heap.size w1 w6) := Lib.hid ((hb.trans (hb5.mono hb.size)).trans hb56)
      have hlt' : (k : Int) < (n : Int) := by omega
      have hk1' : ¬ tc[k].kind < 1 := by omega
      have hk2' : ¬ 3 < tc[k].kind := by omega
      have HW5 := Lib.hid hw5
      obtain ⟨e0, e1⟩ := HCE.out w6 (Below.refl _ _)
      rw [hCA]
      clear hm hb hbw hw5 hb5 hg5 hm5 hm6 hgr hb56 hg6 hnew hCA hk1 hk2
      generalize tc[k].name = nm at *
      generalize tc[k].kind = kd at *
      go_upto_region 11 with fail
      rw [← HW5.out]
      go_wp2_with fail
      refine (HVN.out nm HNM.out w6).mono ?_
      rintro e w7 ⟨rfl, hb7⟩
      have hm7 := HM6.out.below hb7
      have hl7 := HLK.out w7 hm7
      have HF := Lib.hid (And.intro hm7 (HB6.out.trans (hb7.mono HB6.out.size)))
      clear e0 e1 hlk hup y0 q0 q1 q2
      obtain ⟨e0, e1⟩ := HCE.out w7 hb7
      clear hb7 hm7
      go_wp2_with fail
      go_roundw
      case rel => exact ⟨k + 1, by go_num, by omega, HF.out.1, HF.out.2⟩
      case measure => simp [intOf]; omega
    · have hkn' : k = n := by omega
      subst hkn'
      obtain ⟨z0, z1, z2⟩ := HBK.out wo hb
      have hbw := HB1.out.trans (hb.mono HB1.out.size)
      obtain ⟨bp, offp, hPA, -, p0⟩ := (HC.out.on hbw).pk.int (k := 0) (by show 0 < 1; omega)
      replace p0 : wo.cell? ⟨bp, offp + 0, none⟩ = some (.int .i64 0) := p0
      rw [Nat.add_zero] at p0
      have hPA : PA = some ⟨bp, offp, none⟩ := hPA
      have h0c : 0 < tc.length := by have := HN.out; omega
      obtain ⟨b, off, hCA, -, q0, q1, q2⟩ := (HC.out.on hbw).cols.col h0c
      replace q2 : wo.cell? ⟨b, off + 2, none⟩ = some (.bool tc[0].null) := by have h := q2; rwa [Nat.zero_mul, Nat.add_zero] at h
      have hnl : tc[0].null = false := by
        obtain ⟨-, h2, h3⟩ := HV.out.pk 0 (by show 0 < 1; omega)
        exact h3
      rw [hnl] at q2
      have hCA : CA = some ⟨b, off, none⟩ := hCA
      rw [hCA] at z1
      rw [hPA] at z2
      have HF := Lib.hid hbw
      have hz0 : (0 : Int) < (k : Int) := by omega
      have hz1 : ¬ (k : Int) ≤ 0 := by omega
      have hz2 : ¬ k = 0 := by omega
      clear hm hb hbw hnl q0 q1
      go_wp2_with fail
      go_loopw [6, 61] (fun v6 vi wr => (vi = .int .i64 0 ∧ v6 = .int .i64 (-1) ∧ wo = wr) ∨ (vi = .int .i64 1 ∧ v6 = .int .i64 0 ∧ wo = wr)) (fun _ vi _ => 1 - (intOf vi).toNat)
      case atStart => exact .inl ⟨rfl, rfl, rfl⟩
      case round =>
        rcases hrel with ⟨rfl, rfl, rfl⟩ | ⟨rfl, rfl, rfl⟩
        · go_wp2_with fail
          go_roundw
          case rel => exact .inr ⟨by go_num, rfl, trivial⟩
          case measure => simp [intOf]
        · go_wp2_with fail
          go_ret
          exact ⟨rfl, HF.out⟩

set_option maxRecDepth 100000 in
set_option maxHeartbeats 4000000 in
theorem rFindTable (s : Sc) (name : ByteArray) (i : Nat) (w : World) (hs : ScOk (· < w.heap.size) w s) (hl : s.tabs.length ≤ 1000) (hi : i < s.tabs.length) (hn : tabI name s.tabs = (i : Int)) (tb toff : Nat) (hTA : s.TA = some ⟨tb, toff, none⟩) :
    Calls Tryz.prog 30 #[s.v, .string name] w fun e w' => e = .returned (.pointer (some ⟨tb, toff + i * 3, none⟩)) ∧ Below w.heap.size w w' := by
  have hlt : ∀ (j : Nat) (hj : j < s.tabs.length), j < i → (s.tabs[j].name.toList == name.toList) = false := fun j hj hji => by
    cases hb : (s.tabs[j].name.toList == name.toList) with
    | false => rfl
    | true =>
      have hany : s.tabs.any (fun t => t.name.toList == name.toList) = true := List.any_eq_true.2 ⟨_, List.getElem_mem hj, hb⟩
      unfold tabI fidx at hn
      rw [if_pos hany] at hn
      have hle : s.tabs.findIdx (fun t => t.name.toList == name.toList) ≤ j := Nat.le_of_not_lt fun h => by
        have h2 := List.not_of_lt_findIdx h
        simp only [hb] at h2
        cases h2
      omega
  have hat : (s.tabs[i].name.toList == name.toList) = true := by
    unfold tabI fidx at hn
    by_cases hany : s.tabs.any (fun t => t.name.toList == name.toList) = true
    · rw [if_pos hany] at hn
      have hii : s.tabs.findIdx (fun t => t.name.toList == name.toList) = i := by omega
      have h := List.findIdx_getElem (xs := s.tabs) (p := fun t => t.name.toList == name.toList) (w := by rw [hii]; exact hi)
      simpa [hii] using h
    · rw [if_neg hany] at hn
      omega
  obtain ⟨n, hn2⟩ : ∃ n, s.tabs.length = n := ⟨_, rfl⟩
  obtain ⟨w1, hw1⟩ : ∃ w1, w1 = w.alloc (.cells #[.slice (some ⟨tb, toff, none⟩) n s.tc, .slice s.FA s.fks.length s.fc, .slice s.NA s.cns.length s.nc] 27) := ⟨_, rfl⟩
  have hb1 : Below w.heap.size w w1 := by rw [hw1]; exact (Below.refl _ _).alloc (Nat.le_refl _) _
  have hg1 : w1.heap[w.heap.size]? = some (.cells #[.slice (some ⟨tb, toff, none⟩) n s.tc, .slice s.FA s.fks.length s.fc, .slice s.NA s.cns.length s.nc] 27 (0, 0)) := by rw [hw1]; exact heap_alloc_new w _
  have c0 := cell_of_row _ _ 0 _ _ _ hg1
  have HT := Lib.hid (hs.on hb1).tabs
  have HLT := Lib.hid hlt
  have HAT := Lib.hid hat
  have HN := Lib.hid hn2
  have HTA := Lib.hid hTA
  have HB1 := Lib.hid hb1
  have HW1 := Lib.hid hw1
  have hin : i < n := by omega
  have hn1000 : n ≤ 1000 := by omega
  unfold Sc.v Sc.cells
  rw [hTA, hn2]
  clear hs hl hn hlt hat hw1 hb1 hg1 hn2 hTA
  go_enter Tryz.func30, Tryz.ntmps30
  go_upto_region 1 with fail
  rw [← HW1.out]
  go_wp2_with fail
  go_loopw [9] (fun vi wr => ∃ k : Nat, vi = .int .i64 (k : Int) ∧ k ≤ i ∧ w1 = wr) (fun vi _ => i - (intOf vi).toNat)
  case atStart => exact ⟨0, rfl, by omega, rfl⟩
  case round =>
    obtain ⟨k, rfl, hki, rfl⟩ := hrel
    have hkt : k < s.tabs.length := by have := HN.out; omega
    obtain ⟨tb', toff', e, -, p0, -, -⟩ := HT.out.tbl hkt
    rw [HTA.out] at e
    injection e with e
    injection e with e1 e2
    subst e1 e2
    have hkn : (k : Int) < (n : Int) := by omega
    by_cases hlt : k < i
    · have hb := HLT.out k hkt hlt
      generalize s.tabs[k].name = nm at *
      go_wp2_with fail
      go_roundw
      case rel => exact ⟨k + 1, by go_num, by omega, by trivial⟩
      case measure => simp [intOf]; omega
    · have hki' : k = i := by omega
      subst hki'
      have hb := HAT.out
      generalize s.tabs[k].name = nm at *
      go_wp2_with fail
      go_ret
      exact ⟨rfl, HB1.out⟩
end Go.Proofs.YtefifkleamiabaaGreatDoor
