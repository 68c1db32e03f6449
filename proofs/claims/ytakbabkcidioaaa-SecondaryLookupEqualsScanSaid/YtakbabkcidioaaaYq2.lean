/-
  The walks of stemref2.project, KeyOf and RowListsEqual.
-/
import Derived.Test.YtakbabkcidioaaaSk
import Derived.Test.YtakbabkcidioaaaYie
namespace Go.Proofs.Ytakbabkcidioaaa
open Go.RowKit Go.Sort

set_option maxRecDepth 100000 in
set_option maxHeartbeats 1000000 in
theorem projectB (A : Option Addr) (c : Nat) (row : Row) (B : Option Addr) (d : Nat) (pk : List Int) (w : World) (hx : Elems 3 Val.cs w (· < w.heap.size) A row) (hy : Elems 1 intCs w (· < w.heap.size) B pk) (hp : pk.length ≤ 1000) :
    Calls Try.prog 22 #[.slice A row.length c, .slice B pk.length d] w fun e w' => ∃ v, e = .returned v ∧ Own 3 Val.cs 43 w.heap.size w' v (keyOf pk row) ∧ Below w.heap.size w w' := by
  have HP := Lib.hid hy
  have HX := Lib.hid hx
  obtain ⟨n, hn⟩ : ∃ n, pk.length = n := ⟨_, rfl⟩
  rw [hn] at hp ⊢
  have HN := Lib.hid hn
  clear hx hy hn
  go_enter Try.func22, Try.ntmps22
  go_wp2_with fail
  go_loopw [5, 11] (fun v5 vi wr => ∃ k : Nat, vi = .int .i64 (k : Int) ∧ k ≤ n ∧ Own 3 Val.cs 43 w.heap.size wr v5 (keyOf (pk.take k) row) ∧ Below w.heap.size w wr) (fun _ vi _ => n - (intOf vi).toNat)
  case atStart => exact ⟨0, rfl, by omega, Own.nil _, Below.refl _ _⟩
  case round =>
    obtain ⟨k, rfl, hkn, ho, hb⟩ := hrel
    by_cases hlt : k < n
    · have hki : k < pk.length := by have := HN.out; omega
      obtain ⟨b, off, rfl, hbs, c0⟩ := (HP.out.on hb).int hki
      have HKO := Lib.hid (keyOf_take (row := row) hki)
      have HX1 := Lib.hid (HX.out.on hb)
      have hki' : (k : Int) < (n : Int) := by omega
      generalize pk[k] = col at *
      have HL1 : Hid (((keyOf (pk.take k) row).length + 1) * 32 ≤ 140737488355328) := Lib.hid (by unfold keyOf; rw [List.length_map, List.length_take]; omega)
      have HL2 : Hid ((keyOf (pk.take k) row).length + 1 ≤ maxLen) := Lib.hid (by unfold keyOf maxLen; rw [List.length_map, List.length_take]; omega)
      have HO1 : Hid (∀ o, Own 3 Val.cs 43 w.heap.size (wr.alloc o) u5 (keyOf (pk.take k) row)) := Lib.hid fun o => ho.alloc o
      have HS1 : Hid (∀ o, w.heap.size ≤ (wr.alloc o).heap.size) := Lib.hid fun o => le_size1 hb.size o
      have HFR : Hid (∀ o w2 v2, Ext (wr.alloc o) u5 w2 v2 → Below w.heap.size w w2) := Lib.hid fun o w2 v2 hx => (hb.alloc hb.size o).trans (hx.below (le_size1 hb.size o) fun g hg => (ho.lt g hg).1)
      have hcrow : ∀ o, Elems 3 Val.cs (wr.alloc o) (fun k => k < (wr.alloc o).heap.size) A row := fun o => HX1.out.on ((Below.refl _ _).alloc (Nat.le_refl _) o)
      by_cases hin : 0 ≤ col ∧ col < (row.length : Int)
      · obtain ⟨j, rfl⟩ := Int.eq_ofNat_of_zero_le hin.1
        have hj : j < row.length := by omega
        have hka : keyAt row (j : Int) = row[j] := by
          unfold keyAt
          rw [if_pos hin, Int.toNat_natCast, List.getD_eq_getElem?_getD, List.getElem?_eq_getElem hj]
          rfl
        have HKA := Lib.hid hka
        obtain ⟨b', off', rfl, hbs', -⟩ := HX1.out.val hj
        have e0 : ∀ o, (wr.alloc o).cell? ⟨b', off' + j * 3, none⟩ = some (.int .i64 row[j].kind) ∧ (wr.alloc o).cell? ⟨b', off' + j * 3 + 1, none⟩ = some (.int .i64 row[j].int) ∧ (wr.alloc o).cell? ⟨b', off' + j * 3 + 2, none⟩ = some (.string row[j].text) := fun o => by
          obtain ⟨b'', off'', e, -, h⟩ := (hcrow o).val hj
          injection e with e
          injection e with e1 e2
          subst e1 e2
          exact h
        have d0 := fun o => (e0 o).1
        have d1 := fun o => (e0 o).2.1
        have d2 := fun o => (e0 o).2.2
        have hj2 : (j : Int) < (row.length : Int) := hin.2
        have HB2 := Lib.hid hb
        clear hka hin ho e0 hcrow hbs' hb
        generalize row[j] = x at *
        go_wp2_with (at_builtin; refine wpList_app rfl (.tmp 28) (.tmp 30) _ _ rfl rfl rfl (run_push elem_val valLay _ _ _ (keyOf (pk.take k) row) x _ (HO1.out _) rfl HL1.out HL2.out (HS1.out _) (size1 _ _)) ?_; rintro v2 w2 ⟨ho2, hx2⟩)
        have HF : Hid (Own 3 Val.cs 43 w.heap.size w2 v2 (keyOf (pk.take (k + 1)) row) ∧ Below w.heap.size w w2) := Lib.hid ⟨by rw [HKO.out, HKA.out]; exact ho2, HFR.out _ _ _ hx2⟩
        clear ho2 hx2
        go_wp2_with fail
        go_roundw
        case rel => exact ⟨k + 1, by go_num, by omega, HF.out.1, HF.out.2⟩
        case measure => simp [intOf]; omega
      · have HKA : Hid (keyAt row col = zeroV) := Lib.hid (if_neg hin)
        rcases Int.lt_or_le col 0 with hc | hc
        · clear hin hb ho hcrow
          go_wp2_with (at_builtin; refine wpList_app rfl (.tmp 28) (.tmp 30) _ _ rfl rfl rfl (run_push elem_val valLay _ _ _ (keyOf (pk.take k) row) zeroV _ (HO1.out _) rfl HL1.out HL2.out (HS1.out _) (size1 _ _)) ?_; rintro v2 w2 ⟨ho2, hx2⟩)
          have HF : Hid (Own 3 Val.cs 43 w.heap.size w2 v2 (keyOf (pk.take (k + 1)) row) ∧ Below w.heap.size w w2) := Lib.hid ⟨by rw [HKO.out, HKA.out]; exact ho2, HFR.out _ _ _ hx2⟩
          clear ho2 hx2
          go_wp2_with fail
          go_roundw
          case rel => exact ⟨k + 1, by go_num, by omega, HF.out.1, HF.out.2⟩
          case measure => simp [intOf]; omega
        · have hc2 : (row.length : Int) ≤ col := by omega
          clear hin hb ho hcrow
          go_wp2_with (at_builtin; refine wpList_app rfl (.tmp 28) (.tmp 30) _ _ rfl rfl rfl (run_push elem_val valLay _ _ _ (keyOf (pk.take k) row) zeroV _ (HO1.out _) rfl HL1.out HL2.out (HS1.out _) (size1 _ _)) ?_; rintro v2 w2 ⟨ho2, hx2⟩)
          have HF : Hid (Own 3 Val.cs 43 w.heap.size w2 v2 (keyOf (pk.take (k + 1)) row) ∧ Below w.heap.size w w2) := Lib.hid ⟨by rw [HKO.out, HKA.out]; exact ho2, HFR.out _ _ _ hx2⟩
          clear ho2 hx2
          go_wp2_with fail
          go_roundw
          case rel => exact ⟨k + 1, by go_num, by omega, HF.out.1, HF.out.2⟩
          case measure => simp [intOf]; omega
    · have hkn' : k = n := by omega
      subst hkn'
      have HF : Hid (Own 3 Val.cs 43 w.heap.size wr u5 (keyOf pk row) ∧ Below w.heap.size w wr) := Lib.hid ⟨by rwa [List.take_of_length_le (by have := HN.out; omega)] at ho, hb⟩
      clear ho hb
      go_wp2_with fail
      go_ret
      exact ⟨_, rfl, HF.out.1, HF.out.2⟩


set_option maxRecDepth 100000 in
set_option maxHeartbeats 1000000 in
theorem keyOfB (t : Tbl) (A : Option Addr) (c : Nat) (row : Row) (w : World) (ht : TOk (· < w.heap.size) w t) (hx : Elems 3 Val.cs w (· < w.heap.size) A row) (hp : t.pk.length ≤ 1000) :
    Calls Try.prog 14 #[t.val, .slice A row.length c] w fun e w' => ∃ v, e = .returned v ∧ Own 3 Val.cs 43 w.heap.size w' v (keyOf t.pk row) ∧ Below w.heap.size w w' := by
  obtain ⟨name, CA, cc, cols, PA, pc, pk⟩ := t
  have HP : Hid (∀ o, Calls Try.prog 22 #[.slice A row.length c, .slice PA pk.length pc] (w.alloc o) fun e w' => ∃ v, e = .returned v ∧ Own 3 Val.cs 43 w.heap.size w' v (keyOf pk row) ∧ Below w.heap.size w w') := Lib.hid fun o => by
    have hb : Below w.heap.size w (w.alloc o) := (Below.refl _ _).alloc (Nat.le_refl _) o
    refine (projectB A c row PA pc pk (w.alloc o) (hx.on hb) (ht.pk.on hb) hp).mono ?_
    rintro e w' ⟨v, rfl, ho, hb'⟩
    exact ⟨v, rfl, ho.mono hb.size, hb.trans (hb'.mono hb.size)⟩
  clear ht hx hp
  unfold Tbl.val
  simp only
  generalize pk.length = n at *
  generalize row.length = m at *
  go_enter Try.func14, Try.ntmps14
  go_wp2_with fail
  refine (HP.out _).mono ?_
  rintro e w' ⟨v, rfl, ho, hb⟩
  have HF : Hid (Own 3 Val.cs 43 w.heap.size w' v (keyOf pk row) ∧ Below w.heap.size w w') := Lib.hid ⟨ho, hb⟩
  clear ho hb
  go_wp2_with fail
  go_ret
  exact ⟨_, rfl, HF.out.1, HF.out.2⟩

set_option maxRecDepth 100000 in
set_option maxHeartbeats 4000000 in
theorem rowListsEqual (A B : Option Addr) (c d : Nat) (ps qs : List Key) (w : World) (hp : Elems 1 Key.cs w (· < w.heap.size) A ps) (hq : Elems 1 Key.cs w (· < w.heap.size) B qs) (hpk : ∀ p ∈ ps, KOk (· < w.heap.size) w p) (hqk : ∀ p ∈ qs, KOk (· < w.heap.size) w p) (hl : ps.length ≤ 1000) (he : ps.map Key.row = qs.map Key.row) :
    Calls Try.prog 15 #[.slice A ps.length c, .slice B qs.length d] w fun e w' => e = .returned (.bool true) ∧ ∃ n, w' = w.drewN n := by
  have hll : ps.length = qs.length := by have := congrArg List.length he; simpa using this
  have HEQ : Hid (∀ (i : Nat) (h : i < ps.length) (h' : i < qs.length), ps[i].row = qs[i].row) := Lib.hid fun i h h' => by
    have h1 := congrArg (fun l => l[i]?) he
    simp only [List.getElem?_map, List.getElem?_eq_getElem h, List.getElem?_eq_getElem h', Option.map_some] at h1
    injection h1 with h1
  obtain ⟨n, hn⟩ : ∃ n, ps.length = n := ⟨_, rfl⟩
  have hn2 : qs.length = n := by omega
  rw [hn, hn2]
  rw [hn] at hl
  have HN := Lib.hid (And.intro hn hn2)
  have HP := Lib.hid (And.intro hp hpk)
  have HQ := Lib.hid (And.intro hq hqk)
  clear hp hq hpk hqk he hll hn hn2
  go_enter Try.func15, Try.ntmps15
  go_wp2_with fail
  go_loopw [13] (fun vi wr => ∃ i : Nat, vi = .int .i64 (i : Int) ∧ i ≤ n ∧ ∃ q, wr = w.drewN q) (fun vi _ => n - (intOf vi).toNat)
  case atStart => exact ⟨0, rfl, by omega, 0, rfl⟩
  case round =>
    obtain ⟨i, rfl, hin, q0, rfl⟩ := hrel
    by_cases hlt : i < n
    · have hi1 : i < ps.length := by have := HN.out; omega
      have hi2 : i < qs.length := by have := HN.out; omega
      obtain ⟨b1, o1, rfl, -, x0⟩ := HP.out.1.key hi1
      obtain ⟨b2, o2, rfl, -, y0⟩ := HQ.out.1.key hi2
      have hlt' : (i : Int) < (n : Int) := by omega
      have hi0 : (0 : Int) ≤ (i : Int) := by omega
      have e1 := HEQ.out i hi1 hi2
      have kp := HP.out.2 _ (List.getElem_mem hi1)
      have kq := HQ.out.2 _ (List.getElem_mem hi2)
      have hlen1 := kp.len
      have HC1 : Hid (∀ q, Calls Try.prog 21 #[.slice ps[i].A ps[i].row.length ps[i].c, .slice qs[i].A qs[i].row.length qs[i].c] (w.drewN q) fun e w' => e = .returned (.bool true) ∧ ∃ n, w' = (w.drewN q).drewN n) := Lib.hid fun q => by
        have h := rowsEqual ps[i].A qs[i].A ps[i].c qs[i].c ps[i].row qs[i].row (w.drewN q) _ _ kp.el kq.el (by unfold maxLen; omega) (by rw [← e1]; unfold maxLen; omega)
        rwa [decide_eq_true e1] at h
      clear e1 kp kq hlen1
      generalize ps[i] = p at *
      generalize qs[i] = r at *
      go_wp2_with fail
      go_quiet (first | (go_at_call 21; (with_reducible exact quiet_at (HC1.out _))))
      go_wp2_with fail
      go_roundw
      case rel => exact ⟨i + 1, by go_num, by omega, _, rfl⟩
      case measure => simp [intOf]; omega
    · have hkn : i = n := by omega
      subst hkn
      go_wp2_with fail
      go_ret
      exact ⟨rfl, _, rfl⟩
end Go.Proofs.Ytakbabkcidioaaa
