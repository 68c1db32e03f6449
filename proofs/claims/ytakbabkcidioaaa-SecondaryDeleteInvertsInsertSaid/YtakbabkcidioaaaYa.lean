/-
  The walks of slices.Contains over ints and of secondary.CheckTable.
-/
import Derived.Test.YtakbabkcidioaaaSk
namespace Go.Proofs.Ytakbabkcidioaaa
open Go.RowKit

def IdxPost (xs : List Int) (x : Int) (w : World) (e : Ending) (w' : World) : Prop := ∃ i : Int, e = .returned (.int .i64 i) ∧ (0 ≤ i ↔ x ∈ xs) ∧ w = w'

set_option maxRecDepth 100000 in
set_option maxHeartbeats 1000000 in
theorem indexInts (A : Option Addr) (c : Nat) (xs : List Int) (x : Int) (w : World) (hx : Elems 1 intCs w (· < w.heap.size) A xs) (hl : xs.length ≤ 1000) :
    Calls Try.prog 64 #[.slice A xs.length c, .int .i64 x] w (IdxPost xs x w) := by
  have HX := Lib.hid hx
  obtain ⟨n, hn⟩ : ∃ n, xs.length = n := ⟨_, rfl⟩
  rw [hn] at hl ⊢
  have HN := Lib.hid hn
  clear hx hn
  go_enter Try.func64, Try.ntmps64
  go_wp2_with fail
  go_loopw [8] (fun vi wr => ∃ k : Nat, vi = .int .i64 (k : Int) ∧ k ≤ n ∧ x ∉ xs.take k ∧ w = wr) (fun vi _ => n - (intOf vi).toNat)
  case atStart => exact ⟨0, rfl, by omega, by simp, rfl⟩
  case round =>
    obtain ⟨k, rfl, hkn, hnot, rfl⟩ := hrel
    by_cases hlt : k < n
    · have hki : k < xs.length := by have := HN.out; omega
      obtain ⟨b, off, rfl, hbs, c0⟩ := HX.out.int hki
      have hki' : (k : Int) < (n : Int) := by omega
      have HT : Hid (xs.take (k + 1) = xs.take k ++ [xs[k]]) := Lib.hid (List.take_succ_eq_append_getElem hki)
      have HM : Hid (xs[k] ∈ xs) := Lib.hid (List.getElem_mem hki)
      have HNOT := Lib.hid hnot
      clear hnot
      generalize xs[k] = y at *
      by_cases hxy : x = y
      · have HXY := Lib.hid hxy
        have hb : (x == y) = true := by simp [hxy]
        clear hxy
        go_wp2_with fail
        go_ret
        exact ⟨k, rfl, ⟨fun _ => by rw [HXY.out]; exact HM.out, fun _ => by omega⟩, rfl⟩
      · have HXY := Lib.hid hxy
        have hb : (x == y) = false := by simp [hxy]
        clear hxy
        go_wp2_with fail
        go_roundw
        case rel => exact ⟨k + 1, by go_num, by omega, by rw [HT.out]; intro h; rcases List.mem_append.1 h with h | h; exact HNOT.out h; exact HXY.out (by simpa using h), by trivial⟩
        case measure => simp [intOf]; omega
    · have hkn' : k = n := by omega
      subst hkn'
      have HF : Hid (¬ x ∈ xs) := Lib.hid (by rwa [List.take_of_length_le (by have := HN.out; omega)] at hnot)
      clear hnot
      go_wp2_with fail
      go_ret
      exact ⟨-1, rfl, ⟨fun h => by omega, fun h => absurd h HF.out⟩, rfl⟩

set_option maxRecDepth 100000 in
theorem containsInts (A : Option Addr) (c : Nat) (xs : List Int) (x : Int) (w : World) (hx : Elems 1 intCs w (· < w.heap.size) A xs) (hl : xs.length ≤ 1000) :
    Calls Try.prog 56 #[.slice A xs.length c, .int .i64 x] w fun e w' => e = .returned (.bool (decide (x ∈ xs))) ∧ w = w' := by
  have HI := Lib.hid (indexInts A c xs x w hx hl)
  clear hx
  go_enter Try.func56, Try.ntmps56
  go_wp2_with fail
  refine HI.out.mono ?_
  rintro e w' ⟨i, rfl, hi, rfl⟩
  have HD : Hid (decide (0 ≤ i) = decide (x ∈ xs)) := Lib.hid (by simp [hi])
  clear hi
  go_wp2_with fail
  go_ret
  exact ⟨ret_bool HD.out, rfl⟩

/-- A table that may have an index. -/
structure TabOk (t : Tbl) : Prop where
  ncols : t.cols.length ≤ 6
  npk : 0 < t.pk.length ∧ t.pk.length ≤ 1000
  pk : ∀ k ∈ t.pk, 0 ≤ k ∧ k < (t.cols.length : Int)
  ord : t.pk.Pairwise (· < ·)
/-- .. over these columns. -/
structure ColsOk (t : Tbl) (cols : List Int) : Prop where
  pos : 0 < cols.length ∧ cols.length ≤ 1000
  rng : ∀ k ∈ cols, 0 ≤ k ∧ k < (t.cols.length : Int)
  nd : cols.Nodup

set_option maxRecDepth 100000 in
set_option maxHeartbeats 4000000 in
theorem checkTable (t : Tbl) (B : Option Addr) (d : Nat) (cols : List Int) (w : World) (ht : TOk (· < w.heap.size) w t) (hy : Elems 1 intCs w (· < w.heap.size) B cols) (hd : cols.length ≤ d) (hT : TabOk t) (hC : ColsOk t cols) :
    Calls Try.prog 40 #[t.val, .slice B cols.length d] w fun e w' => e = .returned (.int .i64 0) ∧ Below w.heap.size w w' := by
  obtain ⟨name, CA, cc, tc, PA, pc, pk⟩ := t
  have HP := Lib.hid ht.pk
  have HY := Lib.hid hy
  have HT := Lib.hid hT
  have HC := Lib.hid hC
  obtain ⟨m, hm⟩ : ∃ m, tc.length = m := ⟨_, rfl⟩
  obtain ⟨n, hn⟩ : ∃ n, pk.length = n := ⟨_, rfl⟩
  obtain ⟨l, hl⟩ : ∃ l, cols.length = l := ⟨_, rfl⟩
  have hm6 : m ≤ 6 := by rw [← hm]; exact hT.ncols
  have hn1 : 0 < n ∧ n ≤ 1000 := by rw [← hn]; exact hT.npk
  have hl1 : 0 < l ∧ l ≤ 1000 := by rw [← hl]; exact hC.pos
  unfold Tbl.val
  simp only
  rw [hl] at hd
  rw [hn, hm, hl]
  have HN := Lib.hid (And.intro hm (And.intro hn hl))
  have HB : Hid (∀ o, Below w.heap.size w (w.alloc o)) := Lib.hid fun o => (Below.refl _ _).alloc (Nat.le_refl _) _
  clear ht hy hn hm hl hT hC
  obtain ⟨hn1, hn2⟩ := hn1
  obtain ⟨hl1, hl2⟩ := hl1
  go_enter Try.func40, Try.ntmps40
  go_wp2_with fail
  have hbx := heap_alloc_new w (.cells #[.string name, .slice CA m cc, .slice PA n pc] 27)
  obtain ⟨w1, hw1⟩ : ∃ w1, w1 = w.alloc (.cells #[.string name, .slice CA m cc, .slice PA n pc] 27) := ⟨_, rfl⟩
  have HB1 : Hid (Below w.heap.size w w1) := by rw [hw1]; exact Lib.hid (HB.out _)
  have c1 : w1.cell? ⟨w.heap.size, 1, none⟩ = some (.slice CA m cc) := by rw [hw1, cell_of_row _ _ _ _ _ (0, 0) hbx]; rfl
  have c2 : w1.cell? ⟨w.heap.size, 2, none⟩ = some (.slice PA n pc) := by rw [hw1, cell_of_row _ _ _ _ _ (0, 0) hbx]; rfl
  rw [← hw1]
  clear hbx hw1
  go_loopw [16] (fun vi wr => ∃ k : Nat, vi = .int .i64 (k : Int) ∧ k ≤ n ∧ w1 = wr) (fun vi _ => n - (intOf vi).toNat)
  case atStart => exact ⟨0, rfl, by omega, rfl⟩
  case round =>
    obtain ⟨k, rfl, hkn, rfl⟩ := hrel
    by_cases hlt : k < n
    · have hki : k < pk.length := by have := HN.out; omega
      obtain ⟨b, off, rfl, hbs, c0⟩ := (HP.out.on HB1.out).int hki
      have hki' : (k : Int) < (n : Int) := by omega
      have hr := HT.out.pk _ (List.getElem_mem hki)
      have hr1 : 0 ≤ pk[k] := hr.1
      have hr2 : pk[k] < (m : Int) := by rw [← HN.out.1]; exact hr.2
      clear hr
      by_cases hk0 : k = 0
      · have hk1 : ¬ (0 : Int) < (k : Int) := by omega
        clear hk0
        generalize pk[k] = y at *
        go_wp2_with fail
        go_roundw
        case rel => exact ⟨k + 1, by go_num, by omega, by trivial⟩
        case measure => simp [intOf]; omega
      · obtain ⟨j, rfl⟩ : ∃ j, k = j + 1 := ⟨k - 1, by omega⟩
        have hlt2 := List.pairwise_iff_getElem.1 HT.out.ord j (j + 1) (show j < pk.length from by omega) hki (by omega)
        obtain ⟨b', off', e', -, c1'⟩ := (HP.out.on HB1.out).int (k := j) (show j < pk.length from by omega)
        injection e' with e'
        injection e' with e1 e2
        subst e1 e2
        have hj1 : (0 : Int) < (j : Int) + 1 := by omega
        have hj2 : ((j + 1 : Nat) : Int) - 1 = (j : Int) := by omega
        have hj3 : (j : Int) < (n : Int) := by omega
        simp only at hlt2
        generalize pk[j + 1] = y at *
        generalize pk[j]'(show j < pk.length from by omega) = z at *
        go_wp2_with fail
        go_roundw
        case rel => exact ⟨j + 1 + 1, by go_num, by omega, by trivial⟩
        case measure => simp [intOf]; omega
    · have hkn' : k = n := by omega
      subst hkn'
      have hk0 : ((k : Int) == 0) = false := by simp; omega
      go_wp2_with fail
      go_loopw [51] (fun vi wr => ∃ i : Nat, vi = .int .i64 (i : Int) ∧ i ≤ l ∧ w1 = wr) (fun vi _ => l - (intOf vi).toNat)
      case atStart => exact ⟨0, rfl, by omega, rfl⟩
      case round =>
        obtain ⟨i, rfl, hil, rfl⟩ := hrel
        by_cases hlt2 : i < l
        · have hki : i < cols.length := by have := HN.out; omega
          have hyy := HY.out.on HB1.out
          obtain ⟨b, off, rfl, hbs, c0⟩ := hyy.int hki
          have hr := HC.out.rng _ (List.getElem_mem hki)
          have hr1 : 0 ≤ cols[i] := hr.1
          have hr2 : cols[i] < (m : Int) := by rw [← HN.out.1]; exact hr.2
          have hnd : cols[i] ∉ cols.take i := fun hmem => by
            obtain ⟨j, hj, e⟩ := List.getElem_of_mem hmem
            rw [List.getElem_take] at e
            rw [List.length_take] at hj
            have h := (List.nodup_iff_pairwise_ne.1 HC.out.nd)
            exact List.pairwise_iff_getElem.1 h j i (by omega) hki (by omega) e
          have hli : (cols.take i).length = i := by rw [List.length_take]; omega
          have hcc := containsInts (some ⟨b, off, none⟩) d (cols.take i) cols[i] w1 (hyy.take i) (by omega)
          rw [hli, decide_eq_false hnd] at hcc
          have HCC := Lib.hid hcc
          have hi1 : (i : Int) < (l : Int) := by omega
          have hi2 : (i : Int) ≤ (d : Int) := by omega
          clear hr hnd hli hcc hyy
          generalize cols[i] = y at *
          go_wp2_with fail
          refine HCC.out.mono ?_
          rintro e w' ⟨rfl, rfl⟩
          go_wp2_with fail
          go_roundw
          case rel => first | exact ⟨i + 1, by go_num, by omega, by trivial⟩ | ((repeat apply Exists.intro); exact ⟨⟨i + 1, by go_num, by omega, by trivial⟩, rfl⟩)
          case measure => simp [intOf]; omega
        · have hil' : i = l := by omega
          subst hil'
          go_wp2_with fail
          go_ret
          exact ⟨rfl, HB1.out⟩
end Go.Proofs.Ytakbabkcidioaaa
