/-
  The walks of secondary.CheckRow, matches, sortedKeys, where all is well.
-/
import Derived.Test.YtakbabkcidioaaaYa
import Derived.Test.YtakbabkcidioaaaCheck
import Derived.Test.YtakbabkcidioaaaCvw
namespace Go.Proofs.Ytakbabkcidioaaa
open Go.RowKit Go.Sort

def col0 : Col := ⟨ByteArray.empty, 0, false⟩
/-- The value fits the column. -/
def colOk (c : Col) (v : Val) : Prop := (v.kind = c.kind ∧ v.kind ≠ 0) ∨ (v.kind = 0 ∧ c.null = true)
/-- A row of the table. -/
structure RowOk (t : Tbl) (r : Row) : Prop where
  len : r.length = t.cols.length
  err : rErr r = 0
  col : ∀ (i : Nat) (h : i < r.length), colOk (t.cols.getD i col0) r[i]
/-- A value for each column. -/
structure VOk (t : Tbl) (cols : List Int) (r : Row) : Prop where
  len : r.length = cols.length
  err : rErr r = 0
  col : ∀ (i : Nat) (h : i < r.length), colOk (t.cols.getD (cols.getD i 0).toNat col0) r[i]

set_option maxRecDepth 100000 in
set_option maxHeartbeats 4000000 in
theorem secCheckRow (t : Tbl) (A : Option Addr) (c : Nat) (r : Row) (w : World) (ht : TOk (· < w.heap.size) w t) (hx : Elems 3 Val.cs w (· < w.heap.size) A r) (h6 : t.cols.length ≤ 1000) (hr : RowOk t r) :
    Calls Try.prog 27 #[t.val, .slice A r.length c] w fun e w' => e = .returned (.int .i64 0) ∧ Below w.heap.size w w' := by
  obtain ⟨name, CA, cc, tc, PA, pc, pk⟩ := t
  have HC := Lib.hid ht.cols
  have HX := Lib.hid hx
  have HR := Lib.hid hr
  obtain ⟨n, hn⟩ : ∃ n, tc.length = n := ⟨_, rfl⟩
  have hrn : r.length = n := by rw [← hn]; exact hr.len
  have h6 : n ≤ 1000 := by rw [← hn]; exact h6
  have HK0 := Lib.hid fun o => checkRow A c r (w.alloc o) (hx.on ((Below.refl _ _).alloc (Nat.le_refl _) o)) (by unfold maxLen; omega)
  unfold Tbl.val
  simp only
  rw [hrn] at HK0 ⊢
  rw [hn]
  rw [hr.err] at HK0
  have HN := Lib.hid (And.intro hn hrn)
  have HB : Hid (∀ o, Below w.heap.size w (w.alloc o)) := Lib.hid fun o => (Below.refl _ _).alloc (Nat.le_refl _) _
  clear ht hx hr hn hrn
  have hbx := heap_alloc_new w (.cells #[.string name, .slice CA n cc, .slice PA pk.length pc] 27)
  obtain ⟨w1, hw1⟩ : ∃ w1, w1 = w.alloc (.cells #[.string name, .slice CA n cc, .slice PA pk.length pc] 27) := ⟨_, rfl⟩
  have HB1 : Hid (Below w.heap.size w w1) := by rw [hw1]; exact Lib.hid (HB.out _)
  have HG1 : Hid (w.heap.size < w1.heap.size) := Lib.hid (by rw [hw1]; simp)
  have c1 : w1.cell? ⟨w.heap.size, 1, none⟩ = some (.slice CA n cc) := by rw [hw1, cell_of_row _ _ _ _ _ (0, 0) hbx]; rfl
  have HK := Lib.hid (HK0.out (.cells #[.string name, .slice CA n cc, .slice PA pk.length pc] 27))
  rw [← hw1] at HK
  have HW1 := Lib.hid hw1
  clear hbx hw1 HK0
  go_enter Try.func27, Try.ntmps27
  go_wp2_with fail
  rw [← HW1.out]
  refine HK.out.mono ?_
  rintro e w2 ⟨rfl, hb2⟩
  have c1' := (hb2.cell (p := ⟨w.heap.size, 1, none⟩) HG1.out).trans c1
  have HB2 := Lib.hid (HB1.out.trans (hb2.mono HB1.out.size))
  clear hb2 c1 HK
  go_wp2_with fail
  go_loopw [22] (fun vi wr => ∃ k : Nat, vi = .int .i64 (k : Int) ∧ k ≤ n ∧ Below w.heap.size w wr) (fun vi _ => n - (intOf vi).toNat)
  case atStart => exact ⟨0, rfl, by omega, HB2.out⟩
  case round =>
    obtain ⟨k, rfl, hkn, hb⟩ := hrel
    by_cases hlt : k < n
    · have hkr : k < r.length := by have := HN.out; omega
      have hkc : k < tc.length := by have := HN.out; omega
      obtain ⟨b, off, rfl, hbs, c0, c1, c2⟩ := (HC.out.on hb).col hkc
      have hxr := HX.out.on hb
      have hco := HR.out.col k hkr
      have hgd : tc.getD k col0 = tc[k] := by rw [List.getD_eq_getElem?_getD, List.getElem?_eq_getElem hkc]; rfl
      have hco : colOk tc[k] r[k] := hgd ▸ hco
      obtain ⟨b', off', rfl, hbs', -⟩ := hxr.val hkr
      have e0 : ∀ o, (wr.alloc o).cell? ⟨b', off' + k * 3, none⟩ = some (.int .i64 r[k].kind) := fun o => by
        obtain ⟨b'', off'', e, -, h, -⟩ := (hxr.on ((Below.refl _ _).alloc (Nat.le_refl _) o)).val hkr
        injection e with e
        injection e with e1 e2
        subst e1 e2
        exact h
      have hkn' : (k : Int) < (n : Int) := by omega
      have HB := Lib.hid hb
      have HBA : Hid (∀ o m, Below w.heap.size w ((wr.alloc o).drewN m)) := Lib.hid fun o m => below_drewN (hb.alloc hb.size o) m
      clear hb hxr hbs hbs' hgd
      generalize tc[k] = cl at *
      generalize r[k] = v at *
      rcases hco with ⟨h1, h2⟩ | ⟨h1, h2⟩
      · have g1 : (v.kind == 0) = false := by simp [h2]
        have g2 : (v.kind != 0) = true := by simp [h2]
        have g3 : (v.kind != cl.kind) = false := by simp [h1]
        clear h1 h2
        go_wp2_with fail
        go_quiet (fail)
        go_wp2_with fail
        go_roundw
        case rel => exact ⟨k + 1, by go_num, by omega, HBA.out _ _⟩
        case measure => simp [intOf]; omega
      · have g1 : (v.kind == 0) = true := by simp [h1]
        have g2 : (v.kind != 0) = false := by simp [h1]
        have g3 : cl.null = true := h2
        clear h1 h2
        go_wp2_with fail
        go_quiet (fail)
        go_wp2_with fail
        go_roundw
        case rel => exact ⟨k + 1, by go_num, by omega, HBA.out _ _⟩
        case measure => simp [intOf]; omega
    · have hkn' : k = n := by omega
      subst hkn'
      have HB := Lib.hid hb
      clear hb
      go_wp2_with fail
      go_ret
      exact ⟨rfl, HB.out⟩

set_option maxRecDepth 100000 in
set_option maxHeartbeats 4000000 in
theorem matchesW (t : Tbl) (B : Option Addr) (d : Nat) (cols : List Int) (A : Option Addr) (c : Nat) (r : Row) (w : World) (ht : TOk (· < w.heap.size) w t) (hy : Elems 1 intCs w (· < w.heap.size) B cols) (hx : Elems 3 Val.cs w (· < w.heap.size) A r) (hl : cols.length ≤ 1000) (hc : ∀ k ∈ cols, 0 ≤ k ∧ k < (t.cols.length : Int)) (hr : VOk t cols r) :
    Calls Try.prog 24 #[t.val, .slice B cols.length d, .slice A r.length c] w fun e w' => e = .returned (.bool true) ∧ Below w.heap.size w w' := by
  obtain ⟨name, CA, cc, tc, PA, pc, pk⟩ := t
  have HC := Lib.hid ht.cols
  have HX := Lib.hid hx
  have HY := Lib.hid hy
  have HR := Lib.hid hr
  have HRNG := Lib.hid hc
  obtain ⟨n, hn⟩ : ∃ n, cols.length = n := ⟨_, rfl⟩
  obtain ⟨m, hm⟩ : ∃ m, tc.length = m := ⟨_, rfl⟩
  have hrn : r.length = n := by rw [← hn]; exact hr.len
  have hl : n ≤ 1000 := by rw [← hn]; exact hl
  have HK0 := Lib.hid fun o => checkRow A c r (w.alloc o) (hx.on ((Below.refl _ _).alloc (Nat.le_refl _) o)) (by unfold maxLen; omega)
  unfold Tbl.val
  simp only
  rw [hrn] at HK0 ⊢
  rw [hn, hm]
  rw [hr.err] at HK0
  have HN := Lib.hid (And.intro hn (And.intro hrn hm))
  have HB : Hid (∀ o, Below w.heap.size w (w.alloc o)) := Lib.hid fun o => (Below.refl _ _).alloc (Nat.le_refl _) _
  clear ht hx hr hn hrn hy hc hm
  have hbx := heap_alloc_new w (.cells #[.string name, .slice CA m cc, .slice PA pk.length pc] 27)
  obtain ⟨w1, hw1⟩ : ∃ w1, w1 = w.alloc (.cells #[.string name, .slice CA m cc, .slice PA pk.length pc] 27) := ⟨_, rfl⟩
  have HB1 : Hid (Below w.heap.size w w1) := by rw [hw1]; exact Lib.hid (HB.out _)
  have HG1 : Hid (w.heap.size < w1.heap.size) := Lib.hid (by rw [hw1]; simp)
  have HBX : Hid (w1.cell? ⟨w.heap.size, 1, none⟩ = some (.slice CA m cc)) := Lib.hid (by rw [hw1, cell_of_row _ _ _ _ _ (0, 0) hbx]; rfl)
  have HK := Lib.hid (HK0.out (.cells #[.string name, .slice CA m cc, .slice PA pk.length pc] 27))
  rw [← hw1] at HK
  have HW1 := Lib.hid hw1
  clear hbx hw1 HK0
  go_enter Try.func24, Try.ntmps24
  go_wp2_with fail
  rw [← HW1.out]
  refine HK.out.mono ?_
  rintro e w2 ⟨rfl, hb2⟩
  have HB2 := Lib.hid (HB1.out.trans (hb2.mono HB1.out.size))
  have HB12 := Lib.hid hb2
  clear hb2 HK
  go_wp2_with fail
  go_loopw [22] (fun vi wr => ∃ k : Nat, vi = .int .i64 (k : Int) ∧ k ≤ n ∧ Below w1.heap.size w1 wr) (fun vi _ => n - (intOf vi).toNat)
  case atStart => exact ⟨0, rfl, by omega, HB12.out⟩
  case round =>
    obtain ⟨k, rfl, hkn, hb1⟩ := hrel
    have hb : Below w.heap.size w wr := HB1.out.trans (hb1.mono HB1.out.size)
    by_cases hlt : k < n
    · have hkr : k < r.length := by have := HN.out; omega
      have hkc : k < cols.length := by have := HN.out; omega
      have hrg := HRNG.out _ (List.getElem_mem hkc)
      obtain ⟨b2, off2, rfl, hbs2, i0⟩ := (HY.out.on hb).int hkc
      have hco := HR.out.col k hkr
      have hgi : cols.getD k 0 = cols[k] := by rw [List.getD_eq_getElem?_getD, List.getElem?_eq_getElem hkc]; rfl
      simp only at hrg hco
      rw [hgi] at hco
      generalize cols[k] = ci at *
      obtain ⟨j, rfl⟩ := Int.eq_ofNat_of_zero_le hrg.1
      have hjm : j < tc.length := by omega
      rw [Int.toNat_natCast] at hco
      have hgd : tc.getD j col0 = tc[j] := by rw [List.getD_eq_getElem?_getD, List.getElem?_eq_getElem hjm]; rfl
      rw [hgd] at hco
      obtain ⟨b, off, rfl, hbs, c0, c1, c2⟩ := (HC.out.on hb).col hjm
      have hxr := HX.out.on hb
      obtain ⟨b', off', rfl, hbs', -⟩ := hxr.val hkr
      have e0 : ∀ o, (wr.alloc o).cell? ⟨b', off' + k * 3, none⟩ = some (.int .i64 r[k].kind) := fun o => by
        obtain ⟨b'', off'', e, -, h, -⟩ := (hxr.on ((Below.refl _ _).alloc (Nat.le_refl _) o)).val hkr
        injection e with e
        injection e with e1 e2
        subst e1 e2
        exact h
      have hcb := (hb1.cell (p := ⟨w.heap.size, 1, none⟩) HG1.out).trans HBX.out
      have hkn' : (k : Int) < (n : Int) := by omega
      have hjm' : (j : Int) < (m : Int) := by have := HN.out; omega
      have HBA : Hid (∀ o q, Below w1.heap.size w1 ((wr.alloc o).drewN q)) := Lib.hid fun o q => below_drewN (hb1.alloc hb1.size o) q
      clear hb1 hb hxr hbs hbs' hgd hgi hrg hbs2
      generalize tc[j] = cl at *
      generalize r[k] = v at *
      rcases hco with ⟨h1, h2⟩ | ⟨h1, h2⟩
      · have g2 : (v.kind != 0) = true := by simp [h2]
        have g3 : (v.kind != cl.kind) = false := by simp [h1]
        clear h1 h2
        go_wp2_with fail
        go_quiet (fail)
        go_wp2_with fail
        go_roundw
        case rel => exact ⟨k + 1, by go_num, by omega, HBA.out _ _⟩
        case measure => simp [intOf]; omega
      · have g2 : (v.kind != 0) = false := by simp [h1]
        have g4 : cl.null = true := h2
        rcases Bool.eq_false_or_eq_true (v.kind != cl.kind) with g3 | g3
        · clear h1 h2
          go_wp2_with fail
          go_quiet (fail)
          go_wp2_with fail
          go_roundw
          case rel => exact ⟨k + 1, by go_num, by omega, HBA.out _ _⟩
          case measure => simp [intOf]; omega
        · clear h1 h2
          go_wp2_with fail
          go_quiet (fail)
          go_wp2_with fail
          go_roundw
          case rel => exact ⟨k + 1, by go_num, by omega, HBA.out _ _⟩
          case measure => simp [intOf]; omega
    · have hkn' : k = n := by omega
      subst hkn'
      have HB := Lib.hid hb
      clear hb hb1
      go_wp2_with fail
      go_ret
      exact ⟨rfl, HB.out⟩

theorem cmpKeys (a b : Key) (w : World) (ha : KOk (· < w.heap.size) w a) (hb : KOk (· < w.heap.size) w b) :
    Calls Try.prog 26 #[.slice a.A a.row.length a.c, .slice b.A b.row.length b.c] w fun e w' => e = .returned (.int .i64 (cmpR a.row b.row)) ∧ Below w.heap.size w w' :=
  (cmpRows a.A b.A a.c b.c a.row b.row w _ _ ha.el hb.el (fun _ h => h) (fun _ h => h) (by have := ha.len; omega)).mono fun e w' ⟨h1, p, h2⟩ => ⟨h1, by rw [h2]; exact below_grow w p.n p.os⟩

set_option maxRecDepth 100000 in
set_option maxHeartbeats 4000000 in
theorem sortedKeysW (t : Tbl) (A : Option Addr) (c : Nat) (keys : List Key) (w : World) (ht : TOk (· < w.heap.size) w t) (hT : TabOk t) (hx : Elems 1 Key.cs w (· < w.heap.size) A keys) (hk : ∀ k ∈ keys, KOk (· < w.heap.size) w k) (hl : keys.length ≤ 1000) (hv : ∀ k ∈ keys, VOk t t.pk k.row) (hs : (keys.map Key.row).Pairwise rl) :
    Calls Try.prog 41 #[t.val, .slice A keys.length c] w fun e w' => e = .returned (.int .i64 0) ∧ Below w.heap.size w w' := by
  have HM := Lib.hid fun (W : World) (k : Key) (hb : Below w.heap.size w W) (hm : k ∈ keys) => matchesW t t.PA t.pc t.pk k.A k.c k.row W (ht.on hb) ((ht.on hb).pk) ((hk k hm).on hb).el hT.npk.2 hT.pk (hv k hm)
  have HCM := Lib.hid fun (W : World) (a b : Key) (hb : Below w.heap.size w W) (h1 : a ∈ keys) (h2 : b ∈ keys) => cmpKeys a b W ((hk a h1).on hb) ((hk b h2).on hb)
  obtain ⟨name, CA, cc, tc, PA, pc, pk⟩ := t
  have HX := Lib.hid hx
  have HS : Hid (∀ j (h : j + 1 < keys.length), cmpR keys[j].row keys[j + 1].row < 0) := Lib.hid fun j h => by
    have := List.pairwise_iff_getElem.1 hs j (j + 1) (by simp; omega) (by simp; omega) (by omega)
    simpa [rl] using this
  obtain ⟨n, hn⟩ : ∃ n, keys.length = n := ⟨_, rfl⟩
  unfold Tbl.val at *
  simp only at *
  rw [hn] at hl ⊢
  have HN := Lib.hid hn
  have HB : Hid (∀ o, Below w.heap.size w (w.alloc o)) := Lib.hid fun o => (Below.refl _ _).alloc (Nat.le_refl _) _
  clear ht hT hx hk hv hs hn
  have hbx := heap_alloc_new w (.cells #[.string name, .slice CA tc.length cc, .slice PA pk.length pc] 27)
  obtain ⟨w1, hw1⟩ : ∃ w1, w1 = w.alloc (.cells #[.string name, .slice CA tc.length cc, .slice PA pk.length pc] 27) := ⟨_, rfl⟩
  have HB1 : Hid (Below w.heap.size w w1) := by rw [hw1]; exact Lib.hid (HB.out _)
  have HG1 : Hid (w.heap.size < w1.heap.size) := Lib.hid (by rw [hw1]; simp)
  have HBX : Hid (w1.heap[w.heap.size]? = some (.cells #[.string name, .slice CA tc.length cc, .slice PA pk.length pc] 27 (0, 0))) := Lib.hid (by rw [hw1, hbx])
  have HW1 := Lib.hid hw1
  clear hbx hw1
  go_enter Try.func41, Try.ntmps41
  go_wp2_with fail
  rw [← HW1.out]
  go_loopw [9] (fun vi wr => ∃ k : Nat, vi = .int .i64 (k : Int) ∧ k ≤ n ∧ Below w1.heap.size w1 wr) (fun vi _ => n - (intOf vi).toNat)
  case atStart => exact ⟨0, rfl, by omega, Below.refl _ _⟩
  case round =>
    obtain ⟨k, rfl, hkn, hb1⟩ := hrel
    have hb : Below w.heap.size w wr := HB1.out.trans (hb1.mono HB1.out.size)
    by_cases hlt : k < n
    · have hkr : k < keys.length := by have := HN.out; omega
      obtain ⟨b, off, rfl, hbs, c0⟩ := (HX.out.on hb).key hkr
      have hbx := (hb1.block _ HG1.out).trans HBX.out
      have x0 : wr.cell? ⟨w.heap.size, 0, none⟩ = some (.string name) := by rw [cell_of_row _ _ _ _ _ (0, 0) hbx]; rfl
      have x1 : wr.cell? ⟨w.heap.size, 1, none⟩ = some (.slice CA tc.length cc) := by rw [cell_of_row _ _ _ _ _ (0, 0) hbx]; rfl
      have x2 : wr.cell? ⟨w.heap.size, 2, none⟩ = some (.slice PA pk.length pc) := by rw [cell_of_row _ _ _ _ _ (0, 0) hbx]; rfl
      have HMK := Lib.hid (HM.out wr keys[k] hb (List.getElem_mem hkr))
      have hkn' : (k : Int) < (n : Int) := by omega
      have HB2 := Lib.hid hb1
      by_cases hk0 : k = 0
      · have hk1 : ¬ (0 : Int) < (k : Int) := by omega
        clear hk0 hb hb1 hbs hbx
        generalize keys[k] = kk at *
        go_wp2_with fail
        refine HMK.out.mono ?_
        rintro e w2 ⟨rfl, hb2⟩
        have HB3 := Lib.hid (HB2.out.trans (hb2.mono HB2.out.size))
        clear hb2 HMK
        go_wp2_with fail
        go_roundw
        case rel => exact ⟨k + 1, by go_num, by omega, HB3.out⟩
        case measure => simp [intOf]; omega
      · obtain ⟨j, rfl⟩ : ∃ j, k = j + 1 := ⟨k - 1, by omega⟩
        have hjr : j < keys.length := by omega
        obtain ⟨b', off', e', -, c1'⟩ := (HX.out.on hb).key hjr
        injection e' with e'
        injection e' with e1 e2
        subst e1 e2
        have hj1 : (0 : Int) < (j : Int) + 1 := by omega
        have hj2 : ((j + 1 : Nat) : Int) - 1 = (j : Int) := by omega
        have hj3 : (j : Int) < (n : Int) := by omega
        have hlt2 := HS.out j hkr
        have HBW := Lib.hid hb
        have HCK : Hid (∀ W, Below wr.heap.size wr W → Calls Try.prog 26 #[.slice keys[j].A keys[j].row.length keys[j].c, .slice keys[j + 1].A keys[j + 1].row.length keys[j + 1].c] W fun e w' => e = .returned (.int .i64 (cmpR keys[j].row keys[j + 1].row)) ∧ Below W.heap.size W w') := Lib.hid fun W hW =>
          HCM.out W keys[j] keys[j + 1] (HBW.out.trans (hW.mono HBW.out.size)) (List.getElem_mem hjr) (List.getElem_mem hkr)
        have c1w : ∀ W, Below wr.heap.size wr W → W.cell? ⟨b, off + j, none⟩ = some (.slice keys[j].A keys[j].row.length keys[j].c) := fun W hW => (hW.cell (p := ⟨b, off + j, none⟩) hbs).trans c1'
        have HC1 := Lib.hid c1w
        clear hk0 hb hb1 hbs hbx c1w c1'
        generalize keys[j + 1] = kk at *
        generalize keys[j] = kj at *
        generalize cmpR kj.row kk.row = cv at *
        go_wp2_with fail
        refine HMK.out.mono ?_
        rintro e w2 ⟨rfl, hb2⟩
        have HB3 := Lib.hid (HB2.out.trans (hb2.mono HB2.out.size))
        have c1 := HC1.out w2 hb2
        have HCK2 := Lib.hid (HCK.out w2 hb2)
        have hge : ¬ (0 : Int) ≤ cv := by omega
        clear hb2 HMK HCK HC1
        go_wp2_with fail
        refine HCK2.out.mono ?_
        rintro e w3 ⟨rfl, hb3⟩
        have HB4 := Lib.hid (HB3.out.trans (hb3.mono HB3.out.size))
        clear hb3 HCK2
        go_wp2_with fail
        go_roundw
        case rel => exact ⟨j + 1 + 1, by go_num, by omega, HB4.out⟩
        case measure => simp [intOf]; omega
    · have hkn' : k = n := by omega
      subst hkn'
      have HB := Lib.hid hb
      clear hb hb1
      go_wp2_with fail
      go_ret
      exact ⟨rfl, HB.out⟩
end Go.Proofs.Ytakbabkcidioaaa
