/-
  The walks of slices.Insert with one element: entries and keys of an index. (Printed by secops.py.)
-/
import Derived.Test.YtefifkleamiabaaSm
import Derived.Test.YtefifkleamiabaaYd1
import Derived.StillTailTactics
namespace Go.Proofs.Ytefifkleamiabaa
open Go.RowKit

theorem sizeOf_of {P : Program} {t e : TypeId} {sz bytes : Nat} (E : ElemT P t e sz bytes) (w : World) : (Go.sizeOf e).run P w = .ok sz w := by
  obtain ⟨i, z, hi, hz, h2, h3, h4⟩ := E.info
  simp [sizeOf, typeInfo, hi, h2]
/-- Two blocks differ. -/
theorem ne_of_own {α : Type} {sz : Nat} {cs : α → List Value} {e : TypeId} {w : World} {g n c gv : Nat} {xs : List α} (_h : Own sz cs e 0 w (.slice (some ⟨g, 0, none⟩) n c) xs) (hne : (Value.slice (some ⟨g, 0, none⟩) n c).ownBlock ≠ some gv) : gv ≠ g := fun h => hne (by rw [h]; rfl)
set_option maxRecDepth 100000 in
set_option maxHeartbeats 2000000 in
theorem insKey_end (base : Nat) (A : Option Addr) (c : Nat) (xs : List Key) (y : Key) (w : World) {gv : Nat} {u : Array Value} (hown : Own 1 Key.cs 23 base w (.slice A xs.length c) xs) (hcl : xs.length ≤ c) (hcm : c ≤ 9223372036854775807)
    (hgv : w.heap[gv]? = some (.cells u 23 (0, 0))) (hu : u.toList = Key.cs y) (hB : base ≤ w.heap.size) (hl : xs.length ≤ 1000) :
    Calls Try.prog 51 #[.slice A xs.length c, .int .i64 xs.length, .slice (some ⟨gv, 0, none⟩) 1 1] w fun e w' => ∃ v', e = .returned v' ∧ Own 1 Key.cs 23 base w' v' (xs ++ [y]) ∧ Ext w (.slice A xs.length c) w' v' := by
  have hel : Elems 1 Key.cs w (fun k => k = gv) (some ⟨gv, 0, none⟩) [y] := fun _ => ⟨gv, 0, rfl, rfl, fun i x hx j v hv => by
    have hi : i = 0 := by
      have := (List.getElem?_eq_some_iff.1 hx).1
      simpa using this
    subst hi
    simp at hx
    subst hx
    rw [cell_of_row _ gv _ _ _ (0, 0) hgv, ← Array.getElem?_toList, hu]
    simpa using hv⟩
  have HR := Lib.hid (run_pushs elem_keys keyLay 71 w _ xs (c := 1) (n := 1) hown hel rfl (by simp; omega) (by unfold maxLen; simp; omega) hB)
  clear hown hel hgv hu
  rcases Nat.eq_or_lt_of_le hcl with h | h
  · have h2 : (c : Int) = (xs.length : Int) := by omega
    subst h
    go_enter Try.func51, Try.ntmps51
    go_wp2_with (at_builtin; refine wpList_app rfl (.tmp 23) (.tmp 24) _ _ rfl rfl rfl HR.out ?_; rintro v1 w1 ⟨ho1, hx1⟩)
    go_ret
    exact ⟨_, rfl, ho1, hx1⟩
  · have h2 : ¬ (c = xs.length) := by omega
    go_enter Try.func51, Try.ntmps51
    go_wp2_with (at_builtin; refine wpList_app rfl (.tmp 23) (.tmp 24) _ _ rfl rfl rfl HR.out ?_; rintro v1 w1 ⟨ho1, hx1⟩)
    go_ret
    exact ⟨_, rfl, ho1, hx1⟩

set_option maxRecDepth 100000 in
set_option maxHeartbeats 2000000 in
theorem insKey_in (g n c i : Nat) (w : World) {gv : Nat} {u cur : Array Value} {D : List Value} (hg : w.heap[g]? = some (.cells cur 23 (0, 0))) (hs : cur.size = c) (hin : i < n) (hnc : n + 1 ≤ c) (_hcm : c ≤ 9223372036854775807)
    (hgv : w.heap[gv]? = some (.cells u 23 (0, 0))) (hu : u.toList.length = 1) (hu1 : ∀ v ∈ u.toList, v.oneCell' = true) (hD : (cur.toList.drop (i)).take ((n - i)) = D) (hDl : D.length = (n - i)) (hD1 : ∀ v ∈ D, v.oneCell' = true) (hne : gv ≠ g) (hl : n ≤ 1000) :
    Calls Try.prog 51 #[.slice (some ⟨g, 0, none⟩) n c, .int .i64 i, .slice (some ⟨gv, 0, none⟩) 1 1] w fun e w' => e = .returned (.slice (some ⟨g, 0, none⟩) (n + 1) c) ∧ w' = (w.drew.setCells g ((i + 1)) D).setCells g (i) u.toList := by
  have h2 : ¬ (c = i) := by omega
  have h3 : ¬ ((i : Int) = (n : Int)) := by omega
  have h4 : ¬ ((c : Int) < (n : Int) + 1) := by omega
  have h5 : ¬ (c = i + 1) := by omega
  have hw1 : IntKind.i64.wrap ((i : Int) + 1) = (i : Int) + 1 := by rw [IntKind.wrap_i64]; omega
  have hb1 : (0 : Int) ≤ (i : Int) + 1 := by omega
  have hb2 : (i : Int) ≤ (n : Int) := by omega
  have hb3 : (i : Int) + 1 ≤ (n : Int) + 1 := by omega
  have hb4 : (i : Int) ≤ (n : Int) + 1 := by omega
  have htn : ((i : Int) + 1).toNat = i + 1 := by omega
  have HOV := Lib.hid fun lb cb => Lib.run_overlaps_apart (P := Try.prog) w 71 4 23 Try.underlying71 1 (sizeOf_of elem_keys) ⟨gv, 0, none⟩ ⟨g, (i + 1), none⟩ 1 1 lb cb hne 23 23 1 (c) (by simp [World.shape?, hgv]; simpa using hu) (by simp [World.shape?, hg, hs]) (by omega) (frozen_of_row w gv _ u _ hgv) (frozen_of_row w gv _ u _ hgv)
  have HC1 := Lib.hid fun ty dc sc => run_copy_blk elem_keys w.drew 71 ty (g := g) (o := (i + 1)) (dLen := n - i) (dCap := dc) (sLen := n + 1 - i) (sCap := sc) (n := n - i) (a := ⟨g, i, none⟩) (cs := D) hg (by show _ = min _ _; omega) (by omega) (blk_cells (w := w) hg hD hDl) (by omega) hD1
  have HC2 := Lib.hid fun ty dc sc => run_copy_blk elem_keys (w.drew.setCells g ((i + 1)) D) 71 ty (g := g) (o := i) (dLen := n + 1 - i) (dCap := dc) (sLen := 1) (sCap := sc) (n := 1) (a := ⟨gv, 0, none⟩) (cs := u.toList) (heap_setCells_eq D _ w.drew cur hg) (by show _ = min _ _; omega) (by simpa using hu)
    (blk_cells (w := w.drew.setCells g ((i + 1)) D) (n := u.toList.length) ((heap_setCells_ne hne D _ w.drew).trans hgv) (by rw [List.drop_zero]; exact List.take_of_length_le (Nat.le_refl _)) rfl) (by rw [putL_size]; omega) hu1
  clear hg hgv hu hu1 hD hDl hD1 hs
  go_enter Try.func51, Try.ntmps51
  go_wp2_with fail
  rw [run_callFunc_extern Try.func56 (by kernel_rfl) (by kernel_rfl) (by kernel_rfl) (e := Extern.SlicesOverlaps.overlaps #[71, 71] #[4]) (by kernel_rfl), HOV.out]
  simp only [Result.andThen]
  rw [Oper.upon_value]
  go_wp2_with fail
  go_still_tail 8, (by kernel_rfl)
  change wpList _ _ _ _ _ w.drew
  refine wpList_copy_r rfl (.tmp 73) (.tmp 76) _ _ rfl rfl rfl (HC1.out _ _ _) ?_
  go_wp2_with fail
  rw [HC2.out]
  simp only [Result.andThen]
  rw [Oper.upon_value]
  go_wp2_with fail
  go_ret
  exact ⟨rfl, rfl⟩

set_option maxRecDepth 100000 in
set_option maxHeartbeats 2000000 in
theorem insKey_grow (g n c i : Nat) (w : World) {gv : Nat} {u cur : Array Value} {D F : List Value} (hg : w.heap[g]? = some (.cells cur 23 (0, 0))) (hin : i < n) (hnc : c < n + 1) (hcn : n ≤ c)
    (hgv : w.heap[gv]? = some (.cells u 23 (0, 0))) (hu : u.toList.length = 1) (hu1 : ∀ v ∈ u.toList, v.oneCell' = true) (hF : cur.toList.take (i) = F) (hFl : F.length = i) (hD : (cur.toList.drop (i)).take ((n - i)) = D) (hDl : D.length = (n - i)) (hD1 : ∀ v ∈ D, v.oneCell' = true) (hl : n ≤ 1000) :
    Calls Try.prog 51 #[.slice (some ⟨g, 0, none⟩) n c, .int .i64 i, .slice (some ⟨gv, 0, none⟩) 1 1] w fun e w' => ∃ (c' : Nat) (cur' : Array Value), e = .returned (.slice (some ⟨w.heap.size, 0, none⟩) (n + 1) c') ∧ n + 1 ≤ c' ∧ c' ≤ maxLen ∧ cur'.size = c' ∧ cur'.toList.take (i) = F
      ∧ w' = (((w.drew.alloc (.cells cur' 23)).setCells w.heap.size (i) u.toList).drew).setCells w.heap.size ((i + 1)) D := by
  have h2 : ¬ (c = i) := by omega
  have h3 : ¬ ((i : Int) = (n : Int)) := by omega
  have h4 : (c : Int) < (n : Int) + 1 := by omega
  have h5 : ¬ (c = i + 1) ∨ c = i + 1 := by omega
  have hw1 : IntKind.i64.wrap ((i : Int) + 1) = (i : Int) + 1 := by rw [IntKind.wrap_i64]; omega
  have hb1 : (0 : Int) ≤ (i : Int) + 1 := by omega
  have hb2 : (i : Int) ≤ (n : Int) := by omega
  have hb3 : (i : Int) + 1 ≤ (n : Int) + 1 := by omega
  have hb4 : (i : Int) ≤ (n : Int) + 1 := by omega
  have htn : ((i : Int) + 1).toNat = i + 1 := by omega
  obtain ⟨gc, hgc⟩ : ∃ gc, gc = grownCap w (n + 1) c 23 := ⟨_, rfl⟩
  have hg1 : n + 1 ≤ gc := by rw [hgc]; exact grownCap_ge _ _ _ _
  have hg2 : gc ≤ maxLen := by rw [hgc]; exact grownCap_le_maxLen _ _ _ _ (by unfold maxLen; omega)
  have h6 : ¬ (gc = i) := by omega
  have h7 : ¬ (gc = i + 1) := by omega
  obtain ⟨it, z, hi, hz, hisz, hiby, hzc⟩ := elem_keys.info
  obtain ⟨cur', hcur'⟩ : ∃ cur' : Array Value, cur' = F.toArray ++ Builtin.zeroCells z.cells (n + 1 - i) ++ Builtin.zeroCells z.cells (gc - (n + 1)) := ⟨_, rfl⟩
  have hsz : cur'.size = gc := by
    rw [hcur']
    simp [Builtin.zeroCells, hzc, hFl]
    omega
  have hcF : cur'.toList.take (i) = F := by
    rw [hcur', Array.toList_append, Array.toList_append, List.append_assoc, ← hFl]
    exact List.take_left
  have hgn : (w.drew.alloc (.cells cur' 23)).heap[w.heap.size]? = some (.cells cur' 23 (0, 0)) := heap_alloc_new w.drew _
  have hgo : ∀ k, k < w.heap.size → (w.drew.alloc (.cells cur' 23)).heap[k]? = w.heap[k]? := fun k hk => Below.heap_alloc w.drew _ _ hk
  have hgl : g < w.heap.size := (Array.getElem?_eq_some_iff.1 hg).1
  have hgvl : gv < w.heap.size := (Array.getElem?_eq_some_iff.1 hgv).1
  have HAP : Hid (∀ ty, (Builtin.append_ #[71, 3] ty #[.slice (some ⟨g, 0, none⟩) i c, .int .i64 ((n : Int) + 1 - i)]).run Try.prog w = .ok (.slice (some ⟨w.heap.size, 0, none⟩) (n + 1) gc) (w.drew.alloc (.cells cur' 23))) := Lib.hid fun ty => by
    have hbc := blk_cells (w := w.drew) (o := 0) hg (by rw [List.drop_zero]; exact hF) hFl
    have hld := run_loadCells_list (P := Try.prog) w.drew ⟨g, 0, none⟩ F hbc
    have hk := Lib.run_append_grow_zeros (P := Try.prog) w 71 3 ty 23 it z .i64 .i64 Try.underlying71 (by kernel_rfl) hi hz (some ⟨g, 0, none⟩) i c F
      (by simp only [Builtin.firstCells]; rw [hisz, show i *  1 = F.length from by omega]; exact hld) (n + 1 - i) (by omega) (by omega) (by omega) (by omega) (by rw [hiby]; omega)
      (by rw [hiby]; exact growslice_fits (by omega) (by omega))
    have e1 : ((n + 1 - i : Nat) : Int) = (n : Int) + 1 - i := by omega
    have e2 : i + (n + 1 - i) = n + 1 := by omega
    rw [e1, e2, ← hgc] at hk
    rw [hk, hcur']
  have HC1 := Lib.hid fun ty dc sc => run_copy_blk elem_keys (w.drew.alloc (.cells cur' 23)) 71 ty (g := w.heap.size) (o := i) (dLen := n + 1 - i) (dCap := dc) (sLen := 1) (sCap := sc) (n := 1) (a := ⟨gv, 0, none⟩) (cs := u.toList) hgn (by show _ = min _ _; omega) (by simpa using hu)
    (blk_cells (w := w.drew.alloc (.cells cur' 23)) (n := u.toList.length) ((hgo gv hgvl).trans hgv) (by rw [List.drop_zero]; exact List.take_of_length_le (Nat.le_refl _)) rfl) (by omega) hu1
  have HC2 := Lib.hid fun ty dc sc => run_copy_blk elem_keys (((w.drew.alloc (.cells cur' 23)).setCells w.heap.size (i) u.toList).drew) 71 ty (g := w.heap.size) (o := (i + 1)) (dLen := n - i) (dCap := dc) (sLen := n - i) (sCap := sc) (n := n - i) (a := ⟨g, i, none⟩) (cs := D) (heap_setCells_eq u.toList _ _ _ hgn) (by show _ = min _ _; omega) (by omega)
    (blk_cells (w := ((w.drew.alloc (.cells cur' 23)).setCells w.heap.size (i) u.toList).drew) ((heap_setCells_ne (by omega) u.toList _ _).trans ((hgo g hgl).trans hg)) hD hDl) (by rw [putL_size]; omega) hD1
  have HQ : Hid (n + 1 ≤ gc ∧ gc ≤ maxLen ∧ cur'.size = gc ∧ cur'.toList.take (i) = F) := Lib.hid ⟨hg1, hg2, hsz, hcF⟩
  have hgcm : gc ≤ 9223372036854775807 := hg2
  clear hg hgv hu hu1 hD hDl hD1 hF hFl hgn hgo hgl hgvl hcF hsz hcur' hgc hi hz hisz hiby hzc hg2
  generalize w.heap.size = G at *
  generalize hw1e : w.drew.alloc (.cells cur' 23) = w1 at *
  have HW1 := Lib.hid hw1e
  clear hw1e
  go_enter Try.func51, Try.ntmps51
  go_wp2_with (at_builtin; refine wpList_app (R := fun v' w' => v' = _ ∧ w' = _) rfl (.tmp 34) (.tmp 39) _ _ rfl rfl rfl ⟨_, _, HAP.out _, rfl, rfl⟩ ?_; rintro _ _ ⟨rfl, rfl⟩)
  rw [HC1.out]
  simp only [Result.andThen]
  rw [Oper.upon_value]
  go_wp2_with fail
  go_still_tail 8, (by kernel_rfl)
  change wpList _ _ _ _ _ (World.drew _)
  refine wpList_copy_r rfl (.tmp 50) (.tmp 53) _ _ rfl rfl rfl (HC2.out _ _ _) ?_
  go_wp2_with fail
  go_ret
  exact ⟨gc, cur', rfl, HQ.out.1, HQ.out.2.1, HQ.out.2.2.1, HQ.out.2.2.2, by rw [HW1.out]⟩

/-- One element is laid between others. -/
theorem insKey (A : Option Addr) (c : Nat) (xs : List Key) (i : Nat) (y : Key) (w : World) {gv : Nat} {u : Array Value} (hown : Own 1 Key.cs 23 0 w (.slice A xs.length c) xs) (hi : i ≤ xs.length)
    (hgv : w.heap[gv]? = some (.cells u 23 (0, 0))) (hu : u.toList = Key.cs y) (hne : (Value.slice A xs.length c).ownBlock ≠ some gv) (hl : xs.length ≤ 1000) :
    Calls Try.prog 51 #[.slice A xs.length c, .int .i64 i, .slice (some ⟨gv, 0, none⟩) 1 1] w fun e w' => ∃ v', e = .returned v' ∧ Own 1 Key.cs 23 0 w' v' (xs.take i ++ y :: xs.drop i) ∧ Ext w (.slice A xs.length c) w' v' := by
  obtain ⟨A', c', hv, hcl, hcm⟩ := hown.form
  injection hv with h1 _ h2
  subst h1 h2
  rcases Nat.eq_or_lt_of_le hi with h | h
  · subst h
    rw [List.take_of_length_le (Nat.le_refl _), List.drop_of_length_le (Nat.le_refl _)]
    exact insKey_end 0 A c xs y w hown hcl hcm hgv hu (Nat.zero_le _) hl
  · obtain ⟨g, c', cur, hv, _, hg, _, _, hs, ht⟩ := hown.open_ (by omega)
    injection hv with h1 _ h2
    subst h1 h2
    have hud : u.toList.length = 1 := by rw [hu]; rfl
    have hu1 : ∀ v ∈ u.toList, v.oneCell' = true := by rw [hu]; exact keyLay.one y
    have hm := tk_mid keyLay ht hi
    have hDl : ((xs.drop i).flatMap Key.cs).length = (xs.length - i) * 1 := by rw [flat_len keyLay, List.length_drop]
    have hD1 := flat_one keyLay (xs.drop i)
    have hFl : ((xs.take i).flatMap Key.cs).length = i * 1 := by rw [flat_len keyLay, List.length_take, Nat.min_eq_left hi]
    simp only [Nat.mul_one] at hs hm hDl hFl
    rcases Nat.lt_or_ge c (xs.length + 1) with h5 | h5
    · refine (insKey_grow g xs.length c i w hg h h5 hcl hgv hud hu1 hm.1 hFl hm.2 hDl hD1 hl).mono ?_
      rintro e w' ⟨c', cur', rfl, k1, k2, k3, k4, rfl⟩
      rw [hu]
      exact ⟨_, rfl, (by have h := own_ins_grow (w := w) (e := 23) (y := y) (A := some ⟨g, 0, none⟩) (n0 := xs.length) (c0 := c) keyLay k1 k2 (by rw [Nat.mul_one]; exact k3) (by rw [Nat.mul_one]; exact k4) hi; simp only [Nat.mul_one] at h; exact h)⟩
    · refine (insKey_in g xs.length c i w hg hs h h5 hcm hgv hud hu1 hm.2 hDl hD1 (fun hh => hne (by rw [hh]; rfl)) hl).mono ?_
      rintro e w' ⟨rfl, rfl⟩
      rw [hu]
      exact ⟨_, rfl, (by have h := own_ins_in (y := y) keyLay hg h5 hcm (by rw [Nat.mul_one]; exact hs) ht hi; simp only [Nat.mul_one] at h; exact h)⟩

end Go.Proofs.Ytefifkleamiabaa
