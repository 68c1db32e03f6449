/-
  The walks of slices.IndexFunc, slices.DeleteFunc over rows, by a test's contract.
  The walk of ApplyChanges$1 (is the row's key the change's?); what a change does to a table's rows, plain; the rows in the map.
  An own empty instance; the rows in the map, what a change does to a table's rows (plain).
  What the walk of ApplyChanges calls, by contract: ValidateChange, AffectedKey and Encode, DeleteFunc at the clone.
  Rows of the base schema, as data: what a change makes of them, plain.
-/
import Derived.Test.YtefifkleamiabaaGreatDoorUm13
import Derived.Lib.SliceRun
import Derived.Deep.LoopGhost
namespace Go.Proofs.YtefifkleamiabaaGreatDoor
open Go.RowKit Go.Sort

/-- A test of rows by contract, whatever block g holds. -/
structure TstC (w0 : World) (g : Nat) (fid : FuncId) (caps : Array Value) (p : Key → Bool) (M : Key → Prop) : Prop where
  ent : ∀ (args : Array Value) (w : World), (callFunc fid args).run Tryz.prog w = .ok (.enter fid args) w
  run : ∀ (x : Key) (W : World), w0.grownBy W (some g) → M x → Calls Tryz.prog fid (#[.slice x.A x.row.length x.c] ++ caps) W fun e w' => e = .returned (.bool (p x)) ∧ Below W.heap.size W w'

set_option maxRecDepth 100000 in
set_option maxHeartbeats 2000000 in
theorem indexK (w0 : World) (g n c : Nat) (f : Nat → Key) (w : World) {fid : FuncId} {caps : Array Value} {p : Key → Bool} {M : Key → Prop} (hT : TstC w0 g fid caps p M) (hM : ∀ k, k < n → M (f k)) (h : KB w0 g n w f) (hn : n ≤ 1000) :
    Calls Tryz.prog 63 #[.slice (some ⟨g, 0, none⟩) n c, .func (.func fid) #[] caps] w fun e w' => Below w.heap.size w w' ∧ ((e = .returned (.int .i64 (-1)) ∧ ∀ k, k < n → p (f k) = false) ∨ ∃ k : Nat, k < n ∧ e = .returned (.int .i64 (k : Int)) ∧ p (f k) = true ∧ ∀ j, j < k → p (f j) = false) := by
  have H0 := Lib.hid h
  have HM := Lib.hid hM
  have HT := Lib.hid hT
  have hent := hT.ent
  clear h hM hT
  go_enter Tryz.func63, Tryz.ntmps63
  go_wp2_with fail
  go_loopw [8] (fun vi wr => ∃ k : Nat, vi = .int .i64 (k : Int) ∧ k ≤ n ∧ (∀ j, j < k → p (f j) = false) ∧ Below w.heap.size w wr) (fun vi _ => n - (intOf vi).toNat)
  case atStart => exact ⟨0, rfl, by omega, (by intro j hj; omega), Below.refl _ _⟩
  case round =>
    obtain ⟨k, rfl, hkn, hbef, hb⟩ := hrel
    by_cases hlt : k < n
    · have hs := H0.out.below hb
      have c0 := hs.cell (i := k) hlt
      have HR := Lib.hid (HT.out.run (f k) wr hs.only (HM.out k hlt))
      have hlt' : (k : Int) < (n : Int) := by omega
      have HB := Lib.hid hb
      have HBE := Lib.hid hbef
      clear hbef hb hs
      cases hp : p (f k) with
      | true =>
        rw [hp] at HR
        have HP := Lib.hid hp
        clear hp
        go_wp2_with fail
        refine HR.out.mono ?_
        rintro e w1 ⟨rfl, hb1⟩
        have HB1 := Lib.hid (HB.out.trans (hb1.mono HB.out.size))
        clear hb1
        go_wp2_with fail
        go_ret
        exact ⟨HB1.out, .inr ⟨k, hlt, rfl, HP.out, HBE.out⟩⟩
      | false =>
        rw [hp] at HR
        have HP := Lib.hid hp
        clear hp
        go_wp2_with fail
        refine HR.out.mono ?_
        rintro e w1 ⟨rfl, hb1⟩
        have HB1 := Lib.hid (HB.out.trans (hb1.mono HB.out.size))
        clear hb1
        go_wp2_with fail
        go_roundw
        case rel => exact ⟨k + 1, by go_num, by omega, (fun j hj => by
          rcases Nat.lt_or_ge j k with h | h
          · exact HBE.out j h
          · rw [show j = k by omega]; exact HP.out), HB1.out⟩
        case measure => simp [intOf]; omega
    · have hkn' : k = n := by omega
      subst hkn'
      have HB := Lib.hid hb
      have HBE := Lib.hid hbef
      clear hbef hb
      go_wp2_with fail
      go_ret
      exact ⟨HB.out, .inl ⟨rfl, HBE.out⟩⟩

set_option maxRecDepth 100000 in
theorem index0 (A : Option Addr) (c : Nat) (fn : Value) (w : World) :
    Calls Tryz.prog 63 #[.slice A 0 c, fn] w fun e w' => e = .returned (.int .i64 (-1)) ∧ w = w' := by
  go_enter Tryz.func63, Tryz.ntmps63
  go_wp2_with fail
  go_loopw [8] (fun vi wr => vi = .int .i64 0 ∧ w = wr) (fun _ _ => 0)
  case atStart => exact ⟨rfl, rfl⟩
  case round =>
    obtain ⟨rfl, rfl⟩ := hrel
    go_wp2_with fail
    go_ret
    exact ⟨rfl, rfl⟩
set_option maxRecDepth 100000 in
theorem deleteFunc0 (A : Option Addr) (c : Nat) (fn : Value) (w : World) :
    Calls Tryz.prog 33 #[.slice A 0 c, fn] w fun e w' => e = .returned (.slice A 0 c) ∧ w = w' := by
  have HC := Lib.hid (index0 A c fn w)
  go_enter Tryz.func33, Tryz.ntmps33
  go_wp2_with fail
  refine HC.out.mono ?_
  rintro e w1 ⟨rfl, rfl⟩
  go_wp2_with fail
  go_ret
  exact ⟨rfl, rfl⟩

/-- KB, and how many cells the block has. -/
structure KD (w0 : World) (g n cs : Nat) (w : World) (f : Nat → Key) : Prop where
  kb : KB w0 g n w f
  siz : ∃ arr, w.heap[g]? = some (.cells arr 48 (0, 0)) ∧ arr.size = cs
theorem KD.below {w0 w w' : World} {g n cs : Nat} {f : Nat → Key} (h : KD w0 g n cs w f) (hb : Below w.heap.size w w') : KD w0 g n cs w' f := by
  obtain ⟨arr, h1, h2⟩ := h.siz
  exact ⟨h.kb.below hb, arr, (hb.block g h.kb.lt).trans h1, h2⟩
theorem KD.put {w0 w : World} {g n cs i : Nat} {f : Nat → Key} (h : KD w0 g n cs w f) (hi : i < n) (r : Key) : KD w0 g n cs (w.setCell ⟨g, i, none⟩ (.slice r.A r.row.length r.c)) (fun x => if x = i then r else f x) := by
  obtain ⟨arr, h1, h2⟩ := h.siz
  exact ⟨h.kb.put hi r, _, heap_setCell_same _ g _ _ _ _ h1, by simpa using h2⟩

/-- Behind j elements: the kept ones lie ahead of i, the rest is untouched. -/
structure KInv (p : Key → Bool) (f h : Nat → Key) (n i j : Nat) : Prop where
  le : i < j ∧ j ≤ n
  kept : (List.range i).map h = ((List.range j).map f).filter (fun x => !p x)
  rest : ∀ x, j ≤ x → h x = f x
theorem KInv.start {p : Key → Bool} {f : Nat → Key} {n k : Nat} (hk : k < n) (h1 : p (f k) = true) (h2 : ∀ j, j < k → p (f j) = false) : KInv p f f n k (k + 1) := by
  refine ⟨⟨by omega, by omega⟩, ?_, fun _ _ => rfl⟩
  rw [List.range_succ, List.map_append, List.filter_append]
  have e : ((List.range k).map f).filter (fun x => !p x) = (List.range k).map f := by
    rw [List.filter_eq_self]
    intro x hx
    obtain ⟨j, hj, rfl⟩ := List.mem_map.1 hx
    rw [h2 j (List.mem_range.1 hj)]
    rfl
  rw [e]
  simp [h1]
theorem KInv.skip {p : Key → Bool} {f h : Nat → Key} {n i j : Nat} (H : KInv p f h n i j) (hj : j < n) (hp : p (f j) = true) : KInv p f h n i (j + 1) := by
  obtain ⟨⟨h1, h2⟩, h3, h4⟩ := H
  refine ⟨⟨by omega, by omega⟩, ?_, fun x hx => h4 x (by omega)⟩
  rw [List.range_succ, List.map_append, List.filter_append, ← h3]
  simp [hp]
theorem KInv.keep {p : Key → Bool} {f h : Nat → Key} {n i j : Nat} (H : KInv p f h n i j) (hj : j < n) (hp : p (f j) = false) : KInv p f (fun x => if x = i then h j else h x) n (i + 1) (j + 1) := by
  obtain ⟨⟨h1, h2⟩, h3, h4⟩ := H
  refine ⟨⟨by omega, by omega⟩, ?_, fun x hx => ?_⟩
  · rw [List.range_succ (n := i), List.range_succ (n := j), List.map_append, List.map_append, List.filter_append, ← h3]
    have e : (List.range i).map (fun x => if x = i then h j else h x) = (List.range i).map h := by
      apply List.map_congr_left
      intro x hx
      have := List.mem_range.1 hx
      rw [if_neg (by omega)]
    rw [e]
    simp [hp, h4 j (Nat.le_refl _)]
  · show (if x = i then h j else h x) = f x
    rw [if_neg (by omega)]
    exact h4 x (by omega)
theorem KInv.mem {p : Key → Bool} {f h : Nat → Key} {n i j : Nat} (H : KInv p f h n i j) : i = (((List.range j).map f).filter (fun x => !p x)).length := by
  rw [← H.kept]
  simp

set_option maxRecDepth 100000 in
set_option maxHeartbeats 4000000 in
theorem deleteFuncK (w0 : World) (g n c : Nat) (f : Nat → Key) (w : World) {fid : FuncId} {caps : Array Value} {p : Key → Bool} {M : Key → Prop} (hT : TstC w0 g fid caps p M) (hM : ∀ k, k < n → M (f k)) (h : KD w0 g n c w f) (hn : n ≤ 1000) (hn0 : 0 < n) (hnc : n ≤ c) (hcm : c ≤ maxLen) :
    Calls Tryz.prog 33 #[.slice (some ⟨g, 0, none⟩) n c, .func (.func fid) #[] caps] w fun e w' => e = .returned (.slice (some ⟨g, 0, none⟩) (((List.range n).map f).filter (fun x => !p x)).length c) ∧ Own 1 Key.cs 48 g w' (.slice (some ⟨g, 0, none⟩) (((List.range n).map f).filter (fun x => !p x)).length c) (((List.range n).map f).filter (fun x => !p x)) ∧ w0.grownBy w' (some g) := by
  have HI := Lib.hid (indexK w0 g n c f w hT hM h.kb hn)
  have H0 := Lib.hid h
  have HM := Lib.hid hM
  have HT := Lib.hid hT
  have hent := hT.ent
  have HNC := Lib.hid (And.intro hnc hcm)
  -- the end, where h holds the kept ones ahead of i
  have HEND : Hid (∀ (h : Nat → Key) (i : Nat) (W : World) (vs : List Value), KD w0 g n c W h → KInv p f h n i n → vs.length = n - i → Own 1 Key.cs 48 g (W.setCells g i vs) (.slice (some ⟨g, 0, none⟩) i c) (((List.range n).map f).filter (fun x => !p x)) ∧ w0.grownBy (W.setCells g i vs) (some g)) := Lib.hid fun h i W vs hd hk hv => by
    obtain ⟨arr, hg, hc⟩ := hd.kb.blk
    obtain ⟨arr', hg', hsz⟩ := hd.siz
    rw [hg] at hg'
    injection hg' with hg'
    injection hg' with hg' _ _
    subst hg'
    have hle := hk.le
    have hmem := hk.mem
    have hbig : ∀ (vs : List Value) (o : Nat) (W : World), w0.grownBy W (some g) → w0.grownBy (W.setCells g o vs) (some g) := by
      intro vs
      induction vs with
      | nil => intro o W h; exact h
      | cons v vs ih => intro o W h; exact ih _ _ (grown_setCell h _ _)
    refine ⟨Own.shut keyLay (Nat.le_refl _) (heap_setCells_eq vs i W arr hg) hmem (by omega) hcm (by rw [putL_size, hsz, Nat.mul_one]) ?_, hbig vs i W hd.kb.only⟩
    rw [putL_list (by omega), Nat.mul_one, ← hk.kept]
    have e1 : (arr.toList.take i ++ vs ++ arr.toList.drop (i + vs.length)).take i = arr.toList.take i := by
      rw [List.append_assoc, List.take_append_of_le_length (by rw [List.length_take]; simp; omega), List.take_of_length_le (by rw [List.length_take]; omega)]
    rw [e1]
    apply List.ext_getElem?
    intro x
    rw [List.getElem?_take]
    have hfm : ∀ l : List Key, l.flatMap Key.cs = l.map Key.v := by
      intro l
      induction l with
      | nil => rfl
      | cons a l ih => rw [List.flatMap_cons, List.map_cons, ← ih]; rfl
    rw [hfm]
    by_cases hx : x < i
    · rw [if_pos hx, Array.getElem?_toList, hc x (by omega)]
      simp [hx]
    · rw [if_neg hx]
      simp [hx]
  clear h hM hT hnc hcm
  go_enter Tryz.func33, Tryz.ntmps33
  go_wp2_with fail
  refine HI.out.mono ?_
  rintro e w1 ⟨hb1, ⟨rfl, hall⟩ | ⟨k, hk, rfl, hpk, hbef⟩⟩
  · have HF := Lib.hid (And.intro hall (H0.out.below hb1))
    clear hall hb1
    go_wp2_with fail
    go_ret
    obtain ⟨hall, hd⟩ := HF.out
    have e1 : ((List.range n).map f).filter (fun x => !p x) = (List.range n).map f := by
      rw [List.filter_eq_self]
      intro x hx
      obtain ⟨j, hj, rfl⟩ := List.mem_map.1 hx
      rw [hall j (List.mem_range.1 hj)]
      rfl
    have e2 : ((List.range n).map f).length = n := by simp
    rw [e1]
    refine ⟨by rw [e2]; rfl, ?_, hd.kb.only⟩
    rw [show ((List.range n).map f).length = n from e2]
    obtain ⟨arr, hg, hc⟩ := hd.kb.blk
    obtain ⟨arr', hg', hsz⟩ := hd.siz
    rw [hg] at hg'
    injection hg' with hg'
    injection hg' with hg' _ _
    subst hg'
    refine Own.shut keyLay (Nat.le_refl _) hg e2.symm HNC.out.1 HNC.out.2 (by rw [hsz, Nat.mul_one]) ?_
    have hfm : ∀ l : List Key, l.flatMap Key.cs = l.map Key.v := by
      intro l
      induction l with
      | nil => rfl
      | cons a l ih => rw [List.flatMap_cons, List.map_cons, ← ih]; rfl
    rw [hfm, Nat.mul_one]
    apply List.ext_getElem?
    intro x
    rw [List.getElem?_take]
    by_cases hx : x < n
    · rw [if_pos hx, Array.getElem?_toList, hc x hx]
      simp [hx]
    · rw [if_neg hx]
      simp [hx]
  · have HK := Lib.hid (KInv.start hk hpk hbef)
    have HD1 := Lib.hid (H0.out.below hb1)
    have hne1 : ((k : Int) == -1) = false := beq_eq_false_iff_ne.2 (by omega)
    clear hpk hbef hb1
    go_wp2_with fail
    go_loopg [5, 6, 7] n (fun gg s5 s6 _ wr => ∃ (i j : Nat) (h : Nat → Key), s5 = .int .i64 (i : Int) ∧ s6 = .int .i64 (j : Int) ∧ j ≤ n ∧ n - j ≤ gg ∧ KD w0 g n c wr h ∧ Hid (KInv p f h n i j))
    case atStart => exact ⟨k, k + 1, f, rfl, by go_num, by omega, by omega, HD1.out, HK⟩
    case round =>
      obtain ⟨i, j, h, rfl, rfl, hjn, hgg, hd, HI2⟩ := hrel
      clear HD1 HK
      have HD := Lib.hid hd
      have hij : i < j := HI2.out.le.1
      by_cases hlt : j < n
      · have hltz : (j : Int) < (n : Int) := by omega
        have hiz : (i : Int) < (n : Int) := by omega
        have c0 := hd.kb.cell (i := j) hlt
        have c1 := hd.kb.cell (i := i) (by omega)
        have fz := hd.kb.frozen i
        have HFJ := Lib.hid (HI2.out.rest j (Nat.le_refl _))
        have HR := Lib.hid (HT.out.run (h j) wr hd.kb.only (by rw [HFJ.out]; exact HM.out j hlt))
        clear hd
        cases hq : p (h j) with
        | false =>
          rw [hq] at HR
          have HQ := Lib.hid hq
          clear hq
          go_wp2_with fail
          refine HR.out.mono ?_
          rintro e w2 ⟨rfl, hb2⟩
          have hd2 := HD.out.below hb2
          have HD2 := Lib.hid (hd2.put (i := i) (by omega) (h j))
          have HI3 := Lib.hid (HI2.out.keep hlt (by rw [← HFJ.out]; exact HQ.out))
          have e1 := hd2.kb.cell (i := i) (by omega)
          have fz2 := hd2.kb.frozen i
          clear hb2 hd2 c0 c1 fz
          generalize h i = old at *
          go_wp2_with fail
          go_roundg (n - (j + 1))
          case measure => omega
          case rel => exact ⟨i + 1, j + 1, _, by go_num, by go_num, by omega, Nat.le_refl _, HD2.out, HI3⟩
        | true =>
          rw [hq] at HR
          have HQ := Lib.hid hq
          clear hq
          go_wp2_with fail
          refine HR.out.mono ?_
          rintro e w2 ⟨rfl, hb2⟩
          have HD2 := Lib.hid (HD.out.below hb2)
          have HI3 := Lib.hid (HI2.out.skip hlt (by rw [← HFJ.out]; exact HQ.out))
          clear hb2 c0 c1 fz
          go_wp2_with fail
          go_roundg (n - (j + 1))
          case measure => omega
          case rel => exact ⟨i, j + 1, _, rfl, by go_num, by omega, Nat.le_refl _, HD2.out, HI3⟩
      · obtain rfl : j = n := by omega
        have hltz : ¬ (j : Int) < (j : Int) := by omega
        have hcl : ∀ ty cc, (Builtin.clear_ #[76] ty #[.slice (some ⟨g, i, none⟩) (j - i) cc]).run Tryz.prog wr = .ok (.tuple #[]) (wr.setCells g i (List.replicate (j - i) (.slice none 0 0))) := fun ty cc =>
          Lib.run_clear_slice wr _ 48 ty _ Tryz.underlying76 Tryz.zeroValue48 rfl rfl g i (j - i) cc (by omega) (fun t ht => by rw [hd.kb.cell (i := i + t) (by omega)]; rfl) (fun t ht => hd.kb.frozen _)
        have HF := Lib.hid (HEND.out h i wr (List.replicate (j - i) (.slice none 0 0)) hd HI2.out (by simp))
        have HMEM := Lib.hid HI2.out.mem
        have hx1 : (i : Int) ≤ (j : Int) := by omega
        have hx2 : (j : Int) ≤ (c : Int) := by have := HNC.out.1; omega
        have hx3 : (i : Int) ≤ (c : Int) := by omega
        have hx4 : ¬ c = i := by omega
        clear hd
        go_wp2_with fail
        go_ret
        rw [← HMEM.out]
        exact ⟨rfl, HF.out⟩
end Go.Proofs.YtefifkleamiabaaGreatDoor

namespace Go.Proofs.YtefifkleamiabaaGreatDoor
open Go.RowKit Go.Sort

/-- The two captured variables and the table that one of them points to. -/
def ClS (B1 B2 tb o : Nat) (t : Tbl) (kk : Nat) (W : World) : Prop :=
  W.cell? ⟨B1, 0, none⟩ = some (.pointer (some ⟨tb, o, none⟩)) ∧ W.cell? ⟨B2, 0, none⟩ = some (.string (encK kk)) ∧ W.cell? ⟨tb, o, none⟩ = some (.string t.name) ∧ W.cell? ⟨tb, o + 1, none⟩ = some (.slice t.CA t.cols.length t.cc) ∧ W.cell? ⟨tb, o + 2, none⟩ = some (.slice t.PA t.pk.length t.pc)
theorem ClS.below {B1 B2 tb o : Nat} {t : Tbl} {kk : Nat} {W W' : World} (h : ClS B1 B2 tb o t kk W) (h1 : B1 < W.heap.size) (h2 : B2 < W.heap.size) (h3 : tb < W.heap.size) (hb : Below W.heap.size W W') : ClS B1 B2 tb o t kk W' :=
  ⟨(hb.cell (p := ⟨B1, 0, none⟩) h1).trans h.1, (hb.cell (p := ⟨B2, 0, none⟩) h2).trans h.2.1, (hb.cell (p := ⟨tb, o, none⟩) h3).trans h.2.2.1, (hb.cell (p := ⟨tb, o + 1, none⟩) h3).trans h.2.2.2.1, (hb.cell (p := ⟨tb, o + 2, none⟩) h3).trans h.2.2.2.2⟩

/-- Behind KeyOf: Encode. -/
def AcK1 (B1 B2 tb o : Nat) (t : Tbl) (kk a : Nat) (w : World) (e : Ending) (w2 : World) : Prop :=
  ∃ A2 c2, e = .returned (.slice A2 1 c2) ∧ ClS B1 B2 tb o t kk w2 ∧ Hid (Calls Tryz.prog 31 #[.slice A2 1 c2] w2 fun e w3 => e = .returned (.string (encK a)) ∧ ClS B1 B2 tb o t kk w3 ∧ Below w.heap.size w w3)
theorem acK1 (B1 B2 tb o : Nat) (t : Tbl) (kk a : Nat) (x : Key) (w : World) (m : Nat) (h1 : B1 < w.heap.size) (h2 : B2 < w.heap.size) (h3 : tb < w.heap.size) (hc : ClS B1 B2 tb o t kk w) (ht : TOk (· < w.heap.size) w t) (hx : KOk (· < w.heap.size) w x) (ha : keyOf t.pk x.row = ik (a : Int)) (ha10 : a < 10) (hp : t.pk.length ≤ 12) :
    Calls Tryz.prog 25 #[t.val, .slice x.A x.row.length x.c] (w.drewN m) (AcK1 B1 B2 tb o t kk a w) := by
  have hd : Below w.heap.size w (w.drewN m) := below_drewN (Below.refl _ _) m
  refine (keyOfB t x.A x.c x.row (w.drewN m) (ht.on hd) (hx.on hd).el (by omega)).mono ?_
  rintro e w2 ⟨v2, rfl, ho2, hb2⟩
  rw [ha] at ho2
  obtain ⟨A2, c2, rfl, -, -⟩ := ho2.form
  have hb02 := hd.trans (hb2.mono hd.size)
  refine ⟨A2, c2, rfl, hc.below h1 h2 h3 hb02, Lib.hid ?_⟩
  have e2 : Elems 3 Val.cs w2 (· < w2.heap.size) A2 (ik (a : Int)) := (ho2.elems valLay.len rfl).more fun g hg => (Own.lt ho2 g hg).2
  refine (rEncode1 A2 c2 a ha10 w2 e2).mono ?_
  rintro e w3 ⟨rfl, hb3⟩
  have hb03 := hb02.trans (hb3.mono hb02.size)
  exact ⟨rfl, hc.below h1 h2 h3 hb03, hb03⟩

set_option maxRecDepth 100000 in
set_option maxHeartbeats 8000000 in
theorem applyC1 (B1 B2 tb o : Nat) (t : Tbl) (kk a : Nat) (x : Key) (w : World) (h1 : B1 < w.heap.size) (h2 : B2 < w.heap.size) (h3 : tb < w.heap.size) (hc : ClS B1 B2 tb o t kk w) (ht : TOk (· < w.heap.size) w t) (hx : KOk (· < w.heap.size) w x) (ha : keyOf t.pk x.row = ik (a : Int)) (ha10 : a < 10) (hk10 : kk < 10) (hp : t.pk.length ≤ 12) :
    Calls Tryz.prog 35 #[.slice x.A x.row.length x.c, .pointer (some ⟨B1, 0, none⟩), .pointer (some ⟨B2, 0, none⟩)] w fun e w' => e = .returned (.bool (decide (a = kk))) ∧ Below w.heap.size w w' := by
  have HC := Lib.hid (acK1 B1 B2 tb o t kk a x w 1 h1 h2 h3 hc ht hx ha ha10 hp)
  have hq : ((encK a).toList == (encK kk).toList) = decide (a = kk) := by
    by_cases h : a = kk
    · subst h; simp
    · rw [decide_eq_false h, beq_eq_false_iff_ne]
      intro he
      exact h (encK_inj ha10 hk10 (by rw [ByteArray.toList_eq, ByteArray.toList_eq] at he; exact ByteArray.ext (Array.toList_inj.1 he)))
  have HQ := Lib.hid hq
  unfold Tbl.val ClS at *
  have s0 := hc
  clear h1 h2 h3 ht hx ha ha10 hp hc hq hk10
  generalize decide (a = kk) = res at *
  go_enter Tryz.func35, Tryz.ntmps35
  go_upto_region 1 with fail
  go_region_held3 (fun W => W.cell? ⟨B1, 0, none⟩ = some (.pointer (some ⟨tb, o, none⟩)) ∧ W.cell? ⟨B2, 0, none⟩ = some (.string (encK kk)) ∧ W.cell? ⟨tb, o, none⟩ = some (.string t.name) ∧ W.cell? ⟨tb, o + 1, none⟩ = some (.slice t.CA t.cols.length t.cc) ∧ W.cell? ⟨tb, o + 2, none⟩ = some (.slice t.PA t.pk.length t.pc)) (first | exact s0 | exact s3 | exact s2)
    (first
    | (go_at_call 31; refine HK2.out.mono ?_; rintro e w3 ⟨rfl, s3, hb3⟩)
    | (go_at_call 25; refine HC.out.mono ?_; rintro e w2 ⟨A2, c2, rfl, s2, HK2⟩))
  all_goals
    have HF := Lib.hid hb3
    clear hb3 s3
    go_wp2_with fail
    go_ret
    exact ⟨by first | exact ret_bool HQ.out | (rw [← HQ.out]; rfl), HF.out⟩
end Go.Proofs.YtefifkleamiabaaGreatDoor

namespace Go.Proofs.YtefifkleamiabaaGreatDoor
open Go.RowKit Go.Sort

set_option maxRecDepth 100000 in
set_option maxHeartbeats 4000000 in
theorem emptyOwn (s : Sc) (w : World) (hs : ScOk (· < w.heap.size) w s) (h2 : s.tabs.length = 2) (hn0 : ∀ h : 0 < s.tabs.length, s.tabs[0].name = nItem) (hn1 : ∀ h : 1 < s.tabs.length, s.tabs[1].name = nOrder) :
    Calls Tryz.prog 23 #[s.v] w fun e w' => ∃ g, e = .returned (.slice (some ⟨g, 0, none⟩) 2 2) ∧ w.heap.size ≤ g ∧ EiB w g nItem nOrder w' := by
  have h0l : 0 < s.tabs.length := by omega
  have h1l : 1 < s.tabs.length := by omega
  obtain ⟨w1, hw1⟩ : ∃ w1, w1 = w.alloc (.cells s.cells 27) := ⟨_, rfl⟩
  have hb1 : Below w.heap.size w w1 := by rw [hw1]; exact (Below.refl _ _).alloc (Nat.le_refl _) _
  have hg0 : w1.heap[w.heap.size]? = some (.cells s.cells 27 (0, 0)) := by rw [hw1]; exact heap_alloc_new w _
  have hs1 : w.heap.size < w1.heap.size := by rw [hw1]; simp
  obtain ⟨tb, toff, hTA, -, -⟩ := hs.tabs.tbl h0l
  have HTB : Hid (∀ W, Below w.heap.size w W → (W.cell? ⟨tb, toff, none⟩ = some (.string nItem) ∧ W.cell? ⟨tb, toff + 1, none⟩ = some (.slice s.tabs[0].CA s.tabs[0].cols.length s.tabs[0].cc) ∧ W.cell? ⟨tb, toff + 2, none⟩ = some (.slice s.tabs[0].PA s.tabs[0].pk.length s.tabs[0].pc)) ∧ W.cell? ⟨tb, toff + 3, none⟩ = some (.string nOrder) ∧ W.cell? ⟨tb, toff + 3 + 1, none⟩ = some (.slice s.tabs[1].CA s.tabs[1].cols.length s.tabs[1].cc) ∧ W.cell? ⟨tb, toff + 3 + 2, none⟩ = some (.slice s.tabs[1].PA s.tabs[1].pk.length s.tabs[1].pc)) := Lib.hid fun W hW => by
    obtain ⟨tb', toff', e, -, p0, p1, p2⟩ := (hs.on hW).tabs.tbl h0l
    obtain ⟨tb2, toff2, e2, -, q0, q1, q2⟩ := (hs.on hW).tabs.tbl h1l
    rw [hTA] at e e2
    injection e with e
    injection e with e3 e4
    injection e2 with e2
    injection e2 with e5 e6
    subst e3 e4 e5 e6
    rw [hn0] at p0
    rw [hn1] at q0
    rw [Nat.zero_mul, Nat.add_zero] at p0 p1 p2
    rw [Nat.one_mul] at q0 q1 q2
    exact ⟨⟨p0, p1, p2⟩, q0, q1, q2⟩
  have HBK : Hid (∀ W, Below w1.heap.size w1 W → W.cell? ⟨w.heap.size, 0, none⟩ = some (.slice (some ⟨tb, toff, none⟩) 2 s.tc)) := Lib.hid fun W hW => by
    have h0 := (hW.block w.heap.size hs1).trans hg0
    unfold Sc.cells at h0
    rw [hTA, h2] at h0
    exact cell_of_row _ _ 0 _ _ _ h0
  have HB1 := Lib.hid hb1
  have HS1 := Lib.hid hs1
  have HW1 := Lib.hid hw1
  have c0 := HBK.out w1 (Below.refl _ _)
  have hmk := make_rels
  have HE1 := Lib.hid (EiB.new hb1)
  unfold Sc.cells at HW1
  unfold Sc.v Sc.cells
  rw [hTA, h2] at HW1 ⊢
  clear hs hn0 hn1 hb1 hg0 hs1 hw1 hTA h2
  go_enter Tryz.func23, Tryz.ntmps23
  go_upto_region 1 with fail
  rw [← HW1.out]
  go_upto_region 2 with fail
  obtain ⟨w2, hw2⟩ : ∃ w2, w2 = w1.alloc (.cells #[.string ⟨#[]⟩, .slice none 0 0, .string ⟨#[]⟩, .slice none 0 0] 78) := ⟨_, rfl⟩
  rw [← hw2] at HE1 ⊢
  have hb12 : Below w1.heap.size w1 w2 := by rw [hw2]; exact (Below.refl _ _).alloc (Nat.le_refl _) _
  have c2 := HBK.out w2 hb12
  have HG : Hid (w.heap.size ≤ w1.heap.size) := Lib.hid HB1.out.size
  generalize w1.heap.size = g at *
  clear hw2 hb12 c0
  go_wp2_with fail
  go_loopw [13] (fun vi wr => (vi = .int .i64 0 ∧ EiB w g ⟨#[]⟩ ⟨#[]⟩ wr) ∨ (vi = .int .i64 1 ∧ EiB w g nItem ⟨#[]⟩ wr) ∨ (vi = .int .i64 2 ∧ EiB w g nItem nOrder wr)) (fun vi _ => 2 - (intOf vi).toNat)
  case atStart => exact .inl ⟨rfl, HE1.out⟩
  case round =>
    obtain ⟨wo, rfl⟩ : ∃ wo, wo = wr := ⟨_, rfl⟩
    rcases hrel with ⟨rfl, hE⟩ | ⟨rfl, hE⟩ | ⟨rfl, hE⟩
    · obtain ⟨⟨p0, p1, p2⟩, -⟩ := HTB.out wo hE.2
      obtain ⟨w5, hw5⟩ : ∃ w5, w5 = wo.alloc (.cells #[.string nItem, .slice s.tabs[0].CA s.tabs[0].cols.length s.tabs[0].cc, .slice s.tabs[0].PA s.tabs[0].pk.length s.tabs[0].pc] 71) := ⟨_, rfl⟩
      have hb5 : Below wo.heap.size wo w5 := by rw [hw5]; exact (Below.refl _ _).alloc (Nat.le_refl _) _
      have hg5 : w5.heap[wo.heap.size]? = some (.cells #[.string nItem, .slice s.tabs[0].CA s.tabs[0].cols.length s.tabs[0].cc, .slice s.tabs[0].PA s.tabs[0].pk.length s.tabs[0].pc] 71 (0, 0)) := by rw [hw5]; exact heap_alloc_new wo _
      have t0 := cell_of_row _ _ 0 _ _ _ hg5
      have hE5 := hE.grow hb5
      obtain ⟨⟨q0, y0⟩, ⟨q2, y2⟩, y3⟩ := hE5.at
      have HF := Lib.hid (hE5.set0 (n := nItem) HG.out)
      have HW5 := Lib.hid hw5
      clear hE hw5 hb5 hg5 hE5
      go_upto_region 5 with fail
      rw [← HW5.out]
      go_wp2_with fail
      go_roundw
      case rel => exact .inr (.inl ⟨by go_num, HF.out⟩)
      case measure => simp [intOf]
    · obtain ⟨-, p0, p1, p2⟩ := HTB.out wo hE.2
      obtain ⟨w5, hw5⟩ : ∃ w5, w5 = wo.alloc (.cells #[.string nOrder, .slice s.tabs[1].CA s.tabs[1].cols.length s.tabs[1].cc, .slice s.tabs[1].PA s.tabs[1].pk.length s.tabs[1].pc] 71) := ⟨_, rfl⟩
      have hb5 : Below wo.heap.size wo w5 := by rw [hw5]; exact (Below.refl _ _).alloc (Nat.le_refl _) _
      have hg5 : w5.heap[wo.heap.size]? = some (.cells #[.string nOrder, .slice s.tabs[1].CA s.tabs[1].cols.length s.tabs[1].cc, .slice s.tabs[1].PA s.tabs[1].pk.length s.tabs[1].pc] 71 (0, 0)) := by rw [hw5]; exact heap_alloc_new wo _
      have t0 := cell_of_row _ _ 0 _ _ _ hg5
      have hE5 := hE.grow hb5
      obtain ⟨⟨q0, y0⟩, ⟨q2, y2⟩, y3⟩ := hE5.at
      have HF := Lib.hid (hE5.set1 (n := nOrder) HG.out)
      have HW5 := Lib.hid hw5
      clear hE hw5 hb5 hg5 hE5
      go_upto_region 5 with fail
      rw [← HW5.out]
      go_wp2_with fail
      go_roundw
      case rel => exact .inr (.inr ⟨by go_num, HF.out⟩)
      case measure => simp [intOf]
    · have HF := Lib.hid hE
      clear hE
      go_wp2_with fail
      go_ret
      exact ⟨_, rfl, HG.out, HF.out⟩

/-- The key's digit. -/
def dgK (pk : List Int) (r : Row) : Nat := ((keyOf pk r).headD ⟨0, 0, ⟨#[]⟩⟩).int.toNat
/-- Every key is a digit. -/
def Dig (pk : List Int) (rows : List Row) : Prop := ∀ r ∈ rows, keyOf pk r = ik (dgK pk r : Int) ∧ dgK pk r < 10
/-- A change's work on its table. -/
def upR (pk : List Int) (kk : Nat) (new rows : List Row) : List Row := rows.filter (fun r => !decide (dgK pk r = kk)) ++ new
/-- The rows do not fall by their digit. -/
def SrtR (pk : List Int) (rows : List Row) : Prop := rows.Pairwise fun a b => dgK pk a ≤ dgK pk b

/-- Blocks of a world but one. -/
def But (mb : Nat) (W : World) (g : Nat) : Prop := g < W.heap.size ∧ g ≠ mb
theorem RsOk.but {mb : Nat} {W W' : World} {A : Option Addr} {ks : List Key} (h : RsOk (But mb W) W A ks) (hg : W.grownBy W' (some mb)) : RsOk (But mb W') W' A ks :=
  (h.keep fun k hk => hg.block k hk.1 (fun e => hk.2 (Option.some.inj e))).more fun _ hg' => ⟨Nat.lt_of_lt_of_le hg'.1 hg.size, hg'.2⟩
theorem grown_of_below {W W' : World} (g : Option Nat) (hb : Below W.heap.size W W') : W.grownBy W' g := ⟨hb.os, hb.tape, hb.output, hb.size, fun k hk _ => hb.block k hk⟩
theorem grown_trans {a b c : World} {g : Nat} (h : a.grownBy b (some g)) (k : b.grownBy c (some g)) : a.grownBy c (some g) :=
  ⟨k.os.trans h.os, k.tape.trans h.tape, k.output.trans h.output, Nat.le_trans h.size k.size, fun i hi hne => (k.block i (Nat.lt_of_lt_of_le hi h.size) hne).trans (h.block i hi hne)⟩
/-- The map of the tables' rows. -/
structure MapAt (mb : Nat) (R : Nat → List Row) (W : World) : Prop where
  mp : ∃ l A0 c0 k0 A1 c1 k1, SMap W mb l ∧ mget l nItem = some (.slice A0 k0.length c0) ∧ mget l nOrder = some (.slice A1 k1.length c1) ∧ RsOk (But mb W) W A0 k0 ∧ RsOk (But mb W) W A1 k1 ∧ k0.map Key.row = R 0 ∧ k1.map Key.row = R 1
theorem MapAt.below {mb : Nat} {R : Nat → List Row} {W W' : World} (h : MapAt mb R W) (hb : Below W.heap.size W W') : MapAt mb R W' := by
  obtain ⟨l, A0, c0, k0, A1, c1, k1, h1, h2, h3, h4, h5, h6, h7⟩ := h
  exact ⟨l, A0, c0, k0, A1, c1, k1, h1.below hb, h2, h3, h4.but (grown_of_below _ hb), h5.but (grown_of_below _ hb), h6, h7⟩
def nTab : Nat → ByteArray
  | 0 => nItem
  | _ => nOrder
theorem nTab_ne : nItem ≠ nOrder := by decide +kernel
theorem zero_rows (w : World) : (zeroValue 76).run Tryz.prog w = .ok (.slice none 0 0) w := by kernel_rfl
/-- A table's rows are looked up. -/
theorem MapAt.look {mb : Nat} {R : Nat → List Row} {W : World} (h : MapAt mb R W) (i : Nat) (hi : i < 2) :
    ∃ A c ks, (Instr.lookup 82 (.map (some mb)) (.string (nTab i)) false).run Tryz.prog W = .ok (.slice A ks.length c) W ∧ RsOk (But mb W) W A ks ∧ ks.map Key.row = R i := by
  obtain ⟨l, A0, c0, k0, A1, c1, k1, h1, h2, h3, h4, h5, h6, h7⟩ := h
  have hlk := h1.look (P := Tryz.prog) Tryz.underlying82 Tryz.underlying9 (zero_rows W) (nTab i)
  have : i = 0 ∨ i = 1 := by omega
  rcases this with rfl | rfl
  · rw [show nTab 0 = nItem from rfl] at hlk ⊢
    rw [h2] at hlk
    exact ⟨A0, c0, k0, hlk, h4, h6⟩
  · rw [show nTab 1 = nOrder from rfl] at hlk ⊢
    rw [h3] at hlk
    exact ⟨A1, c1, k1, hlk, h5, h7⟩
/-- A table's rows are laid anew. -/
theorem MapAt.put {mb : Nat} {R R' : Nat → List Row} {W : World} (h : MapAt mb R W) (i : Nat) (hi : i < 2) {A : Option Addr} {c n : Nat} {ks : List Key} (hn : n = ks.length) (hk : RsOk (But mb W) W A ks) (hR : R' i = ks.map Key.row) (hR' : ∀ j, j < 2 → j ≠ i → R' j = R j) :
    ∃ W', (Instr.mapUpdate 82 (.map (some mb)) (.string (nTab i)) (.slice A n c)).run Tryz.prog W = .ok () W' ∧ MapAt mb R' W' ∧ W.grownBy W' (some mb) := by
  subst hn
  obtain ⟨l, A0, c0, k0, A1, c1, k1, h1, h2, h3, h4, h5, h6, h7⟩ := h
  obtain ⟨W', hup, hm, hgr⟩ := h1.update (P := Tryz.prog) Tryz.underlying82 Tryz.underlying9 (nTab i) (.slice A ks.length c)
  refine ⟨W', hup, ?_, hgr⟩
  have : i = 0 ∨ i = 1 := by omega
  rcases this with rfl | rfl
  · refine ⟨_, A, c, ks, A1, c1, k1, hm, mget_put_same _ _ _, ?_, hk.but hgr, h5.but hgr, hR.symm, by rw [hR' 1 (by omega) (by omega)]; exact h7⟩
    rw [mget_put_other _ _ (show nTab 0 ≠ nOrder from nTab_ne)]
    exact h3
  · refine ⟨_, A0, c0, k0, A, c, ks, hm, ?_, mget_put_same _ _ _, h4.but hgr, hk.but hgr, by rw [hR' 0 (by omega) (by omega)]; exact h6, hR.symm⟩
    rw [mget_put_other _ _ (show nTab 1 ≠ nItem from fun e => nTab_ne e.symm)]
    exact h2
end Go.Proofs.YtefifkleamiabaaGreatDoor

namespace Go.Proofs.YtefifkleamiabaaGreatDoor
open Go.RowKit Go.Sort

/-- A change that fits, its table and its key. -/
structure StepF (s : Sc) (ch : ChM) (ti kk : Nat) : Prop where
  ti2 : ti < 2
  fit : ChC s ch ti
  nm : ch.name = nTab ti
  kk10 : kk < 10
  key : (ch.kind = 1 ∧ keyOf [0] ch.row.row = ik (kk : Int)) ∨ (ch.kind = 2 ∧ ch.key.row = ik (kk : Int))
/-- The row that it lays. -/
def newR (ch : ChM) : List Row := if ch.kind = 1 then [ch.row.row] else []
/-- From rows to rows. -/
def stepR (ch : ChM) (ti kk : Nat) (a : Nat → List Row) : Nat → List Row := fun i => if i = ti then upR [0] kk (newR ch) (a ti) else a i
/-- The key to delete is not there. -/
def stopR (ch : ChM) (ti kk : Nat) (a : Nat → List Row) : Prop := ch.kind = 2 ∧ (upR [0] kk [] (a ti)).length = (a ti).length
/-- The k-th of m steps; behind them, if a change is left, its key is not there. -/
def StepK (ch : ChM) (R : Nat → Nat → List Row) (m k ti kk : Nat) : Prop := (k < m ∧ R (k + 1) = stepR ch ti kk (R k) ∧ ¬ stopR ch ti kk (R k)) ∨ (k = m ∧ stopR ch ti kk (R k))

theorem valChW (s : Sc) (ch : ChM) (i : Nat) (w : World) (hs : ScOk (· < w.heap.size) w s) (ho : ChOk (· < w.heap.size) w ch) (hc : ChC s ch i) (hl : s.tabs.length ≤ 1000) :
    Calls Tryz.prog 29 #[s.v, .agg ch.cells] w fun e w' => e = .returned (.int .i64 0) ∧ Below w.heap.size w w' := by
  rcases hc.fit with ⟨hk, -, -⟩ | ⟨hk, -, -⟩
  · exact rValidateCh1 s ch i w hs ho hc hk hl
  · exact rValidateCh2 s ch i w hs ho hc hk hl

theorem affEncW (s : Sc) (ch : ChM) (ti kk : Nat) (w : World) (hs : ScOk (· < w.heap.size) w s) (ho : ChOk (· < w.heap.size) w ch) (hc : StepF s ch ti kk) (hl : s.tabs.length ≤ 1000) (hpk : ∀ t ∈ s.tabs, t.pk = [0]) :
    Calls Tryz.prog 32 #[s.v, .agg ch.cells] w fun e w' => ∃ A c, e = .returned (.slice A 1 c) ∧ Below w.heap.size w w' ∧ Hid (Calls Tryz.prog 31 #[.slice A 1 c] w' fun e w'' => e = .returned (.string (encK kk)) ∧ Below w.heap.size w w'') := by
  rcases hc.key with ⟨hk, hkey⟩ | ⟨hk, hkey⟩
  · refine (rAffKey1 s ch ti w hs ho hc.fit hk hl).mono ?_
    rintro e w' ⟨v, rfl, hown, hb⟩
    rw [hpk _ (List.getElem_mem hc.fit.il), hkey] at hown
    obtain ⟨A, c, rfl, -, -⟩ := hown.form
    refine ⟨A, c, rfl, hb, Lib.hid ?_⟩
    have e2 : Elems 3 Val.cs w' (· < w'.heap.size) A (ik (kk : Int)) := (hown.elems valLay.len rfl).more fun g hg => (Own.lt hown g hg).2
    exact (rEncode1 A c kk hc.kk10 w' e2).mono fun e w'' h => ⟨h.1, hb.trans (h.2.mono hb.size)⟩
  · refine (rAffKey2 s ch ti w hs hc.fit hk hl).mono ?_
    rintro e w' ⟨rfl, hb⟩
    refine ⟨ch.key.A, ch.key.c, by rw [hkey]; rfl, hb, Lib.hid ?_⟩
    have e2 : Elems 3 Val.cs w' (· < w'.heap.size) ch.key.A (ik (kk : Int)) := by rw [← hkey]; exact (ho.key.on hb).el
    exact (rEncode1 ch.key.A ch.key.c kk hc.kk10 w' e2).mono fun e w'' h => ⟨h.1, hb.trans (h.2.mono hb.size)⟩

/-- The rows with another key. -/
def delK (kk : Nat) (ks : List Key) : List Key := ks.filter fun x => !decide (dgK [0] x.row = kk)
theorem delK_rows (kk : Nat) (ks : List Key) : (delK kk ks).map Key.row = (ks.map Key.row).filter (fun r => !decide (dgK [0] r = kk)) := by
  unfold delK
  rw [List.filter_map]
  rfl
theorem delRowsW (t : Tbl) (B1 B2 tb o kk n : Nat) (ks : List Key) (w11 w12 : World) (A2 : Option Addr) (c2 : Nat) (hown : Own 1 Key.cs 48 w11.heap.size w12 (.slice A2 n c2) ks) (hn : n = ks.length) (hb : Below w11.heap.size w11 w12) (hcl : ClS B1 B2 tb o t kk w11) (h1 : B1 < w11.heap.size) (h2 : B2 < w11.heap.size) (h3 : tb < w11.heap.size)
    (ht : TOk (· < w11.heap.size) w11 t) (hrows : ∀ k ∈ ks, KOk (· < w11.heap.size) w11 k) (hpk : t.pk = [0]) (hd : Dig [0] (ks.map Key.row)) (hkk : kk < 10) (hl : ks.length ≤ 1000) :
    Calls Tryz.prog 33 #[.slice A2 n c2, .func (.func 35) #[] #[.pointer (some ⟨B1, 0, none⟩), .pointer (some ⟨B2, 0, none⟩)]] w12 fun e w13 => ∃ A3 c3, e = .returned (.slice A3 (delK kk ks).length c3) ∧ Own 1 Key.cs 48 w11.heap.size w13 (.slice A3 (delK kk ks).length c3) (delK kk ks) ∧ Below w11.heap.size w11 w13 := by
  rcases Nat.eq_zero_or_pos n with h0 | h0
  · have hnil : ks = [] := List.eq_nil_of_length_eq_zero (by omega)
    subst hnil
    rw [h0] at hown ⊢
    refine (deleteFunc0 A2 c2 _ w12).mono ?_
    rintro e w13 ⟨rfl, rfl⟩
    exact ⟨A2, c2, rfl, hown, hb⟩
  · obtain ⟨g, c', cur, hv, hgb, hg, hcl', hcm, hs, htk⟩ := Own.open_ hown (by omega)
    injection hv with e1 e2 e3
    subst e1 e3
    have hgl : g < w12.heap.size := (Array.getElem?_eq_some_iff.1 hg).1
    have hkb : KD w12 g n c2 w12 (fun i => ks.getD i key0) := by
      refine ⟨⟨World.grownBy.refl w12 _, cur, hg, fun i hi => ?_⟩, cur, hg, by rw [hs, Nat.mul_one]⟩
      have h1 := flatMap_getElem? keyLay.len ks i (ks.getD i key0) (by rw [List.getD_eq_getElem?_getD, List.getElem?_eq_getElem (by omega)]; rfl) 0 (by omega)
      rw [← htk, Nat.mul_one, Nat.add_zero, List.getElem?_take, if_pos (by omega)] at h1
      rw [Array.getElem?_toList, Nat.mul_one] at h1
      exact h1
    have hkeep : ∀ W, w12.grownBy W (some g) → Below w11.heap.size w11 W := fun W hW => hb.trans (below_of_grown hW hb.size (fun g' hg' => by injection hg' with e; omega))
    have hT : TstC w12 g 35 #[.pointer (some ⟨B1, 0, none⟩), .pointer (some ⟨B2, 0, none⟩)] (fun x => decide (dgK [0] x.row = kk)) (· ∈ ks) := ⟨fun args W => by kernel_rfl, fun x W hW hx => by
      have hbW := hkeep W hW
      have hsz := hbW.size
      obtain ⟨hkey, hk10⟩ := hd _ (List.mem_map_of_mem hx)
      exact applyC1 B1 B2 tb o t kk (dgK [0] x.row) x W (by omega) (by omega) (by omega) (hcl.below h1 h2 h3 hbW) (ht.on hbW) ((hrows x hx).on hbW) (by rw [hpk]; exact hkey) hk10 hkk (by rw [hpk]; show 1 ≤ 12; omega)⟩
    have hR : (List.range n).map (fun i => ks.getD i key0) = ks := by rw [hn]; exact range_getD ks
    have hdf := deleteFuncK w12 g n c2 _ w12 hT (fun k hkn => by
      show ks.getD k key0 ∈ ks
      rw [List.getD_eq_getElem?_getD, List.getElem?_eq_getElem (by omega)]
      exact List.getElem_mem _) hkb (by omega) h0 (by omega) hcm
    rw [hR] at hdf
    refine hdf.mono ?_
    rintro e w13 ⟨rfl, ho, hgr⟩
    exact ⟨_, _, rfl, ho.mono hgb, hkeep w13 hgr⟩
end Go.Proofs.YtefifkleamiabaaGreatDoor

namespace Go.Proofs.YtefifkleamiabaaGreatDoor
open Go.RowKit Go.Sort

theorem dErr {a : Nat} (ha : a < 10) : (⟨1, (a : Int), ⟨#[]⟩⟩ : Val).err = 0 := by
  show vErr 1 a ⟨#[]⟩ = 0
  unfold vErr
  rw [if_neg (by omega), if_pos (.inl rfl), if_neg (by decide +kernel), if_neg (by omega)]
/-- A row of a table whose first two columns are ints (the second may be null), and small. -/
structure RG (cols : List Col) (r : Row) : Prop where
  fit : RowC cols r
  key : keyOf [0] r = ik (dgK [0] r : Int)
  dig : dgK [0] r < 8
  c1 : r[1]? = some ⟨0, 0, ⟨#[]⟩⟩ ∨ ∃ x : Nat, x < 8 ∧ r[1]? = some ⟨1, (x : Int), ⟨#[]⟩⟩
def bCols : Nat → List Col
  | 0 => itemCols
  | _ => orderCols
def SrtS (rows : List Row) : Prop := rows.Pairwise fun a b => dgK [0] a < dgK [0] b
theorem srtS_len : ∀ (rows : List Row) (m : Nat), m ≤ 8 → SrtS rows → (∀ r ∈ rows, m ≤ dgK [0] r ∧ dgK [0] r < 8) → rows.length ≤ 8 - m
  | [], m, _, _, _ => Nat.zero_le _
  | r :: rs, m, hm, hs, hr => by
    have h0 := hr r (by simp)
    have h := srtS_len rs (dgK [0] r + 1) (by omega) (List.pairwise_cons.1 hs).2 fun x hx => ⟨(List.pairwise_cons.1 hs).1 x hx, (hr x (by simp [hx])).2⟩
    rw [List.length_cons]
    omega
/-- The rows of both tables. -/
structure BG (R : Nat → List Row) : Prop where
  row : ∀ i, i < 2 → ∀ r ∈ R i, RG (bCols i) r
  srt : ∀ i, i < 2 → SrtS (R i)
theorem BG.len {R : Nat → List Row} (h : BG R) {i : Nat} (hi : i < 2) : (R i).length ≤ 8 := srtS_len (R i) 0 (by omega) (h.srt i hi) fun r hr => ⟨Nat.zero_le _, (h.row i hi r hr).dig⟩
theorem BG.digs {R : Nat → List Row} (h : BG R) {i : Nat} (hi : i < 2) : Dig [0] (R i) := fun r hr => ⟨(h.row i hi r hr).key, Nat.lt_of_lt_of_le (h.row i hi r hr).dig (by omega)⟩
/-- Rows in any order, the digits unlike. -/
structure BU (R : Nat → List Row) : Prop where
  row : ∀ i, i < 2 → ∀ r ∈ R i, RG (bCols i) r
  one : ∀ i, i < 2 → (R i).Pairwise fun a b => dgK [0] a ≠ dgK [0] b
theorem BG.bu {R : Nat → List Row} (h : BG R) : BU R := ⟨h.row, fun i hi => (h.srt i hi).imp fun hab => Nat.ne_of_lt hab⟩
theorem BU.sorted {R R' : Nat → List Row} (h : BU R) (hp : ∀ i, i < 2 → (R' i).Perm (R i)) (hs : ∀ i, i < 2 → SrtR [0] (R' i)) : BG R' where
  row := fun i hi r hr => h.row i hi r ((hp i hi).mem_iff.1 hr)
  srt := fun i hi => by
    have h1 : (R' i).Pairwise fun a b => dgK [0] a ≠ dgK [0] b := ((hp i hi).pairwise_iff fun hab => Ne.symm hab).2 (h.one i hi)
    exact (List.pairwise_and_iff.2 ⟨hs i hi, h1⟩).imp fun hab => Nat.lt_of_le_of_ne hab.1 hab.2
theorem nodup_lt : ∀ (m : Nat) (l : List Nat), l.Nodup → (∀ x ∈ l, x < m) → l.length ≤ m
  | 0, l, _, h => by
    rcases l with _ | ⟨x, l⟩
    · exact Nat.le_refl _
    · exact absurd (h x (by simp)) (Nat.not_lt_zero _)
  | m + 1, l, hn, h => by
    by_cases hm : m ∈ l
    · have h1 := nodup_lt m (l.erase m) (hn.erase m) fun x hx => by
        have h2 := (hn.mem_erase_iff).1 hx
        have := h x h2.2
        omega
      have := List.length_erase_of_mem hm
      have := List.length_pos_of_mem hm
      omega
    · have h1 := nodup_lt m l hn fun x hx => by
        have := h x hx
        have : x ≠ m := fun e => hm (e ▸ hx)
        omega
      omega
/-- Rows with unlike digits are few. -/
theorem bu_len (ks : List Row) (hd : ∀ r ∈ ks, dgK [0] r < 8) (h : ks.Pairwise fun a b => dgK [0] a ≠ dgK [0] b) : ks.length ≤ 8 := by
  have hn : (ks.map (dgK [0])).Nodup := by
    unfold List.Nodup
    rw [List.pairwise_map]
    exact h
  have := nodup_lt 8 _ hn fun x hx => by
    obtain ⟨r, hr, rfl⟩ := List.mem_map.1 hx
    exact hd r hr
  rwa [List.length_map] at this
/-- What an upsert makes of the rows. -/
def upB (R : Nat → List Row) (ti : Nat) (r : Row) : Nat → List Row := fun i => if i = ti then upR [0] (dgK [0] r) [r] (R ti) else R i
/-- What a delete makes of them. -/
def dlB (R : Nat → List Row) (ti kk : Nat) : Nat → List Row := fun i => if i = ti then upR [0] kk [] (R ti) else R i
theorem BU.up {R : Nat → List Row} (h : BU R) {ti : Nat} {r : Row} (hr : RG (bCols ti) r) : BU (upB R ti r) where
  row := fun i hi x hx => by
    unfold upB at hx
    by_cases hit : i = ti
    · subst hit
      rw [if_pos rfl] at hx
      rcases List.mem_append.1 hx with hx | hx
      · exact h.row i hi x (List.mem_filter.1 hx).1
      · rw [List.mem_singleton.1 hx]; exact hr
    · rw [if_neg hit] at hx
      exact h.row i hi x hx
  one := fun i hi => by
    unfold upB
    by_cases hit : i = ti
    · subst hit
      rw [if_pos rfl]
      refine List.pairwise_append.2 ⟨(h.one i hi).filter _, List.pairwise_singleton _ _, fun a ha b hb => ?_⟩
      rw [List.mem_singleton.1 hb]
      have := (List.mem_filter.1 ha).2
      simpa using this
    · rw [if_neg hit]
      exact h.one i hi
theorem BU.dl {R : Nat → List Row} (h : BU R) (ti kk : Nat) : BU (dlB R ti kk) where
  row := fun i hi x hx => by
    unfold dlB upR at hx
    by_cases hit : i = ti
    · subst hit
      rw [if_pos rfl, List.append_nil] at hx
      exact h.row i hi x (List.mem_filter.1 hx).1
    · rw [if_neg hit] at hx
      exact h.row i hi x hx
  one := fun i hi => by
    unfold dlB upR
    by_cases hit : i = ti
    · subst hit
      rw [if_pos rfl, List.append_nil]
      exact (h.one i hi).filter _
    · rw [if_neg hit]
      exact h.one i hi
theorem BU.len {R : Nat → List Row} (h : BU R) {i : Nat} (hi : i < 2) : (R i).length ≤ 8 := bu_len _ (fun r hr => (h.row i hi r hr).dig) (h.one i hi)
theorem BU.digs {R : Nat → List Row} (h : BU R) {i : Nat} (hi : i < 2) : Dig [0] (R i) := fun r hr => ⟨(h.row i hi r hr).key, Nat.lt_of_lt_of_le (h.row i hi r hr).dig (by omega)⟩

theorem cmp_dg {a b : Row} {c d : List Col} (ha : RG c a) (hb : RG d b) : cmpR (keyOf [0] a) (keyOf [0] b) = c1 (dgK [0] a : Int) (dgK [0] b : Int) := by rw [ha.key, hb.key, cmpR_ik]
/-- The instance fits. -/
theorem BG.inC {IA IP OA OP : Option Addr} {R : Nat → List Row} (h : BG R) {A0 A1 : Option Addr} {c0 c1 : Nat} {k0 k1 : List Key} (h0 : k0.map Key.row = R 0) (h1 : k1.map Key.row = R 1) :
    InC [bItem IA IP, bOrder OA OP] [⟨nItem, A0, c0, k0⟩, ⟨nOrder, A1, c1, k1⟩] := by
  have hrel : ∀ (t : Tbl) (i : Nat) (ks : List Key), i < 2 → t.pk = [0] → t.cols = bCols i → ks.map Key.row = R i → RelC t ks := fun t i ks hi hpk hco hks => by
    refine ⟨?_, fun k hk => ?_, ?_⟩
    · have := h.len hi
      rw [← hks, List.length_map] at this
      omega
    · rw [hco]
      exact (h.row i hi _ (by rw [← hks]; exact List.mem_map_of_mem hk)).fit
    · rw [hpk]
      have hs := h.srt i hi
      rw [← hks] at hs
      have hs2 := List.pairwise_map.1 hs
      refine List.pairwise_map.2 (hs2.imp_of_mem fun {a b} ha hb hab => ?_)
      rw [cmp_dg (h.row i hi _ (by rw [← hks]; exact List.mem_map_of_mem ha)) (h.row i hi _ (by rw [← hks]; exact List.mem_map_of_mem hb)), c1_neg]
      omega
  refine ⟨rfl, by show 2 ≤ 6; omega, fun t ht => ?_, fun i h h' => ?_, fun i h h' => ?_⟩
  · simp only [List.mem_cons, List.not_mem_nil, or_false] at ht
    rcases ht with rfl | rfl
    · show 4 ≤ 6 ∧ 1 ≤ 12; omega
    · show 3 ≤ 6 ∧ 1 ≤ 12; omega
  · have h : i < 2 := h
    rcases i with _ | _ | i
    · rfl
    · rfl
    · omega
  · have h : i < 2 := h
    rcases i with _ | _ | i
    · exact hrel (bItem IA IP) 0 k0 (by omega) rfl rfl h0
    · exact hrel (bOrder OA OP) 1 k1 (by omega) rfl rfl h1
    · omega
end Go.Proofs.YtefifkleamiabaaGreatDoor
