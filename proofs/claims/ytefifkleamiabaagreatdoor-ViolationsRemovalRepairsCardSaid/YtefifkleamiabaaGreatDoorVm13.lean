/-
  The stable sort of rows (fewer than twenty): a block of rows under sorting; insertionSort, stable, SortStableFunc by a comparison's contract.
  The walks of slices.Clone over rows, of stable, SortStableFunc (fewer than twenty rows), SortRows$1 and SortRows.
  The walk of the reference's SortRows.
  The walks of slices.IndexFunc, slices.DeleteFunc over rows, by a test's contract.
  The walk of ApplyChanges$1 (is the row's key the change's?); what a change does to a table's rows, plain; the rows in the map.
  An own empty instance; the rows in the map, what a change does to a table's rows (plain).
  What the walk of ApplyChanges calls, by contract: ValidateChange, AffectedKey and Encode, DeleteFunc at the clone.
-/
import Derived.Test.YtefifkleamiabaaGreatDoorVm12
import Derived.BigRegion
import Derived.Shelf.SlSortCmp.QuietGrown
import Derived.Deep.CutRange
import Derived.Lib.SliceRun
import Derived.Deep.LoopGhost
namespace Go.Proofs.YtefifkleamiabaaGreatDoor
open Go.RowKit Go.Sort

/-- A world that differs from w above its heap alone. -/
structure BelW (w : World) where
  v : World
  h : Below w.heap.size w v
instance {w : World} : Inhabited (BelW w) := ⟨⟨w, Below.refl _ _⟩⟩
theorem wp_region_quiet_bel {P : Program} {id : Nat} {Q : Exit → Act → World → Prop} {a : Act} {w : World} {l : List Oper} (hm : P.follows .mixedOrders = true) (hB : Region.lexB .any l.toArray = true)
    (h : wpQuiet P l.toArray (fun w' => ∃ p : BelW w, w' = p.v) (fun a' => ∀ w', (∃ p : BelW w, w' = p.v) → Q .normal a' w') l a) : (Code.region id l.toArray true).wp P Q a w :=
  wp_region_quiet (C := fun w' => ∃ p : BelW w, w' = p.v) hm hB ⟨⟨w.drew, (Below.refl _ _).drew⟩, rfl⟩ (by simpa using h)

theorem grown_below {a w w' : World} {g : Option Nat} (h : a.grownBy w g) (hb : Below w.heap.size w w') : a.grownBy w' g :=
  ⟨hb.os.trans h.os, hb.tape.trans h.tape, hb.output.trans h.output, Nat.le_trans h.size hb.size, fun k hk hne => (hb.block k (Nat.lt_of_lt_of_le hk h.size)).trans (h.block k hk hne)⟩
theorem grown_setCell {a w : World} {g : Nat} (h : a.grownBy w (some g)) (i : Nat) (u : Value) : a.grownBy (w.setCell ⟨g, i, none⟩ u) (some g) :=
  ⟨h.os, h.tape, h.output, by simpa [World.setCell] using h.size, fun k hk hne => (Below.heap_setCell _ _ _ _ (fun e => hne (by rw [e]))).trans (h.block k hk hne)⟩
theorem grown_drew {a w : World} {g : Option Nat} (h : a.grownBy w g) : a.grownBy w.drew g := ⟨h.os, h.tape, h.output, h.size, h.block⟩

def Key.v (k : Key) : Value := .slice k.A k.row.length k.c
/-- The rows f 0, .., f (n-1) lie at the head of block g; nothing else that was there in w0 has turned. -/
structure KB (w0 : World) (g n : Nat) (w : World) (f : Nat → Key) : Prop where
  only : w0.grownBy w (some g)
  blk : ∃ arr, w.heap[g]? = some (.cells arr 48 (0, 0)) ∧ ∀ i, i < n → arr[i]? = some (f i).v
theorem KB.cell {w0 w : World} {g n : Nat} {f : Nat → Key} (h : KB w0 g n w f) {i : Nat} (hi : i < n) : w.cell? ⟨g, i, none⟩ = some (.slice (f i).A (f i).row.length (f i).c) := by
  obtain ⟨arr, hb, hc⟩ := h.blk
  rw [cell_of_row _ g _ _ _ (0, 0) hb]
  exact hc i hi
theorem KB.frozen {w0 w : World} {g n : Nat} {f : Nat → Key} (h : KB w0 g n w f) (i : Nat) : w.frozen? ⟨g, i, none⟩ = false := by
  obtain ⟨arr, hb, hc⟩ := h.blk
  exact frozen_of_row w g i arr _ hb
theorem KB.lt {w0 w : World} {g n : Nat} {f : Nat → Key} (h : KB w0 g n w f) : g < w.heap.size := by
  obtain ⟨arr, hb, _⟩ := h.blk
  exact (Array.getElem?_eq_some_iff.1 hb).1
theorem KB.below {w0 w w' : World} {g n : Nat} {f : Nat → Key} (h : KB w0 g n w f) (hb : Below w.heap.size w w') : KB w0 g n w' f := by
  have hl := h.lt
  obtain ⟨arr, hg, hc⟩ := h.blk
  exact ⟨grown_below h.only hb, arr, (hb.block g hl).trans hg, hc⟩
theorem KB.drew {w0 w : World} {g n : Nat} {f : Nat → Key} (h : KB w0 g n w f) : KB w0 g n w.drew f := h.below (Below.refl _ _).drew
theorem KB.put {w0 w : World} {g n i : Nat} {f : Nat → Key} (h : KB w0 g n w f) (hi : i < n) (r : Key) : KB w0 g n (w.setCell ⟨g, i, none⟩ r.v) (fun x => if x = i then r else f x) := by
  obtain ⟨arr, hb, hc⟩ := h.blk
  have hsz : i < arr.size := (Array.getElem?_eq_some_iff.1 (hc i hi)).1
  refine ⟨grown_setCell h.only _ _, arr.setIfInBounds i r.v, heap_setCell_same _ g _ _ _ _ hb, fun j hj => ?_⟩
  by_cases hji : j = i
  · subst hji
    rw [if_pos rfl]
    simp [hsz]
  · rw [if_neg hji, Array.getElem?_setIfInBounds_ne (by omega)]
    exact hc j hj
theorem KB.swap {w0 w : World} {g n i j : Nat} {f : Nat → Key} {ri rj : Key} (h : KB w0 g n w f) (hi : i < n) (hj : j < n) (ei : f i = ri) (ej : f j = rj) : KB w0 g n ((w.setCell ⟨g, i, none⟩ (.slice rj.A rj.row.length rj.c)).setCell ⟨g, j, none⟩ (.slice ri.A ri.row.length ri.c)) (swp f i j) := by
  subst ei ej
  have h2 := (h.put hi (f j)).put hj (f i)
  have e : (fun x => if x = j then f i else if x = i then f j else f x) = swp f i j := by
    funext x
    unfold swp
    (repeat' split) <;> first | rfl | (subst_vars; rfl)
  rw [e] at h2
  exact h2

/-- A comparison of rows by contract, whatever block g holds. -/
structure CmpC (w0 : World) (g : Nat) (fid : FuncId) (caps : Array Value) (kid : Key → Int) (M : Key → Prop) : Prop where
  ent : ∀ (args : Array Value) (w : World), (callFunc fid args).run Tryz.prog w = .ok (.enter fid args) w
  run : ∀ (x y : Key) (W : World), w0.grownBy W (some g) → M x → M y → Calls Tryz.prog fid (#[.slice x.A x.row.length x.c, .slice y.A y.row.length y.c] ++ caps) W fun e w' => e = .returned (.int .i64 (c1 (kid x) (kid y))) ∧ Below W.heap.size W w'
def klt (kid : Key → Int) (x y : Key) : Prop := kid x < kid y
theorem klt_ord (kid : Key → Int) : Ord (klt kid) := ⟨fun x y h1 h2 => by unfold klt at *; omega, fun x y z h1 h2 => by unfold klt at *; omega⟩
theorem c1_neg (x y : Int) : c1 x y < 0 ↔ x < y := by
  unfold c1
  split
  · omega
  · split <;> omega

set_option maxRecDepth 100000 in
set_option maxHeartbeats 4000000 in
theorem insertionK (w0 : World) (g n c b : Nat) (f : Nat → Key) (w : World) {fid : FuncId} {caps : Array Value} {kid : Key → Int} {M : Key → Prop} (hT : CmpC w0 g fid caps kid M) (hM : ∀ k, k < n → M (f k)) (h : KB w0 g n w f) (hb : b ≤ n) (hn : n ≤ 1000) :
    Calls Tryz.prog 122 #[.slice (some ⟨g, 0, none⟩) n c, .int .i64 0, .int .i64 (b : Int), .func (.func fid) #[] caps] w fun e w' => e = .returned (.tuple #[]) ∧ ∃ f', KB w0 g n w' f' ∧ Sw 0 b f f' ∧ Srt (klt kid) f' 0 b := by
  have H0 := Lib.hid h
  have HM := Lib.hid hM
  have HT := Lib.hid hT
  have hent := hT.ent
  clear h hM hT
  go_enter Tryz.func122, Tryz.ntmps122
  go_wp2_with fail
  go_loopw [8] (fun vi wr => ∃ (i : Nat) (h : Nat → Key), vi = .int .i64 (i : Int) ∧ 1 ≤ i ∧ i ≤ b + 1 ∧ KB w0 g n wr h ∧ Sw 0 b f h ∧ Srt (klt kid) h 0 i) (fun vi _ => b + 1 - (intOf vi).toNat)
  case atStart => exact ⟨1, f, by go_num, by omega, by omega, H0.out, .refl, Srt.short (by omega)⟩
  case round =>
    obtain ⟨i, h, rfl, hi1, hi2, hs, hsw, hsr⟩ := hrel
    clear H0
    have HS := Lib.hid hs
    have HSW := Lib.hid hsw
    have HSR := Lib.hid hsr
    clear hs hsw hsr
    by_cases hlt : i < b
    · go_wp2_with fail
      go_loopw [9] (fun vj wr => ∃ (j : Nat) (h : Nat → Key), vj = .int .i64 (j : Int) ∧ j ≤ i ∧ KB w0 g n wr h ∧ Sw 0 b f h ∧ Ins (klt kid) h 0 i j) (fun vj _ => (intOf vj).toNat)
      case atStart => exact ⟨i, h, rfl, Nat.le_refl _, HS.out, HSW.out, Ins.first HSR.out (by omega)⟩
      case round =>
        obtain ⟨j, h, rfl, hji, hs, hsw, hin⟩ := hrel
        clear HS HSW HSR
        have HSW := Lib.hid hsw
        have HIN := Lib.hid hin
        clear hsw hin
        have hg := hs.lt
        by_cases hja : 0 < j
        · obtain ⟨p, rfl⟩ : ∃ p, j = p + 1 := ⟨j - 1, by omega⟩
          have c0 : ∀ q : BelW wr, q.v.cell? ⟨g, p + 1, none⟩ = _ := fun q => (hs.below q.h).cell (i := p + 1) (by omega)
          have d0 : ∀ q : BelW wr, q.v.cell? ⟨g, p, none⟩ = _ := fun q => (hs.below q.h).cell (i := p) (by omega)
          have hmm : ∀ k, k < n → M (h k) := fun k hk => by
            have := HSW.out.mono (Nat.zero_le 0) hb
            exact this.all (p := M) (fun k _ hk => HM.out k hk) k (Nat.zero_le _) hk
          have HC : Hid (∀ q : BelW wr, Calls Tryz.prog fid (#[.slice (h (p + 1)).A (h (p + 1)).row.length (h (p + 1)).c, .slice (h p).A (h p).row.length (h p).c] ++ caps) q.v fun e w' => e = .returned (.int .i64 (c1 (kid (h (p + 1))) (kid (h p)))) ∧ ∃ q' : BelW wr, w' = q'.v) := Lib.hid fun q =>
            (HT.out.run (h (p + 1)) (h p) q.v (grown_below hs.only q.h) (hmm _ (by omega)) (hmm _ (by omega))).mono fun e w' hh => ⟨hh.1, ⟨w', q.h.trans (hh.2.mono q.h.size)⟩, rfl⟩
          have HS := Lib.hid hs
          clear hs hmm
          have HRX := Lib.hid (show klt kid (h (p + 1)) (h p) ↔ c1 (kid (h (p + 1))) (kid (h p)) < 0 from (c1_neg _ _).symm)
          have y1 : decide ((0 : Int) < (p : Int) + 1) = true := decide_eq_true (by omega)
          have y2 : IntKind.i64.wrap (p : Int) = (p : Int) := by rw [IntKind.wrap_i64]; omega
          have y3 : (0 : Int) ≤ (p : Int) + 1 := by omega
          have y4 : (p : Int) + 1 < (n : Int) := by omega
          have y5 : (p : Int) < (n : Int) := by omega
          have y6 : ((p : Int) + 1).toNat = p + 1 := by omega
          generalize hcv : c1 (kid (h (p + 1))) (kid (h p)) = cv at *
          clear hcv
          go_wp2_with fail
          refine wp_region_quiet_bel mixed (by kernel_rfl) ?_
          repeat (quiet_step (exact HC.out _))
          refine wpQuiet_nil ?_
          intro _ hw'
          obtain ⟨⟨wq, hbq⟩, hw''⟩ := hw'
          subst hw''
          have HS2 := Lib.hid (HS.out.below hbq)
          clear c0 d0 HC HS hbq hg
          by_cases hlv : cv < 0
          · have c0 := HS2.out.cell (i := p + 1) (by omega)
            have d0 := HS2.out.cell (i := p) (by omega)
            have fz := fun i => HS2.out.frozen i
            have HSW2 := Lib.hid (HS2.out.swap (i := p + 1) (j := p) (by omega) (by omega) rfl rfl)
            have HIN2 := Lib.hid (HIN.out.step (klt_ord kid) hja (HRX.out.2 hlv))
            have HSS := Lib.hid (HSW.out.step (i := p + 1) (j := p) ⟨by omega, by omega⟩ ⟨by omega, by omega⟩)
            clear HS2 HRX HIN HSW
            have y7 : decide (cv < 0) = true := decide_eq_true hlv
            generalize (h (p + 1)) = ra at *
            generalize (h p) = rb at *
            go_wp2_with fail
            go_region
            go_wp2_with fail
            go_roundw
            case rel => exact ⟨p, _, by go_num, by omega, HSW2.out.drew, HSS.out, HIN2.out⟩
            case measure => simp [intOf]
          · have HD := Lib.hid (HIN.out.done (klt_ord kid) (.inr (fun hr => hlv (HRX.out.1 hr))))
            have y7 : decide (cv < 0) = false := decide_eq_false hlv
            go_wp2_with fail
            go_roundw
            case rel => exact ⟨i + 1, h, by go_num, by omega, by omega, HS2.out, HSW.out, HD.out⟩
            case measure => simp [intOf]; omega
        · have hj : j = 0 := by omega
          subst hj
          have HD := Lib.hid (HIN.out.done (klt_ord kid) (.inl rfl))
          have y1 : decide ((0 : Int) < (0 : Int)) = false := decide_eq_false (by omega)
          have HS2 := Lib.hid fun k => hs.below (below_drewN (Below.refl _ _) k)
          clear hs
          go_wp2_with fail
          go_quiet (fail)
          go_wp2_with fail
          go_roundw
          case rel => exact ⟨i + 1, h, by go_num, by omega, by omega, HS2.out _, HSW.out, HD.out⟩
          case measure => simp [intOf]; omega
    · go_wp2_with fail
      go_end0
      exact ⟨rfl, h, HS.out, HSW.out, HSR.out.sub (Nat.le_refl _) (by omega)⟩
end Go.Proofs.YtefifkleamiabaaGreatDoor

namespace Go.Proofs.YtefifkleamiabaaGreatDoor
open Go.RowKit Go.Sort

set_option maxRecDepth 100000 in
set_option maxHeartbeats 4000000 in
theorem stableK (w0 : World) (g n c : Nat) (f : Nat → Key) (w : World) {fid : FuncId} {caps : Array Value} {kid : Key → Int} {M : Key → Prop} (hT : CmpC w0 g fid caps kid M) (hM : ∀ k, k < n → M (f k)) (h : KB w0 g n w f) (hn : n < 20) :
    Calls Tryz.prog 99 #[.slice (some ⟨g, 0, none⟩) n c, .int .i64 (n : Int), .func (.func fid) #[] caps] w fun e w' => e = .returned (.tuple #[]) ∧ ∃ f', KB w0 g n w' f' ∧ Sw 0 n f f' ∧ Srt (klt kid) f' 0 n := by
  have HC := Lib.hid (insertionK w0 g n c n f w hT hM h (Nat.le_refl _) (by omega))
  clear h hM hT
  have y1 : ¬ (20 : Int) ≤ (n : Int) := by omega
  have y2 : ¬ (20 : Int) < (n : Int) := by omega
  go_enter Tryz.func99, Tryz.ntmps99
  go_wp2_with fail
  go_loopw [7, 8] (fun va vb wr => va = .int .i64 0 ∧ vb = .int .i64 20 ∧ w = wr) (fun _ _ _ => 0)
  case atStart => exact ⟨rfl, rfl, rfl⟩
  case round =>
    obtain ⟨rfl, rfl, rfl⟩ := hrel
    go_wp2_with fail
    refine HC.out.mono ?_
    rintro e w1 ⟨rfl, f1, h1, h2, h3⟩
    have H1 := Lib.hid (And.intro h1 (And.intro h2 h3))
    clear h1 h2 h3
    go_wp2_with fail
    go_loopw [6] (fun va wr => va = .int .i64 20 ∧ w1 = wr) (fun _ _ => 0)
    case atStart => exact ⟨rfl, rfl⟩
    case round =>
      obtain ⟨rfl, rfl⟩ := hrel
      go_wp2_with fail
      go_end0
      exact ⟨rfl, f1, H1.out⟩

set_option maxRecDepth 100000 in
theorem sortStableK (w0 : World) (g n c : Nat) (f : Nat → Key) (w : World) {fid : FuncId} {caps : Array Value} {kid : Key → Int} {M : Key → Prop} (hT : CmpC w0 g fid caps kid M) (hM : ∀ k, k < n → M (f k)) (h : KB w0 g n w f) (hn : n < 20) :
    Calls Tryz.prog 64 #[.slice (some ⟨g, 0, none⟩) n c, .func (.func fid) #[] caps] w fun e w' => e = .returned (.tuple #[]) ∧ ∃ f', KB w0 g n w' f' ∧ Sw 0 n f f' ∧ Srt (klt kid) f' 0 n := by
  have HC := Lib.hid (stableK w0 g n c f w hT hM h hn)
  clear h hM hT
  go_enter Tryz.func64, Tryz.ntmps64
  go_wp2_with fail
  refine HC.out.mono ?_
  rintro e w1 ⟨rfl, h1, hs1, hsw1, hsr1⟩
  go_wp2_with fail
  go_end0
  exact ⟨rfl, h1, hs1, hsw1, hsr1⟩

set_option maxRecDepth 100000 in
theorem insertion0 (v fn : Value) (w : World) :
    Calls Tryz.prog 122 #[v, .int .i64 0, .int .i64 0, fn] w fun e w' => e = .returned (.tuple #[]) ∧ w = w' := by
  go_enter Tryz.func122, Tryz.ntmps122
  go_wp2_with fail
  go_loopw [8] (fun vi wr => vi = .int .i64 1 ∧ w = wr) (fun _ _ => 0)
  case atStart => exact ⟨rfl, rfl⟩
  case round =>
    obtain ⟨rfl, rfl⟩ := hrel
    go_wp2_with fail
    go_end0
    exact ⟨rfl, rfl⟩

set_option maxRecDepth 100000 in
theorem stable0 (v fn : Value) (w : World) :
    Calls Tryz.prog 99 #[v, .int .i64 0, fn] w fun e w' => e = .returned (.tuple #[]) ∧ w = w' := by
  have HC := Lib.hid (insertion0 v fn w)
  go_enter Tryz.func99, Tryz.ntmps99
  go_wp2_with fail
  go_loopw [7, 8] (fun va vb wr => va = .int .i64 0 ∧ vb = .int .i64 20 ∧ w = wr) (fun _ _ _ => 0)
  case atStart => exact ⟨rfl, rfl, rfl⟩
  case round =>
    obtain ⟨rfl, rfl, rfl⟩ := hrel
    go_wp2_with fail
    refine HC.out.mono ?_
    rintro e w1 ⟨rfl, h1⟩
    subst h1
    go_wp2_with fail
    go_loopw [6] (fun va wr => va = .int .i64 20 ∧ w = wr) (fun _ _ => 0)
    case atStart => exact ⟨rfl, rfl⟩
    case round =>
      obtain ⟨rfl, rfl⟩ := hrel
      go_wp2_with fail
      go_end0
      exact ⟨rfl, rfl⟩

set_option maxRecDepth 100000 in
theorem sortStable0 (A : Option Addr) (c : Nat) (fn : Value) (w : World) :
    Calls Tryz.prog 64 #[.slice A 0 c, fn] w fun e w' => e = .returned (.tuple #[]) ∧ w = w' := by
  have HC := Lib.hid (stable0 (.slice A 0 c) fn w)
  go_enter Tryz.func64, Tryz.ntmps64
  go_wp2_with fail
  refine HC.out.mono ?_
  rintro e w1 ⟨rfl, rfl⟩
  go_wp2_with fail
  go_end0
  exact ⟨rfl, rfl⟩

set_option maxRecDepth 100000 in
theorem cloneKey (A : Option Addr) (n c : Nat) (xs : List Key) (w : World) (S : Nat → Prop) (hx : Elems 1 Key.cs w S A xs) (hS : ∀ k, S k → k < w.heap.size) (hn : n = xs.length) (hs : xs.length ≤ 100000) :
    Calls Tryz.prog 34 #[.slice A n c] w fun e w' => ∃ v, e = .returned v ∧ Own 1 Key.cs 48 w.heap.size w' v xs ∧ Below w.heap.size w w' := by
  have hnil := fun W => Lib.run_eql_slice_nil (P := Tryz.prog) W 76 48 A n c 0 0 Tryz.underlying76
  cases A with
  | none =>
    have h0 : xs = [] := by
      rcases Nat.eq_zero_or_pos xs.length with h | h
      · exact List.eq_nil_of_length_eq_zero h
      · obtain ⟨_, _, h', _⟩ := hx h; cases h'
    subst h0
    simp only [Option.isNone_none, List.length_nil] at hnil hn
    subst hn
    go_enter Tryz.func34, Tryz.ntmps34
    go_wp2_with fail
    go_ret
    exact ⟨_, rfl, Own.nil _, Below.refl _ _⟩
  | some a =>
    simp only [Option.isNone_some] at hnil
    have HX := Lib.hid (hx.keep (w' := w.alloc (.cells #[] 48)) fun k hk => Below.heap_alloc _ _ _ (hS k hk))
    have hB : w.heap.size ≤ (w.alloc (.cells #[] 48)).heap.size := by simp
    have H1 : Hid ((([] : List Key).length + xs.length) * 24 ≤ 140737488355328) := Lib.hid (by simp; omega)
    have H2 : Hid (([] : List Key).length + xs.length ≤ maxLen) := Lib.hid (by unfold maxLen; simp; omega)
    have HN := Lib.hid hn
    clear hx hs hn
    go_enter Tryz.func34, Tryz.ntmps34
    go_wp2_with (at_builtin; refine wpList_app rfl (.tmp 5) (.tmp 6) _ _ rfl rfl rfl (run_pushs elem_keys keyLay _ (w.alloc (.cells #[] 48)) _ ([] : List Key) (Own.lit0 w) HX.out HN.out H1.out H2.out hB) ?_; rintro v1 w1 ⟨ho1, hx1⟩)
    go_ret
    exact ⟨_, rfl, by simpa using ho1, ((Below.refl _ _).alloc (Nat.le_refl _) _).trans (hx1.below (base := w.heap.size) (by simp) (fun g hg => Nat.le_of_eq (Option.some.inj hg)))⟩

/-- Block B holds the table. -/
def BoxT (B : Nat) (t : Tbl) (W : World) : Prop := W.cell? ⟨B, 0, none⟩ = some (.string t.name) ∧ W.cell? ⟨B, 1, none⟩ = some (.slice t.CA t.cols.length t.cc) ∧ W.cell? ⟨B, 2, none⟩ = some (.slice t.PA t.pk.length t.pc)
theorem BoxT.below {B : Nat} {t : Tbl} {W W' : World} (h : BoxT B t W) (hB : B < W.heap.size) (hb : Below W.heap.size W W') : BoxT B t W' :=
  ⟨(hb.cell (p := ⟨B, 0, none⟩) hB).trans h.1, (hb.cell (p := ⟨B, 1, none⟩) hB).trans h.2.1, (hb.cell (p := ⟨B, 2, none⟩) hB).trans h.2.2⟩

def ScK (B : Nat) (t : Tbl) (w : World) (tv yv : Value) (z : Int) (e : Ending) (w2 : World) : Prop :=
  ∃ A2 c2, e = .returned (.slice A2 1 c2) ∧ BoxT B t w2 ∧ Hid (Calls Tryz.prog 25 #[tv, yv] w2 fun e w3 => ∃ A3 c3, e = .returned (.slice A3 1 c3) ∧ BoxT B t w3
    ∧ Hid (Calls Tryz.prog 58 #[.slice A2 1 c2, .slice A3 1 c3] w3 fun e w4 => e = .returned (.int .i64 z) ∧ BoxT B t w4 ∧ Below w.heap.size w w4))

theorem scK (B : Nat) (t : Tbl) (x y : Key) (a b : Int) (w : World) (m : Nat) (hB : B < w.heap.size) (hbx : BoxT B t w) (ht : TOk (· < w.heap.size) w t) (hx : KOk (· < w.heap.size) w x) (hy : KOk (· < w.heap.size) w y) (ha : keyOf t.pk x.row = ik a) (hb : keyOf t.pk y.row = ik b) (hp : t.pk.length ≤ 12) :
    Calls Tryz.prog 25 #[t.val, .slice x.A x.row.length x.c] (w.drewN m) (ScK B t w t.val (.slice y.A y.row.length y.c) (c1 a b)) := by
  have hd : Below w.heap.size w (w.drewN m) := below_drewN (Below.refl _ _) m
  refine (keyOfB t x.A x.c x.row (w.drewN m) (ht.on hd) (hx.on hd).el (by omega)).mono ?_
  rintro e w2 ⟨v2, rfl, ho2, hb2⟩
  rw [ha] at ho2
  obtain ⟨A2, c2, rfl, -, -⟩ := ho2.form
  have hb02 := hd.trans (hb2.mono hd.size)
  refine ⟨A2, c2, rfl, hbx.below hB hb02, Lib.hid ?_⟩
  refine (keyOfB t y.A y.c y.row w2 (ht.on hb02) (hy.on hb02).el (by omega)).mono ?_
  rintro e w3 ⟨v3, rfl, ho3, hb3⟩
  rw [hb] at ho3
  obtain ⟨A3, c3, rfl, -, -⟩ := ho3.form
  have hb03 := hb02.trans (hb3.mono hb02.size)
  refine ⟨A3, c3, rfl, hbx.below hB hb03, Lib.hid ?_⟩
  have e2 : Elems 3 Val.cs w3 (· < w3.heap.size) A2 (ik a) := ((ho2.below hb3).elems valLay.len rfl).more fun g hg => (Own.lt (ho2.below hb3) g hg).2
  have e3 : Elems 3 Val.cs w3 (· < w3.heap.size) A3 (ik b) := (ho3.elems valLay.len rfl).more fun g hg => (Own.lt ho3 g hg).2
  refine (rCmp1 A2 A3 c2 c3 a b w3 e2 e3).mono ?_
  rintro e w4 ⟨rfl, hb4⟩
  have hb04 := hb03.trans (hb4.mono hb03.size)
  exact ⟨rfl, hbx.below hB hb04, hb04⟩

set_option maxRecDepth 100000 in
set_option maxHeartbeats 8000000 in
theorem sortRows1 (B : Nat) (t : Tbl) (x y : Key) (a b : Int) (w : World) (hB : B < w.heap.size) (hbx : BoxT B t w) (ht : TOk (· < w.heap.size) w t) (hx : KOk (· < w.heap.size) w x) (hy : KOk (· < w.heap.size) w y) (ha : keyOf t.pk x.row = ik a) (hb : keyOf t.pk y.row = ik b) (hp : t.pk.length ≤ 12) :
    Calls Tryz.prog 65 #[.slice x.A x.row.length x.c, .slice y.A y.row.length y.c, .pointer (some ⟨B, 0, none⟩)] w fun e w' => e = .returned (.int .i64 (c1 a b)) ∧ Below w.heap.size w w' := by
  have HC := Lib.hid (scK B t x y a b w 1 hB hbx ht hx hy ha hb hp)
  unfold Tbl.val BoxT at *
  have s0 := hbx
  clear hB ht hx hy ha hb hp hbx
  generalize c1 a b = cv at *
  go_enter Tryz.func65, Tryz.ntmps65
  go_upto_region 1 with fail
  go_region_held3 (fun W => W.cell? ⟨B, 0, none⟩ = some (.string t.name) ∧ W.cell? ⟨B, 1, none⟩ = some (.slice t.CA t.cols.length t.cc) ∧ W.cell? ⟨B, 2, none⟩ = some (.slice t.PA t.pk.length t.pc)) (first | exact s0 | exact s4 | exact s3 | exact s2)
    (first
    | (go_at_call 58; refine HK3.out.mono ?_; rintro e w4 ⟨rfl, s4, hb4⟩)
    | (go_at_call 25; refine HK2.out.mono ?_; rintro e w3 ⟨A3, c3, rfl, s3, HK3⟩)
    | (go_at_call 25; refine HC.out.mono ?_; rintro e w2 ⟨A2, c2, rfl, s2, HK2⟩))
  all_goals
    have HF := Lib.hid hb4
    clear hb4 s4
    go_wp2_with fail
    go_ret
    exact ⟨rfl, HF.out⟩
end Go.Proofs.YtefifkleamiabaaGreatDoor

namespace Go.Proofs.YtefifkleamiabaaGreatDoor
open Go.RowKit Go.Sort

def key0 : Key := ⟨none, 0, []⟩
/-- The keys' integers do not fall. -/
def SrtL (kid : Key → Int) (ks : List Key) : Prop := ∀ i j (hi : i < ks.length) (hj : j < ks.length), i < j → kid ks[i] ≤ kid ks[j]
theorem range_getD (ks : List Key) : (List.range ks.length).map (fun i => ks.getD i key0) = ks := by
  apply List.ext_getElem
  · simp
  · intro i h1 h2
    simp [List.getD_eq_getElem?_getD, List.getElem?_eq_getElem h2]

set_option maxRecDepth 100000 in
set_option maxHeartbeats 8000000 in
theorem rSortRows (t : Tbl) (A : Option Addr) (c : Nat) (ks : List Key) (kid : Key → Int) (w : World) (ht : TOk (· < w.heap.size) w t) (hx : RsOk (· < w.heap.size) w A ks) (hk : ∀ k ∈ ks, keyOf t.pk k.row = ik (kid k)) (hl : ks.length < 20) (hp : t.pk.length ≤ 12) :
    Calls Tryz.prog 36 #[t.val, .slice A ks.length c] w fun e w' => ∃ A' c' ks', e = .returned (.slice A' ks.length c') ∧ ks'.Perm ks ∧ SrtL kid ks' ∧ Elems 1 Key.cs w' (fun g => w.heap.size ≤ g ∧ g < w'.heap.size) A' ks' ∧ Below w.heap.size w w' := by
  obtain ⟨n, hn⟩ : ∃ n, ks.length = n := ⟨_, rfl⟩
  obtain ⟨w1, hw1⟩ : ∃ w1, w1 = w.alloc (.cells #[.string t.name, .slice t.CA t.cols.length t.cc, .slice t.PA t.pk.length t.pc] 71) := ⟨_, rfl⟩
  have hb1 : Below w.heap.size w w1 := by rw [hw1]; exact (Below.refl _ _).alloc (Nat.le_refl _) _
  have hg1 : w1.heap[w.heap.size]? = some (.cells #[.string t.name, .slice t.CA t.cols.length t.cc, .slice t.PA t.pk.length t.pc] 71 (0, 0)) := by rw [hw1]; exact heap_alloc_new w _
  have hs1 : w.heap.size < w1.heap.size := by rw [hw1]; simp
  have hbox : BoxT w.heap.size t w1 := ⟨cell_of_row _ _ 0 _ _ _ hg1, cell_of_row _ _ 1 _ _ _ hg1, cell_of_row _ _ 2 _ _ _ hg1⟩
  have hCL := cloneKey A n c ks w1 (· < w1.heap.size) (hx.on hb1).el (fun _ h => h) hn.symm (by omega)
  -- the sort, whatever the clone is
  have hST : ∀ (A2 : Option Addr) (c2 : Nat) (w2 : World), Own 1 Key.cs 48 w1.heap.size w2 (.slice A2 n c2) ks → Below w1.heap.size w1 w2 →
      Calls Tryz.prog 64 #[.slice A2 n c2, .func (.func 65) #[] #[.pointer (some ⟨w.heap.size, 0, none⟩)]] w2 fun e w' => e = .returned (.tuple #[]) ∧ ∃ ks', ks'.Perm ks ∧ SrtL kid ks' ∧ Elems 1 Key.cs w' (fun g => w.heap.size ≤ g ∧ g < w'.heap.size) A2 ks' ∧ Below w.heap.size w w' := by
    intro A2 c2 w2 ho hb2
    have hb02 : Below w.heap.size w w2 := hb1.trans (hb2.mono hb1.size)
    rcases Nat.eq_zero_or_pos n with h0 | h0
    · have hnil : ks = [] := List.eq_nil_of_length_eq_zero (by omega)
      rw [h0]
      refine (sortStable0 A2 c2 _ w2).mono ?_
      rintro e w3 ⟨rfl, rfl⟩
      refine ⟨rfl, [], by rw [hnil], fun i j hi => absurd hi (by simp), fun h => absurd h (by simp), hb02⟩
    · obtain ⟨g, c', cur, hv, hgb, hg, hcl, hcm, hs, htk⟩ := Own.open_ ho (by omega)
      injection hv with e1 e2 e3
      subst e1 e3
      have hgl : g < w2.heap.size := (Array.getElem?_eq_some_iff.1 hg).1
      have hkb : KB w2 g n w2 (fun i => ks.getD i key0) := by
        refine ⟨World.grownBy.refl w2 _, cur, hg, fun i hi => ?_⟩
        have h1 := flatMap_getElem? keyLay.len ks i (ks.getD i key0) (by rw [List.getD_eq_getElem?_getD, List.getElem?_eq_getElem (by omega)]; rfl) 0 (by omega)
        rw [← htk, Nat.mul_one, Nat.add_zero, List.getElem?_take, if_pos (by omega)] at h1
        rw [Array.getElem?_toList, Nat.mul_one] at h1
        exact h1
      have hkeep : ∀ W, w2.grownBy W (some g) → Below w.heap.size w W := fun W hW => hb02.trans (below_of_grown hW (Nat.le_trans (Nat.le_of_lt hs1) hb2.size) (fun g' hg' => by injection hg' with e; omega))
      have hbx2 : ∀ W, w2.grownBy W (some g) → BoxT w.heap.size t W ∧ w.heap.size < W.heap.size := fun W hW => by
        have hB1 : Below w1.heap.size w1 W := hb2.trans (below_of_grown hW hb2.size (fun g' hg' => by injection hg' with e; omega))
        exact ⟨hbox.below hs1 hB1, Nat.lt_of_lt_of_le hs1 hB1.size⟩
      have hT : CmpC w2 g 65 #[.pointer (some ⟨w.heap.size, 0, none⟩)] kid (· ∈ ks) := ⟨fun args W => by kernel_rfl, fun x y W hW hx1 hy1 => by
        have hb := hkeep W hW
        obtain ⟨hbx, hbl⟩ := hbx2 W hW
        exact sortRows1 w.heap.size t x y (kid x) (kid y) W hbl hbx (ht.on hb) ((hx.row x hx1).on hb) ((hx.row y hy1).on hb) (hk x hx1) (hk y hy1) hp⟩
      refine (sortStableK w2 g n c2 _ w2 hT (fun k hkn => ?_) hkb (by omega)).mono ?_
      · show ks.getD k key0 ∈ ks
        rw [List.getD_eq_getElem?_getD, List.getElem?_eq_getElem (by omega)]
        exact List.getElem_mem _
      · rintro e w3 ⟨rfl, f', h1, h2, h3⟩
        have hlen : ((List.range n).map f').length = n := by simp
        have hat : ∀ i (hi : i < ((List.range n).map f').length), ((List.range n).map f')[i] = f' i := fun i hi => by simp
        refine ⟨rfl, (List.range n).map f', ?_, fun i j hi hj hij => ?_, fun hpos => ?_, hkeep w3 h1.only⟩
        · have hpm := h2.perm (n := n) (Nat.le_refl _)
          rw [← hn, range_getD, hn] at hpm
          exact hpm
        · rw [hat i hi, hat j hj]
          have := h3 i j (Nat.zero_le _) hij (by omega)
          unfold klt at this
          omega
        · refine ⟨g, 0, rfl, ⟨by omega, h1.lt⟩, fun i x hi j u hj => ?_⟩
          have hil : i < ((List.range n).map f').length := (List.getElem?_eq_some_iff.1 hi).1
          have hx2 : x = f' i := by
            rw [List.getElem?_eq_getElem hil, hat i hil] at hi
            exact (Option.some.inj hi).symm
          subst hx2
          have hj0 : j < 1 := (List.getElem?_eq_some_iff.1 hj).1
          have : j = 0 := by omega
          subst this
          have hu : u = (f' i).v := (Option.some.inj hj).symm
          subst hu
          have : w3.cell? ⟨g, i, none⟩ = some (f' i).v := h1.cell (i := i) (by omega)
          simpa using this
  have HCL := Lib.hid hCL
  have HST := Lib.hid hST
  have HB1 := Lib.hid hb1
  have HW1 := Lib.hid hw1
  unfold Tbl.val
  rw [hn]
  have HN := Lib.hid hn
  clear ht hx hk hl hp hn hw1 hb1 hg1 hs1 hbox hCL hST
  go_enter Tryz.func36, Tryz.ntmps36
  go_upto_region 1 with fail
  rw [← HW1.out]
  go_wp2_with fail
  refine HCL.out.mono ?_
  rintro e w2 ⟨v2, rfl, ho2, hb2⟩
  obtain ⟨A2, c2, hv2, -, -⟩ := ho2.form
  rw [HN.out] at hv2
  subst hv2
  have HS := Lib.hid (HST.out A2 c2 w2 ho2 hb2)
  clear ho2 hb2
  go_wp2_with fail
  refine HS.out.mono ?_
  rintro e w3 ⟨rfl, ks', h1, h2, h3, h4⟩
  have HF := Lib.hid (And.intro h1 (And.intro h2 (And.intro h3 h4)))
  clear h1 h2 h3 h4
  go_wp2_with fail
  go_ret
  exact ⟨A2, c2, ks', rfl, HF.out⟩
end Go.Proofs.YtefifkleamiabaaGreatDoor

namespace Go.Proofs.YtefifkleamiabaaGreatDoor
open Go.RowKit Go.Sort

/-- A test of rows by contract, whatever block g holds. -/
structure TstC (w0 : World) (g : Nat) (fid : FuncId) (caps : Array Value) (p : Key → Bool) (M : Key → Prop) : Prop where
  ent : ∀ (args : Array Value) (w : World), (callFunc fid args).run Tryz.prog w = .ok (.enter fid args) w
  run : ∀ (x : Key) (W : World), w0.grownBy W (some g) → M x → Calls Tryz.prog fid (#[.slice x.A x.row.length x.c] ++ caps) W fun e w' => e = .returned (.bool (p x)) ∧ Below W.heap.size W w'

set_option maxRecDepth 100000 in
set_option maxHeartbeats 2000000 in
theorem indexK (w0 : World) (g n c : Nat) (f : Nat → Key) (w : World) {fid : FuncId} {caps : Array Value} {p : Key → Bool} {M : Key → Prop} (hT : TstC w0 g fid caps p M) (hM : ∀ k, k < n → M (f k)) (h : KB w0 g n w f) (hn : n ≤ 1000) :
    Calls Tryz.prog 63 #[.slice (some ⟨g, 0, none⟩) n c, .func (.func fid) #[] caps] w fun e w' => Below w.heap.size w w' ∧ ((e = .returned (.int .i64 (-1)) ∧ ∀ k, k < n → p (f k) = false) ∨ ∃ k : Nat, k < n ∧ e = .returned (.int .i64 (k : Int)) ∧ p (f k) = true ∧ ∀ j, j < k → p (f j) = false) := by
  have H0 := Lib.hid h
  have HM := Lib.hid hM
  have HT := Lib.hid hT
  have hent := hT.ent
  clear h hM hT
  go_enter Tryz.func63, Tryz.ntmps63
  go_wp2_with fail
  go_loopw [8] (fun vi wr => ∃ k : Nat, vi = .int .i64 (k : Int) ∧ k ≤ n ∧ (∀ j, j < k → p (f j) = false) ∧ Below w.heap.size w wr) (fun vi _ => n - (intOf vi).toNat)
  case atStart => exact ⟨0, rfl, by omega, (by intro j hj; omega), Below.refl _ _⟩
  case round =>
    obtain ⟨k, rfl, hkn, hbef, hb⟩ := hrel
    by_cases hlt : k < n
    · have hs := H0.out.below hb
      have c0 := hs.cell (i := k) hlt
      have HR := Lib.hid (HT.out.run (f k) wr hs.only (HM.out k hlt))
      have hlt' : (k : Int) < (n : Int) := by omega
      have HB := Lib.hid hb
      have HBE := Lib.hid hbef
      clear hbef hb hs
      cases hp : p (f k) with
      | true =>
        rw [hp] at HR
        have HP := Lib.hid hp
        clear hp
        go_wp2_with fail
        refine HR.out.mono ?_
        rintro e w1 ⟨rfl, hb1⟩
        have HB1 := Lib.hid (HB.out.trans (hb1.mono HB.out.size))
        clear hb1
        go_wp2_with fail
        go_ret
        exact ⟨HB1.out, .inr ⟨k, hlt, rfl, HP.out, HBE.out⟩⟩
      | false =>
        rw [hp] at HR
        have HP := Lib.hid hp
        clear hp
        go_wp2_with fail
        refine HR.out.mono ?_
        rintro e w1 ⟨rfl, hb1⟩
        have HB1 := Lib.hid (HB.out.trans (hb1.mono HB.out.size))
        clear hb1
        go_wp2_with fail
        go_roundw
        case rel => exact ⟨k + 1, by go_num, by omega, (fun j hj => by
          rcases Nat.lt_or_ge j k with h | h
          · exact HBE.out j h
          · rw [show j = k by omega]; exact HP.out), HB1.out⟩
        case measure => simp [intOf]; omega
    · have hkn' : k = n := by omega
      subst hkn'
      have HB := Lib.hid hb
      have HBE := Lib.hid hbef
      clear hbef hb
      go_wp2_with fail
      go_ret
      exact ⟨HB.out, .inl ⟨rfl, HBE.out⟩⟩

set_option maxRecDepth 100000 in
theorem index0 (A : Option Addr) (c : Nat) (fn : Value) (w : World) :
    Calls Tryz.prog 63 #[.slice A 0 c, fn] w fun e w' => e = .returned (.int .i64 (-1)) ∧ w = w' := by
  go_enter Tryz.func63, Tryz.ntmps63
  go_wp2_with fail
  go_loopw [8] (fun vi wr => vi = .int .i64 0 ∧ w = wr) (fun _ _ => 0)
  case atStart => exact ⟨rfl, rfl⟩
  case round =>
    obtain ⟨rfl, rfl⟩ := hrel
    go_wp2_with fail
    go_ret
    exact ⟨rfl, rfl⟩
set_option maxRecDepth 100000 in
theorem deleteFunc0 (A : Option Addr) (c : Nat) (fn : Value) (w : World) :
    Calls Tryz.prog 33 #[.slice A 0 c, fn] w fun e w' => e = .returned (.slice A 0 c) ∧ w = w' := by
  have HC := Lib.hid (index0 A c fn w)
  go_enter Tryz.func33, Tryz.ntmps33
  go_wp2_with fail
  refine HC.out.mono ?_
  rintro e w1 ⟨rfl, rfl⟩
  go_wp2_with fail
  go_ret
  exact ⟨rfl, rfl⟩

/-- KB, and how many cells the block has. -/
structure KD (w0 : World) (g n cs : Nat) (w : World) (f : Nat → Key) : Prop where
  kb : KB w0 g n w f
  siz : ∃ arr, w.heap[g]? = some (.cells arr 48 (0, 0)) ∧ arr.size = cs
theorem KD.below {w0 w w' : World} {g n cs : Nat} {f : Nat → Key} (h : KD w0 g n cs w f) (hb : Below w.heap.size w w') : KD w0 g n cs w' f := by
  obtain ⟨arr, h1, h2⟩ := h.siz
  exact ⟨h.kb.below hb, arr, (hb.block g h.kb.lt).trans h1, h2⟩
theorem KD.put {w0 w : World} {g n cs i : Nat} {f : Nat → Key} (h : KD w0 g n cs w f) (hi : i < n) (r : Key) : KD w0 g n cs (w.setCell ⟨g, i, none⟩ (.slice r.A r.row.length r.c)) (fun x => if x = i then r else f x) := by
  obtain ⟨arr, h1, h2⟩ := h.siz
  exact ⟨h.kb.put hi r, _, heap_setCell_same _ g _ _ _ _ h1, by simpa using h2⟩

/-- Behind j elements: the kept ones lie ahead of i, the rest is untouched. -/
structure KInv (p : Key → Bool) (f h : Nat → Key) (n i j : Nat) : Prop where
  le : i < j ∧ j ≤ n
  kept : (List.range i).map h = ((List.range j).map f).filter (fun x => !p x)
  rest : ∀ x, j ≤ x → h x = f x
theorem KInv.start {p : Key → Bool} {f : Nat → Key} {n k : Nat} (hk : k < n) (h1 : p (f k) = true) (h2 : ∀ j, j < k → p (f j) = false) : KInv p f f n k (k + 1) := by
  refine ⟨⟨by omega, by omega⟩, ?_, fun _ _ => rfl⟩
  rw [List.range_succ, List.map_append, List.filter_append]
  have e : ((List.range k).map f).filter (fun x => !p x) = (List.range k).map f := by
    rw [List.filter_eq_self]
    intro x hx
    obtain ⟨j, hj, rfl⟩ := List.mem_map.1 hx
    rw [h2 j (List.mem_range.1 hj)]
    rfl
  rw [e]
  simp [h1]
theorem KInv.skip {p : Key → Bool} {f h : Nat → Key} {n i j : Nat} (H : KInv p f h n i j) (hj : j < n) (hp : p (f j) = true) : KInv p f h n i (j + 1) := by
  obtain ⟨⟨h1, h2⟩, h3, h4⟩ := H
  refine ⟨⟨by omega, by omega⟩, ?_, fun x hx => h4 x (by omega)⟩
  rw [List.range_succ, List.map_append, List.filter_append, ← h3]
  simp [hp]
theorem KInv.keep {p : Key → Bool} {f h : Nat → Key} {n i j : Nat} (H : KInv p f h n i j) (hj : j < n) (hp : p (f j) = false) : KInv p f (fun x => if x = i then h j else h x) n (i + 1) (j + 1) := by
  obtain ⟨⟨h1, h2⟩, h3, h4⟩ := H
  refine ⟨⟨by omega, by omega⟩, ?_, fun x hx => ?_⟩
  · rw [List.range_succ (n := i), List.range_succ (n := j), List.map_append, List.map_append, List.filter_append, ← h3]
    have e : (List.range i).map (fun x => if x = i then h j else h x) = (List.range i).map h := by
      apply List.map_congr_left
      intro x hx
      have := List.mem_range.1 hx
      rw [if_neg (by omega)]
    rw [e]
    simp [hp, h4 j (Nat.le_refl _)]
  · show (if x = i then h j else h x) = f x
    rw [if_neg (by omega)]
    exact h4 x (by omega)
theorem KInv.mem {p : Key → Bool} {f h : Nat → Key} {n i j : Nat} (H : KInv p f h n i j) : i = (((List.range j).map f).filter (fun x => !p x)).length := by
  rw [← H.kept]
  simp

set_option maxRecDepth 100000 in
set_option maxHeartbeats 4000000 in
theorem deleteFuncK (w0 : World) (g n c : Nat) (f : Nat → Key) (w : World) {fid : FuncId} {caps : Array Value} {p : Key → Bool} {M : Key → Prop} (hT : TstC w0 g fid caps p M) (hM : ∀ k, k < n → M (f k)) (h : KD w0 g n c w f) (hn : n ≤ 1000) (hn0 : 0 < n) (hnc : n ≤ c) (hcm : c ≤ maxLen) :
    Calls Tryz.prog 33 #[.slice (some ⟨g, 0, none⟩) n c, .func (.func fid) #[] caps] w fun e w' => e = .returned (.slice (some ⟨g, 0, none⟩) (((List.range n).map f).filter (fun x => !p x)).length c) ∧ Own 1 Key.cs 48 g w' (.slice (some ⟨g, 0, none⟩) (((List.range n).map f).filter (fun x => !p x)).length c) (((List.range n).map f).filter (fun x => !p x)) ∧ w0.grownBy w' (some g) := by
  have HI := Lib.hid (indexK w0 g n c f w hT hM h.kb hn)
  have H0 := Lib.hid h
  have HM := Lib.hid hM
  have HT := Lib.hid hT
  have hent := hT.ent
  have HNC := Lib.hid (And.intro hnc hcm)
  -- the end, where h holds the kept ones ahead of i
  have HEND : Hid (∀ (h : Nat → Key) (i : Nat) (W : World) (vs : List Value), KD w0 g n c W h → KInv p f h n i n → vs.length = n - i → Own 1 Key.cs 48 g (W.setCells g i vs) (.slice (some ⟨g, 0, none⟩) i c) (((List.range n).map f).filter (fun x => !p x)) ∧ w0.grownBy (W.setCells g i vs) (some g)) := Lib.hid fun h i W vs hd hk hv => by
    obtain ⟨arr, hg, hc⟩ := hd.kb.blk
    obtain ⟨arr', hg', hsz⟩ := hd.siz
    rw [hg] at hg'
    injection hg' with hg'
    injection hg' with hg' _ _
    subst hg'
    have hle := hk.le
    have hmem := hk.mem
    have hbig : ∀ (vs : List Value) (o : Nat) (W : World), w0.grownBy W (some g) → w0.grownBy (W.setCells g o vs) (some g) := by
      intro vs
      induction vs with
      | nil => intro o W h; exact h
      | cons v vs ih => intro o W h; exact ih _ _ (grown_setCell h _ _)
    refine ⟨Own.shut keyLay (Nat.le_refl _) (heap_setCells_eq vs i W arr hg) hmem (by omega) hcm (by rw [putL_size, hsz, Nat.mul_one]) ?_, hbig vs i W hd.kb.only⟩
    rw [putL_list (by omega), Nat.mul_one, ← hk.kept]
    have e1 : (arr.toList.take i ++ vs ++ arr.toList.drop (i + vs.length)).take i = arr.toList.take i := by
      rw [List.append_assoc, List.take_append_of_le_length (by rw [List.length_take]; simp; omega), List.take_of_length_le (by rw [List.length_take]; omega)]
    rw [e1]
    apply List.ext_getElem?
    intro x
    rw [List.getElem?_take]
    have hfm : ∀ l : List Key, l.flatMap Key.cs = l.map Key.v := by
      intro l
      induction l with
      | nil => rfl
      | cons a l ih => rw [List.flatMap_cons, List.map_cons, ← ih]; rfl
    rw [hfm]
    by_cases hx : x < i
    · rw [if_pos hx, Array.getElem?_toList, hc x (by omega)]
      simp [hx]
    · rw [if_neg hx]
      simp [hx]
  clear h hM hT hnc hcm
  go_enter Tryz.func33, Tryz.ntmps33
  go_wp2_with fail
  refine HI.out.mono ?_
  rintro e w1 ⟨hb1, ⟨rfl, hall⟩ | ⟨k, hk, rfl, hpk, hbef⟩⟩
  · have HF := Lib.hid (And.intro hall (H0.out.below hb1))
    clear hall hb1
    go_wp2_with fail
    go_ret
    obtain ⟨hall, hd⟩ := HF.out
    have e1 : ((List.range n).map f).filter (fun x => !p x) = (List.range n).map f := by
      rw [List.filter_eq_self]
      intro x hx
      obtain ⟨j, hj, rfl⟩ := List.mem_map.1 hx
      rw [hall j (List.mem_range.1 hj)]
      rfl
    have e2 : ((List.range n).map f).length = n := by simp
    rw [e1]
    refine ⟨by rw [e2]; rfl, ?_, hd.kb.only⟩
    rw [show ((List.range n).map f).length = n from e2]
    obtain ⟨arr, hg, hc⟩ := hd.kb.blk
    obtain ⟨arr', hg', hsz⟩ := hd.siz
    rw [hg] at hg'
    injection hg' with hg'
    injection hg' with hg' _ _
    subst hg'
    refine Own.shut keyLay (Nat.le_refl _) hg e2.symm HNC.out.1 HNC.out.2 (by rw [hsz, Nat.mul_one]) ?_
    have hfm : ∀ l : List Key, l.flatMap Key.cs = l.map Key.v := by
      intro l
      induction l with
      | nil => rfl
      | cons a l ih => rw [List.flatMap_cons, List.map_cons, ← ih]; rfl
    rw [hfm, Nat.mul_one]
    apply List.ext_getElem?
    intro x
    rw [List.getElem?_take]
    by_cases hx : x < n
    · rw [if_pos hx, Array.getElem?_toList, hc x hx]
      simp [hx]
    · rw [if_neg hx]
      simp [hx]
  · have HK := Lib.hid (KInv.start hk hpk hbef)
    have HD1 := Lib.hid (H0.out.below hb1)
    have hne1 : ((k : Int) == -1) = false := beq_eq_false_iff_ne.2 (by omega)
    clear hpk hbef hb1
    go_wp2_with fail
    go_loopg [5, 6, 7] n (fun gg s5 s6 _ wr => ∃ (i j : Nat) (h : Nat → Key), s5 = .int .i64 (i : Int) ∧ s6 = .int .i64 (j : Int) ∧ j ≤ n ∧ n - j ≤ gg ∧ KD w0 g n c wr h ∧ Hid (KInv p f h n i j))
    case atStart => exact ⟨k, k + 1, f, rfl, by go_num, by omega, by omega, HD1.out, HK⟩
    case round =>
      obtain ⟨i, j, h, rfl, rfl, hjn, hgg, hd, HI2⟩ := hrel
      clear HD1 HK
      have HD := Lib.hid hd
      have hij : i < j := HI2.out.le.1
      by_cases hlt : j < n
      · have hltz : (j : Int) < (n : Int) := by omega
        have hiz : (i : Int) < (n : Int) := by omega
        have c0 := hd.kb.cell (i := j) hlt
        have c1 := hd.kb.cell (i := i) (by omega)
        have fz := hd.kb.frozen i
        have HFJ := Lib.hid (HI2.out.rest j (Nat.le_refl _))
        have HR := Lib.hid (HT.out.run (h j) wr hd.kb.only (by rw [HFJ.out]; exact HM.out j hlt))
        clear hd
        cases hq : p (h j) with
        | false =>
          rw [hq] at HR
          have HQ := Lib.hid hq
          clear hq
          go_wp2_with fail
          refine HR.out.mono ?_
          rintro e w2 ⟨rfl, hb2⟩
          have hd2 := HD.out.below hb2
          have HD2 := Lib.hid (hd2.put (i := i) (by omega) (h j))
          have HI3 := Lib.hid (HI2.out.keep hlt (by rw [← HFJ.out]; exact HQ.out))
          have e1 := hd2.kb.cell (i := i) (by omega)
          have fz2 := hd2.kb.frozen i
          clear hb2 hd2 c0 c1 fz
          generalize h i = old at *
          go_wp2_with fail
          go_roundg (n - (j + 1))
          case measure => omega
          case rel => exact ⟨i + 1, j + 1, _, by go_num, by go_num, by omega, Nat.le_refl _, HD2.out, HI3⟩
        | true =>
          rw [hq] at HR
          have HQ := Lib.hid hq
          clear hq
          go_wp2_with fail
          refine HR.out.mono ?_
          rintro e w2 ⟨rfl, hb2⟩
          have HD2 := Lib.hid (HD.out.below hb2)
          have HI3 := Lib.hid (HI2.out.skip hlt (by rw [← HFJ.out]; exact HQ.out))
          clear hb2 c0 c1 fz
          go_wp2_with fail
          go_roundg (n - (j + 1))
          case measure => omega
          case rel => exact ⟨i, j + 1, _, rfl, by go_num, by omega, Nat.le_refl _, HD2.out, HI3⟩
      · obtain rfl : j = n := by omega
        have hltz : ¬ (j : Int) < (j : Int) := by omega
        have hcl : ∀ ty cc, (Builtin.clear_ #[76] ty #[.slice (some ⟨g, i, none⟩) (j - i) cc]).run Tryz.prog wr = .ok (.tuple #[]) (wr.setCells g i (List.replicate (j - i) (.slice none 0 0))) := fun ty cc =>
          Lib.run_clear_slice wr _ 48 ty _ Tryz.underlying76 Tryz.zeroValue48 rfl rfl g i (j - i) cc (by omega) (fun t ht => by rw [hd.kb.cell (i := i + t) (by omega)]; rfl) (fun t ht => hd.kb.frozen _)
        have HF := Lib.hid (HEND.out h i wr (List.replicate (j - i) (.slice none 0 0)) hd HI2.out (by simp))
        have HMEM := Lib.hid HI2.out.mem
        have hx1 : (i : Int) ≤ (j : Int) := by omega
        have hx2 : (j : Int) ≤ (c : Int) := by have := HNC.out.1; omega
        have hx3 : (i : Int) ≤ (c : Int) := by omega
        have hx4 : ¬ c = i := by omega
        clear hd
        go_wp2_with fail
        go_ret
        rw [← HMEM.out]
        exact ⟨rfl, HF.out⟩
end Go.Proofs.YtefifkleamiabaaGreatDoor

namespace Go.Proofs.YtefifkleamiabaaGreatDoor
open Go.RowKit Go.Sort

/-- The two captured variables and the table that one of them points to. -/
def ClS (B1 B2 tb o : Nat) (t : Tbl) (kk : Nat) (W : World) : Prop :=
  W.cell? ⟨B1, 0, none⟩ = some (.pointer (some ⟨tb, o, none⟩)) ∧ W.cell? ⟨B2, 0, none⟩ = some (.string (encK kk)) ∧ W.cell? ⟨tb, o, none⟩ = some (.string t.name) ∧ W.cell? ⟨tb, o + 1, none⟩ = some (.slice t.CA t.cols.length t.cc) ∧ W.cell? ⟨tb, o + 2, none⟩ = some (.slice t.PA t.pk.length t.pc)
theorem ClS.below {B1 B2 tb o : Nat} {t : Tbl} {kk : Nat} {W W' : World} (h : ClS B1 B2 tb o t kk W) (h1 : B1 < W.heap.size) (h2 : B2 < W.heap.size) (h3 : tb < W.heap.size) (hb : Below W.heap.size W W') : ClS B1 B2 tb o t kk W' :=
  ⟨(hb.cell (p := ⟨B1, 0, none⟩) h1).trans h.1, (hb.cell (p := ⟨B2, 0, none⟩) h2).trans h.2.1, (hb.cell (p := ⟨tb, o, none⟩) h3).trans h.2.2.1, (hb.cell (p := ⟨tb, o + 1, none⟩) h3).trans h.2.2.2.1, (hb.cell (p := ⟨tb, o + 2, none⟩) h3).trans h.2.2.2.2⟩

/-- Behind KeyOf: Encode. -/
def AcK1 (B1 B2 tb o : Nat) (t : Tbl) (kk a : Nat) (w : World) (e : Ending) (w2 : World) : Prop :=
  ∃ A2 c2, e = .returned (.slice A2 1 c2) ∧ ClS B1 B2 tb o t kk w2 ∧ Hid (Calls Tryz.prog 31 #[.slice A2 1 c2] w2 fun e w3 => e = .returned (.string (encK a)) ∧ ClS B1 B2 tb o t kk w3 ∧ Below w.heap.size w w3)
theorem acK1 (B1 B2 tb o : Nat) (t : Tbl) (kk a : Nat) (x : Key) (w : World) (m : Nat) (h1 : B1 < w.heap.size) (h2 : B2 < w.heap.size) (h3 : tb < w.heap.size) (hc : ClS B1 B2 tb o t kk w) (ht : TOk (· < w.heap.size) w t) (hx : KOk (· < w.heap.size) w x) (ha : keyOf t.pk x.row = ik (a : Int)) (ha10 : a < 10) (hp : t.pk.length ≤ 12) :
    Calls Tryz.prog 25 #[t.val, .slice x.A x.row.length x.c] (w.drewN m) (AcK1 B1 B2 tb o t kk a w) := by
  have hd : Below w.heap.size w (w.drewN m) := below_drewN (Below.refl _ _) m
  refine (keyOfB t x.A x.c x.row (w.drewN m) (ht.on hd) (hx.on hd).el (by omega)).mono ?_
  rintro e w2 ⟨v2, rfl, ho2, hb2⟩
  rw [ha] at ho2
  obtain ⟨A2, c2, rfl, -, -⟩ := ho2.form
  have hb02 := hd.trans (hb2.mono hd.size)
  refine ⟨A2, c2, rfl, hc.below h1 h2 h3 hb02, Lib.hid ?_⟩
  have e2 : Elems 3 Val.cs w2 (· < w2.heap.size) A2 (ik (a : Int)) := (ho2.elems valLay.len rfl).more fun g hg => (Own.lt ho2 g hg).2
  refine (rEncode1 A2 c2 a ha10 w2 e2).mono ?_
  rintro e w3 ⟨rfl, hb3⟩
  have hb03 := hb02.trans (hb3.mono hb02.size)
  exact ⟨rfl, hc.below h1 h2 h3 hb03, hb03⟩

set_option maxRecDepth 100000 in
set_option maxHeartbeats 8000000 in
theorem applyC1 (B1 B2 tb o : Nat) (t : Tbl) (kk a : Nat) (x : Key) (w : World) (h1 : B1 < w.heap.size) (h2 : B2 < w.heap.size) (h3 : tb < w.heap.size) (hc : ClS B1 B2 tb o t kk w) (ht : TOk (· < w.heap.size) w t) (hx : KOk (· < w.heap.size) w x) (ha : keyOf t.pk x.row = ik (a : Int)) (ha10 : a < 10) (hk10 : kk < 10) (hp : t.pk.length ≤ 12) :
    Calls Tryz.prog 35 #[.slice x.A x.row.length x.c, .pointer (some ⟨B1, 0, none⟩), .pointer (some ⟨B2, 0, none⟩)] w fun e w' => e = .returned (.bool (decide (a = kk))) ∧ Below w.heap.size w w' := by
  have HC := Lib.hid (acK1 B1 B2 tb o t kk a x w 1 h1 h2 h3 hc ht hx ha ha10 hp)
  have hq : ((encK a).toList == (encK kk).toList) = decide (a = kk) := by
    by_cases h : a = kk
    · subst h; simp
    · rw [decide_eq_false h, beq_eq_false_iff_ne]
      intro he
      exact h (encK_inj ha10 hk10 (by rw [ByteArray.toList_eq, ByteArray.toList_eq] at he; exact ByteArray.ext (Array.toList_inj.1 he)))
  have HQ := Lib.hid hq
  unfold Tbl.val ClS at *
  have s0 := hc
  clear h1 h2 h3 ht hx ha ha10 hp hc hq hk10
  generalize decide (a = kk) = res at *
  go_enter Tryz.func35, Tryz.ntmps35
  go_upto_region 1 with fail
  go_region_held3 (fun W => W.cell? ⟨B1, 0, none⟩ = some (.pointer (some ⟨tb, o, none⟩)) ∧ W.cell? ⟨B2, 0, none⟩ = some (.string (encK kk)) ∧ W.cell? ⟨tb, o, none⟩ = some (.string t.name) ∧ W.cell? ⟨tb, o + 1, none⟩ = some (.slice t.CA t.cols.length t.cc) ∧ W.cell? ⟨tb, o + 2, none⟩ = some (.slice t.PA t.pk.length t.pc)) (first | exact s0 | exact s3 | exact s2)
    (first
    | (go_at_call 31; refine HK2.out.mono ?_; rintro e w3 ⟨rfl, s3, hb3⟩)
    | (go_at_call 25; refine HC.out.mono ?_; rintro e w2 ⟨A2, c2, rfl, s2, HK2⟩))
  all_goals
    have HF := Lib.hid hb3
    clear hb3 s3
    go_wp2_with fail
    go_ret
    exact ⟨by first | exact ret_bool HQ.out | (rw [← HQ.out]; rfl), HF.out⟩
end Go.Proofs.YtefifkleamiabaaGreatDoor

namespace Go.Proofs.YtefifkleamiabaaGreatDoor
open Go.RowKit Go.Sort

set_option maxRecDepth 100000 in
set_option maxHeartbeats 4000000 in
theorem emptyOwn (s : Sc) (w : World) (hs : ScOk (· < w.heap.size) w s) (h2 : s.tabs.length = 2) (hn0 : ∀ h : 0 < s.tabs.length, s.tabs[0].name = nItem) (hn1 : ∀ h : 1 < s.tabs.length, s.tabs[1].name = nOrder) :
    Calls Tryz.prog 23 #[s.v] w fun e w' => ∃ g, e = .returned (.slice (some ⟨g, 0, none⟩) 2 2) ∧ w.heap.size ≤ g ∧ EiB w g nItem nOrder w' := by
  have h0l : 0 < s.tabs.length := by omega
  have h1l : 1 < s.tabs.length := by omega
  obtain ⟨w1, hw1⟩ : ∃ w1, w1 = w.alloc (.cells s.cells 27) := ⟨_, rfl⟩
  have hb1 : Below w.heap.size w w1 := by rw [hw1]; exact (Below.refl _ _).alloc (Nat.le_refl _) _
  have hg0 : w1.heap[w.heap.size]? = some (.cells s.cells 27 (0, 0)) := by rw [hw1]; exact heap_alloc_new w _
  have hs1 : w.heap.size < w1.heap.size := by rw [hw1]; simp
  obtain ⟨tb, toff, hTA, -, -⟩ := hs.tabs.tbl h0l
  have HTB : Hid (∀ W, Below w.heap.size w W → (W.cell? ⟨tb, toff, none⟩ = some (.string nItem) ∧ W.cell? ⟨tb, toff + 1, none⟩ = some (.slice s.tabs[0].CA s.tabs[0].cols.length s.tabs[0].cc) ∧ W.cell? ⟨tb, toff + 2, none⟩ = some (.slice s.tabs[0].PA s.tabs[0].pk.length s.tabs[0].pc)) ∧ W.cell? ⟨tb, toff + 3, none⟩ = some (.string nOrder) ∧ W.cell? ⟨tb, toff + 3 + 1, none⟩ = some (.slice s.tabs[1].CA s.tabs[1].cols.length s.tabs[1].cc) ∧ W.cell? ⟨tb, toff + 3 + 2, none⟩ = some (.slice s.tabs[1].PA s.tabs[1].pk.length s.tabs[1].pc)) := Lib.hid fun W hW => by
    obtain ⟨tb', toff', e, -, p0, p1, p2⟩ := (hs.on hW).tabs.tbl h0l
    obtain ⟨tb2, toff2, e2, -, q0, q1, q2⟩ := (hs.on hW).tabs.tbl h1l
    rw [hTA] at e e2
    injection e with e
    injection e with e3 e4
    injection e2 with e2
    injection e2 with e5 e6
    subst e3 e4 e5 e6
    rw [hn0] at p0
    rw [hn1] at q0
    rw [Nat.zero_mul, Nat.add_zero] at p0 p1 p2
    rw [Nat.one_mul] at q0 q1 q2
    exact ⟨⟨p0, p1, p2⟩, q0, q1, q2⟩
  have HBK : Hid (∀ W, Below w1.heap.size w1 W → W.cell? ⟨w.heap.size, 0, none⟩ = some (.slice (some ⟨tb, toff, none⟩) 2 s.tc)) := Lib.hid fun W hW => by
    have h0 := (hW.block w.heap.size hs1).trans hg0
    unfold Sc.cells at h0
    rw [hTA, h2] at h0
    exact cell_of_row _ _ 0 _ _ _ h0
  have HB1 := Lib.hid hb1
  have HS1 := Lib.hid hs1
  have HW1 := Lib.hid hw1
  have c0 := HBK.out w1 (Below.refl _ _)
  have hmk := make_rels
  have HE1 := Lib.hid (EiB.new hb1)
  unfold Sc.cells at HW1
  unfold Sc.v Sc.cells
  rw [hTA, h2] at HW1 ⊢
  clear hs hn0 hn1 hb1 hg0 hs1 hw1 hTA h2
  go_enter Tryz.func23, Tryz.ntmps23
  go_upto_region 1 with fail
  rw [← HW1.out]
  go_upto_region 2 with fail
  obtain ⟨w2, hw2⟩ : ∃ w2, w2 = w1.alloc (.cells #[.string ⟨#[]⟩, .slice none 0 0, .string ⟨#[]⟩, .slice none 0 0] 78) := ⟨_, rfl⟩
  rw [← hw2] at HE1 ⊢
  have hb12 : Below w1.heap.size w1 w2 := by rw [hw2]; exact (Below.refl _ _).alloc (Nat.le_refl _) _
  have c2 := HBK.out w2 hb12
  have HG : Hid (w.heap.size ≤ w1.heap.size) := Lib.hid HB1.out.size
  generalize w1.heap.size = g at *
  clear hw2 hb12 c0
  go_wp2_with fail
  go_loopw [13] (fun vi wr => (vi = .int .i64 0 ∧ EiB w g ⟨#[]⟩ ⟨#[]⟩ wr) ∨ (vi = .int .i64 1 ∧ EiB w g nItem ⟨#[]⟩ wr) ∨ (vi = .int .i64 2 ∧ EiB w g nItem nOrder wr)) (fun vi _ => 2 - (intOf vi).toNat)
  case atStart => exact .inl ⟨rfl, HE1.out⟩
  case round =>
    obtain ⟨wo, rfl⟩ : ∃ wo, wo = wr := ⟨_, rfl⟩
    rcases hrel with ⟨rfl, hE⟩ | ⟨rfl, hE⟩ | ⟨rfl, hE⟩
    · obtain ⟨⟨p0, p1, p2⟩, -⟩ := HTB.out wo hE.2
      obtain ⟨w5, hw5⟩ : ∃ w5, w5 = wo.alloc (.cells #[.string nItem, .slice s.tabs[0].CA s.tabs[0].cols.length s.tabs[0].cc, .slice s.tabs[0].PA s.tabs[0].pk.length s.tabs[0].pc] 71) := ⟨_, rfl⟩
      have hb5 : Below wo.heap.size wo w5 := by rw [hw5]; exact (Below.refl _ _).alloc (Nat.le_refl _) _
      have hg5 : w5.heap[wo.heap.size]? = some (.cells #[.string nItem, .slice s.tabs[0].CA s.tabs[0].cols.length s.tabs[0].cc, .slice s.tabs[0].PA s.tabs[0].pk.length s.tabs[0].pc] 71 (0, 0)) := by rw [hw5]; exact heap_alloc_new wo _
      have t0 := cell_of_row _ _ 0 _ _ _ hg5
      have hE5 := hE.grow hb5
      obtain ⟨⟨q0, y0⟩, ⟨q2, y2⟩, y3⟩ := hE5.at
      have HF := Lib.hid (hE5.set0 (n := nItem) HG.out)
      have HW5 := Lib.hid hw5
      clear hE hw5 hb5 hg5 hE5
      go_upto_region 5 with fail
      rw [← HW5.out]
      go_wp2_with fail
      go_roundw
      case rel => exact .inr (.inl ⟨by go_num, HF.out⟩)
      case measure => simp [intOf]
    · obtain ⟨-, p0, p1, p2⟩ := HTB.out wo hE.2
      obtain ⟨w5, hw5⟩ : ∃ w5, w5 = wo.alloc (.cells #[.string nOrder, .slice s.tabs[1].CA s.tabs[1].cols.length s.tabs[1].cc, .slice s.tabs[1].PA s.tabs[1].pk.length s.tabs[1].pc] 71) := ⟨_, rfl⟩
      have hb5 : Below wo.heap.size wo w5 := by rw [hw5]; exact (Below.refl _ _).alloc (Nat.le_refl _) _
      have hg5 : w5.heap[wo.heap.size]? = some (.cells #[.string nOrder, .slice s.tabs[1].CA s.tabs[1].cols.length s.tabs[1].cc, .slice s.tabs[1].PA s.tabs[1].pk.length s.tabs[1].pc] 71 (0, 0)) := by rw [hw5]; exact heap_alloc_new wo _
      have t0 := cell_of_row _ _ 0 _ _ _ hg5
      have hE5 := hE.grow hb5
      obtain ⟨⟨q0, y0⟩, ⟨q2, y2⟩, y3⟩ := hE5.at
      have HF := Lib.hid (hE5.set1 (n := nOrder) HG.out)
      have HW5 := Lib.hid hw5
      clear hE hw5 hb5 hg5 hE5
      go_upto_region 5 with fail
      rw [← HW5.out]
      go_wp2_with fail
      go_roundw
      case rel => exact .inr (.inr ⟨by go_num, HF.out⟩)
      case measure => simp [intOf]
    · have HF := Lib.hid hE
      clear hE
      go_wp2_with fail
      go_ret
      exact ⟨_, rfl, HG.out, HF.out⟩

/-- The key's digit. -/
def dgK (pk : List Int) (r : Row) : Nat := ((keyOf pk r).headD ⟨0, 0, ⟨#[]⟩⟩).int.toNat
/-- Every key is a digit. -/
def Dig (pk : List Int) (rows : List Row) : Prop := ∀ r ∈ rows, keyOf pk r = ik (dgK pk r : Int) ∧ dgK pk r < 10
/-- A change's work on its table. -/
def upR (pk : List Int) (kk : Nat) (new rows : List Row) : List Row := rows.filter (fun r => !decide (dgK pk r = kk)) ++ new
/-- The rows do not fall by their digit. -/
def SrtR (pk : List Int) (rows : List Row) : Prop := rows.Pairwise fun a b => dgK pk a ≤ dgK pk b

/-- Blocks of a world but one. -/
def But (mb : Nat) (W : World) (g : Nat) : Prop := g < W.heap.size ∧ g ≠ mb
theorem RsOk.but {mb : Nat} {W W' : World} {A : Option Addr} {ks : List Key} (h : RsOk (But mb W) W A ks) (hg : W.grownBy W' (some mb)) : RsOk (But mb W') W' A ks :=
  (h.keep fun k hk => hg.block k hk.1 (fun e => hk.2 (Option.some.inj e))).more fun _ hg' => ⟨Nat.lt_of_lt_of_le hg'.1 hg.size, hg'.2⟩
theorem grown_of_below {W W' : World} (g : Option Nat) (hb : Below W.heap.size W W') : W.grownBy W' g := ⟨hb.os, hb.tape, hb.output, hb.size, fun k hk _ => hb.block k hk⟩
theorem grown_trans {a b c : World} {g : Nat} (h : a.grownBy b (some g)) (k : b.grownBy c (some g)) : a.grownBy c (some g) :=
  ⟨k.os.trans h.os, k.tape.trans h.tape, k.output.trans h.output, Nat.le_trans h.size k.size, fun i hi hne => (k.block i (Nat.lt_of_lt_of_le hi h.size) hne).trans (h.block i hi hne)⟩
/-- The map of the tables' rows. -/
structure MapAt (mb : Nat) (R : Nat → List Row) (W : World) : Prop where
  mp : ∃ l A0 c0 k0 A1 c1 k1, SMap W mb l ∧ mget l nItem = some (.slice A0 k0.length c0) ∧ mget l nOrder = some (.slice A1 k1.length c1) ∧ RsOk (But mb W) W A0 k0 ∧ RsOk (But mb W) W A1 k1 ∧ k0.map Key.row = R 0 ∧ k1.map Key.row = R 1
theorem MapAt.below {mb : Nat} {R : Nat → List Row} {W W' : World} (h : MapAt mb R W) (hb : Below W.heap.size W W') : MapAt mb R W' := by
  obtain ⟨l, A0, c0, k0, A1, c1, k1, h1, h2, h3, h4, h5, h6, h7⟩ := h
  exact ⟨l, A0, c0, k0, A1, c1, k1, h1.below hb, h2, h3, h4.but (grown_of_below _ hb), h5.but (grown_of_below _ hb), h6, h7⟩
def nTab : Nat → ByteArray
  | 0 => nItem
  | _ => nOrder
theorem nTab_ne : nItem ≠ nOrder := by decide +kernel
theorem zero_rows (w : World) : (zeroValue 76).run Tryz.prog w = .ok (.slice none 0 0) w := by kernel_rfl
/-- A table's rows are looked up. -/
theorem MapAt.look {mb : Nat} {R : Nat → List Row} {W : World} (h : MapAt mb R W) (i : Nat) (hi : i < 2) :
    ∃ A c ks, (Instr.lookup 82 (.map (some mb)) (.string (nTab i)) false).run Tryz.prog W = .ok (.slice A ks.length c) W ∧ RsOk (But mb W) W A ks ∧ ks.map Key.row = R i := by
  obtain ⟨l, A0, c0, k0, A1, c1, k1, h1, h2, h3, h4, h5, h6, h7⟩ := h
  have hlk := h1.look (P := Tryz.prog) Tryz.underlying82 Tryz.underlying9 (zero_rows W) (nTab i)
  have : i = 0 ∨ i = 1 := by omega
  rcases this with rfl | rfl
  · rw [show nTab 0 = nItem from rfl] at hlk ⊢
    rw [h2] at hlk
    exact ⟨A0, c0, k0, hlk, h4, h6⟩
  · rw [show nTab 1 = nOrder from rfl] at hlk ⊢
    rw [h3] at hlk
    exact ⟨A1, c1, k1, hlk, h5, h7⟩
/-- A table's rows are laid anew. -/
theorem MapAt.put {mb : Nat} {R R' : Nat → List Row} {W : World} (h : MapAt mb R W) (i : Nat) (hi : i < 2) {A : Option Addr} {c n : Nat} {ks : List Key} (hn : n = ks.length) (hk : RsOk (But mb W) W A ks) (hR : R' i = ks.map Key.row) (hR' : ∀ j, j < 2 → j ≠ i → R' j = R j) :
    ∃ W', (Instr.mapUpdate 82 (.map (some mb)) (.string (nTab i)) (.slice A n c)).run Tryz.prog W = .ok () W' ∧ MapAt mb R' W' ∧ W.grownBy W' (some mb) := by
  subst hn
  obtain ⟨l, A0, c0, k0, A1, c1, k1, h1, h2, h3, h4, h5, h6, h7⟩ := h
  obtain ⟨W', hup, hm, hgr⟩ := h1.update (P := Tryz.prog) Tryz.underlying82 Tryz.underlying9 (nTab i) (.slice A ks.length c)
  refine ⟨W', hup, ?_, hgr⟩
  have : i = 0 ∨ i = 1 := by omega
  rcases this with rfl | rfl
  · refine ⟨_, A, c, ks, A1, c1, k1, hm, mget_put_same _ _ _, ?_, hk.but hgr, h5.but hgr, hR.symm, by rw [hR' 1 (by omega) (by omega)]; exact h7⟩
    rw [mget_put_other _ _ (show nTab 0 ≠ nOrder from nTab_ne)]
    exact h3
  · refine ⟨_, A0, c0, k0, A, c, ks, hm, ?_, mget_put_same _ _ _, h4.but hgr, hk.but hgr, by rw [hR' 0 (by omega) (by omega)]; exact h6, hR.symm⟩
    rw [mget_put_other _ _ (show nTab 1 ≠ nItem from fun e => nTab_ne e.symm)]
    exact h2
end Go.Proofs.YtefifkleamiabaaGreatDoor

namespace Go.Proofs.YtefifkleamiabaaGreatDoor
open Go.RowKit Go.Sort

/-- A change that fits, its table and its key. -/
structure StepF (s : Sc) (ch : ChM) (ti kk : Nat) : Prop where
  ti2 : ti < 2
  fit : ChC s ch ti
  nm : ch.name = nTab ti
  kk10 : kk < 10
  key : (ch.kind = 1 ∧ keyOf [0] ch.row.row = ik (kk : Int)) ∨ (ch.kind = 2 ∧ ch.key.row = ik (kk : Int))
/-- The row that it lays. -/
def newR (ch : ChM) : List Row := if ch.kind = 1 then [ch.row.row] else []
/-- From rows to rows. -/
def stepR (ch : ChM) (ti kk : Nat) (a : Nat → List Row) : Nat → List Row := fun i => if i = ti then upR [0] kk (newR ch) (a ti) else a i
/-- The key to delete is not there. -/
def stopR (ch : ChM) (ti kk : Nat) (a : Nat → List Row) : Prop := ch.kind = 2 ∧ (upR [0] kk [] (a ti)).length = (a ti).length
/-- The k-th of m steps; behind them, if a change is left, its key is not there. -/
def StepK (ch : ChM) (R : Nat → Nat → List Row) (m k ti kk : Nat) : Prop := (k < m ∧ R (k + 1) = stepR ch ti kk (R k) ∧ ¬ stopR ch ti kk (R k)) ∨ (k = m ∧ stopR ch ti kk (R k))

theorem valChW (s : Sc) (ch : ChM) (i : Nat) (w : World) (hs : ScOk (· < w.heap.size) w s) (ho : ChOk (· < w.heap.size) w ch) (hc : ChC s ch i) (hl : s.tabs.length ≤ 1000) :
    Calls Tryz.prog 29 #[s.v, .agg ch.cells] w fun e w' => e = .returned (.int .i64 0) ∧ Below w.heap.size w w' := by
  rcases hc.fit with ⟨hk, -, -⟩ | ⟨hk, -, -⟩
  · exact rValidateCh1 s ch i w hs ho hc hk hl
  · exact rValidateCh2 s ch i w hs ho hc hk hl

theorem affEncW (s : Sc) (ch : ChM) (ti kk : Nat) (w : World) (hs : ScOk (· < w.heap.size) w s) (ho : ChOk (· < w.heap.size) w ch) (hc : StepF s ch ti kk) (hl : s.tabs.length ≤ 1000) (hpk : ∀ t ∈ s.tabs, t.pk = [0]) :
    Calls Tryz.prog 32 #[s.v, .agg ch.cells] w fun e w' => ∃ A c, e = .returned (.slice A 1 c) ∧ Below w.heap.size w w' ∧ Hid (Calls Tryz.prog 31 #[.slice A 1 c] w' fun e w'' => e = .returned (.string (encK kk)) ∧ Below w.heap.size w w'') := by
  rcases hc.key with ⟨hk, hkey⟩ | ⟨hk, hkey⟩
  · refine (rAffKey1 s ch ti w hs ho hc.fit hk hl).mono ?_
    rintro e w' ⟨v, rfl, hown, hb⟩
    rw [hpk _ (List.getElem_mem hc.fit.il), hkey] at hown
    obtain ⟨A, c, rfl, -, -⟩ := hown.form
    refine ⟨A, c, rfl, hb, Lib.hid ?_⟩
    have e2 : Elems 3 Val.cs w' (· < w'.heap.size) A (ik (kk : Int)) := (hown.elems valLay.len rfl).more fun g hg => (Own.lt hown g hg).2
    exact (rEncode1 A c kk hc.kk10 w' e2).mono fun e w'' h => ⟨h.1, hb.trans (h.2.mono hb.size)⟩
  · refine (rAffKey2 s ch ti w hs hc.fit hk hl).mono ?_
    rintro e w' ⟨rfl, hb⟩
    refine ⟨ch.key.A, ch.key.c, by rw [hkey]; rfl, hb, Lib.hid ?_⟩
    have e2 : Elems 3 Val.cs w' (· < w'.heap.size) ch.key.A (ik (kk : Int)) := by rw [← hkey]; exact (ho.key.on hb).el
    exact (rEncode1 ch.key.A ch.key.c kk hc.kk10 w' e2).mono fun e w'' h => ⟨h.1, hb.trans (h.2.mono hb.size)⟩

/-- The rows with another key. -/
def delK (kk : Nat) (ks : List Key) : List Key := ks.filter fun x => !decide (dgK [0] x.row = kk)
theorem delK_rows (kk : Nat) (ks : List Key) : (delK kk ks).map Key.row = (ks.map Key.row).filter (fun r => !decide (dgK [0] r = kk)) := by
  unfold delK
  rw [List.filter_map]
  rfl
theorem delRowsW (t : Tbl) (B1 B2 tb o kk n : Nat) (ks : List Key) (w11 w12 : World) (A2 : Option Addr) (c2 : Nat) (hown : Own 1 Key.cs 48 w11.heap.size w12 (.slice A2 n c2) ks) (hn : n = ks.length) (hb : Below w11.heap.size w11 w12) (hcl : ClS B1 B2 tb o t kk w11) (h1 : B1 < w11.heap.size) (h2 : B2 < w11.heap.size) (h3 : tb < w11.heap.size)
    (ht : TOk (· < w11.heap.size) w11 t) (hrows : ∀ k ∈ ks, KOk (· < w11.heap.size) w11 k) (hpk : t.pk = [0]) (hd : Dig [0] (ks.map Key.row)) (hkk : kk < 10) (hl : ks.length ≤ 1000) :
    Calls Tryz.prog 33 #[.slice A2 n c2, .func (.func 35) #[] #[.pointer (some ⟨B1, 0, none⟩), .pointer (some ⟨B2, 0, none⟩)]] w12 fun e w13 => ∃ A3 c3, e = .returned (.slice A3 (delK kk ks).length c3) ∧ Own 1 Key.cs 48 w11.heap.size w13 (.slice A3 (delK kk ks).length c3) (delK kk ks) ∧ Below w11.heap.size w11 w13 := by
  rcases Nat.eq_zero_or_pos n with h0 | h0
  · have hnil : ks = [] := List.eq_nil_of_length_eq_zero (by omega)
    subst hnil
    rw [h0] at hown ⊢
    refine (deleteFunc0 A2 c2 _ w12).mono ?_
    rintro e w13 ⟨rfl, rfl⟩
    exact ⟨A2, c2, rfl, hown, hb⟩
  · obtain ⟨g, c', cur, hv, hgb, hg, hcl', hcm, hs, htk⟩ := Own.open_ hown (by omega)
    injection hv with e1 e2 e3
    subst e1 e3
    have hgl : g < w12.heap.size := (Array.getElem?_eq_some_iff.1 hg).1
    have hkb : KD w12 g n c2 w12 (fun i => ks.getD i key0) := by
      refine ⟨⟨World.grownBy.refl w12 _, cur, hg, fun i hi => ?_⟩, cur, hg, by rw [hs, Nat.mul_one]⟩
      have h1 := flatMap_getElem? keyLay.len ks i (ks.getD i key0) (by rw [List.getD_eq_getElem?_getD, List.getElem?_eq_getElem (by omega)]; rfl) 0 (by omega)
      rw [← htk, Nat.mul_one, Nat.add_zero, List.getElem?_take, if_pos (by omega)] at h1
      rw [Array.getElem?_toList, Nat.mul_one] at h1
      exact h1
    have hkeep : ∀ W, w12.grownBy W (some g) → Below w11.heap.size w11 W := fun W hW => hb.trans (below_of_grown hW hb.size (fun g' hg' => by injection hg' with e; omega))
    have hT : TstC w12 g 35 #[.pointer (some ⟨B1, 0, none⟩), .pointer (some ⟨B2, 0, none⟩)] (fun x => decide (dgK [0] x.row = kk)) (· ∈ ks) := ⟨fun args W => by kernel_rfl, fun x W hW hx => by
      have hbW := hkeep W hW
      have hsz := hbW.size
      obtain ⟨hkey, hk10⟩ := hd _ (List.mem_map_of_mem hx)
      exact applyC1 B1 B2 tb o t kk (dgK [0] x.row) x W (by omega) (by omega) (by omega) (hcl.below h1 h2 h3 hbW) (ht.on hbW) ((hrows x hx).on hbW) (by rw [hpk]; exact hkey) hk10 hkk (by rw [hpk]; show 1 ≤ 12; omega)⟩
    have hR : (List.range n).map (fun i => ks.getD i key0) = ks := by rw [hn]; exact range_getD ks
    have hdf := deleteFuncK w12 g n c2 _ w12 hT (fun k hkn => by
      show ks.getD k key0 ∈ ks
      rw [List.getD_eq_getElem?_getD, List.getElem?_eq_getElem (by omega)]
      exact List.getElem_mem _) hkb (by omega) h0 (by omega) hcm
    rw [hR] at hdf
    refine hdf.mono ?_
    rintro e w13 ⟨rfl, ho, hgr⟩
    exact ⟨_, _, rfl, ho.mono hgb, hkeep w13 hgr⟩
end Go.Proofs.YtefifkleamiabaaGreatDoor
