/-
  The walks of slices.Clone over runs and values, slices.Reverse over values, rle.Histogram.
-/
import Derived.Test.YtimndhnbbmedbaaStb
import Derived.Test.YtimndhnbbmedbaaRlew
import Derived.Lib.SliceRun
namespace Go.Proofs.Ytimndhnbbmedbaa
open Go.RowKit Go.Sort

set_option maxRecDepth 100000 in
set_option maxHeartbeats 400000 in
theorem clone_runs (A : Option Addr) (c : Nat) (xs : List Run) (w : World) (S : Nat → Prop) (hx : Elems 4 Run.cs w S A xs) (hS : ∀ k, S k → k < w.heap.size) (hs : xs.length ≤ 100000) :
    Calls Try.prog 25 #[.slice A xs.length c] w fun e w' => ∃ v, e = .returned v ∧ Own 4 Run.cs 45 w.heap.size w' v xs ∧ Below w.heap.size w w' := by
  have hnil := fun W => Lib.run_eql_slice_nil (P := Try.prog) W 27 45 A xs.length c 0 0 Try.underlying27
  cases A with
  | none =>
    have h0 : xs = [] := by
      rcases Nat.eq_zero_or_pos xs.length with h | h
      · exact List.eq_nil_of_length_eq_zero h
      · obtain ⟨_, _, h', _⟩ := hx h; cases h'
    subst h0
    simp only [Option.isNone_none, List.length_nil] at hnil
    go_enter Try.func25, Try.ntmps25
    go_wp2_with fail
    go_ret
    exact ⟨_, rfl, Own.nil _, Below.refl _ _⟩
  | some a =>
    simp only [Option.isNone_some] at hnil
    have HX := Lib.hid (hx.keep (w' := w.alloc (.cells #[] 45)) fun k hk => Below.heap_alloc _ _ _ (hS k hk))
    have hB : w.heap.size ≤ (w.alloc (.cells #[] 45)).heap.size := by simp
    have H1 : Hid ((([] : List Run).length + xs.length) * 40 ≤ 140737488355328) := Lib.hid (by simp; omega)
    have H2 : Hid (([] : List Run).length + xs.length ≤ maxLen) := Lib.hid (by unfold maxLen; simp; omega)
    clear hx hs
    go_enter Try.func25, Try.ntmps25
    go_wp2_with (at_builtin; refine wpList_app rfl (.tmp 5) (.tmp 6) _ _ rfl rfl rfl (run_pushs elem_run runLay _ (w.alloc (.cells #[] 45)) _ ([] : List Run) (Own.lit0 w) HX.out rfl H1.out H2.out hB) ?_; rintro v1 w1 ⟨ho1, hx1⟩)
    go_ret
    exact ⟨_, rfl, by simpa using ho1, ((Below.refl _ _).alloc (Nat.le_refl _) _).trans (hx1.below (base := w.heap.size) (by simp) (fun g hg => Nat.le_of_eq (Option.some.inj hg)))⟩

set_option maxRecDepth 100000 in
set_option maxHeartbeats 400000 in
theorem clone_vals (A : Option Addr) (c : Nat) (xs : List Val) (w : World) (S : Nat → Prop) (hx : Elems 3 Val.cs w S A xs) (hS : ∀ k, S k → k < w.heap.size) (hs : xs.length ≤ 100000) :
    Calls Try.prog 17 #[.slice A xs.length c] w fun e w' => ∃ v, e = .returned v ∧ Own 3 Val.cs 26 w.heap.size w' v xs ∧ Below w.heap.size w w' := by
  have hnil := fun W => Lib.run_eql_slice_nil (P := Try.prog) W 23 26 A xs.length c 0 0 Try.underlying23
  cases A with
  | none =>
    have h0 : xs = [] := by
      rcases Nat.eq_zero_or_pos xs.length with h | h
      · exact List.eq_nil_of_length_eq_zero h
      · obtain ⟨_, _, h', _⟩ := hx h; cases h'
    subst h0
    simp only [Option.isNone_none, List.length_nil] at hnil
    go_enter Try.func17, Try.ntmps17
    go_wp2_with fail
    go_ret
    exact ⟨_, rfl, Own.nil _, Below.refl _ _⟩
  | some a =>
    simp only [Option.isNone_some] at hnil
    have HX := Lib.hid (hx.keep (w' := w.alloc (.cells #[] 26)) fun k hk => Below.heap_alloc _ _ _ (hS k hk))
    have hB : w.heap.size ≤ (w.alloc (.cells #[] 26)).heap.size := by simp
    have H1 : Hid ((([] : List Val).length + xs.length) * 32 ≤ 140737488355328) := Lib.hid (by simp; omega)
    have H2 : Hid (([] : List Val).length + xs.length ≤ maxLen) := Lib.hid (by unfold maxLen; simp; omega)
    clear hx hs
    go_enter Try.func17, Try.ntmps17
    go_wp2_with (at_builtin; refine wpList_app rfl (.tmp 5) (.tmp 6) _ _ rfl rfl rfl (run_pushs elem_vals valLay _ (w.alloc (.cells #[] 26)) _ ([] : List Val) (Own.lit0 w) HX.out rfl H1.out H2.out hB) ?_; rintro v1 w1 ⟨ho1, hx1⟩)
    go_ret
    exact ⟨_, rfl, by simpa using ho1, ((Below.refl _ _).alloc (Nat.le_refl _) _).trans (hx1.below (base := w.heap.size) (by simp) (fun g hg => Nat.le_of_eq (Option.some.inj hg)))⟩

theorem Own.at_head {α : Type} {sz : Nat} {cs : α → List Value} {e : TypeId} {base : Nat} {w : World} {v : Value} {xs : List α} (L : Lay sz cs) (h : Own sz cs e base w v xs) (hp : 0 < xs.length) :
    ∃ g c arr, v = .slice (some ⟨g, 0, none⟩) xs.length c ∧ base ≤ g ∧ w.heap[g]? = some (.cells arr e (0, 0)) ∧ ∀ i x, xs[i]? = some x → ∀ j u, (cs x)[j]? = some u → arr[i * sz + j]? = some u := by
  rcases h.2 with ⟨_, h0⟩ | ⟨g, c, cur, hv, hb, hg, _⟩
  · omega
  · refine ⟨g, c, cur, hv, hb, hg, fun i x hx j u hu => ?_⟩
    obtain ⟨b, off, hA, _, hc⟩ := h.elems L.len hv hp
    injection hA with hA
    injection hA with h1 h2
    subst h1 h2
    have := hc i x hx j u hu
    rw [cell_of_row _ g _ _ _ (0, 0) hg] at this
    simpa using this

theorem Runs.sb {base : Nat} {w : World} {v : Value} {rs : List Run} (h : Runs base w v rs) (hp : 0 < rs.length) (d : Run) :
    ∃ g c, v = .slice (some ⟨g, 0, none⟩) rs.length c ∧ base ≤ g ∧ SB w g rs.length w (fun i => rs.getD i d) := by
  obtain ⟨g, c, arr, hv, hb, hg, hc⟩ := Own.at_head runLay h hp
  refine ⟨g, c, hv, hb, World.grownBy.refl _ _, arr, hg, fun i hi j u hu => hc i rs[i] (List.getElem?_eq_getElem hi) j u ?_⟩
  rwa [List.getD_eq_getElem?_getD, List.getElem?_eq_getElem hi] at hu
theorem SB.elems {w0 w : World} {g n : Nat} {f : Nat → Run} (h : SB w0 g n w f) : Elems 4 Run.cs w (fun k => k = g) (some ⟨g, 0, none⟩) (rows f n) := fun _ => by
  obtain ⟨arr, hb, hc⟩ := h.blk
  refine ⟨g, 0, rfl, rfl, fun i x hx j u hu => ?_⟩
  obtain ⟨hi, rfl⟩ := List.getElem?_eq_some_iff.1 hx
  rw [cell_of_row _ g _ _ _ (0, 0) hb, Nat.zero_add]
  rw [rows_get] at hu
  exact hc i (by rwa [rows_len] at hi) j u hu

/-- What Histogram leaves. -/
def HistPost (w : World) (rs : List Run) (e : Ending) (w' : World) : Prop :=
  ∃ v rs', e = .returned (.tuple #[v, .int .i64 0]) ∧ rs'.Perm rs ∧ (rs'.Pairwise fun x y => ¬ rlt y x) ∧ Runs w.heap.size w' v (encRuns (decRuns rs')) ∧ Below w.heap.size w w'

theorem enc_take {rs : List Run} {k : Nat} (hk : k < rs.length) (h : ∀ r ∈ rs, 1 ≤ r.n) : encRuns (decRuns (rs.take (k + 1))) = appRun (encRuns (decRuns (rs.take k))) rs[k] := by
  rw [← enc_runs fun r hr => h r (List.mem_of_mem_take hr), ← enc_runs fun r hr => h r (List.mem_of_mem_take hr), List.take_succ_eq_append_getElem hk, List.foldl_append]
  rfl
theorem decRuns_take_le (rs : List Run) (k : Nat) : (decRuns (rs.take k)).length ≤ (decRuns rs).length := by
  conv => rhs; rw [← List.take_append_drop k rs]
  rw [decRuns_append, List.length_append]
  omega
theorem run_le {rs : List Run} {r : Run} (h : r ∈ rs) : r.n ≤ (decRuns rs).length := by
  induction rs with
  | nil => cases h
  | cons x rs ih =>
    rw [decRuns_cons, List.length_append, List.length_replicate]
    rcases List.mem_cons.1 h with rfl | h
    · omega
    · have := ih h; omega

set_option maxRecDepth 100000 in
set_option maxHeartbeats 1000000 in
theorem histogram (A : Option Addr) (c : Nat) (rs : List Run) (w : World) (hx : Elems 4 Run.cs w (· < w.heap.size) A rs) (hc : Canon rs) (hp : 0 < rs.length) :
    Calls Try.prog 19 #[.slice A rs.length c] w (HistPost w rs) := by
  have HN := Lib.hid hc
  have hl : rs.length ≤ 400 := hc.len
  clear hc
  go_enter Try.func19, Try.ntmps19
  go_wp2_with fail
  refine (check A c rs w hx HN.out).mono ?_
  rintro e w1 ⟨rfl, hb1⟩
  have hx1 := (hx.keep (Keeps.of_below hb1 fun _ h => h)).more (S' := (· < w1.heap.size)) fun k hk => Nat.lt_of_lt_of_le hk hb1.size
  have HCL := Lib.hid (clone_runs A c rs w1 (· < w1.heap.size) hx1 (fun _ h => h) (by omega))
  clear hx hx1
  go_wp2_with fail
  refine HCL.out.mono ?_
  rintro e w2 ⟨v2, rfl, ho2, hb2⟩
  obtain ⟨g, c2, rfl, hg, hs⟩ := Runs.sb ho2 hp ⟨⟨0, 0, ByteArray.empty⟩, 0⟩
  have HST := Lib.hid (sortStable g rs.length c2 _ w2 hs (by omega))
  clear HCL ho2 hs
  go_wp2_with fail
  refine HST.out.mono ?_
  rintro e w3 ⟨rfl, f, hs3, hsw3, hsr3⟩
  have hpm : (rows f rs.length).Perm rs := by
    have := hsw3.perm (Nat.le_refl _)
    rwa [show (List.range rs.length).map (fun i => rs.getD i ⟨⟨0, 0, ByteArray.empty⟩, 0⟩) = rs from rows_of rs _] at this
  have HPM := Lib.hid hpm
  have HPW := Lib.hid (rows_sorted hsr3)
  have hel := hs3.elems
  have hgl := hs3.lt
  have hb3 : Below w.heap.size w w3 := (hb1.trans (hb2.mono hb1.size)).trans (below_of_grown hs3.only (by have := hb1.size; have := hb2.size; omega) (fun k hk => by injection hk with hk; have := hb1.size; omega))
  have HPOS : Hid (∀ r ∈ rows f rs.length, 1 ≤ r.n) := Lib.hid fun r hr => (HN.out.nice.1 r (hpm.subset hr)).2
  have htot : (decRuns (rows f rs.length)).length ≤ 100000 := by rw [(decRuns_perm hpm).length_eq]; exact HN.out.tot
  have hlen := rows_len f rs.length
  generalize rows f rs.length = qs at *
  have HEL := Lib.hid hel
  clear HST hs3 hsw3 hsr3 hpm hel hb1 hb2
  go_wp2_with fail
  go_loopw [6, 20] (fun r i wr => ∃ k : Nat, k ≤ rs.length ∧ i = .int .i64 k ∧ Runs w3.heap.size wr r (encRuns (decRuns (qs.take k))) ∧ Below w3.heap.size w3 wr) (fun _ i _ => rs.length - (intOf i).toNat)
  case atStart => exact ⟨0, by omega, rfl, Own.nil _, Below.refl _ _⟩
  case round =>
    obtain ⟨k, hk, rfl, ho, hb⟩ := hrel
    by_cases hlt : k < rs.length
    · have hlq : k < qs.length := by omega
      obtain ⟨b, off, he, hbs, c0, c1, c2, c3⟩ := (HEL.out.keep (Keeps.of_below hb fun k hk => by rw [hk]; exact hgl)).run (k := k) hlq
      injection he with he
      injection he with e1 e2
      subst e1 e2
      have HT := Lib.hid (enc_take hlq HPOS.out)
      have hn1 := HPOS.out _ (List.getElem_mem hlq)
      have hn2 := run_le (List.getElem_mem hlq)
      have HTB := Lib.hid (encRuns_n (decRuns (qs.take k)))
      have htl := decRuns_take_le qs k
      have hel2 := len_enc (decRuns (qs.take k))
      have hnl : (encRuns (decRuns (qs.take k))).length ≤ 100000 := by omega
      have htl2 : (decRuns (qs.take k)).length ≤ 100000 := by omega
      have HO := Lib.hid ho
      generalize (decRuns (qs.take k)).length = tl at *
      generalize encRuns (decRuns (qs.take k)) = d at *
      generalize qs[k] = x at *
      clear htl hel2 ho
      simp only [Nat.zero_add] at c0 c1 c2 c3
      go_wp2_with fail
      refine (appendRun w3.heap.size _ d x.v x.n _ (HO.out.alloc _) (by have := hb.size; simp; omega) hn1 (by omega) (fun r hr => by have := HTB.out r hr; omega) (by omega)).mono ?_
      rintro e w4 ⟨v', rfl, ho4, hx4⟩
      have hb4 : Below w3.heap.size w3 w4 := hb.trans (((Below.refl _ _).alloc hb.size _).trans (hx4.below (by have := hb.size; simp; omega) (fun g hg => (HO.out.lt g hg).1)))
      go_wp2_with fail
      go_roundw
      case rel => exact ⟨k + 1, by omega, by go_num, by rw [HT.out]; exact ho4, hb4⟩
      case measure => simp [intOf]; omega
    · have hkl : k = qs.length := by omega
      subst hkl
      rw [List.take_of_length_le (Nat.le_refl _)] at ho
      have HO := Lib.hid ho
      clear ho
      go_wp2_with fail
      go_ret2
      exact ⟨_, qs, rfl, HPM.out, HPW.out, HO.out.mono hb3.size, hb3.trans (hb.mono hb3.size)⟩

/-- A block of values, as SB. -/
structure VB (w0 : World) (g n : Nat) (w : World) (f : Nat → Val) : Prop where
  only : w0.grownBy w (some g)
  blk : ∃ arr, w.heap[g]? = some (.cells arr 26 (0, 0)) ∧ ∀ i, i < n → ∀ j u, (f i).cs[j]? = some u → arr[i * 3 + j]? = some u

theorem VB.cells {w0 w : World} {g n : Nat} {f : Nat → Val} (h : VB w0 g n w f) {i : Nat} (hi : i < n) :
    w.cell? ⟨g, i * 3, none⟩ = some (.int .i64 (f i).kind) ∧ w.cell? ⟨g, i * 3 + 1, none⟩ = some (.int .i64 (f i).int) ∧ w.cell? ⟨g, i * 3 + 2, none⟩ = some (.string (f i).text) := by
  obtain ⟨arr, hb, hc⟩ := h.blk
  refine ⟨?_, ?_, ?_⟩
  · rw [cell_of_row _ g _ _ _ (0, 0) hb]; exact hc i hi 0 _ rfl
  · rw [cell_of_row _ g _ _ _ (0, 0) hb]; exact hc i hi 1 _ rfl
  · rw [cell_of_row _ g _ _ _ (0, 0) hb]; exact hc i hi 2 _ rfl
theorem VB.frozen {w0 w : World} {g n : Nat} {f : Nat → Val} (h : VB w0 g n w f) (i : Nat) : w.frozen? ⟨g, i, none⟩ = false := by
  obtain ⟨arr, hb, hc⟩ := h.blk
  exact frozen_of_row w g i arr _ hb

def putV (arr : Array Value) (k : Nat) (r : Val) : Array Value := ((arr.setIfInBounds (k * 3) (.int .i64 r.kind)).setIfInBounds (k * 3 + 1) (.int .i64 r.int)).setIfInBounds (k * 3 + 2) (.string r.text)
def put3 (w : World) (g k : Nat) (r : Val) : World := ((w.setCell ⟨g, k * 3, none⟩ (.int .i64 r.kind)).setCell ⟨g, k * 3 + 1, none⟩ (.int .i64 r.int)).setCell ⟨g, k * 3 + 2, none⟩ (.string r.text)
theorem putV_at {arr : Array Value} {n k : Nat} {f : Nat → Val} {r : Val} (h : ∀ i, i < n → ∀ j u, (f i).cs[j]? = some u → arr[i * 3 + j]? = some u) (hk : k < n) :
    ∀ i, i < n → ∀ j u, (if i = k then r else f i).cs[j]? = some u → (putV arr k r)[i * 3 + j]? = some u := by
  intro i hi j u hu
  have hsz : k * 3 + 2 < arr.size := (Array.getElem?_eq_some_iff.1 (h k hk 2 _ rfl)).1
  have hj : j < 3 := by
    have := (List.getElem?_eq_some_iff.1 hu).1
    rwa [valLay.len] at this
  unfold putV
  by_cases hik : i = k
  · subst hik
    rw [if_pos rfl] at hu
    have : j = 0 ∨ j = 1 ∨ j = 2 := by omega
    rcases this with rfl | rfl | rfl
    · simp [Val.cs] at hu
      subst hu
      simp [Array.getElem?_setIfInBounds]
      omega
    · simp [Val.cs] at hu
      subst hu
      simp [Array.getElem?_setIfInBounds]
      omega
    · simp [Val.cs] at hu
      subst hu
      simp [Array.getElem?_setIfInBounds]
      omega
  · rw [if_neg hik] at hu
    have := h i hi j u hu
    rw [Array.getElem?_setIfInBounds_ne (by omega), Array.getElem?_setIfInBounds_ne (by omega), Array.getElem?_setIfInBounds_ne (by omega)]
    exact this
theorem put3_blk {w : World} {g k : Nat} {r : Val} {arr : Array Value} {t : TypeId} (h : w.heap[g]? = some (.cells arr t (0, 0))) : (put3 w g k r).heap[g]? = some (.cells (putV arr k r) t (0, 0)) :=
  heap_setCell_same _ g _ _ t _ (heap_setCell_same _ g _ _ t _ (heap_setCell_same _ g _ _ t _ h))
theorem put3_grown {a w : World} {g : Nat} (h : a.grownBy w (some g)) (k : Nat) (r : Val) : a.grownBy (put3 w g k r) (some g) := grown_setCell (grown_setCell (grown_setCell h _ _) _ _) _ _
theorem VB.drew {w0 w : World} {g n : Nat} {f : Nat → Val} (h : VB w0 g n w f) : VB w0 g n w.drew f := ⟨grown_drew h.only, h.blk⟩
theorem VB.put {w0 w : World} {g n i : Nat} {f : Nat → Val} (h : VB w0 g n w f) (hi : i < n) (r : Val) : VB w0 g n (put3 w g i r) (fun x => if x = i then r else f x) := by
  obtain ⟨arr, hb, hc⟩ := h.blk
  exact ⟨put3_grown h.only _ _, putV arr i r, put3_blk hb, putV_at hc hi⟩
theorem VB.swap {w0 w : World} {g n i j : Nat} {f : Nat → Val} {ri rj : Val} (h : VB w0 g n w f) (hi : i < n) (hj : j < n) (ei : f i = ri) (ej : f j = rj) : VB w0 g n (put3 (put3 w g i rj) g j ri).drew (swp f i j) := by
  subst ei ej
  have h2 := ((h.put hi (f j)).put hj (f i)).drew
  have e : (fun x => if x = j then f i else if x = i then f j else f x) = swp f i j := by
    funext x
    unfold swp
    (repeat' split) <;> first | rfl | (subst_vars; rfl)
  rw [e] at h2
  exact h2

/-- The first n places as a list. -/
def vrows (f : Nat → Val) (n : Nat) : List Val := (List.range n).map f
theorem vrows_of (xs : List Val) (d : Val) : vrows (fun i => xs.getD i d) xs.length = xs := by
  apply List.ext_getElem
  · simp [vrows]
  · intro i h1 h2
    simp only [vrows, List.getElem_map, List.getElem_range, List.getD_eq_getElem?_getD, List.getElem?_eq_getElem h2]
    rfl
theorem VB.elems {w0 w : World} {g n : Nat} {f : Nat → Val} (h : VB w0 g n w f) : Elems 3 Val.cs w (fun k => k = g) (some ⟨g, 0, none⟩) (vrows f n) := fun _ => by
  obtain ⟨arr, hb, hc⟩ := h.blk
  refine ⟨g, 0, rfl, rfl, fun i x hx j u hu => ?_⟩
  obtain ⟨hi, rfl⟩ := List.getElem?_eq_some_iff.1 hx
  rw [cell_of_row _ g _ _ _ (0, 0) hb, Nat.zero_add]
  have hi' : i < n := by simpa [vrows] using hi
  have e : (vrows f n)[i] = f i := by simp [vrows]
  rw [e] at hu
  exact hc i hi' j u hu
theorem vals_vb {base : Nat} {w : World} {v : Value} {xs : List Val} (h : Own 3 Val.cs 26 base w v xs) (hp : 0 < xs.length) (d : Val) :
    ∃ g c, v = .slice (some ⟨g, 0, none⟩) xs.length c ∧ base ≤ g ∧ g < w.heap.size ∧ VB w g xs.length w (fun i => xs.getD i d) := by
  obtain ⟨g, c, arr, hv, hb, hg, hc⟩ := Own.at_head valLay h hp
  refine ⟨g, c, hv, hb, (Array.getElem?_eq_some_iff.1 hg).1, World.grownBy.refl _ _, arr, hg, fun i hi j u hu => hc i xs[i] (List.getElem?_eq_getElem hi) j u ?_⟩
  rwa [List.getD_eq_getElem?_getD, List.getElem?_eq_getElem hi] at hu

set_option maxRecDepth 100000 in
set_option maxHeartbeats 4000000 in
theorem reverse (g n c : Nat) (f : Nat → Val) (w : World) (h : VB w g n w f) (hn : n ≤ 1000) :
    Calls Try.prog 18 #[.slice (some ⟨g, 0, none⟩) n c] w fun e w' => e = .returned (.tuple #[]) ∧ ∃ f', VB w g n w' f' ∧ Sw 0 n f f' := by
  have H0 := Lib.hid h
  clear h
  go_enter Try.func18, Try.ntmps18
  go_wp2_with fail
  go_loopw [2, 3] (fun vi vj wr => ∃ (i : Nat) (j : Int) (h : Nat → Val), vi = .int .i64 i ∧ vj = .int .i64 j ∧ j < (n : Int) ∧ -1 ≤ j ∧ i ≤ n ∧ VB w g n wr h ∧ Sw 0 n f h) (fun vi _ _ => n - (intOf vi).toNat)
  case atStart => exact ⟨0, (n : Int) - 1, f, rfl, rfl, by omega, by omega, Nat.zero_le _, H0.out, .refl⟩
  case round =>
    obtain ⟨i, j, h, rfl, rfl, hj, hj0, hin, hs, hsw⟩ := hrel
    clear H0
    by_cases hlt : (i : Int) < j
    · obtain ⟨k, rfl⟩ : ∃ k : Nat, j = (k : Int) := ⟨j.toNat, by omega⟩
      have hik : i < k ∧ k < n := by omega
      obtain ⟨c0, c1, c2⟩ := hs.cells (i := i) (by omega)
      obtain ⟨d0, d1, d2⟩ := hs.cells (i := k) (by omega)
      have fz := fun i => hs.frozen i
      have p1 : (i : Int) < (n : Int) := by omega
      have HS := Lib.hid (hs.swap (i := i) (j := k) (by omega) (by omega) rfl rfl)
      have HSW := Lib.hid (hsw.step (i := i) (j := k) ⟨Nat.zero_le _, by omega⟩ ⟨Nat.zero_le _, by omega⟩)
      clear hs hsw
      generalize h i = ra at *
      generalize h k = rb at *
      go_wp2_with fail
      go_region
      go_wp2_with fail
      go_roundw
      case rel => exact ⟨i + 1, (k : Int) - 1, _, by go_num, rfl, by omega, by omega, by omega, HS.out, HSW.out⟩
      case measure => simp [intOf]; omega
    · go_wp2_with fail
      go_end0
      exact ⟨rfl, h, hs, hsw⟩

end Go.Proofs.Ytimndhnbbmedbaa
