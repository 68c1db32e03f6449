/-
  slices.Reverse at any slice of the call's own; one integer appended to a slice that begins behind its block's head.
-/
import Derived.Test.YtlgjkhdpinnccaaOk
import Derived.Deep.AppendSrc
namespace Go.Proofs.Ytlgjkhdpinnccaa
open Go.RowKit Go.Sort

set_option maxRecDepth 100000 in
set_option maxHeartbeats 1000000 in
theorem reverseNil (w : World) : Calls Try.prog 16 #[.slice none 0 0] w fun e w' => e = .returned (.tuple #[]) ∧ Below w.heap.size w w' := by
  go_enter Try.func16, Try.ntmps16
  go_wp2_with fail
  go_loopw [2, 3] (fun vi vj wr => vi = .int .i64 0 ∧ vj = .int .i64 (-1) ∧ Below w.heap.size w wr) (fun _ _ _ => 0)
  case atStart => exact ⟨rfl, rfl, Below.refl _ _⟩
  case round =>
    obtain ⟨rfl, rfl, hb⟩ := hrel
    go_wp2_with fail
    go_end0
    exact ⟨rfl, hb⟩
theorem reverseAny {n c base : Nat} {A : Option Addr} {xs : List Int} {w : World} (ho : Own 1 intCs 3 base w (.slice A n c) xs) (hn : n = xs.length) (hl : n ≤ 100000) (hB : base ≤ w.heap.size) :
    Calls Try.prog 16 #[.slice A n c] w fun e w' => e = .returned (.tuple #[]) ∧ Own 1 intCs 3 base w' (.slice A n c) xs.reverse ∧ Below base w w' := by
  have ho0 := ho
  rcases ho.2 with ⟨hv, h0⟩ | ⟨g, cap, cur, hv, -⟩
  · have h0 : xs = [] := List.eq_nil_of_length_eq_zero h0
    subst h0
    injection hv with h1 h2 h3
    subst h1 h2 h3
    refine (reverseNil w).mono ?_
    rintro e w' ⟨rfl, hb⟩
    exact ⟨rfl, ho0.below hb, hb.mono hB⟩
  · injection hv with h1 h2 h3
    subst h1
    exact reverseW g n c base xs w ho0 hn hl

/-- A tree stays where its own blocks stay. -/
theorem TreeAt.frame {base m o : Nat} {w w' : World} {tb : Nat} {ps : List PE} (h : TreeAt base m o w tb ps) (hs : w.heap.size ≤ w'.heap.size) (hk : ∀ k, base ≤ k → k < w.heap.size → w'.heap[k]? = w.heap[k]?) : TreeAt base m o w' tb ps := by
  obtain ⟨M, O, d, a, t, fp, h1, h2⟩ := h
  have hkk : ∀ k, O k ≠ .free → (O k).mine ∨ O k = .top ∨ O k = .row → w'.heap[k]? = w.heap[k]? := fun k hf hm => by
    refine hk k (Nat.le_of_not_lt fun hl => ?_) (h1.store.lt' hf)
    obtain ⟨p1, p2, p3⟩ := h1.low k hl
    rcases hm with h | h | h
    · exact p1 h
    · exact p2 h
    · exact p3 h
  refine ⟨M, O, d, a, t, fp, ⟨⟨fun a n ha => ?_, fun k hk' => h1.store.free k (Nat.le_trans hs hk')⟩, h1.top, h1.low, (hkk tb (by rw [h1.top]; simp) (.inr (.inl h1.top))).trans h1.blk, h1.rep, h1.nd, h1.ok, h1.root, h1.full, h1.len⟩, h2⟩
  obtain ⟨V, hV⟩ := h1.store.at_ a n ha
  refine ⟨V, hV.keep fun k hk' => ⟨?_, rfl⟩⟩
  rcases hk' with rfl | ⟨i, hi⟩ | hi
  · exact hkk k (by rw [hV.own]; simp) (.inl (by rw [hV.own]; trivial))
  · exact hkk k (by rw [hi]; simp) (.inl (by rw [hi]; trivial))
  · exact hkk k (by rw [hi]; simp) (.inr (.inr hi))
/-- The cells of an own slice of integers. -/
theorem Own.ints {base : Nat} {w : World} {e : TypeId} {A : Option Addr} {n c : Nat} {xs : List Int} (h : Own 1 intCs e base w (.slice A n c) xs) (hp : 0 < xs.length) :
    ∃ (g : Nat) (cur : Array Value), A = some ⟨g, 0, none⟩ ∧ n = xs.length ∧ base ≤ g ∧ w.heap[g]? = some (.cells cur e (0, 0)) ∧ xs.length ≤ c ∧ c ≤ maxLen ∧ cur.size = c ∧ ∀ (i : Nat) (x : Int), xs[i]? = some x → cur[i]? = some (.int .i64 x) := by
  obtain ⟨g, c', cur, hv, hb, hg, hcl, hcm, hs, ht⟩ := h.open_ hp
  injection hv with h1 h2 h3
  subst h1 h2 h3
  refine ⟨g, cur, rfl, rfl, hb, hg, hcl, hcm, by omega, fun i x hx => ?_⟩
  have hi := (List.getElem?_eq_some_iff.1 hx).1
  have e1 := flatMap_getElem? (cs := intCs) (sz := 1) (fun _ => rfl) xs i x hx 0 (by omega)
  rw [← ht] at e1
  rw [List.getElem?_take, if_pos (by omega)] at e1
  simp only [Nat.mul_one, Nat.add_zero] at e1
  rw [← Array.getElem?_toList, e1]
  rfl

/-- 'append(s, y)', s behind its block's head. -/
theorem run_push_tail {P : Program} {t e : TypeId} (E : ElemT P t e 1 8) (ty : TypeId) (W : World) {base b off n c g : Nat} {cur : Array Value} {xs : List Int} {y : Int}
    (hb : W.heap[b]? = some (.cells cur e (0, 0))) (hbase : base ≤ b) (hB : base ≤ W.heap.size) (hn : n = xs.length) (hle : n ≤ c) (hsz : off + c ≤ cur.size) (hx : ∀ (i : Nat) (x : Int), xs[i]? = some x → cur[off + i]? = some (.int .i64 x))
    (hg : W.heap[g]? = some (.cells #[.int .i64 y] e (0, 0))) (hcm : c ≤ maxLen) (hlen : (n + 1) * 8 ≤ 140737488355328) :
    ∃ v' w', (Builtin.append_ #[t, t] ty #[.slice (some ⟨b, off, none⟩) n c, .slice (some ⟨g, 0, none⟩) 1 1]).run P W = .ok v' w' ∧ (∃ A' c', v' = .slice A' (n + 1) c' ∧ n + 1 ≤ c' ∧ c' ≤ maxLen ∧ Elems 1 intCs w' (· < w'.heap.size) A' (xs ++ [y])) ∧ Below base W w' ∧ ∀ k, k < W.heap.size → k ≠ b → w'.heap[k]? = W.heap[k]? := by
  obtain ⟨i, z, hi, hz, h2, h3, h4⟩ := E.info
  have hbl : b < W.heap.size := by
    rcases Nat.lt_or_ge b W.heap.size with h | h
    · exact h
    · rw [Array.getElem?_eq_none h] at hb; cases hb
  have hS : Src P i.size t (.slice (some ⟨g, 0, none⟩) 1 1) 1 [.int .i64 y] W := Src.ofSlice W E.und ⟨g, 0, none⟩ 1 1 [.int .i64 y] (by rw [h2]; rfl)
    (fun j u hj => by rw [Addr.add_lit, cell_of_row _ g _ _ e (0, 0) hg]; simpa using hj) (by intro u hu; simp at hu; subst hu; rfl)
  by_cases hroom : n + 1 ≤ c
  · have hrun := run_append_room_src W t t ty e i E.und hi b off n c _ 1 _ hS hroom
      (fun j hj => by
        simp at hj
        subst hj
        rw [cell_of_row _ b _ _ e (0, 0) hb, h2, Array.getElem?_eq_getElem (by omega)]
        rfl)
      (fun j hj => frozen_of_row W b _ _ e hb)
    refine ⟨_, _, hrun, ⟨_, c, rfl, hroom, hcm, ?_⟩, ?_⟩
    · rw [h2, Nat.mul_one]
      intro _
      refine ⟨b, off, rfl, ?_, fun k x hk j u hu => ?_⟩
      · show b < (W.setCells b (off + n) [.int .i64 y]).heap.size
        simpa [World.setCells, World.setCell] using hbl
      · have hj : j = 0 := by
          have := (List.getElem?_eq_some_iff.1 hu).1
          simp [intCs] at this
          exact this
        subst hj
        simp [intCs] at hu
        subst hu
        rw [Nat.mul_one, Nat.add_zero]
        show (W.setCell ⟨b, off + n, none⟩ (.int .i64 y)).cell? ⟨b, off + k, none⟩ = _
        rw [cell_of_row _ b _ _ e (0, 0) (heap_setCell_at hb _), Array.getElem?_setIfInBounds]
        rcases Nat.lt_or_ge k xs.length with hk2 | hk2
        · rw [List.getElem?_append_left hk2] at hk
          rw [if_neg (by omega)]
          exact hx k x hk
        · have hkn : k = xs.length := by
            have := (List.getElem?_eq_some_iff.1 hk).1
            simp at this
            omega
          subst hkn
          rw [List.getElem?_append_right (Nat.le_refl _), Nat.sub_self] at hk
          simp at hk
          subst hk
          rw [if_pos (by omega), if_pos (by omega)]
    · rw [h2, Nat.mul_one]
      exact ⟨(Below.refl _ _).setCell (p := ⟨b, off + n, none⟩) hbase _, fun k _ hkb => Below.heap_setCell W ⟨b, off + n, none⟩ _ k hkb⟩
  · have hrun := run_append_grow_src W t t ty e i z E.und hi hz (some ⟨b, off, none⟩) n c (xs.map (Value.int .i64))
      (by
        rw [h2]
        exact run_firstCells_some W.drew 1 n ⟨b, off, none⟩ n c _ (by rw [List.length_map, Nat.mul_one, hn]) fun j v hj => by
          rw [List.getElem?_map] at hj
          rcases hq : xs[j]? with _ | x
          · rw [hq] at hj; cases hj
          · rw [hq] at hj
            simp at hj
            subst hj
            rw [Addr.add_lit]
            show W.cell? _ = _
            rw [cell_of_row _ b _ _ e (0, 0) hb]
            exact hx j x hq)
      _ 1 _ hS (by omega) (by omega) (growslice_fits (by omega) (by rw [h3]; exact hlen))
    refine ⟨_, _, hrun, ⟨_, _, rfl, grownCap_ge _ _ _ _, grownCap_le_maxLen _ _ _ _ (by unfold maxLen; omega), ?_⟩, ((Below.refl base W).drew.trans (Below.refl _ _)).alloc hB _, fun k hk _ => Below.heap_alloc W.drew _ k hk⟩
    intro _
    refine ⟨W.heap.size, 0, rfl, by simp, fun k x hk j u hu => ?_⟩
    have hj : j = 0 := by
      have := (List.getElem?_eq_some_iff.1 hu).1
      simp [intCs] at this
      exact this
    subst hj
    simp [intCs] at hu
    subst hu
    have hnew := heap_alloc_new W.drew (.cells ((xs.map (Value.int .i64) ++ [Value.int .i64 y]).toArray ++ Builtin.zeroCells z.cells (grownCap W (n + 1) c e - (n + 1))) e)
    rw [show W.drew.heap.size = W.heap.size from rfl] at hnew
    rw [cell_of_row _ W.heap.size _ _ e (0, 0) hnew]
    have hk1 := (List.getElem?_eq_some_iff.1 hk).1
    have hmap : (xs.map (Value.int .i64) ++ [Value.int .i64 y])[k]? = some (.int .i64 x) := by
      rw [show xs.map (Value.int .i64) ++ [Value.int .i64 y] = (xs ++ [y]).map (Value.int .i64) from by simp, List.getElem?_map, hk]
      rfl
    rw [Array.getElem?_append_left (by simp at hk1 ⊢; omega)]
    simpa using hmap
end Go.Proofs.Ytlgjkhdpinnccaa
