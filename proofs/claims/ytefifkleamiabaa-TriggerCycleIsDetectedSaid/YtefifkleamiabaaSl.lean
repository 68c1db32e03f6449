/-
  Slices at the head of a block: copy, append in place, clear, append of zeros, at the level of the block's cells. No program in sight.
-/
import Derived.Test.YtefifkleamiabaaOwn
import Derived.Laws.IdiomCopy
import Derived.Lib.AppendZerosOnto
import Derived.Lib.Overlaps
import Derived.Deep.RegionLaw
namespace Go.Proofs.Ytefifkleamiabaa
open Go.RowKit

/-- The cells vs put over cur from place o on. -/
def putL (cur : Array Value) : Nat → List Value → Array Value
  | _, [] => cur
  | o, v :: r => putL (cur.setIfInBounds o v) (o + 1) r
theorem putL_size : ∀ (vs : List Value) (o : Nat) (cur : Array Value), (putL cur o vs).size = cur.size
  | [], _, _ => rfl
  | v :: r, o, cur => by unfold putL; rw [putL_size r]; simp
theorem putL_out : ∀ (vs : List Value) (o : Nat) (cur : Array Value) (k : Nat), k < o ∨ o + vs.length ≤ k → (putL cur o vs)[k]? = cur[k]?
  | [], _, _, _, _ => rfl
  | v :: r, o, cur, k, h => by
    unfold putL
    simp only [List.length_cons] at h
    rw [putL_out r (o + 1) _ k (by omega), Array.getElem?_setIfInBounds_ne (by omega)]
theorem putL_in : ∀ (vs : List Value) (o : Nat) (cur : Array Value) (j : Nat), o + vs.length ≤ cur.size → j < vs.length → (putL cur o vs)[o + j]? = vs[j]?
  | v :: r, o, cur, 0, h, _ => by
    unfold putL
    simp only [List.length_cons] at h
    rw [putL_out r (o + 1) _ _ (by omega), Nat.add_zero, Array.getElem?_setIfInBounds_self_of_lt (by omega)]
    rfl
  | v :: r, o, cur, j + 1, h, hj => by
    unfold putL
    simp only [List.length_cons] at h hj
    have := putL_in r (o + 1) (cur.setIfInBounds o v) j (by simp; omega) (by omega)
    rw [show o + (j + 1) = o + 1 + j by omega, this]
    rfl
theorem putL_list {vs : List Value} {o : Nat} {cur : Array Value} (h : o + vs.length ≤ cur.size) : (putL cur o vs).toList = cur.toList.take o ++ vs ++ cur.toList.drop (o + vs.length) := by
  apply List.ext_getElem?
  intro k
  rw [Array.getElem?_toList]
  by_cases h1 : k < o
  · rw [putL_out vs o cur k (.inl h1), List.append_assoc, List.getElem?_append_left (by simp; omega), List.getElem?_take, if_pos h1, Array.getElem?_toList]
  · by_cases h2 : k < o + vs.length
    · obtain ⟨j, rfl⟩ : ∃ j, k = o + j := ⟨k - o, by omega⟩
      rw [putL_in vs o cur j h (by omega), List.append_assoc, List.getElem?_append_right (by simp; omega), List.getElem?_append_left (by simp; omega)]
      congr 1
      simp
      omega
    · rw [putL_out vs o cur k (.inr (by omega)), List.getElem?_append_right (by simp; omega), List.getElem?_drop, Array.getElem?_toList]
      congr 1
      simp
      omega

theorem heap_setCells_ne {k g : Nat} (hk : k ≠ g) : ∀ (vs : List Value) (o : Nat) (w : World), (w.setCells g o vs).heap[k]? = w.heap[k]?
  | [], _, _ => rfl
  | v :: r, o, w => by
    rw [World.setCells, heap_setCells_ne hk r]
    exact Below.heap_setCell w ⟨g, o, none⟩ v k hk
theorem heap_setCells_eq {g : Nat} {e : TypeId} : ∀ (vs : List Value) (o : Nat) (w : World) (cur : Array Value), w.heap[g]? = some (.cells cur e (0, 0)) → (w.setCells g o vs).heap[g]? = some (.cells (putL cur o vs) e (0, 0))
  | [], _, _, _, h => h
  | v :: r, o, w, cur, h => by
    rw [World.setCells]
    exact heap_setCells_eq r (o + 1) _ _ (heap_setCell_same w g o cur e v h)
theorem setCells_size (g : Nat) : ∀ (vs : List Value) (o : Nat) (w : World), (w.setCells g o vs).heap.size = w.heap.size
  | [], _, _ => rfl
  | v :: r, o, w => by rw [World.setCells, setCells_size g r]; simp [World.setCell]
theorem setCells_rest (g : Nat) : ∀ (vs : List Value) (o : Nat) (w : World), (w.setCells g o vs).os = w.os ∧ (w.setCells g o vs).tape = w.tape ∧ (w.setCells g o vs).output = w.output
  | [], _, _ => ⟨rfl, rfl, rfl⟩
  | v :: r, o, w => by rw [World.setCells]; exact setCells_rest g r _ _
theorem grown_setCells {a w : World} {g : Nat} (h : a.grownBy w (some g)) (o : Nat) (vs : List Value) : a.grownBy (w.setCells g o vs) (some g) := by
  obtain ⟨h1, h2, h3⟩ := setCells_rest g vs o w
  exact ⟨h1.trans h.os, h2.trans h.tape, h3.trans h.output, by rw [setCells_size]; exact h.size, fun k hk hne => (heap_setCells_ne (fun e => hne (by rw [e])) vs o w).trans (h.block k hk hne)⟩
theorem grown_drew' {a w : World} {g : Option Nat} (h : a.grownBy w g) : a.grownBy w.drew g := ⟨h.os, h.tape, h.output, h.size, h.block⟩

section
variable {P : Program} {t e : TypeId} {sz bytes : Nat}

theorem blk_cells {w : World} {g : Nat} {cur : Array Value} (h : w.heap[g]? = some (.cells cur e (0, 0))) {o n : Nat} {vs : List Value} (hv : (cur.toList.drop o).take n = vs) (hl : vs.length = n) : ∀ j v, vs[j]? = some v → w.cell? ((⟨g, o, none⟩ : Addr).add j) = some v := by
  intro j v hj
  rw [Addr.add_lit, cell_of_row _ g _ _ _ (0, 0) h]
  subst hv
  have hjn := (List.getElem?_eq_some_iff.1 hj).1
  rw [List.getElem?_take, if_pos (by omega), List.getElem?_drop, Array.getElem?_toList] at hj
  exact hj
theorem blk_some {w : World} {g : Nat} {cur : Array Value} (h : w.heap[g]? = some (.cells cur e (0, 0))) {k : Nat} (hk : k < cur.size) : (w.cell? ⟨g, k, none⟩).isSome = true := by
  rw [cell_of_row _ g _ _ _ (0, 0) h, Array.getElem?_eq_getElem hk]
  rfl

theorem run_copy_blk (E : ElemT P t e sz bytes) (w : World) (sT ty : TypeId) {g o dLen dCap sLen sCap n : Nat} {a : Addr} {cur : Array Value} {cs : List Value}
    (hg : w.heap[g]? = some (.cells cur e (0, 0))) (hn : n = Nat.min sLen dLen) (hl : cs.length = n * sz) (hsrc : ∀ j v, cs[j]? = some v → w.cell? (a.add j) = some v) (hfit : o + cs.length ≤ cur.size) (h1 : ∀ v ∈ cs, v.oneCell' = true) :
    (Builtin.copy_ #[t, sT] ty #[.slice (some ⟨g, o, none⟩) dLen dCap, .slice (some a) sLen sCap]).run P w = .ok (goInt n) (w.setCells g o cs) := by
  obtain ⟨i, z, hi, hz, h2, h3, h4⟩ := E.info
  have hload := run_loadCells_list (P := P) w a cs hsrc
  rw [hl] at hload
  have hst := run_storeCells_cells (P := P) g o cs 0 w (fun j hj => blk_some hg (by omega)) (fun j hj => frozen_of_row w g _ cur e hg) h1
  simp [Builtin.copy_, run_underlying E.und, Builtin.lenOf, Builtin.firstCells, sizeOf, typeInfo, hi, h2, ← hn, hload, hst]

/-- 'append(s[:i], s[j:]...)' and its like: there is room; all is read before anything is written. -/
theorem run_append_blk (E : ElemT P t e sz bytes) (w : World) (ty : TypeId) {g i c m sCap : Nat} {a : Addr} {cur : Array Value} {cs : List Value}
    (hg : w.heap[g]? = some (.cells cur e (0, 0))) (hl : cs.length = m * sz) (hsrc : ∀ j v, cs[j]? = some v → w.cell? (a.add j) = some v) (hroom : i + m ≤ c) (hfit : i * sz + cs.length ≤ cur.size) (h1 : ∀ v ∈ cs, v.oneCell' = true) :
    (Builtin.append_ #[t, t] ty #[.slice (some ⟨g, 0, none⟩) i c, .slice (some a) m sCap]).run P w = .ok (.slice (some ⟨g, 0, none⟩) (i + m) c) (w.setCells g (i * sz) cs) := by
  obtain ⟨it, z, hi, hz, h2, h3, h4⟩ := E.info
  have hload := run_loadCells_list (P := P) w a cs hsrc
  rw [hl] at hload
  have hst := run_storeCells_cells (P := P) g (i * sz) cs 0 w (fun j hj => blk_some hg (by omega)) (fun j hj => frozen_of_row w g _ cur e hg) h1
  have hadd : (⟨g, 0, none⟩ : Addr).add (i * sz) = ⟨g, i * sz, none⟩ := by rw [Addr.add_lit, Nat.zero_add]
  simp [Builtin.append_, run_underlying E.und, Builtin.lenOf, Builtin.firstCells, sizeOf, typeInfo, hi, h2, hload, hroom, hadd, hst]

theorem zeroCells_one {z : Value} (hz : ∀ v ∈ z.cells, v.oneCell' = true) (n : Nat) : ∀ v ∈ (Builtin.zeroCells z.cells n).toList, v.oneCell' = true := by
  intro v hv
  unfold Builtin.zeroCells at hv
  rw [Array.toList_map, List.mem_map] at hv
  obtain ⟨k, hk, rfl⟩ := hv
  rw [Array.toList_range, List.mem_range] at hk
  have hs : 0 < z.cells.size := by
    rcases Nat.eq_zero_or_pos z.cells.size with h | h
    · rw [h] at hk; omega
    · exact h
  have hlt := Nat.mod_lt k hs
  rw [getElem!_pos z.cells _ hlt]
  exact hz _ (Array.getElem_mem hlt)

theorem run_clear_blk (E : ElemT P t e sz bytes) {z : Value} (hz0 : (P.info? e).bind (·.zero) = some z) (hz1 : ∀ v ∈ z.cells, v.oneCell' = true) (w : World) (ty : TypeId) {g o n c : Nat} {cur : Array Value}
    (hg : w.heap[g]? = some (.cells cur e (0, 0))) (hfit : o + n * sz ≤ cur.size) :
    ∃ vs : List Value, vs.length = n * sz ∧ (Builtin.clear_ #[t] ty #[.slice (some ⟨g, o, none⟩) n c]).run P w = .ok (.tuple #[]) (w.setCells g o vs) := by
  obtain ⟨it, z', hi, hz, h2, h3, h4⟩ := E.info
  have ez : z' = z := by
    rw [hi] at hz0
    simp [hz] at hz0
    exact hz0
  subst ez
  rcases Nat.eq_zero_or_pos n with rfl | hn
  · refine ⟨[], by simp, ?_⟩
    simp [Builtin.clear_, run_underlying E.und, World.setCells]
  · have hlen : (Builtin.zeroCells z'.cells n).toList.length = n * sz := by simp [Builtin.zeroCells, h4]
    have hst := run_storeCells_cells (P := P) g o (Builtin.zeroCells z'.cells n).toList 0 w (fun j hj => blk_some hg (by omega)) (fun j hj => frozen_of_row w g _ cur e hg) (zeroCells_one hz1 n)
    refine ⟨_, hlen, ?_⟩
    obtain ⟨k, rfl⟩ : ∃ k, n = k + 1 := ⟨n - 1, by omega⟩
    simp [Builtin.clear_, run_underlying E.und, zeroValue, typeInfo, hi, hz, hst]

/-- The operation 'copy(d, s)' where its run is known: at the head of a list of operations. -/
theorem wp_copy_r {o : Oper} {a : Act} {K : Act → World → Prop} {Q : Exit → Act → World → Prop} (d s : Operand) (t t' : TypeId)
    (ho : o.op = .call { callee := .builtin .copy, args := #[d, s], argTypes := #[t, t'] }) {w : World} {v u : Value} (hd : a.eval d = v) (hs : a.eval s = u) {v' : Value} {w' : World}
    (hr : (Builtin.copy_ #[t, t'] o.type #[v, u]).run P w = .ok v' w') (h : K (a.put o.dst v') w') : o.wp P a w K Q := by
  unfold Oper.wp execOp
  simp only [ho, resolve, invoke, builtin, Sem.run_bind, Sem.run_pure, Result.andThen_ok, List.map_toArray, List.map_cons, List.map_nil, hd, hs, hr]
  exact h
theorem wpList_copy_r {ops : Array Oper} {rest : List Oper} {o : Oper} {a : Act} {Q : Exit → Act → World → Prop} (hgd : o.guard = none) (d s : Operand) (t t' : TypeId)
    (ho : o.op = .call { callee := .builtin .copy, args := #[d, s], argTypes := #[t, t'] }) {w : World} {v u : Value} (hd : a.eval d = v) (hs : a.eval s = u) {v' : Value} {w' : World}
    (hr : (Builtin.copy_ #[t, t'] o.type #[v, u]).run P w = .ok v' w') (h : wpList P ops Q rest (a.put o.dst v') w') : wpList P ops Q (o :: rest) a w :=
  wpList_plain hgd fun _ hK => wp_copy_r d s t t' ho hd hs hr (hK _ _ h)
/-- .. as a step of a region that draws. -/
theorem step_copy_r {ops : Array Oper} {o : Oper} {a : Act} {w : World} {K : Act → World → Prop} {Q : Exit → Act → World → Prop} {E : Prop}
    (hg : o.guard = none) (d x : Operand) (dT sT : TypeId) (hop : o.op = Op.call { callee := Callee.builtin Builtin.copy, args := #[d, x], argTypes := #[dT, sT] })
    {v u : Value} (hd : a.eval d = v) (hx : a.eval x = u) {v' : Value} {w' : World} (hr : (Builtin.copy_ #[dT, sT] o.type #[v, u]).run P w = .ok v' w') (hK : K (a.put o.dst v') w') :
    if Region.wanted o (yielded ops a.tmps) = true then Oper.wp P o a w K Q else E := by
  have hw : Region.wanted o (yielded ops a.tmps) = true := by simp [Region.wanted, hg]
  rw [if_pos hw]
  exact wp_copy_r d x dT sT hop hd hx hr hK
/-- 'clear(s)' where its run is known. -/
theorem wpList_clear_r {ops : Array Oper} {rest : List Oper} {o : Oper} {a : Act} {Q : Exit → Act → World → Prop} (hgd : o.guard = none) (d : Operand) (t : TypeId)
    (ho : o.op = .call { callee := .builtin .clear, args := #[d], argTypes := #[t] }) {w : World} {v : Value} (hd : a.eval d = v) {v' : Value} {w' : World}
    (hr : (Builtin.clear_ #[t] o.type #[v]).run P w = .ok v' w') (h : wpList P ops Q rest (a.put o.dst v') w') : wpList P ops Q (o :: rest) a w :=
  wpList_plain hgd fun _ hK => by
    unfold Oper.wp execOp
    simp only [ho, resolve, invoke, builtin, Sem.run_bind, Sem.run_pure, Result.andThen_ok, List.map_toArray, List.map_cons, List.map_nil, hd, hr]
    exact hK _ _ h
end

section
variable {α : Type} {sz : Nat} {cs : α → List Value}
theorem flat_len (L : Lay sz cs) : ∀ xs : List α, (xs.flatMap cs).length = xs.length * sz
  | [] => by simp
  | x :: xs => by rw [List.flatMap_cons, List.length_append, flat_len L xs, L.len, List.length_cons, Nat.succ_mul]; omega
theorem flat_one (L : Lay sz cs) (xs : List α) : ∀ v ∈ xs.flatMap cs, v.oneCell' = true := fun v hv => by
  obtain ⟨x, _, hx⟩ := List.mem_flatMap.1 hv
  exact L.one x v hx
theorem flat_take (L : Lay sz cs) : ∀ (xs : List α) (n : Nat), (xs.flatMap cs).take (n * sz) = (xs.take n).flatMap cs
  | [], n => by simp
  | x :: xs, 0 => by simp
  | x :: xs, n + 1 => by
    rw [List.flatMap_cons, List.take_succ_cons, List.flatMap_cons, Nat.succ_mul, List.take_append, L.len, ← flat_take L xs n, List.take_of_length_le (by rw [L.len]; omega)]
    congr 2
    omega
theorem flat_drop (L : Lay sz cs) : ∀ (xs : List α) (n : Nat), (xs.flatMap cs).drop (n * sz) = (xs.drop n).flatMap cs
  | [], n => by simp
  | x :: xs, 0 => by simp
  | x :: xs, n + 1 => by
    rw [List.flatMap_cons, List.drop_succ_cons, Nat.succ_mul, List.drop_append, L.len, ← flat_drop L xs n, List.drop_of_length_le (by rw [L.len]; omega), List.nil_append]
    congr 1
    omega

/-- An own slice that holds something, or has a block. -/
theorem Own.open_ {e : TypeId} {base : Nat} {w : World} {v : Value} {xs : List α} (h : Own sz cs e base w v xs) (hp : 0 < xs.length) :
    ∃ g c cur, v = .slice (some ⟨g, 0, none⟩) xs.length c ∧ base ≤ g ∧ w.heap[g]? = some (.cells cur e (0, 0)) ∧ xs.length ≤ c ∧ c ≤ maxLen ∧ cur.size = c * sz ∧ cur.toList.take (xs.length * sz) = xs.flatMap cs := by
  rcases h.2 with ⟨_, h0⟩ | ⟨g, c, cur, h1, h2, h3, h4, h5, h6, h7⟩
  · omega
  · exact ⟨g, c, cur, h1, h2, h3, h4, h5, h6, h7⟩
theorem Own.shut {e : TypeId} {base : Nat} {w : World} {xs : List α} {g c n : Nat} {cur : Array Value} (L : Lay sz cs) (hb : base ≤ g) (hg : w.heap[g]? = some (.cells cur e (0, 0))) (hn : n = xs.length) (hc : n ≤ c) (hm : c ≤ maxLen) (hs : cur.size = c * sz) (ht : cur.toList.take (n * sz) = xs.flatMap cs) :
    Own sz cs e base w (.slice (some ⟨g, 0, none⟩) n c) xs := by
  subst hn
  exact ⟨flat_len L xs, .inr ⟨g, c, cur, rfl, hb, hg, hc, hm, hs, ht⟩⟩
end

end Go.Proofs.Ytefifkleamiabaa
