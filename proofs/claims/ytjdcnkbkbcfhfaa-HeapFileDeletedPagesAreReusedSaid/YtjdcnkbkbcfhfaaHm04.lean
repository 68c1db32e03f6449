/-
  Slices at the head of a block: copy, append in place, clear, append of zeros, at the level of the block's cells. No program in sight.
  Slices of the call's own: one element laid between others, one taken out: the plain part. No program in sight.
  Column values and rows as plain data; what value.Validate and encoding.CheckRow answer. No program in sight.
  The order of values and of rows. No program in sight.
  The walks of the comparison of values and rows.
  Keys and entries in memory; the binary search, plain. No program's walk.
-/
import Derived.Test.YtjdcnkbkbcfhfaaHm01
import Derived.Laws.IdiomCopy
import Derived.Lib.AppendZerosOnto
import Derived.Lib.Overlaps
import Derived.Deep.RegionLaw
import Derived.Lib.Bytealg
import Derived.Test.YtjdcnkbkbcfhfaaRows
import Derived.Lib.Walk
import Derived.Deep.Cut
import Derived.Deep.CutRange
import Derived.Shelf.SlSortCmp.QuietGrown
namespace Go.Proofs.Ytjdcnkbkbcfhfaa
open Go.RowKit

/-- The cells vs put over cur from place o on. -/
def putL (cur : Array Value) : Nat → List Value → Array Value
  | _, [] => cur
  | o, v :: r => putL (cur.setIfInBounds o v) (o + 1) r
theorem putL_size : ∀ (vs : List Value) (o : Nat) (cur : Array Value), (putL cur o vs).size = cur.size
  | [], _, _ => rfl
  | v :: r, o, cur => by unfold putL; rw [putL_size r]; simp
theorem putL_out : ∀ (vs : List Value) (o : Nat) (cur : Array Value) (k : Nat), k < o ∨ o + vs.length ≤ k → (putL cur o vs)[k]? = cur[k]?
  | [], _, _, _, _ => rfl
  | v :: r, o, cur, k, h => by
    unfold putL
    simp only [List.length_cons] at h
    rw [putL_out r (o + 1) _ k (by omega), Array.getElem?_setIfInBounds_ne (by omega)]
theorem putL_in : ∀ (vs : List Value) (o : Nat) (cur : Array Value) (j : Nat), o + vs.length ≤ cur.size → j < vs.length → (putL cur o vs)[o + j]? = vs[j]?
  | v :: r, o, cur, 0, h, _ => by
    unfold putL
    simp only [List.length_cons] at h
    rw [putL_out r (o + 1) _ _ (by omega), Nat.add_zero, Array.getElem?_setIfInBounds_self_of_lt (by omega)]
    rfl
  | v :: r, o, cur, j + 1, h, hj => by
    unfold putL
    simp only [List.length_cons] at h hj
    have := putL_in r (o + 1) (cur.setIfInBounds o v) j (by simp; omega) (by omega)
    rw [show o + (j + 1) = o + 1 + j by omega, this]
    rfl
theorem putL_list {vs : List Value} {o : Nat} {cur : Array Value} (h : o + vs.length ≤ cur.size) : (putL cur o vs).toList = cur.toList.take o ++ vs ++ cur.toList.drop (o + vs.length) := by
  apply List.ext_getElem?
  intro k
  rw [Array.getElem?_toList]
  by_cases h1 : k < o
  · rw [putL_out vs o cur k (.inl h1), List.append_assoc, List.getElem?_append_left (by simp; omega), List.getElem?_take, if_pos h1, Array.getElem?_toList]
  · by_cases h2 : k < o + vs.length
    · obtain ⟨j, rfl⟩ : ∃ j, k = o + j := ⟨k - o, by omega⟩
      rw [putL_in vs o cur j h (by omega), List.append_assoc, List.getElem?_append_right (by simp; omega), List.getElem?_append_left (by simp; omega)]
      congr 1
      simp
      omega
    · rw [putL_out vs o cur k (.inr (by omega)), List.getElem?_append_right (by simp; omega), List.getElem?_drop, Array.getElem?_toList]
      congr 1
      simp
      omega

theorem heap_setCells_ne {k g : Nat} (hk : k ≠ g) : ∀ (vs : List Value) (o : Nat) (w : World), (w.setCells g o vs).heap[k]? = w.heap[k]?
  | [], _, _ => rfl
  | v :: r, o, w => by
    rw [World.setCells, heap_setCells_ne hk r]
    exact Below.heap_setCell w ⟨g, o, none⟩ v k hk
theorem heap_setCells_eq {g : Nat} {e : TypeId} : ∀ (vs : List Value) (o : Nat) (w : World) (cur : Array Value), w.heap[g]? = some (.cells cur e (0, 0)) → (w.setCells g o vs).heap[g]? = some (.cells (putL cur o vs) e (0, 0))
  | [], _, _, _, h => h
  | v :: r, o, w, cur, h => by
    rw [World.setCells]
    exact heap_setCells_eq r (o + 1) _ _ (heap_setCell_same w g o cur e v h)
theorem setCells_size (g : Nat) : ∀ (vs : List Value) (o : Nat) (w : World), (w.setCells g o vs).heap.size = w.heap.size
  | [], _, _ => rfl
  | v :: r, o, w => by rw [World.setCells, setCells_size g r]; simp [World.setCell]
theorem setCells_rest (g : Nat) : ∀ (vs : List Value) (o : Nat) (w : World), (w.setCells g o vs).os = w.os ∧ (w.setCells g o vs).tape = w.tape ∧ (w.setCells g o vs).output = w.output
  | [], _, _ => ⟨rfl, rfl, rfl⟩
  | v :: r, o, w => by rw [World.setCells]; exact setCells_rest g r _ _
theorem grown_setCells {a w : World} {g : Nat} (h : a.grownBy w (some g)) (o : Nat) (vs : List Value) : a.grownBy (w.setCells g o vs) (some g) := by
  obtain ⟨h1, h2, h3⟩ := setCells_rest g vs o w
  exact ⟨h1.trans h.os, h2.trans h.tape, h3.trans h.output, by rw [setCells_size]; exact h.size, fun k hk hne => (heap_setCells_ne (fun e => hne (by rw [e])) vs o w).trans (h.block k hk hne)⟩
theorem grown_drew' {a w : World} {g : Option Nat} (h : a.grownBy w g) : a.grownBy w.drew g := ⟨h.os, h.tape, h.output, h.size, h.block⟩

section
variable {P : Program} {t e : TypeId} {sz bytes : Nat}

theorem blk_cells {w : World} {g : Nat} {cur : Array Value} (h : w.heap[g]? = some (.cells cur e (0, 0))) {o n : Nat} {vs : List Value} (hv : (cur.toList.drop o).take n = vs) (hl : vs.length = n) : ∀ j v, vs[j]? = some v → w.cell? ((⟨g, o, none⟩ : Addr).add j) = some v := by
  intro j v hj
  rw [Addr.add_lit, cell_of_row _ g _ _ _ (0, 0) h]
  subst hv
  have hjn := (List.getElem?_eq_some_iff.1 hj).1
  rw [List.getElem?_take, if_pos (by omega), List.getElem?_drop, Array.getElem?_toList] at hj
  exact hj
theorem blk_some {w : World} {g : Nat} {cur : Array Value} (h : w.heap[g]? = some (.cells cur e (0, 0))) {k : Nat} (hk : k < cur.size) : (w.cell? ⟨g, k, none⟩).isSome = true := by
  rw [cell_of_row _ g _ _ _ (0, 0) h, Array.getElem?_eq_getElem hk]
  rfl

theorem run_copy_blk (E : ElemT P t e sz bytes) (w : World) (sT ty : TypeId) {g o dLen dCap sLen sCap n : Nat} {a : Addr} {cur : Array Value} {cs : List Value}
    (hg : w.heap[g]? = some (.cells cur e (0, 0))) (hn : n = Nat.min sLen dLen) (hl : cs.length = n * sz) (hsrc : ∀ j v, cs[j]? = some v → w.cell? (a.add j) = some v) (hfit : o + cs.length ≤ cur.size) (h1 : ∀ v ∈ cs, v.oneCell' = true) :
    (Builtin.copy_ #[t, sT] ty #[.slice (some ⟨g, o, none⟩) dLen dCap, .slice (some a) sLen sCap]).run P w = .ok (goInt n) (w.setCells g o cs) := by
  obtain ⟨i, z, hi, hz, h2, h3, h4⟩ := E.info
  have hload := run_loadCells_list (P := P) w a cs hsrc
  rw [hl] at hload
  have hst := run_storeCells_cells (P := P) g o cs 0 w (fun j hj => blk_some hg (by omega)) (fun j hj => frozen_of_row w g _ cur e hg) h1
  simp [Builtin.copy_, run_underlying E.und, Builtin.lenOf, Builtin.firstCells, sizeOf, typeInfo, hi, h2, ← hn, hload, hst]

/-- 'append(s[:i], s[j:]...)' and its like: there is room; all is read before anything is written. -/
theorem run_append_blk (E : ElemT P t e sz bytes) (w : World) (ty : TypeId) {g i c m sCap : Nat} {a : Addr} {cur : Array Value} {cs : List Value}
    (hg : w.heap[g]? = some (.cells cur e (0, 0))) (hl : cs.length = m * sz) (hsrc : ∀ j v, cs[j]? = some v → w.cell? (a.add j) = some v) (hroom : i + m ≤ c) (hfit : i * sz + cs.length ≤ cur.size) (h1 : ∀ v ∈ cs, v.oneCell' = true) :
    (Builtin.append_ #[t, t] ty #[.slice (some ⟨g, 0, none⟩) i c, .slice (some a) m sCap]).run P w = .ok (.slice (some ⟨g, 0, none⟩) (i + m) c) (w.setCells g (i * sz) cs) := by
  obtain ⟨it, z, hi, hz, h2, h3, h4⟩ := E.info
  have hload := run_loadCells_list (P := P) w a cs hsrc
  rw [hl] at hload
  have hst := run_storeCells_cells (P := P) g (i * sz) cs 0 w (fun j hj => blk_some hg (by omega)) (fun j hj => frozen_of_row w g _ cur e hg) h1
  have hadd : (⟨g, 0, none⟩ : Addr).add (i * sz) = ⟨g, i * sz, none⟩ := by rw [Addr.add_lit, Nat.zero_add]
  simp [Builtin.append_, run_underlying E.und, Builtin.lenOf, Builtin.firstCells, sizeOf, typeInfo, hi, h2, hload, hroom, hadd, hst]

theorem zeroCells_one {z : Value} (hz : ∀ v ∈ z.cells, v.oneCell' = true) (n : Nat) : ∀ v ∈ (Builtin.zeroCells z.cells n).toList, v.oneCell' = true := by
  intro v hv
  unfold Builtin.zeroCells at hv
  rw [Array.toList_map, List.mem_map] at hv
  obtain ⟨k, hk, rfl⟩ := hv
  rw [Array.toList_range, List.mem_range] at hk
  have hs : 0 < z.cells.size := by
    rcases Nat.eq_zero_or_pos z.cells.size with h | h
    · rw [h] at hk; omega
    · exact h
  have hlt := Nat.mod_lt k hs
  rw [getElem!_pos z.cells _ hlt]
  exact hz _ (Array.getElem_mem hlt)

theorem run_clear_blk (E : ElemT P t e sz bytes) {z : Value} (hz0 : (P.info? e).bind (·.zero) = some z) (hz1 : ∀ v ∈ z.cells, v.oneCell' = true) (w : World) (ty : TypeId) {g o n c : Nat} {cur : Array Value}
    (hg : w.heap[g]? = some (.cells cur e (0, 0))) (hfit : o + n * sz ≤ cur.size) :
    ∃ vs : List Value, vs.length = n * sz ∧ (Builtin.clear_ #[t] ty #[.slice (some ⟨g, o, none⟩) n c]).run P w = .ok (.tuple #[]) (w.setCells g o vs) := by
  obtain ⟨it, z', hi, hz, h2, h3, h4⟩ := E.info
  have ez : z' = z := by
    rw [hi] at hz0
    simp [hz] at hz0
    exact hz0
  subst ez
  rcases Nat.eq_zero_or_pos n with rfl | hn
  · refine ⟨[], by simp, ?_⟩
    simp [Builtin.clear_, run_underlying E.und, World.setCells]
  · have hlen : (Builtin.zeroCells z'.cells n).toList.length = n * sz := by simp [Builtin.zeroCells, h4]
    have hst := run_storeCells_cells (P := P) g o (Builtin.zeroCells z'.cells n).toList 0 w (fun j hj => blk_some hg (by omega)) (fun j hj => frozen_of_row w g _ cur e hg) (zeroCells_one hz1 n)
    refine ⟨_, hlen, ?_⟩
    obtain ⟨k, rfl⟩ : ∃ k, n = k + 1 := ⟨n - 1, by omega⟩
    simp [Builtin.clear_, run_underlying E.und, zeroValue, typeInfo, hi, hz, hst]

/-- The operation 'copy(d, s)' where its run is known: at the head of a list of operations. -/
theorem wp_copy_r {o : Oper} {a : Act} {K : Act → World → Prop} {Q : Exit → Act → World → Prop} (d s : Operand) (t t' : TypeId)
    (ho : o.op = .call { callee := .builtin .copy, args := #[d, s], argTypes := #[t, t'] }) {w : World} {v u : Value} (hd : a.eval d = v) (hs : a.eval s = u) {v' : Value} {w' : World}
    (hr : (Builtin.copy_ #[t, t'] o.type #[v, u]).run P w = .ok v' w') (h : K (a.put o.dst v') w') : o.wp P a w K Q := by
  unfold Oper.wp execOp
  simp only [ho, resolve, invoke, builtin, Sem.run_bind, Sem.run_pure, Result.andThen_ok, List.map_toArray, List.map_cons, List.map_nil, hd, hs, hr]
  exact h
theorem wpList_copy_r {ops : Array Oper} {rest : List Oper} {o : Oper} {a : Act} {Q : Exit → Act → World → Prop} (hgd : o.guard = none) (d s : Operand) (t t' : TypeId)
    (ho : o.op = .call { callee := .builtin .copy, args := #[d, s], argTypes := #[t, t'] }) {w : World} {v u : Value} (hd : a.eval d = v) (hs : a.eval s = u) {v' : Value} {w' : World}
    (hr : (Builtin.copy_ #[t, t'] o.type #[v, u]).run P w = .ok v' w') (h : wpList P ops Q rest (a.put o.dst v') w') : wpList P ops Q (o :: rest) a w :=
  wpList_plain hgd fun _ hK => wp_copy_r d s t t' ho hd hs hr (hK _ _ h)
/-- .. as a step of a region that draws. -/
theorem step_copy_r {ops : Array Oper} {o : Oper} {a : Act} {w : World} {K : Act → World → Prop} {Q : Exit → Act → World → Prop} {E : Prop}
    (hg : o.guard = none) (d x : Operand) (dT sT : TypeId) (hop : o.op = Op.call { callee := Callee.builtin Builtin.copy, args := #[d, x], argTypes := #[dT, sT] })
    {v u : Value} (hd : a.eval d = v) (hx : a.eval x = u) {v' : Value} {w' : World} (hr : (Builtin.copy_ #[dT, sT] o.type #[v, u]).run P w = .ok v' w') (hK : K (a.put o.dst v') w') :
    if Region.wanted o (yielded ops a.tmps) = true then Oper.wp P o a w K Q else E := by
  have hw : Region.wanted o (yielded ops a.tmps) = true := by simp [Region.wanted, hg]
  rw [if_pos hw]
  exact wp_copy_r d x dT sT hop hd hx hr hK
/-- 'clear(s)' where its run is known. -/
theorem wpList_clear_r {ops : Array Oper} {rest : List Oper} {o : Oper} {a : Act} {Q : Exit → Act → World → Prop} (hgd : o.guard = none) (d : Operand) (t : TypeId)
    (ho : o.op = .call { callee := .builtin .clear, args := #[d], argTypes := #[t] }) {w : World} {v : Value} (hd : a.eval d = v) {v' : Value} {w' : World}
    (hr : (Builtin.clear_ #[t] o.type #[v]).run P w = .ok v' w') (h : wpList P ops Q rest (a.put o.dst v') w') : wpList P ops Q (o :: rest) a w :=
  wpList_plain hgd fun _ hK => by
    unfold Oper.wp execOp
    simp only [ho, resolve, invoke, builtin, Sem.run_bind, Sem.run_pure, Result.andThen_ok, List.map_toArray, List.map_cons, List.map_nil, hd, hr]
    exact hK _ _ h
end

section
variable {α : Type} {sz : Nat} {cs : α → List Value}
theorem flat_len (L : Lay sz cs) : ∀ xs : List α, (xs.flatMap cs).length = xs.length * sz
  | [] => by simp
  | x :: xs => by rw [List.flatMap_cons, List.length_append, flat_len L xs, L.len, List.length_cons, Nat.succ_mul]; omega
theorem flat_one (L : Lay sz cs) (xs : List α) : ∀ v ∈ xs.flatMap cs, v.oneCell' = true := fun v hv => by
  obtain ⟨x, _, hx⟩ := List.mem_flatMap.1 hv
  exact L.one x v hx
theorem flat_take (L : Lay sz cs) : ∀ (xs : List α) (n : Nat), (xs.flatMap cs).take (n * sz) = (xs.take n).flatMap cs
  | [], n => by simp
  | x :: xs, 0 => by simp
  | x :: xs, n + 1 => by
    rw [List.flatMap_cons, List.take_succ_cons, List.flatMap_cons, Nat.succ_mul, List.take_append, L.len, ← flat_take L xs n, List.take_of_length_le (by rw [L.len]; omega)]
    congr 2
    omega
theorem flat_drop (L : Lay sz cs) : ∀ (xs : List α) (n : Nat), (xs.flatMap cs).drop (n * sz) = (xs.drop n).flatMap cs
  | [], n => by simp
  | x :: xs, 0 => by simp
  | x :: xs, n + 1 => by
    rw [List.flatMap_cons, List.drop_succ_cons, Nat.succ_mul, List.drop_append, L.len, ← flat_drop L xs n, List.drop_of_length_le (by rw [L.len]; omega), List.nil_append]
    congr 1
    omega

/-- An own slice that holds something, or has a block. -/
theorem Own.open_ {e : TypeId} {base : Nat} {w : World} {v : Value} {xs : List α} (h : Own sz cs e base w v xs) (hp : 0 < xs.length) :
    ∃ g c cur, v = .slice (some ⟨g, 0, none⟩) xs.length c ∧ base ≤ g ∧ w.heap[g]? = some (.cells cur e (0, 0)) ∧ xs.length ≤ c ∧ c ≤ maxLen ∧ cur.size = c * sz ∧ cur.toList.take (xs.length * sz) = xs.flatMap cs := by
  rcases h.2 with ⟨_, h0⟩ | ⟨g, c, cur, h1, h2, h3, h4, h5, h6, h7⟩
  · omega
  · exact ⟨g, c, cur, h1, h2, h3, h4, h5, h6, h7⟩
theorem Own.shut {e : TypeId} {base : Nat} {w : World} {xs : List α} {g c n : Nat} {cur : Array Value} (L : Lay sz cs) (hb : base ≤ g) (hg : w.heap[g]? = some (.cells cur e (0, 0))) (hn : n = xs.length) (hc : n ≤ c) (hm : c ≤ maxLen) (hs : cur.size = c * sz) (ht : cur.toList.take (n * sz) = xs.flatMap cs) :
    Own sz cs e base w (.slice (some ⟨g, 0, none⟩) n c) xs := by
  subst hn
  exact ⟨flat_len L xs, .inr ⟨g, c, cur, rfl, hb, hg, hc, hm, hs, ht⟩⟩
end

end Go.Proofs.Ytjdcnkbkbcfhfaa

namespace Go.Proofs.Ytjdcnkbkbcfhfaa
open Go.RowKit

section
variable {α : Type} {sz : Nat} {cs : α → List Value}

theorem tk_mid (L : Lay sz cs) {C : List Value} {xs : List α} (ht : C.take (xs.length * sz) = xs.flatMap cs) {i : Nat} (hi : i ≤ xs.length) :
    C.take (i * sz) = (xs.take i).flatMap cs ∧ (C.drop (i * sz)).take ((xs.length - i) * sz) = (xs.drop i).flatMap cs := by
  have hm : i * sz ≤ xs.length * sz := Nat.mul_le_mul_right _ hi
  refine ⟨?_, ?_⟩
  · rw [← flat_take L, ← ht, List.take_take, Nat.min_eq_left hm]
  · rw [← flat_drop L, ← ht, List.drop_take, Nat.sub_mul]

/-- The cells after both stores, in either order. -/
theorem put_ins (L : Lay sz cs) {xs : List α} {y : α} {cur : Array Value} {i : Nat} (h1 : cur.toList.take (i * sz) = (xs.take i).flatMap cs) (hi : i ≤ xs.length) (hs : (xs.length + 1) * sz ≤ cur.size) :
    (putL (putL cur ((i + 1) * sz) ((xs.drop i).flatMap cs)) (i * sz) (cs y)).toList.take ((xs.length + 1) * sz) = (xs.take i ++ y :: xs.drop i).flatMap cs
    ∧ (putL (putL cur (i * sz) (cs y)) ((i + 1) * sz) ((xs.drop i).flatMap cs)).toList.take ((xs.length + 1) * sz) = (xs.take i ++ y :: xs.drop i).flatMap cs := by
  have hly := L.len y
  have e1 : (i + 1) * sz = i * sz + sz := Nat.succ_mul _ _
  have e2 : (xs.length + 1) * sz = xs.length * sz + sz := Nat.succ_mul _ _
  have hm : i * sz ≤ xs.length * sz := Nat.mul_le_mul_right _ hi
  have hld : ((xs.drop i).flatMap cs).length = xs.length * sz - i * sz := by rw [flat_len L, List.length_drop, Nat.sub_mul]
  have hlt : (cur.toList.take (i * sz)).length = i * sz := by rw [List.length_take, Array.length_toList]; omega
  have hls : cur.toList.length = cur.size := Array.length_toList
  have eR : (xs.take i ++ y :: xs.drop i).flatMap cs = cur.toList.take (i * sz) ++ (cs y ++ (xs.drop i).flatMap cs) := by
    rw [List.flatMap_append, List.flatMap_cons, h1]
  rw [eR]
  clear eR h1
  generalize (xs.drop i).flatMap cs = D at *
  generalize hY : cs y = Y at *
  generalize xs.length * sz = m at *
  generalize i * sz = p at *
  constructor
  · rw [putL_list (by rw [putL_size]; omega), putL_list (by omega)]
    have a1 : (List.take (((i + 1) * sz)) cur.toList ++ D ++ List.drop ((i + 1) * sz + D.length) cur.toList).take p = cur.toList.take p := by
      rw [List.append_assoc, List.take_append_of_le_length (by rw [List.length_take]; omega), List.take_take, Nat.min_eq_left (by omega)]
    have a2 : (List.take (((i + 1) * sz)) cur.toList ++ D ++ List.drop ((i + 1) * sz + D.length) cur.toList).drop (p + Y.length) = D ++ List.drop ((i + 1) * sz + D.length) cur.toList := by
      rw [List.append_assoc, List.drop_append, List.drop_of_length_le (by rw [List.length_take]; omega), List.nil_append]
      have : p + Y.length - (List.take ((i + 1) * sz) cur.toList).length = 0 := by rw [List.length_take]; omega
      rw [this, List.drop_zero]
    rw [a1, a2, List.append_assoc, ← List.append_assoc Y, ← List.append_assoc _ (Y ++ D), List.take_left' (by simp only [List.length_append]; omega)]
  · rw [putL_list (by rw [putL_size]; omega), putL_list (by omega)]
    have a1 : (List.take p cur.toList ++ Y ++ List.drop (p + Y.length) cur.toList).take ((i + 1) * sz) = cur.toList.take p ++ Y := by
      rw [List.take_left' (by simp only [List.length_append]; omega)]
    rw [a1, List.append_assoc _ Y D, List.take_left' (by simp only [List.length_append]; omega)]

/-- The cells after one element is taken out and one place is cleared. -/
theorem put_del (L : Lay sz cs) {xs : List α} {cur : Array Value} {i : Nat} {vs : List Value} (ht : cur.toList.take (xs.length * sz) = xs.flatMap cs) (hi : i < xs.length) (hs : xs.length * sz ≤ cur.size) (hv : vs.length = 1 * sz) :
    (putL (putL cur (i * sz) ((xs.drop (i + 1)).flatMap cs)) ((xs.length - 1) * sz) vs).toList.take ((xs.length - 1) * sz) = (xs.take i ++ xs.drop (i + 1)).flatMap cs := by
  have h1 := (tk_mid L ht (Nat.le_of_lt hi)).1
  have e1 : (i + 1) * sz = i * sz + sz := Nat.succ_mul _ _
  have e2 : xs.length * sz = (xs.length - 1) * sz + sz := by
    conv => lhs; rw [show xs.length = (xs.length - 1) + 1 from by omega]
    exact Nat.succ_mul _ _
  have hm : (i + 1) * sz ≤ xs.length * sz := Nat.mul_le_mul_right _ hi
  have hld : ((xs.drop (i + 1)).flatMap cs).length = xs.length * sz - (i + 1) * sz := by rw [flat_len L, List.length_drop, Nat.sub_mul]
  have hls : cur.toList.length = cur.size := Array.length_toList
  rw [List.flatMap_append, ← h1]
  clear h1 ht
  generalize (xs.drop (i + 1)).flatMap cs = D at *
  generalize xs.length * sz = m at *
  generalize (xs.length - 1) * sz = m1 at *
  generalize i * sz = p at *
  have hlt : (cur.toList.take p).length = p := by rw [List.length_take]; omega
  rw [putL_list (by rw [putL_size]; omega), List.append_assoc, List.take_append_of_le_length (by rw [List.length_take, Array.length_toList, putL_size]; omega), List.take_take, Nat.min_self, putL_list (by omega), List.take_left' (by simp only [List.length_append]; omega)]

variable {e : TypeId} {w : World} {g c : Nat} {cur : Array Value}

theorem own_ins_in (L : Lay sz cs) {xs : List α} {y : α} (hg : w.heap[g]? = some (.cells cur e (0, 0))) (hc : xs.length + 1 ≤ c) (hm : c ≤ maxLen) (hs : cur.size = c * sz) (ht : cur.toList.take (xs.length * sz) = xs.flatMap cs) {i : Nat} (hi : i ≤ xs.length) :
    Own sz cs e 0 ((w.drew.setCells g ((i + 1) * sz) ((xs.drop i).flatMap cs)).setCells g (i * sz) (cs y)) (.slice (some ⟨g, 0, none⟩) (xs.length + 1) c) (xs.take i ++ y :: xs.drop i)
    ∧ Ext w (.slice (some ⟨g, 0, none⟩) xs.length c) ((w.drew.setCells g ((i + 1) * sz) ((xs.drop i).flatMap cs)).setCells g (i * sz) (cs y)) (.slice (some ⟨g, 0, none⟩) (xs.length + 1) c) := by
  have hcs : (xs.length + 1) * sz ≤ cur.size := by rw [hs]; exact Nat.mul_le_mul_right _ hc
  refine ⟨Own.shut (cur := putL (putL cur ((i + 1) * sz) ((xs.drop i).flatMap cs)) (i * sz) (cs y)) L (Nat.zero_le _) (heap_setCells_eq _ _ _ _ (heap_setCells_eq _ _ _ _ hg)) (by simp; omega) hc hm (by rw [putL_size, putL_size, hs]) ?_, ⟨?_, .inl rfl⟩⟩
  · exact (put_ins L (tk_mid L ht hi).1 hi hcs).1
  · exact grown_setCells (grown_setCells (grown_drew' (World.grownBy.refl w _)) _ _) _ _

theorem own_ins_grow (L : Lay sz cs) {xs : List α} {y : α} {A : Option Addr} {n0 c0 : Nat} {i : Nat} (hc : xs.length + 1 ≤ c) (hm : c ≤ maxLen) (hs : cur.size = c * sz) (h1 : cur.toList.take (i * sz) = (xs.take i).flatMap cs) (hi : i ≤ xs.length) :
    Own sz cs e 0 ((((w.drew.alloc (.cells cur e)).setCells w.heap.size (i * sz) (cs y)).drew).setCells w.heap.size ((i + 1) * sz) ((xs.drop i).flatMap cs)) (.slice (some ⟨w.heap.size, 0, none⟩) (xs.length + 1) c) (xs.take i ++ y :: xs.drop i)
    ∧ Ext w (.slice A n0 c0) ((((w.drew.alloc (.cells cur e)).setCells w.heap.size (i * sz) (cs y)).drew).setCells w.heap.size ((i + 1) * sz) ((xs.drop i).flatMap cs)) (.slice (some ⟨w.heap.size, 0, none⟩) (xs.length + 1) c) := by
  have hcs : (xs.length + 1) * sz ≤ cur.size := by rw [hs]; exact Nat.mul_le_mul_right _ hc
  have hg : (w.drew.alloc (.cells cur e)).heap[w.heap.size]? = some (.cells cur e (0, 0)) := heap_alloc_new w.drew _
  refine ⟨Own.shut (cur := putL (putL cur (i * sz) (cs y)) ((i + 1) * sz) ((xs.drop i).flatMap cs)) L (Nat.zero_le _) (heap_setCells_eq _ _ _ _ (heap_setCells_eq _ _ _ _ hg)) (by simp; omega) hc hm (by rw [putL_size, putL_size, hs]) ?_, ⟨?_, .inr ⟨_, rfl, Nat.le_refl _⟩⟩⟩
  · exact (put_ins L h1 hi hcs).2
  · have hb : Below w.heap.size w (w.drew.alloc (.cells cur e)) := (Below.refl _ _).drew.alloc (Nat.le_refl _) _
    have hx := (Ext.of_below hb (.slice A n0 c0)).grown
    have hsz : w.heap.size < (w.drew.alloc (.cells cur e)).heap.size := by have := size1 w.drew (.cells cur e); have h2 : w.drew.heap.size = w.heap.size := rfl; omega
    refine ⟨?_, ?_, ?_, ?_, ?_⟩
    · exact ((setCells_rest _ _ _ _).1.trans (setCells_rest _ _ _ (w.drew.alloc (.cells cur e))).1)
    · exact ((setCells_rest _ _ _ _).2.1.trans (setCells_rest _ _ _ (w.drew.alloc (.cells cur e))).2.1)
    · exact ((setCells_rest _ _ _ _).2.2.trans (setCells_rest _ _ _ (w.drew.alloc (.cells cur e))).2.2)
    · rw [setCells_size]
      show _ ≤ (World.setCells _ _ _ _).heap.size
      rw [setCells_size]
      exact Nat.le_of_lt hsz
    · intro k hk _
      rw [heap_setCells_ne (by omega)]
      show (World.setCells _ _ _ _).heap[k]? = _
      rw [heap_setCells_ne (by omega)]
      exact hb.block k hk

theorem own_del (L : Lay sz cs) {xs : List α} (hg : w.heap[g]? = some (.cells cur e (0, 0))) (hc : xs.length ≤ c) (hm : c ≤ maxLen) (hs : cur.size = c * sz) (ht : cur.toList.take (xs.length * sz) = xs.flatMap cs) {i : Nat} (hi : i < xs.length) {vs : List Value} (hv : vs.length = 1 * sz) {n1 : Nat} (hn1 : n1 = xs.length - 1) :
    Own sz cs e 0 ((w.drew.setCells g (i * sz) ((xs.drop (i + 1)).flatMap cs)).setCells g (n1 * sz) vs) (.slice (some ⟨g, 0, none⟩) n1 c) (xs.take i ++ xs.drop (i + 1))
    ∧ Ext w (.slice (some ⟨g, 0, none⟩) xs.length c) ((w.drew.setCells g (i * sz) ((xs.drop (i + 1)).flatMap cs)).setCells g (n1 * sz) vs) (.slice (some ⟨g, 0, none⟩) n1 c) := by
  subst hn1
  have hcs : xs.length * sz ≤ cur.size := by rw [hs]; exact Nat.mul_le_mul_right _ hc
  refine ⟨Own.shut (cur := putL (putL cur (i * sz) ((xs.drop (i + 1)).flatMap cs)) ((xs.length - 1) * sz) vs) L (Nat.zero_le _) (heap_setCells_eq _ _ _ _ (heap_setCells_eq _ _ _ _ hg)) (by simp; omega) (by omega) hm (by rw [putL_size, putL_size, hs]) ?_, ⟨?_, .inl rfl⟩⟩
  · exact put_del L ht hi hcs hv
  · exact grown_setCells (grown_setCells (grown_drew' (World.grownBy.refl w _)) _ _) _ _
end

end Go.Proofs.Ytjdcnkbkbcfhfaa

namespace Go.Proofs.Ytjdcnkbkbcfhfaa

structure Val where
  kind : Int
  int : Int
  text : ByteArray
  deriving DecidableEq

def Val.cs (v : Val) : List Value := [.int .i64 v.kind, .int .i64 v.int, .string v.text]

/-- What Validate answers. -/
def vErr (k n : Int) (s : ByteArray) : Int :=
  if k = 0 then (if n = 0 ∧ s.toList.isEmpty = true then 0 else 3)
  else if k = 1 ∨ k = 2 then
    (if s.toList.isEmpty = false then 3 else if (k = 2 ∧ n ≠ 0 ∧ n ≠ 1) ∨ n < -1000000000000 ∨ 1000000000000 < n then 1 else 0)
  else if k = 3 then (if n ≠ 0 then 3 else if 24 < s.size then 2 else 0)
  else 7
def Val.err (v : Val) : Int := vErr v.kind v.int v.text

def rErrs : List Val → Int
  | [] => 0
  | v :: r => if v.err = 0 then rErrs r else v.err
/-- What CheckRow answers. -/
def rErr (r : List Val) : Int := if 12 < r.length then 2 else rErrs r

theorem rErrs_zero {r : List Val} (h : rErrs r = 0) : ∀ v ∈ r, v.err = 0 := by
  induction r with
  | nil => simp
  | cons v r ih =>
    unfold rErrs at h
    by_cases hv : v.err = 0
    · rw [if_pos hv] at h
      intro x hx
      rcases List.mem_cons.1 hx with rfl | hx
      · exact hv
      · exact ih h x hx
    · rw [if_neg hv] at h
      exact absurd h hv

theorem rErrs_of {r : List Val} (h : ∀ v ∈ r, v.err = 0) : rErrs r = 0 := by
  induction r with
  | nil => rfl
  | cons v r ih =>
    unfold rErrs
    rw [if_pos (h v (by simp))]
    exact ih fun x hx => h x (by simp [hx])

theorem rErrs_drop {r : List Val} {k : Nat} (hk : k < r.length) : rErrs (r.drop k) = if r[k].err = 0 then rErrs (r.drop (k + 1)) else r[k].err := by
  rw [List.drop_eq_getElem_cons hk]
  rfl

theorem rErr_zero {r : List Val} (h : rErr r = 0) : r.length ≤ 12 ∧ ∀ v ∈ r, v.err = 0 := by
  unfold rErr at h
  split at h
  · omega
  · exact ⟨by omega, rErrs_zero h⟩

/-- The three cells of element k of a row. -/
theorem Elems.val {w : World} {S : Nat → Prop} {A : Option Addr} {r : List Val} {k : Nat} (h : Elems 3 Val.cs w S A r) (hk : k < r.length) :
    ∃ b off, A = some ⟨b, off, none⟩ ∧ S b ∧ w.cell? ⟨b, off + k * 3, none⟩ = some (.int .i64 r[k].kind) ∧ w.cell? ⟨b, off + k * 3 + 1, none⟩ = some (.int .i64 r[k].int) ∧ w.cell? ⟨b, off + k * 3 + 2, none⟩ = some (.string r[k].text) := by
  obtain ⟨b, off, e, hb, hc⟩ := h.at_ hk
  exact ⟨b, off, e, hb, hc 0 _ rfl, hc 1 _ rfl, hc 2 _ rfl⟩

end Go.Proofs.Ytjdcnkbkbcfhfaa

namespace Go.Proofs.Ytjdcnkbkbcfhfaa

theorem cb_neg : ∀ (a b : List UInt8), Lib.compareBytes b a = -Lib.compareBytes a b
  | [], [] => rfl
  | [], _ :: _ => rfl
  | _ :: _, [] => rfl
  | x :: a, y :: b => by
    unfold Lib.compareBytes
    by_cases h1 : x < y
    · rw [if_pos h1, if_neg (fun h => UInt8.lt_asymm h1 h), if_pos h1]
      rfl
    · by_cases h2 : y < x
      · rw [if_pos h2, if_neg h1, if_pos h2]
      · rw [if_neg h2, if_neg h1, if_neg h1, if_neg h2]
        exact cb_neg a b
theorem cb_zero : ∀ (a b : List UInt8), Lib.compareBytes a b = 0 → a = b
  | [], [], _ => rfl
  | [], _ :: _, h => by simp [Lib.compareBytes] at h
  | _ :: _, [], h => by simp [Lib.compareBytes] at h
  | x :: a, y :: b, h => by
    unfold Lib.compareBytes at h
    by_cases h1 : x < y
    · rw [if_pos h1] at h; omega
    · by_cases h2 : y < x
      · rw [if_neg h1, if_pos h2] at h; omega
      · rw [if_neg h1, if_neg h2] at h
        have e : x = y := by
          apply UInt8.toNat_inj.1
          rw [UInt8.lt_iff_toNat_lt] at h1 h2
          omega
        rw [e, cb_zero a b h]
theorem cb_trans : ∀ (a b c : List UInt8), Lib.compareBytes a b ≤ 0 → Lib.compareBytes b c ≤ 0 → Lib.compareBytes a c ≤ 0
  | [], _, [], _, _ => by simp [Lib.compareBytes]
  | [], _, _ :: _, _, _ => by simp [Lib.compareBytes]
  | _ :: _, [], _, h, _ => by simp [Lib.compareBytes] at h
  | _ :: _, _ :: _, [], _, h => by simp [Lib.compareBytes] at h
  | x :: a, y :: b, z :: c, h1, h2 => by
    unfold Lib.compareBytes at h1 h2 ⊢
    simp only [UInt8.lt_iff_toNat_lt] at h1 h2 ⊢
    by_cases c1 : x.toNat < y.toNat
    · by_cases c2 : y.toNat < z.toNat
      · rw [if_pos (by omega)]; omega
      · rw [if_neg c2] at h2
        by_cases c3 : z.toNat < y.toNat
        · rw [if_pos c3] at h2; omega
        · rw [if_pos (by omega)]; omega
    · rw [if_neg c1] at h1
      by_cases c2 : y.toNat < x.toNat
      · rw [if_pos c2] at h1; omega
      · rw [if_neg c2] at h1
        by_cases c3 : y.toNat < z.toNat
        · rw [if_pos (by omega)]; omega
        · rw [if_neg c3] at h2
          by_cases c4 : z.toNat < y.toNat
          · rw [if_pos c4] at h2; omega
          · rw [if_neg c4] at h2
            rw [if_neg (by omega), if_neg (by omega)]
            exact cb_trans a b c h1 h2

def cmpI (x y : Int) : Int := if x < y then -1 else if y < x then 1 else 0
def cmpV (a b : Val) : Int := if cmpI a.kind b.kind = 0 then (if cmpI a.int b.int = 0 then Lib.compareBytes a.text.data.toList b.text.data.toList else cmpI a.int b.int) else cmpI a.kind b.kind
theorem cmpI_neg (x y : Int) : cmpI y x = -cmpI x y := by
  unfold cmpI
  (repeat' split) <;> omega
theorem cmpI_zero {x y : Int} : cmpI x y = 0 ↔ x = y := by
  unfold cmpI
  (repeat' split) <;> omega
theorem cmpI_le {x y : Int} : cmpI x y ≤ 0 ↔ x ≤ y := by
  unfold cmpI
  (repeat' split) <;> omega
theorem cmpV_neg (a b : Val) : cmpV b a = -cmpV a b := by
  unfold cmpV
  rw [cmpI_neg a.kind b.kind, cmpI_neg a.int b.int, cb_neg a.text.data.toList b.text.data.toList]
  (repeat' split) <;> omega
theorem cmpV_zero {a b : Val} (h : cmpV a b = 0) : a = b := by
  unfold cmpV at h
  by_cases h1 : cmpI a.kind b.kind = 0
  · rw [if_pos h1] at h
    by_cases h2 : cmpI a.int b.int = 0
    · rw [if_pos h2] at h
      have h3 := cb_zero _ _ h
      obtain ⟨k, n, ⟨⟨t⟩⟩⟩ := a
      obtain ⟨k', n', ⟨⟨t'⟩⟩⟩ := b
      have e1 := cmpI_zero.1 h1
      have e2 := cmpI_zero.1 h2
      simp only at e1 e2 h3
      rw [e1, e2, h3]
    · rw [if_neg h2] at h
      exact absurd h h2
  · rw [if_neg h1] at h
    exact absurd h h1
theorem cmpV_trans {a b c : Val} (h1 : cmpV a b ≤ 0) (h2 : cmpV b c ≤ 0) : cmpV a c ≤ 0 := by
  unfold cmpV at *
  by_cases k1 : cmpI a.kind b.kind = 0
  · rw [if_pos k1] at h1
    have e1 := cmpI_zero.1 k1
    by_cases k2 : cmpI b.kind c.kind = 0
    · rw [if_pos k2] at h2
      rw [e1, if_pos k2]
      by_cases n1 : cmpI a.int b.int = 0
      · rw [if_pos n1] at h1
        have e2 := cmpI_zero.1 n1
        rw [e2]
        by_cases n2 : cmpI b.int c.int = 0
        · rw [if_pos n2] at h2 ⊢
          exact cb_trans _ _ _ h1 h2
        · rw [if_neg n2] at h2 ⊢
          exact h2
      · rw [if_neg n1] at h1
        have e2 := cmpI_le.1 h1
        have e3 : a.int ≠ b.int := fun e => n1 (cmpI_zero.2 e)
        by_cases n2 : cmpI b.int c.int = 0
        · have e4 := cmpI_zero.1 n2
          rw [← e4, if_neg n1]
          exact h1
        · rw [if_neg n2] at h2
          have e4 := cmpI_le.1 h2
          rw [if_neg (fun e => by have := cmpI_zero.1 e; omega)]
          exact cmpI_le.2 (by omega)
    · rw [if_neg k2] at h2
      rw [e1, if_neg k2]
      exact h2
  · rw [if_neg k1] at h1
    have e1 := cmpI_le.1 h1
    have e2 : a.kind ≠ b.kind := fun e => k1 (cmpI_zero.2 e)
    by_cases k2 : cmpI b.kind c.kind = 0
    · have e3 := cmpI_zero.1 k2
      rw [← e3, if_neg k1]
      exact h1
    · rw [if_neg k2] at h2
      have e3 := cmpI_le.1 h2
      rw [if_neg (fun e => by have := cmpI_zero.1 e; omega)]
      exact cmpI_le.2 (by omega)


abbrev Row := List Val
/-- What CompareRows answers. -/
def cmpR : Row → Row → Int
  | a :: as1, b :: bs => if cmpV a b = 0 then cmpR as1 bs else cmpV a b
  | as1, bs => cmpI as1.length bs.length
theorem cmpR_nil_left (b : Row) : cmpR [] b = cmpI (([] : Row).length) b.length := by cases b <;> rfl
theorem cmpR_nil_right (a : Row) : cmpR a [] = cmpI a.length (([] : Row).length) := by cases a <;> rfl
theorem cmpR_cons (a : Val) (as1 : Row) (b : Val) (bs : Row) : cmpR (a :: as1) (b :: bs) = if cmpV a b = 0 then cmpR as1 bs else cmpV a b := rfl
theorem cmpR_neg : ∀ (a b : Row), cmpR b a = -cmpR a b
  | [], b => by rw [cmpR_nil_left, cmpR_nil_right, cmpI_neg]
  | a :: as1, [] => by rw [cmpR_nil_left, cmpR_nil_right, cmpI_neg]
  | a :: as1, b :: bs => by
    rw [cmpR_cons, cmpR_cons, cmpV_neg a b, cmpR_neg as1 bs]
    (repeat' split) <;> omega
theorem cmpV_refl (a : Val) : cmpV a a = 0 := by have := cmpV_neg a a; omega
theorem cmpR_refl (a : Row) : cmpR a a = 0 := by have := cmpR_neg a a; omega
theorem cmpR_zero : ∀ {a b : Row}, cmpR a b = 0 → a = b
  | [], b, h => by
    rw [cmpR_nil_left, cmpI_zero] at h
    exact (List.eq_nil_of_length_eq_zero (by simpa using h.symm)).symm
  | a :: as1, [], h => by
    rw [cmpR_nil_right, cmpI_zero] at h
    simp at h
    omega
  | a :: as1, b :: bs, h => by
    rw [cmpR_cons] at h
    by_cases h1 : cmpV a b = 0
    · rw [if_pos h1] at h
      rw [cmpV_zero h1, cmpR_zero h]
    · rw [if_neg h1] at h
      exact absurd h h1
theorem cmpR_trans : ∀ {a b c : Row}, cmpR a b ≤ 0 → cmpR b c ≤ 0 → cmpR a c ≤ 0
  | [], b, c, _, _ => by rw [cmpR_nil_left, cmpI_le]; simp
  | a :: as1, [], c, h, _ => by
    rw [cmpR_nil_right, cmpI_le] at h
    simp at h
    omega
  | a :: as1, b :: bs, [], _, h => by
    rw [cmpR_nil_right, cmpI_le] at h
    simp at h
    omega
  | a :: as1, b :: bs, c :: cs, h1, h2 => by
    rw [cmpR_cons] at h1 h2 ⊢
    by_cases k1 : cmpV a b = 0
    · rw [if_pos k1] at h1
      have e1 := cmpV_zero k1
      subst e1
      by_cases k2 : cmpV a c = 0
      · rw [if_pos k2] at h2 ⊢
        exact cmpR_trans h1 h2
      · rw [if_neg k2] at h2 ⊢
        exact h2
    · rw [if_neg k1] at h1
      by_cases k2 : cmpV b c = 0
      · have e1 := cmpV_zero k2
        subst e1
        rw [if_neg k1]
        exact h1
      · rw [if_neg k2] at h2
        have h3 := cmpV_trans h1 h2
        have k3 : cmpV a c ≠ 0 := fun e => by
          have e1 := cmpV_zero e
          subst e1
          have := cmpV_neg a b
          omega
        rw [if_neg k3]
        exact h3
/-- The rows' order. -/
def rl (a b : Row) : Prop := cmpR a b < 0
theorem rl_irrefl (a : Row) : ¬ rl a a := by unfold rl; rw [cmpR_refl]; omega
theorem rl_asymm {a b : Row} (h : rl a b) : ¬ rl b a := by unfold rl at *; rw [cmpR_neg]; omega
theorem rl_trans {a b c : Row} (h1 : rl a b) (h2 : rl b c) : rl a c := by
  unfold rl at *
  have h3 := cmpR_trans (a := a) (b := b) (c := c) (by omega) (by omega)
  rcases Int.lt_or_eq_of_le h3 with h | h
  · exact h
  · have e := cmpR_zero h
    subst e
    have := cmpR_neg a b
    omega
theorem rl_le_trans {a b c : Row} (h1 : ¬ rl b a) (h2 : ¬ rl c b) : ¬ rl c a := by
  unfold rl at *
  have e1 := cmpR_neg b a
  have e2 := cmpR_neg c b
  have e3 := cmpR_neg c a
  have := cmpR_trans (a := a) (b := b) (c := c) (by omega) (by omega)
  omega
theorem rl_lt_le {a b c : Row} (h1 : rl a b) (h2 : ¬ rl c b) : rl a c := by
  rcases Int.lt_or_eq_of_le (show cmpR a c ≤ 0 from cmpR_trans (b := b) (Int.le_of_lt h1) (by unfold rl at h2; have := cmpR_neg c b; omega)) with h | h
  · exact h
  · have e := cmpR_zero h
    subst e
    exact absurd h1 h2
theorem rl_le_lt {a b c : Row} (h1 : ¬ rl b a) (h2 : rl b c) : rl a c := by
  rcases Int.lt_or_eq_of_le (show cmpR a c ≤ 0 from cmpR_trans (b := b) (by unfold rl at h1; have := cmpR_neg b a; omega) (Int.le_of_lt h2)) with h | h
  · exact h
  · have e := cmpR_zero h
    subst e
    exact absurd h2 h1
theorem rl_tri (a b : Row) : rl a b ∨ a = b ∨ rl b a := by
  unfold rl
  have := cmpR_neg a b
  rcases Int.lt_trichotomy (cmpR a b) 0 with h | h | h
  · exact .inl h
  · exact .inr (.inl (cmpR_zero h))
  · exact .inr (.inr (by omega))
theorem rl_eq {a b : Row} (h1 : ¬ rl a b) (h2 : ¬ rl b a) : a = b := by
  rcases rl_tri a b with h | h | h
  · exact absurd h h1
  · exact h
  · exact absurd h h2
/-- Behind k equal values. -/
theorem cmpR_drop {a b : Row} {k : Nat} (ha : k < a.length) (hb : k < b.length) : cmpR (a.drop k) (b.drop k) = if cmpV a[k] b[k] = 0 then cmpR (a.drop (k + 1)) (b.drop (k + 1)) else cmpV a[k] b[k] := by
  rw [List.drop_eq_getElem_cons ha, List.drop_eq_getElem_cons hb]
  rfl
theorem cmpR_end {a b : Row} {k : Nat} (h : k = a.length ∨ k = b.length) (ha : k ≤ a.length) (hb : k ≤ b.length) : cmpR (a.drop k) (b.drop k) = cmpI a.length b.length := by
  rcases h with h | h
  · subst h
    rw [List.drop_length, cmpR_nil_left]
    unfold cmpI
    simp only [List.length_nil, List.length_drop]
    (repeat' split) <;> omega
  · subst h
    rw [List.drop_length, cmpR_nil_right]
    unfold cmpI
    simp only [List.length_nil, List.length_drop]
    (repeat' split) <;> omega

end Go.Proofs.Ytjdcnkbkbcfhfaa

namespace Go.Proofs.Ytjdcnkbkbcfhfaa
open Go.RowKit Go.Sort

theorem compareInts (x y : Int) (w : World) :
    Calls Try.prog 80 #[.int .i64 x, .int .i64 y] w fun e w' => e = .returned (.int .i64 (cmpI x y)) ∧ w = w' := by
  go_enter Try.func80, Try.ntmps80
  go_wp2_with fail
  all_goals
    go_ret
    refine ⟨?_, rfl⟩
    unfold cmpI
    (repeat' split) <;> first | rfl | (exfalso; omega)

set_option maxHeartbeats 1000000 in
set_option maxRecDepth 100000 in
theorem compareString (a b : ByteArray) (w : World) :
    Calls Try.prog 101 #[.string a, .string b] w fun e w' => e = .returned (.int .i64 (Lib.compareBytes a.data.toList b.data.toList)) ∧ w = w' := by
  go_enter Try.func101, Try.ntmps101
  go_wp2
  rw [run_callFunc_extern Try.func105 (by kernel_rfl) (by kernel_rfl) (by kernel_rfl) (e := Extern.BytealgCompare.compare) (by kernel_rfl), Lib.run_compareString]
  simp only [Result.andThen]
  rw [Oper.upon_value]
  go_wp2
  go_ret
  exact ⟨rfl, rfl⟩

set_option maxRecDepth 100000 in
theorem stringsCompare (a b : ByteArray) (w : World) :
    Calls Try.prog 92 #[.string a, .string b] w fun e w' => e = .returned (.int .i64 (Lib.compareBytes a.data.toList b.data.toList)) ∧ w = w' := by
  go_enter Try.func92, Try.ntmps92
  go_wp2_with fail
  refine (compareString _ _ _).mono ?_
  rintro e w' ⟨rfl, rfl⟩
  go_wp2_with fail
  go_ret
  exact ⟨rfl, rfl⟩

set_option maxRecDepth 100000 in
set_option maxHeartbeats 1000000 in
theorem compareVals (a b : Val) (w : World) :
    Calls Try.prog 79 #[.agg #[.int .i64 a.kind, .int .i64 a.int, .string a.text], .agg #[.int .i64 b.kind, .int .i64 b.int, .string b.text]] w fun e w' => e = .returned (.int .i64 (cmpV a b)) ∧ ∃ os, w' = grow w os := by
  obtain ⟨k1, n1, t1⟩ := a
  obtain ⟨k2, n2, t2⟩ := b
  have HV : Hid (cmpV ⟨k1, n1, t1⟩ ⟨k2, n2, t2⟩ = if cmpI k1 k2 = 0 then (if cmpI n1 n2 = 0 then Lib.compareBytes t1.data.toList t2.data.toList else cmpI n1 n2) else cmpI k1 k2) := Lib.hid rfl
  have HG : Hid (∀ o1 o2, ∃ os, (w.alloc o1).alloc o2 = grow w os) := Lib.hid fun o1 o2 => ⟨#[o1] ++ #[o2], by rw [alloc_eq_grow, alloc_eq_grow, grow_grow]⟩
  generalize cmpV ⟨k1, n1, t1⟩ ⟨k2, n2, t2⟩ = cv at *
  generalize hc1 : cmpI k1 k2 = x1 at *
  generalize hc2 : cmpI n1 n2 = x2 at *
  have H1 := Lib.hid hc1
  have H2 := Lib.hid hc2
  clear hc1 hc2
  go_enter Try.func79, Try.ntmps79
  go_wp2_with fail
  refine (compareInts _ _ _).mono ?_
  rintro e w' ⟨rfl, rfl⟩
  rw [H1.out]
  by_cases hx1 : x1 = 0
  · have hz : (x1 != 0) = false := by simp [hx1]
    rw [if_pos hx1] at HV
    clear hx1
    go_wp2_with fail
    refine (compareInts _ _ _).mono ?_
    rintro e w' ⟨rfl, rfl⟩
    rw [H2.out]
    by_cases hx2 : x2 = 0
    · have hz2 : (x2 != 0) = false := by simp [hx2]
      rw [if_pos hx2] at HV
      clear hx2
      go_wp2_with fail
      refine (stringsCompare _ _ _).mono ?_
      rintro e w' ⟨rfl, rfl⟩
      go_wp2_with fail
      go_ret
      exact ⟨ret_int HV.out.symm, HG.out _ _⟩
    · have hz2 : (x2 != 0) = true := by simp [hx2]
      rw [if_neg hx2] at HV
      clear hx2
      go_wp2_with fail
      go_ret
      exact ⟨ret_int HV.out.symm, HG.out _ _⟩
  · have hz : (x1 != 0) = true := by simp [hx1]
    rw [if_neg hx1] at HV
    clear hx1
    go_wp2_with fail
    go_ret
    exact ⟨ret_int HV.out.symm, HG.out _ _⟩


theorem mixed : Try.prog.follows .mixedOrders = true := by kernel_rfl

theorem compareVals_grown (a b : Val) (w : World) (n : Nat) (os : Array Obj) :
    Calls Try.prog 79 #[.agg #[.int .i64 a.kind, .int .i64 a.int, .string a.text], .agg #[.int .i64 b.kind, .int .i64 b.int, .string b.text]] (Go.Sort.grow (w.drewN n) os) fun e w' => e = .returned (.int .i64 (cmpV a b)) ∧ ∃ p : GrownBy, w' = Go.Sort.grow (w.drewN p.n) p.os :=
  Calls.grown_of ((compareVals a b _).mono fun _ _ ⟨h1, os', h2⟩ => ⟨h1, 0, os', h2⟩)

theorem below_grow (w : World) (n : Nat) (os : Array Obj) : Below w.heap.size w (Go.Sort.grow (w.drewN n) os) :=
  ⟨rfl, rfl, rfl, by show _ ≤ (Go.Sort.grow (w.drewN n) os).heap.size; rw [size_grow]; exact Nat.le_add_right _ _, fun k hk => heap_grow_old (w.drewN n) os hk⟩
theorem Elems.grow {α : Type} {sz : Nat} {cs : α → List Value} {w : World} {S : Nat → Prop} {A : Option Addr} {xs : List α} (h : Elems sz cs w S A xs) (hS : ∀ k, S k → k < w.heap.size) (n : Nat) (os : Array Obj) : Elems sz cs (Go.Sort.grow (w.drewN n) os) S A xs :=
  h.keep (Keeps.of_below (below_grow w n os) hS)
theorem grow_trans (w : World) (n m : Nat) (os os' : Array Obj) : ∃ p : GrownBy, Go.Sort.grow ((Go.Sort.grow (w.drewN n) os).drewN m) os' = Go.Sort.grow (w.drewN p.n) p.os := by
  refine ⟨⟨n + m, os ++ os'⟩, ?_⟩
  show Go.Sort.grow (Go.Sort.grow ((w.drewN n).drewN m) os) os' = _
  rw [grow_grow, World.drewN_drewN]

set_option maxRecDepth 100000 in
set_option maxHeartbeats 1000000 in
theorem cmpRows (A B : Option Addr) (c d : Nat) (a b : Row) (w : World) (S T : Nat → Prop) (hx : Elems 3 Val.cs w S A a) (hy : Elems 3 Val.cs w T B b) (hS : ∀ k, S k → k < w.heap.size) (hT : ∀ k, T k → k < w.heap.size) (hl : a.length ≤ 1000) :
    Calls Try.prog 61 #[.slice A a.length c, .slice B b.length d] w fun e w' => e = .returned (.int .i64 (cmpR a b)) ∧ ∃ p : GrownBy, w' = Go.Sort.grow (w.drewN p.n) p.os := by
  obtain ⟨m, hm⟩ : ∃ m, m = min a.length b.length := ⟨_, rfl⟩
  have hma : m ≤ a.length ∧ m ≤ b.length := by omega
  have HM : Hid (m = a.length ∨ m = b.length) := Lib.hid (by omega)
  have mixed := mixed
  go_enter Try.func61, Try.ntmps61
  go_upto_region 1 with fail
  go_cut [11, 12] from 7 to 12 (fun v z wx => v = .int .i64 m ∧ z = .int .i64 0 ∧ wx = w)
  case first =>
    have HE : Hid (min (a.length : Int) (b.length : Int) = (m : Int)) := Lib.hid (by omega)
    clear hm hma
    go_wp2_with fail
    go_meet
    exact ⟨val_int HE.out, rfl, rfl⟩
  case rest =>
    obtain ⟨rfl, rfl, rfl⟩ := hcut
    clear hm
    have HX := Lib.hid hx
    have HY := Lib.hid hy
    have HS := Lib.hid hS
    have HT := Lib.hid hT
    clear hx hy hS hT
    go_wp2_with fail
    go_loopw [12] (fun vi wr => ∃ k : Nat, vi = .int .i64 k ∧ k ≤ m ∧ cmpR a b = cmpR (a.drop k) (b.drop k) ∧ ∃ p : GrownBy, wr = Go.Sort.grow (wc.drewN p.n) p.os) (fun vi _ => m - (intOf vi).toNat)
    case atStart => exact ⟨0, rfl, Nat.zero_le _, rfl, ⟨0, #[]⟩, (grow_empty wc).symm⟩
    case round =>
      obtain ⟨k, rfl, hk, he, ⟨pn, po⟩, rfl⟩ := hrel
      have HE := Lib.hid he
      have hx := HX.out.grow HS.out pn po
      have hy := HY.out.grow HT.out pn po
      have HG : Hid (∀ m os', ∃ p : GrownBy, Go.Sort.grow ((Go.Sort.grow (wc.drewN pn) po).drewN m) os' = Go.Sort.grow (wc.drewN p.n) p.os) := Lib.hid fun m os' => grow_trans wc pn m po os'
      have hsz := (below_grow wc pn po).size
      have HW : Hid (∃ p : GrownBy, Go.Sort.grow (wc.drewN pn) po = Go.Sort.grow (wc.drewN p.n) p.os) := Lib.hid ⟨⟨pn, po⟩, rfl⟩
      simp only at hx hy HG hsz ⊢
      generalize Go.Sort.grow (wc.drewN pn) po = wr at *
      clear he
      by_cases hlt : k < m
      · have hka : k < a.length := by omega
        have hkb : k < b.length := by omega
        obtain ⟨ba, oa, rfl, hba, -⟩ := hx.val hka
        obtain ⟨bb, ob, rfl, hbb, -⟩ := hy.val hkb
        have cj := fun q os => (hx.grow (fun k hk => Nat.lt_of_lt_of_le (HS.out k hk) hsz) q os).val hka
        have cp := fun q os => (hy.grow (fun k hk => Nat.lt_of_lt_of_le (HT.out k hk) hsz) q os).val hkb
        have cj' : ∀ q os, (Go.Sort.grow (wr.drewN q) os).cell? ⟨ba, oa + k * 3, none⟩ = some (.int .i64 a[k].kind) ∧ (Go.Sort.grow (wr.drewN q) os).cell? ⟨ba, oa + k * 3 + 1, none⟩ = some (.int .i64 a[k].int) ∧ (Go.Sort.grow (wr.drewN q) os).cell? ⟨ba, oa + k * 3 + 2, none⟩ = some (.string a[k].text) := fun q os => by
          obtain ⟨b', o', e, _, h⟩ := cj q os
          injection e with e
          injection e with e1 e2
          subst e1 e2
          exact h
        have cp' : ∀ q os, (Go.Sort.grow (wr.drewN q) os).cell? ⟨bb, ob + k * 3, none⟩ = some (.int .i64 b[k].kind) ∧ (Go.Sort.grow (wr.drewN q) os).cell? ⟨bb, ob + k * 3 + 1, none⟩ = some (.int .i64 b[k].int) ∧ (Go.Sort.grow (wr.drewN q) os).cell? ⟨bb, ob + k * 3 + 2, none⟩ = some (.string b[k].text) := fun q os => by
          obtain ⟨b', o', e, _, h⟩ := cp q os
          injection e with e
          injection e with e1 e2
          subst e1 e2
          exact h
        have c0 := fun q os => (cj' q os).1
        have c1 := fun q os => (cj' q os).2.1
        have c2 := fun q os => (cj' q os).2.2
        have d0 := fun q os => (cp' q os).1
        have d1 := fun q os => (cp' q os).2.1
        have d2 := fun q os => (cp' q os).2.2
        have HC := Lib.hid fun q os => compareVals_grown a[k] b[k] wr q os
        have HR := Lib.hid (cmpR_drop hka hkb)
        have y1 : (k : Int) < (a.length : Int) := by omega
        have y2 : (k : Int) < (b.length : Int) := by omega
        clear cj cp cj' cp' hx hy
        generalize a[k] = av at *
        generalize b[k] = bv at *
        go_wp2_with fail
        go_quiet_grown (first | (go_at_call 79; exact HC.out _ _))
        have hw := HG.out (GrownBy.n ⟨nq, osq⟩) (GrownBy.os ⟨nq, osq⟩)
        have HWQ : Hid (∃ p : GrownBy, Go.Sort.grow (wr.drewN (GrownBy.n ⟨nq, osq⟩)) (GrownBy.os ⟨nq, osq⟩) = Go.Sort.grow (wc.drewN p.n) p.os) := Lib.hid hw
        generalize Go.Sort.grow (wr.drewN (GrownBy.n ⟨nq, osq⟩)) (GrownBy.os ⟨nq, osq⟩) = wq at hw HWQ ⊢
        clear c0 c1 c2 d0 d1 d2 HC hw HG
        generalize hcv : cmpV av bv = cv at *
        by_cases hz : cv = 0
        · rw [if_pos hz] at HR
          have y7 : (cv != 0) = false := by simp [hz]
          clear hz
          go_wp2_with fail
          go_roundw
          case rel => exact ⟨k + 1, by go_num, by omega, HE.out.trans HR.out, HWQ.out⟩
          case measure => simp [intOf]; omega
        · rw [if_neg hz] at HR
          have y7 : (cv != 0) = true := by simp [hz]
          clear hz
          go_wp2_with fail
          go_ret
          exact ⟨ret_int (HE.out.trans HR.out).symm, HWQ.out⟩
      · have hkm : k = m := by omega
        subst hkm
        have HR := Lib.hid (cmpR_end HM.out hma.1 hma.2)
        clear hx hy
        go_wp2_with fail
        refine (compareInts _ _ _).mono ?_
        rintro e w' ⟨rfl, rfl⟩
        go_wp2_with fail
        go_ret
        exact ⟨ret_int (HE.out.trans HR.out).symm, HW.out⟩

end Go.Proofs.Ytjdcnkbkbcfhfaa

namespace Go.Proofs.Ytjdcnkbkbcfhfaa
open Go.RowKit

/-- A row's header and what it reads as. -/
structure Key where
  A : Option Addr
  c : Nat
  row : Row
def Key.cs (k : Key) : List Value := [.slice k.A k.row.length k.c]
/-- An entry: key and integer. -/
structure Ent where
  key : Key
  val : Int
def Ent.cs (e : Ent) : List Value := [.slice e.key.A e.key.row.length e.key.c, .int .i64 e.val]
theorem keyLay : Lay 1 Key.cs := ⟨fun _ => rfl, fun x c hc => by simp [Key.cs] at hc; subst hc; rfl⟩
theorem entLay : Lay 2 Ent.cs := ⟨fun _ => rfl, fun x c hc => by simp [Ent.cs] at hc; rcases hc with rfl | rfl <;> rfl⟩

/-- The row lies in blocks of K. -/
structure KOk (K : Nat → Prop) (w : World) (k : Key) : Prop where
  el : Elems 3 Val.cs w K k.A k.row
  len : k.row.length ≤ 12
theorem KOk.keep {K : Nat → Prop} {w w' : World} {k : Key} (h : KOk K w k) (hk : Keeps K w w') : KOk K w' k := ⟨h.el.keep hk, h.len⟩
theorem KOk.more {K K' : Nat → Prop} {w : World} {k : Key} (h : KOk K w k) (hk : ∀ i, K i → K' i) : KOk K' w k := ⟨h.el.more hk, h.len⟩

theorem Elems.key {w : World} {S : Nat → Prop} {A : Option Addr} {r : List Key} {k : Nat} (h : Elems 1 Key.cs w S A r) (hk : k < r.length) :
    ∃ b off, A = some ⟨b, off, none⟩ ∧ S b ∧ w.cell? ⟨b, off + k, none⟩ = some (.slice r[k].A r[k].row.length r[k].c) := by
  obtain ⟨b, off, e, hb, hc⟩ := h.at_ hk
  exact ⟨b, off, e, hb, by simpa using hc 0 _ rfl⟩
theorem Elems.ent {w : World} {S : Nat → Prop} {A : Option Addr} {r : List Ent} {k : Nat} (h : Elems 2 Ent.cs w S A r) (hk : k < r.length) :
    ∃ b off, A = some ⟨b, off, none⟩ ∧ S b ∧ w.cell? ⟨b, off + k * 2, none⟩ = some (.slice r[k].key.A r[k].key.row.length r[k].key.c) ∧ w.cell? ⟨b, off + k * 2 + 1, none⟩ = some (.int .i64 r[k].val) := by
  obtain ⟨b, off, e, hb, hc⟩ := h.at_ hk
  exact ⟨b, off, e, hb, hc 0 _ rfl, hc 1 _ rfl⟩

section
variable {α : Type}
/-- The search's state. -/
structure Bin (lt : Nat → Prop) (n i j : Nat) : Prop where
  le : i ≤ j ∧ j ≤ n
  lo : ∀ k, k < i → lt k
  hi : ∀ k, j ≤ k → k < n → ¬ lt k
theorem Bin.first (lt : Nat → Prop) (n : Nat) : Bin lt n 0 n := ⟨⟨Nat.zero_le _, Nat.le_refl _⟩, fun k h => by omega, fun k h1 h2 => by omega⟩
theorem Bin.up {lt : Nat → Prop} {n i j h : Nat} (B : Bin lt n i j) (hm : ∀ a b, a < b → b < n → lt b → lt a) (hh : i ≤ h ∧ h < j) (hl : lt h) : Bin lt n (h + 1) j := by
  obtain ⟨l1, l2⟩ := B.le
  refine ⟨⟨by omega, l2⟩, fun k hk => ?_, B.hi⟩
  by_cases hkh : k = h
  · rw [hkh]; exact hl
  · exact hm k h (by omega) (by omega) hl
theorem Bin.down {lt : Nat → Prop} {n i j h : Nat} (B : Bin lt n i j) (hm : ∀ a b, a < b → b < n → lt b → lt a) (hh : i ≤ h ∧ h < j) (hl : ¬ lt h) : Bin lt n i h := by
  obtain ⟨l1, l2⟩ := B.le
  refine ⟨⟨hh.1, by omega⟩, B.lo, fun k hk hkn => ?_⟩
  by_cases hkh : k = h
  · rw [hkh]; exact hl
  · exact fun h2 => hl (hm h k (by omega) hkn h2)

/-- Where t goes among xs. -/
structure At (row : α → Row) (xs : List α) (t : Row) (i : Nat) (fnd : Bool) : Prop where
  le : i ≤ xs.length
  lo : ∀ x ∈ xs.take i, rl (row x) t
  hi : ∀ x ∈ xs.drop i, ¬ rl (row x) t
  eq : fnd = true ↔ ∃ x r, xs.drop i = x :: r ∧ row x = t
def LtAt (row : α → Row) (xs : List α) (t : Row) (k : Nat) : Prop := ∃ x, xs[k]? = some x ∧ rl (row x) t
theorem LtAt.mono {row : α → Row} {xs : List α} {t : Row} (hs : xs.Pairwise fun a b => rl (row a) (row b)) : ∀ a b, a < b → b < xs.length → LtAt row xs t b → LtAt row xs t a := by
  rintro a b hab hb ⟨x, hx, hl⟩
  have ha : a < xs.length := by omega
  rw [List.getElem?_eq_getElem hb] at hx
  injection hx with hx
  subst hx
  exact ⟨xs[a], List.getElem?_eq_getElem ha, rl_trans (List.pairwise_iff_getElem.1 hs a b ha hb hab) hl⟩
theorem LtAt.iff {row : α → Row} {xs : List α} {t : Row} {k : Nat} (hk : k < xs.length) : LtAt row xs t k ↔ rl (row xs[k]) t := by
  constructor
  · rintro ⟨x, hx, h⟩
    rw [List.getElem?_eq_getElem hk] at hx
    injection hx with hx
    subst hx
    exact h
  · exact fun h => ⟨_, List.getElem?_eq_getElem hk, h⟩
theorem Bin.at_ {row : α → Row} {xs : List α} {t : Row} {i : Nat} {fnd : Bool} (B : Bin (LtAt row xs t) xs.length i i) (hf : fnd = true ↔ ∃ h : i < xs.length, row xs[i] = t) : At row xs t i fnd := by
  obtain ⟨_, l2⟩ := B.le
  refine ⟨l2, fun x hx => ?_, fun x hx => ?_, ?_⟩
  · obtain ⟨k, hk, rfl⟩ := List.getElem_of_mem hx
    rw [List.length_take] at hk
    rw [List.getElem_take]
    exact (LtAt.iff (by omega)).1 (B.lo k (by omega))
  · obtain ⟨k, hk, rfl⟩ := List.getElem_of_mem hx
    rw [List.length_drop] at hk
    rw [List.getElem_drop]
    exact fun h => B.hi (i + k) (by omega) (by omega) ((LtAt.iff (by omega)).2 h)
  · rw [hf]
    constructor
    · rintro ⟨h, e⟩
      exact ⟨xs[i], xs.drop (i + 1), List.drop_eq_getElem_cons h, e⟩
    · rintro ⟨x, r, h, e⟩
      have hi : i < xs.length := by
        rcases Nat.lt_or_ge i xs.length with h' | h'
        · exact h'
        · rw [List.drop_eq_nil_of_le h'] at h
          cases h
      rw [List.drop_eq_getElem_cons hi] at h
      injection h with h _
      exact ⟨hi, by rw [h]; exact e⟩
/-- What BinarySearchFunc leaves. -/
def BsPost (w : World) (row : α → Row) (xs : List α) (t : Row) (e : Ending) (w' : World) : Prop := ∃ (i : Nat) (fnd : Bool), e = .returned (.tuple #[.int .i64 i, .bool fnd]) ∧ At row xs t i fnd ∧ Below w.heap.size w w'
end

end Go.Proofs.Ytjdcnkbkbcfhfaa
