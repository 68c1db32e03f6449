/-
  Slices of the call's own: one element laid between others, one taken out: the plain part. No program in sight.
-/
import Derived.Test.YtefifkleamiabaaSl
namespace Go.Proofs.Ytefifkleamiabaa
open Go.RowKit

section
variable {α : Type} {sz : Nat} {cs : α → List Value}

theorem tk_mid (L : Lay sz cs) {C : List Value} {xs : List α} (ht : C.take (xs.length * sz) = xs.flatMap cs) {i : Nat} (hi : i ≤ xs.length) :
    C.take (i * sz) = (xs.take i).flatMap cs ∧ (C.drop (i * sz)).take ((xs.length - i) * sz) = (xs.drop i).flatMap cs := by
  have hm : i * sz ≤ xs.length * sz := Nat.mul_le_mul_right _ hi
  refine ⟨?_, ?_⟩
  · rw [← flat_take L, ← ht, List.take_take, Nat.min_eq_left hm]
  · rw [← flat_drop L, ← ht, List.drop_take, Nat.sub_mul]

/-- The cells after both stores, in either order. -/
theorem put_ins (L : Lay sz cs) {xs : List α} {y : α} {cur : Array Value} {i : Nat} (h1 : cur.toList.take (i * sz) = (xs.take i).flatMap cs) (hi : i ≤ xs.length) (hs : (xs.length + 1) * sz ≤ cur.size) :
    (putL (putL cur ((i + 1) * sz) ((xs.drop i).flatMap cs)) (i * sz) (cs y)).toList.take ((xs.length + 1) * sz) = (xs.take i ++ y :: xs.drop i).flatMap cs
    ∧ (putL (putL cur (i * sz) (cs y)) ((i + 1) * sz) ((xs.drop i).flatMap cs)).toList.take ((xs.length + 1) * sz) = (xs.take i ++ y :: xs.drop i).flatMap cs := by
  have hly := L.len y
  have e1 : (i + 1) * sz = i * sz + sz := Nat.succ_mul _ _
  have e2 : (xs.length + 1) * sz = xs.length * sz + sz := Nat.succ_mul _ _
  have hm : i * sz ≤ xs.length * sz := Nat.mul_le_mul_right _ hi
  have hld : ((xs.drop i).flatMap cs).length = xs.length * sz - i * sz := by rw [flat_len L, List.length_drop, Nat.sub_mul]
  have hlt : (cur.toList.take (i * sz)).length = i * sz := by rw [List.length_take, Array.length_toList]; omega
  have hls : cur.toList.length = cur.size := Array.length_toList
  have eR : (xs.take i ++ y :: xs.drop i).flatMap cs = cur.toList.take (i * sz) ++ (cs y ++ (xs.drop i).flatMap cs) := by
    rw [List.flatMap_append, List.flatMap_cons, h1]
  rw [eR]
  clear eR h1
  generalize (xs.drop i).flatMap cs = D at *
  generalize hY : cs y = Y at *
  generalize xs.length * sz = m at *
  generalize i * sz = p at *
  constructor
  · rw [putL_list (by rw [putL_size]; omega), putL_list (by omega)]
    have a1 : (List.take (((i + 1) * sz)) cur.toList ++ D ++ List.drop ((i + 1) * sz + D.length) cur.toList).take p = cur.toList.take p := by
      rw [List.append_assoc, List.take_append_of_le_length (by rw [List.length_take]; omega), List.take_take, Nat.min_eq_left (by omega)]
    have a2 : (List.take (((i + 1) * sz)) cur.toList ++ D ++ List.drop ((i + 1) * sz + D.length) cur.toList).drop (p + Y.length) = D ++ List.drop ((i + 1) * sz + D.length) cur.toList := by
      rw [List.append_assoc, List.drop_append, List.drop_of_length_le (by rw [List.length_take]; omega), List.nil_append]
      have : p + Y.length - (List.take ((i + 1) * sz) cur.toList).length = 0 := by rw [List.length_take]; omega
      rw [this, List.drop_zero]
    rw [a1, a2, List.append_assoc, ← List.append_assoc Y, ← List.append_assoc _ (Y ++ D), List.take_left' (by simp only [List.length_append]; omega)]
  · rw [putL_list (by rw [putL_size]; omega), putL_list (by omega)]
    have a1 : (List.take p cur.toList ++ Y ++ List.drop (p + Y.length) cur.toList).take ((i + 1) * sz) = cur.toList.take p ++ Y := by
      rw [List.take_left' (by simp only [List.length_append]; omega)]
    rw [a1, List.append_assoc _ Y D, List.take_left' (by simp only [List.length_append]; omega)]

/-- The cells after one element is taken out and one place is cleared. -/
theorem put_del (L : Lay sz cs) {xs : List α} {cur : Array Value} {i : Nat} {vs : List Value} (ht : cur.toList.take (xs.length * sz) = xs.flatMap cs) (hi : i < xs.length) (hs : xs.length * sz ≤ cur.size) (hv : vs.length = 1 * sz) :
    (putL (putL cur (i * sz) ((xs.drop (i + 1)).flatMap cs)) ((xs.length - 1) * sz) vs).toList.take ((xs.length - 1) * sz) = (xs.take i ++ xs.drop (i + 1)).flatMap cs := by
  have h1 := (tk_mid L ht (Nat.le_of_lt hi)).1
  have e1 : (i + 1) * sz = i * sz + sz := Nat.succ_mul _ _
  have e2 : xs.length * sz = (xs.length - 1) * sz + sz := by
    conv => lhs; rw [show xs.length = (xs.length - 1) + 1 from by omega]
    exact Nat.succ_mul _ _
  have hm : (i + 1) * sz ≤ xs.length * sz := Nat.mul_le_mul_right _ hi
  have hld : ((xs.drop (i + 1)).flatMap cs).length = xs.length * sz - (i + 1) * sz := by rw [flat_len L, List.length_drop, Nat.sub_mul]
  have hls : cur.toList.length = cur.size := Array.length_toList
  rw [List.flatMap_append, ← h1]
  clear h1 ht
  generalize (xs.drop (i + 1)).flatMap cs = D at *
  generalize xs.length * sz = m at *
  generalize (xs.length - 1) * sz = m1 at *
  generalize i * sz = p at *
  have hlt : (cur.toList.take p).length = p := by rw [List.length_take]; omega
  rw [putL_list (by rw [putL_size]; omega), List.append_assoc, List.take_append_of_le_length (by rw [List.length_take, Array.length_toList, putL_size]; omega), List.take_take, Nat.min_self, putL_list (by omega), List.take_left' (by simp only [List.length_append]; omega)]

variable {e : TypeId} {w : World} {g c : Nat} {cur : Array Value}

theorem own_ins_in (L : Lay sz cs) {xs : List α} {y : α} (hg : w.heap[g]? = some (.cells cur e (0, 0))) (hc : xs.length + 1 ≤ c) (hm : c ≤ maxLen) (hs : cur.size = c * sz) (ht : cur.toList.take (xs.length * sz) = xs.flatMap cs) {i : Nat} (hi : i ≤ xs.length) :
    Own sz cs e 0 ((w.drew.setCells g ((i + 1) * sz) ((xs.drop i).flatMap cs)).setCells g (i * sz) (cs y)) (.slice (some ⟨g, 0, none⟩) (xs.length + 1) c) (xs.take i ++ y :: xs.drop i)
    ∧ Ext w (.slice (some ⟨g, 0, none⟩) xs.length c) ((w.drew.setCells g ((i + 1) * sz) ((xs.drop i).flatMap cs)).setCells g (i * sz) (cs y)) (.slice (some ⟨g, 0, none⟩) (xs.length + 1) c) := by
  have hcs : (xs.length + 1) * sz ≤ cur.size := by rw [hs]; exact Nat.mul_le_mul_right _ hc
  refine ⟨Own.shut (cur := putL (putL cur ((i + 1) * sz) ((xs.drop i).flatMap cs)) (i * sz) (cs y)) L (Nat.zero_le _) (heap_setCells_eq _ _ _ _ (heap_setCells_eq _ _ _ _ hg)) (by simp; omega) hc hm (by rw [putL_size, putL_size, hs]) ?_, ⟨?_, .inl rfl⟩⟩
  · exact (put_ins L (tk_mid L ht hi).1 hi hcs).1
  · exact grown_setCells (grown_setCells (grown_drew' (World.grownBy.refl w _)) _ _) _ _

theorem own_ins_grow (L : Lay sz cs) {xs : List α} {y : α} {A : Option Addr} {n0 c0 : Nat} {i : Nat} (hc : xs.length + 1 ≤ c) (hm : c ≤ maxLen) (hs : cur.size = c * sz) (h1 : cur.toList.take (i * sz) = (xs.take i).flatMap cs) (hi : i ≤ xs.length) :
    Own sz cs e 0 ((((w.drew.alloc (.cells cur e)).setCells w.heap.size (i * sz) (cs y)).drew).setCells w.heap.size ((i + 1) * sz) ((xs.drop i).flatMap cs)) (.slice (some ⟨w.heap.size, 0, none⟩) (xs.length + 1) c) (xs.take i ++ y :: xs.drop i)
    ∧ Ext w (.slice A n0 c0) ((((w.drew.alloc (.cells cur e)).setCells w.heap.size (i * sz) (cs y)).drew).setCells w.heap.size ((i + 1) * sz) ((xs.drop i).flatMap cs)) (.slice (some ⟨w.heap.size, 0, none⟩) (xs.length + 1) c) := by
  have hcs : (xs.length + 1) * sz ≤ cur.size := by rw [hs]; exact Nat.mul_le_mul_right _ hc
  have hg : (w.drew.alloc (.cells cur e)).heap[w.heap.size]? = some (.cells cur e (0, 0)) := heap_alloc_new w.drew _
  refine ⟨Own.shut (cur := putL (putL cur (i * sz) (cs y)) ((i + 1) * sz) ((xs.drop i).flatMap cs)) L (Nat.zero_le _) (heap_setCells_eq _ _ _ _ (heap_setCells_eq _ _ _ _ hg)) (by simp; omega) hc hm (by rw [putL_size, putL_size, hs]) ?_, ⟨?_, .inr ⟨_, rfl, Nat.le_refl _⟩⟩⟩
  · exact (put_ins L h1 hi hcs).2
  · have hb : Below w.heap.size w (w.drew.alloc (.cells cur e)) := (Below.refl _ _).drew.alloc (Nat.le_refl _) _
    have hx := (Ext.of_below hb (.slice A n0 c0)).grown
    have hsz : w.heap.size < (w.drew.alloc (.cells cur e)).heap.size := by have := size1 w.drew (.cells cur e); have h2 : w.drew.heap.size = w.heap.size := rfl; omega
    refine ⟨?_, ?_, ?_, ?_, ?_⟩
    · exact ((setCells_rest _ _ _ _).1.trans (setCells_rest _ _ _ (w.drew.alloc (.cells cur e))).1)
    · exact ((setCells_rest _ _ _ _).2.1.trans (setCells_rest _ _ _ (w.drew.alloc (.cells cur e))).2.1)
    · exact ((setCells_rest _ _ _ _).2.2.trans (setCells_rest _ _ _ (w.drew.alloc (.cells cur e))).2.2)
    · rw [setCells_size]
      show _ ≤ (World.setCells _ _ _ _).heap.size
      rw [setCells_size]
      exact Nat.le_of_lt hsz
    · intro k hk _
      rw [heap_setCells_ne (by omega)]
      show (World.setCells _ _ _ _).heap[k]? = _
      rw [heap_setCells_ne (by omega)]
      exact hb.block k hk

theorem own_del (L : Lay sz cs) {xs : List α} (hg : w.heap[g]? = some (.cells cur e (0, 0))) (hc : xs.length ≤ c) (hm : c ≤ maxLen) (hs : cur.size = c * sz) (ht : cur.toList.take (xs.length * sz) = xs.flatMap cs) {i : Nat} (hi : i < xs.length) {vs : List Value} (hv : vs.length = 1 * sz) {n1 : Nat} (hn1 : n1 = xs.length - 1) :
    Own sz cs e 0 ((w.drew.setCells g (i * sz) ((xs.drop (i + 1)).flatMap cs)).setCells g (n1 * sz) vs) (.slice (some ⟨g, 0, none⟩) n1 c) (xs.take i ++ xs.drop (i + 1))
    ∧ Ext w (.slice (some ⟨g, 0, none⟩) xs.length c) ((w.drew.setCells g (i * sz) ((xs.drop (i + 1)).flatMap cs)).setCells g (n1 * sz) vs) (.slice (some ⟨g, 0, none⟩) n1 c) := by
  subst hn1
  have hcs : xs.length * sz ≤ cur.size := by rw [hs]; exact Nat.mul_le_mul_right _ hc
  refine ⟨Own.shut (cur := putL (putL cur (i * sz) ((xs.drop (i + 1)).flatMap cs)) ((xs.length - 1) * sz) vs) L (Nat.zero_le _) (heap_setCells_eq _ _ _ _ (heap_setCells_eq _ _ _ _ hg)) (by simp; omega) (by omega) hm (by rw [putL_size, putL_size, hs]) ?_, ⟨?_, .inl rfl⟩⟩
  · exact put_del L ht hi hcs hv
  · exact grown_setCells (grown_setCells (grown_drew' (World.grownBy.refl w _)) _ _) _ _
end

end Go.Proofs.Ytefifkleamiabaa
