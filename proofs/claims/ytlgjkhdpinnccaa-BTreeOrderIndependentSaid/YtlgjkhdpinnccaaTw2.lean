/-
  The walk of split at a leaf.
-/
import Derived.Test.YtlgjkhdpinnccaaTw1
import Derived.Test.YtlgjkhdpinnccaaTv
import Derived.Deep.QuietTactic
import Derived.BigQuiet
namespace Go.Proofs.Ytlgjkhdpinnccaa
open Go.RowKit Go.Sort

theorem nodeNil (w : World) (i : Nat) : Fld i ⟨[], [], []⟩ w (.slice none 0 0) := by
  rcases i with _ | _ | i <;> exact Own.nil w

/-- The part behind m of an own slice, as elements. -/
theorem own_drop {α : Type} {sz : Nat} {cs : α → List Value} {e : TypeId} {w : World} {g n c m : Nat} {xs : List α} (L : Lay sz cs) (h : Own sz cs e 0 w (.slice (some ⟨g, 0, none⟩) n c) xs) (hm : m < n) (hn : n = xs.length) (hc : n ≤ c) :
    Elems sz cs w (· < w.heap.size) (some ⟨g, m * sz, none⟩) (xs.drop m) := by
  have h1 := (h.elems L.len rfl).cut (k := m) (c := c) (by omega) (by omega)
  rw [if_neg (by omega)] at h1
  have e1 : (some (⟨g, 0, none⟩ : Addr)).map (·.add (m * sz)) = some ⟨g, m * sz, none⟩ := by
    show some (Addr.add ⟨g, 0, none⟩ (m * sz)) = _
    rw [Addr.add_lit, Nat.zero_add]
  rw [e1] at h1
  exact h1.more fun k hk => (Own.lt h k hk).2

theorem same0 {xs ys : List Ent} {ks : List Key} {cs : List Nat} : ∀ j, j < 3 → j ≠ 0 → ∀ w v, Fld j ⟨xs, ks, cs⟩ w v → Fld j ⟨ys, ks, cs⟩ w v := fun j _ hj w v h => by
  rcases j with _ | _ | j
  · exact absurd rfl hj
  · exact h
  · exact h
theorem same1 {xs : List Ent} {ks ks' : List Key} {cs : List Nat} : ∀ j, j < 3 → j ≠ 1 → ∀ w v, Fld j ⟨xs, ks, cs⟩ w v → Fld j ⟨xs, ks', cs⟩ w v := fun j _ hj w v h => by
  rcases j with _ | _ | j
  · exact h
  · exact absurd rfl hj
  · exact h
theorem same2 {xs : List Ent} {ks : List Key} {cs cs' : List Nat} : ∀ j, j < 3 → j ≠ 2 → ∀ w v, Fld j ⟨xs, ks, cs⟩ w v → Fld j ⟨xs, ks, cs'⟩ w v := fun j hj hj' w v h => by
  rcases j with _ | _ | _ | j
  · exact h
  · exact h
  · exact absurd rfl hj'
  · omega

/-- A leaf is split: the new node b, the entry x whose key parts them. -/
def SplitLeaf (w : World) (M : Nodes) (O : Own') (a : Nat) (es : List Ent) (e : Ending) (w' : World) : Prop :=
  ∃ (b : Nat) (x : Ent) (M' : Nodes) (O' : Own'), e = .returned (.tuple #[ptr b, .slice x.key.A x.key.row.length x.key.c]) ∧ es[es.length / 2]? = some x ∧ St w O w' M' O'
    ∧ M' a = some ⟨es.take (es.length / 2), [], []⟩ ∧ M' b = some ⟨es.drop (es.length / 2), [], []⟩ ∧ (∀ y, y ≠ a → y ≠ b → M' y = M y) ∧ w.heap.size ≤ b ∧ KOk (fun k => O' k = .row) w' x.key

set_option maxRecDepth 100000 in
set_option maxHeartbeats 2000000 in
theorem splitLeafW (a : Nat) (es : List Ent) (w : World) (M : Nodes) (O : Own') (hs : Store w M O) (ha : M a = some ⟨es, [], []⟩) (h2 : 2 ≤ es.length) (hl : es.length ≤ 40) :
    Calls Try.prog 32 #[ptr a] w (SplitLeaf w M O a es) := by
  obtain ⟨V, hV⟩ := hs.at_ a _ ha
  obtain ⟨A0, c0, A1, c1, A2, c2, e0, e1, e2, h0, h1, hc2, hfr, o0, o1, o2⟩ := hV.cells
  obtain ⟨g, c, cur, hv, -, hg, hcl, hcm, -, -⟩ := o0.open_ (by show 0 < es.length; omega)
  injection hv with hv1 _ hv2
  subst hv1 hv2
  simp only at h0 hc2 o0 hcl
  obtain ⟨m, hm⟩ : ∃ m, m = es.length / 2 := ⟨_, rfl⟩
  obtain ⟨n, hn⟩ : ∃ n, n = es.length := ⟨_, rfl⟩
  rw [← hn] at h0 o0 hcl
  have hmn : 1 ≤ m ∧ m < n := by omega
  have hdiv : (n : Int) / 2 = (m : Int) := by omega
  have hal := hs.lt ha
  -- the new node
  obtain ⟨b, hb⟩ : ∃ b, b = w.heap.size := ⟨_, rfl⟩
  obtain ⟨w1, hw1⟩ : ∃ w1, w1 = w.alloc (.cells #[.slice none 0 0, .slice none 0 0, .slice none 0 0] 70) := ⟨_, rfl⟩
  have hS1 : St w O w1 M O := by rw [hw1]; exact (St.refl hs).alloc _
  have hb1 : w1.heap[b]? = some (.cells #[.slice none 0 0, .slice none 0 0, .slice none 0 0] 70 (0, 0)) := by rw [hw1, hb]; exact heap_alloc_new w _
  obtain ⟨O1, hS1, hNb, -, hO1, -⟩ := hS1.fresh (a := b) (n := ⟨[], [], []⟩) (V := fun _ => .slice none 0 0) hb1 ⟨hs.free b (by omega), by omega⟩ (fun i _ => nodeNil _ _) (fun i _ g hg => by cases hg) (fun i j g _ _ hg _ => by cases hg) (fun e he => by cases he) (fun k hk => by cases hk)
  subst hb
  have hba : ¬ w.heap.size = a := by omega
  have hab : ¬ a = w.heap.size := by omega
  have hNa : NodeAt w1 O1 a ⟨es, [], []⟩ V := hV.below hs.free (by rw [hw1]; exact (Below.refl _ _).alloc (Nat.le_refl _) _) hO1
  have c10 := hNa.cell (i := 0) (by omega) e0
  have c12 := hNa.cell (i := 2) (by omega) e2
  have o10 : Own 2 Ent.cs 45 0 w1 (.slice (some ⟨g, 0, none⟩) n c0) es := by
    have := hNa.fld 0 (by omega)
    rw [e0, ← hn] at this
    exact this
  simp only [← hn] at c10
  simp only [List.length_nil] at c12 hc2
  have HFL := Lib.hid (fillW a w _ A2 n c0 0 c2 h0 hc2)
  have HLF := Lib.hid (leafW a w1 A2 0 c2 c12)
  have HC1 := Lib.hid (cloneEnt (some ⟨g, m * 2, none⟩) (n - m) (c0 - m) (es.drop m) w1 (· < w1.heap.size) (own_drop entLay o10 hmn.2 hn hcl) (fun _ h => h) (by rw [List.length_drop, hn]) (by rw [List.length_drop]; omega))
  have HW1 := Lib.hid hw1
  have hcm0 : ¬ (c0 = m) := by omega
  have hmc : (m : Int) ≤ (n : Int) := by omega
  have hmc2 : (m : Int) ≤ (c0 : Int) := by omega
  have hnl : n ≤ 40 := by omega
  have hml : m ≤ 40 := by omega
  have HN := Lib.hid hn
  have HM := Lib.hid hm
  clear hw1 hn hm
  go_enter Try.func32, Try.ntmps32
  go_wp2_with fail
  refine HFL.out.mono ?_
  rintro e w' ⟨rfl, rfl⟩
  go_wp2_with fail
  rw [← HW1.out]
  refine HLF.out.mono ?_
  rintro e w' ⟨rfl, rfl⟩
  go_wp2_with fail
  refine HC1.out.mono ?_
  rintro e w2 ⟨v1, rfl, ho2, hb2⟩
  obtain ⟨g1, k1, cur1, rfl, hg1b, hg1, hk1, hk1m, hs1, ht1⟩ := ho2.open_ (by rw [List.length_drop, ← HN.out]; omega)
  have hlen1 : (es.drop m).length = n - m := by rw [List.length_drop, HN.out]
  rw [hlen1] at ho2 hk1
  have hal1 : a < w1.heap.size := hS1.store.lt ((upd_ne hab).trans ha)
  have hbl1 : w.heap.size < w1.heap.size := hS1.store.lt (upd_same _ _ _)
  have c2a := (hb2.cell (p := ⟨a, 0, none⟩) hal1).trans c10
  have c2b : w2.cell? ⟨w.heap.size, 0, none⟩ = some (.slice none 0 0) := (hb2.cell (p := ⟨w.heap.size, 0, none⟩) hbl1).trans (hNb.cell (i := 0) (by omega) rfl)
  have f2b := (hb2.frozen (p := ⟨w.heap.size, 0, none⟩) hbl1).trans (hNb.frozen 0)
  have hl1 : ∀ k, (Value.slice (some ⟨g1, 0, none⟩) (n - m) k1).ownBlock = some k → w1.heap.size ≤ k := fun k hk => (Own.lt ho2 k hk).1
  obtain ⟨hS3, hNb3⟩ := hS1.field_new (n' := ⟨es.drop m, [], []⟩) (upd_same _ _ _) hNb (i := 0) (by omega) hb2 (ho2.mono (Nat.zero_le _)) hl1 same0 (fun e he => hNa.rowe e (List.mem_of_mem_drop he)) (fun k hk => by cases hk)
  have hNa3 := hNb.other_new hNa hab hS1.store.free (i := 0) hb2 hl1
  have o30 : Own 2 Ent.cs 45 0 (w2.setCell ⟨w.heap.size, 0, none⟩ (.slice (some ⟨g1, 0, none⟩) (n - m) k1)) (.slice (some ⟨g, 0, none⟩) n c0) es := by
    have := hNa3.fld 0 (by omega)
    rw [e0] at this
    simp only [← HN.out] at this
    exact this
  have HC2 := Lib.hid (cloneEnt (some ⟨g, 0, none⟩) m c0 (es.take m) _ _ (((o30.elems entLay.len rfl).take m).more fun k hk => (Own.lt o30 k hk).2) (fun _ h => h) (by rw [List.length_take, HM.out]; omega) (by rw [List.length_take]; omega))
  clear HC1 HLF HFL HW1
  go_wp2_with fail
  refine HC2.out.mono ?_
  rintro e w4 ⟨v2, rfl, ho4, hb4⟩
  have hlen2 : (es.take m).length = m := by rw [List.length_take, ← HN.out]; omega
  obtain ⟨g2, k2, cur2, rfl, hg2b, hg2, hk2, hk2m, hs2, ht2⟩ := ho4.open_ (by omega)
  rw [hlen2] at ho4 hk2
  have hl2 : ∀ k, (Value.slice (some ⟨g2, 0, none⟩) m k2).ownBlock = some k → _ ≤ k := fun k hk => (Own.lt ho4 k hk).1
  obtain ⟨hS5, hNa5⟩ := hS3.field_new (n' := ⟨es.take m, [], []⟩) ((upd_ne hab).trans ((upd_ne hab).trans ha)) hNa3 (i := 0) (by omega) hb4 (ho4.mono (Nat.zero_le _)) hl2 same0 (fun e he => hNa3.rowe e (List.mem_of_mem_take he)) (fun k hk => by cases hk)
  have hNb5 := hNa3.other_new hNb3 hba hS3.store.free (i := 0) hb4 hl2
  -- the key that parts them
  obtain ⟨x, hx⟩ : ∃ x, es[m]? = some x := ⟨_, List.getElem?_eq_getElem (by rw [← HN.out]; exact hmn.2)⟩
  have hxd : (es.drop m)[0]? = some x := by rw [List.getElem?_drop]; exact hx
  have hxl : 0 < (es.drop m).length := by omega
  have f4a := (hb4.frozen (p := ⟨a, 0, none⟩) (hS3.store.lt ((upd_ne hab).trans ((upd_ne hab).trans ha)))).trans (hNa3.frozen 0)
  have c4a := (hb4.cell (p := ⟨a, 0, none⟩) (hS3.store.lt ((upd_ne hab).trans ((upd_ne hab).trans ha)))).trans (hNa3.cell (i := 0) (by omega) e0)
  have HS5 := Lib.hid hS5
  have HNa5 := Lib.hid hNa5
  have HNb5 := Lib.hid hNb5
  clear hS5 hNa5 hNb5 hNa3 hNb3 HC2 hS3 o30 hNa hNb hS1 o10 hV ho2 ho4 hg1 hg2 ht1 ht2 hs1 hs2 hb2 hl2 hl1 ha hs o0 o1 o2 hg h0 h1 hc2 hfr
  go_wp2_with fail
  obtain ⟨w5, hw5⟩ : ∃ w5, w5 = w4.setCell ⟨a, 0, none⟩ (.slice (some ⟨g2, 0, none⟩) m k2) := ⟨_, rfl⟩
  have HS5 := HS5.out
  have HNa5 := HNa5.out
  have HNb5 := HNb5.out
  rw [← hw5] at HS5 HNa5 HNb5 ⊢
  have cb : w5.cell? ⟨w.heap.size, 0, none⟩ = some (.slice (some ⟨g1, 0, none⟩) (n - m) k1) := HNb5.cell (i := 0) (by omega) rfl
  have hob : Own 2 Ent.cs 45 0 w5 (.slice (some ⟨g1, 0, none⟩) (n - m) k1) (es.drop m) := HNb5.fld 0 (by omega)
  obtain ⟨b', o', he, -, hc0, -⟩ := (hob.elems entLay.len rfl).ent hxl
  injection he with he
  injection he with he1 he2
  subst he1 he2
  have hx0 : (es.drop m)[0] = x := by rw [List.getElem?_eq_getElem hxl] at hxd; exact Option.some.inj hxd
  rw [hx0] at hc0
  have HE : Hid (∀ k, SplitLeaf w M O a es (.returned (.tuple #[ptr w.heap.size, .slice x.key.A x.key.row.length x.key.c])) (w5.drewN k)) := Lib.hid fun k => by
    unfold SplitLeaf
    rw [← HM.out]
    exact ⟨w.heap.size, x, _, _, rfl, hx, HS5.drewN k, upd_same _ _ _, (upd_ne hba).trans (upd_same _ _ _), fun y h1 h2 => (upd_ne h1).trans ((upd_ne h2).trans (upd_ne h2)), Nat.le_refl _, (HNb5.rowe x (List.mem_of_getElem? hxd)).keep fun k _ => rfl⟩
  clear HS5 HNa5 HNb5 hob
  obtain ⟨p, hp⟩ : ∃ p, p = n - m := ⟨_, rfl⟩
  rw [← hp] at cb
  have hp1 : (0 : Int) < (p : Int) := by omega
  have hp2 : 0 < p := by omega
  clear hp
  clear hw5

  go_quiet (fail)
  go_wp2_with fail
  go_ret2
  exact HE.out _
end Go.Proofs.Ytlgjkhdpinnccaa
