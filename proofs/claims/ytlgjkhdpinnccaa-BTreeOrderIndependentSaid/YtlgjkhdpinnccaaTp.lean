/-
  A whole tree in memory and what it holds. No program's walk.
-/
import Derived.Test.YtlgjkhdpinnccaaTw7
import Derived.Test.YtlgjkhdpinnccaaTr
import Derived.Test.YtlgjkhdpinnccaaCheck
namespace Go.Proofs.Ytlgjkhdpinnccaa
open Go.RowKit Go.Sort

abbrev PE := Row × Int
def pr (e : Ent) : PE := (e.key.row, e.val)
def insP (p : PE) : List PE → List PE
  | [] => [p]
  | x :: xs => if cmpR x.1 p.1 < 0 then x :: insP p xs else if cmpR x.1 p.1 = 0 then (x.1, p.2) :: xs else p :: x :: xs
def delP (k : Row) : List PE → List PE
  | [] => []
  | x :: xs => if cmpR x.1 k < 0 then x :: delP k xs else if cmpR x.1 k = 0 then xs else x :: xs
def getP (k : Row) : List PE → Option Int
  | [] => none
  | x :: xs => if cmpR x.1 k < 0 then getP k xs else if cmpR x.1 k = 0 then some x.2 else none
abbrev OrdP (ps : List PE) : Prop := ps.Pairwise fun a b => rl a.1 b.1

theorem map_ins (e : Ent) : ∀ xs : List Ent, (insF e xs).map pr = insP (pr e) (xs.map pr)
  | [] => rfl
  | x :: xs => by
    rw [List.map_cons, insF_cons]
    show _ = if cmpR x.key.row e.key.row < 0 then _ else if cmpR x.key.row e.key.row = 0 then _ else _
    split
    · rw [List.map_cons, map_ins e xs]
    · split <;> rfl
theorem map_del (k : Row) : ∀ xs : List Ent, (delF k xs).map pr = delP k (xs.map pr)
  | [] => rfl
  | x :: xs => by
    rw [List.map_cons, delF_cons]
    show _ = if cmpR x.key.row k < 0 then _ else if cmpR x.key.row k = 0 then _ else _
    split
    · rw [List.map_cons, map_del k xs]
    · split <;> rfl
theorem get_map (k : Row) : ∀ xs : List Ent, getF k xs = getP k (xs.map pr)
  | [] => rfl
  | x :: xs => by
    rw [List.map_cons, getF_cons, get_map k xs]
    rfl
theorem map_ord {xs : List Ent} (h : Ord xs) : OrdP (xs.map pr) := List.pairwise_map.2 h

/-- The tree at tb; no block below base is its own. -/
structure TreeIn (base m o : Nat) (w : World) (M : Nodes) (O : Own') (tb d a : Nat) (t : T d) (fp : List Nat) (n : Nat) : Prop where
  store : Store w M O
  top : O tb = .top
  low : ∀ k, k < base → ¬ (O k).mine ∧ O k ≠ .top ∧ O k ≠ .row
  blk : w.heap[tb]? = some (.cells #[.int .i64 o, ptr a, .int .i64 n] 62 (0, 0))
  rep : Rep M d a t fp
  nd : fp.Nodup
  ok : Ok m o d t
  root : d = 0 ∨ 2 ≤ fill d t
  full : fill d t ≤ o
  len : n = (flat d t).length
def TreeAt (base m o : Nat) (w : World) (tb : Nat) (ps : List PE) : Prop := ∃ (M : Nodes) (O : Own') (d a : Nat) (t : T d) (fp : List Nat), TreeIn base m o w M O tb d a t fp ps.length ∧ (flat d t).map pr = ps

section
variable {base m o : Nat} {w w' : World} {M : Nodes} {O : Own'} {tb d a : Nat} {t : T d} {fp : List Nat} {n : Nat} {ps : List PE}
theorem TreeIn.below (h : TreeIn base m o w M O tb d a t fp n) (hb : Below w.heap.size w w') : TreeIn base m o w' M O tb d a t fp n :=
  ⟨h.store.below hb, h.top, h.low, (hb.block tb (h.store.lt' (by rw [h.top]; simp))).trans h.blk, h.rep, h.nd, h.ok, h.root, h.full, h.len⟩
theorem TreeAt.below (h : TreeAt base m o w tb ps) (hb : Below w.heap.size w w') : TreeAt base m o w' tb ps := by
  obtain ⟨M, O, d, a, t, fp, h1, h2⟩ := h
  exact ⟨M, O, d, a, t, fp, h1.below hb, h2⟩
theorem TreeAt.ord (h : TreeAt base m o w tb ps) : OrdP ps := by
  obtain ⟨M, O, d, a, t, fp, h1, h2⟩ := h
  rw [← h2]
  exact map_ord (flat_ord h1.ok)
theorem TreeIn.base_le (h : TreeIn base m o w M O tb d a t fp n) : base ≤ tb := Nat.le_of_not_lt fun hl => (h.low tb hl).2.1 h.top
theorem TreeIn.lt (h : TreeIn base m o w M O tb d a t fp n) : tb < w.heap.size := h.store.lt' (by rw [h.top]; simp)
theorem TreeAt.lt (h : TreeAt base m o w tb ps) : tb < w.heap.size ∧ base ≤ tb := by
  obtain ⟨M, O, d, a, t, fp, h1, h2⟩ := h
  exact ⟨h1.lt, h1.base_le⟩
/-- The top's own cells change. -/
theorem Store.setTop (h : Store w M O) (ht : O tb = .top) (i : Nat) (v : Value) : Store (w.setCell ⟨tb, i, none⟩ v) M O := by
  refine ⟨fun a n ha => ?_, fun k hk => h.free k (by rwa [setCell_size] at hk)⟩
  obtain ⟨V, hV⟩ := h.at_ a n ha
  refine ⟨V, hV.keep fun k hk => ⟨heap_setCell_off (fun e => ?_) v, rfl⟩⟩
  rcases hk with rfl | ⟨i, hi⟩ | hk
  · have := hV.own; rw [e, ht] at this; cases this
  · rw [e, ht] at hi; cases hi
  · rw [e, ht] at hk; cases hk
/-- What a change by the tree's functions leaves. -/
theorem St.below_base {w0 : World} {O0 : Own'} (h : St w0 O0 w M O) (hl : ∀ k, k < base → ¬ (O0 k).mine ∧ O0 k ≠ .top ∧ O0 k ≠ .row) (hB : base ≤ w0.heap.size) : Below base w0 w :=
  ⟨h.os, h.tape, h.output, h.size, fun k hk => h.keep k (Nat.lt_of_lt_of_le hk hB) (hl k hk).1⟩
theorem St.low {w0 : World} {O0 : Own'} (h : St w0 O0 w M O) (hl : ∀ k, k < base → ¬ (O0 k).mine ∧ O0 k ≠ .top ∧ O0 k ≠ .row) (hB : base ≤ w0.heap.size) : ∀ k, k < base → ¬ (O k).mine ∧ O k ≠ .top ∧ O k ≠ .row := fun k hk => by
  rw [h.own k (Nat.lt_of_lt_of_le hk hB)]
  exact hl k hk
end

/-- A new root over two nodes. -/
theorem new_root {m o : Nat} {w0 w : World} {O0 O : Own'} {M : Nodes} (hS : St w0 O0 w M O) {d a b : Nat} {l r t : T d} {fl fr : List Nat} {k : Key} (hO : Order m o) (hok : Ok m o d t) (hf : o < fill d t) (hf2 : fill d t ≤ o + 1) (hs : Spl d t l k r) (hl : Rep M d a l fl) (hr : Rep M d b r fr) (hn : (fl ++ fr).Nodup) (hk : KOk (fun k => O k = .row) w k) :
    ∃ (M' : Nodes) (O' : Own') (t' : T (d + 1)), St w0 O0 (((w.alloc (.cells #[ptr a, ptr b] 60)).alloc (.cells #[.slice k.A k.row.length k.c] 30)).alloc (.cells #[.slice none 0 0, .slice (some ⟨w.heap.size + 1, 0, none⟩) 1 1, .slice (some ⟨w.heap.size, 0, none⟩) 2 2] 70)) M' O'
      ∧ Rep M' (d + 1) (w.heap.size + 2) t' ((w.heap.size + 2) :: (fl ++ fr)) ∧ ((w.heap.size + 2) :: (fl ++ fr)).Nodup ∧ Ok m o (d + 1) t' ∧ flat (d + 1) t' = flat d t ∧ fill (d + 1) t' = 2 := by
  obtain ⟨w1, hw1⟩ : ∃ w1, w1 = ((w.alloc (.cells #[ptr a, ptr b] 60)).alloc (.cells #[.slice k.A k.row.length k.c] 30)).alloc (.cells #[.slice none 0 0, .slice (some ⟨w.heap.size + 1, 0, none⟩) 1 1, .slice (some ⟨w.heap.size, 0, none⟩) 2 2] 70) := ⟨_, rfl⟩
  have hsz : w1.heap.size = w.heap.size + 3 := by rw [hw1]; simp
  have hb1 : Below w.heap.size w w1 := by
    rw [hw1]
    exact (((Below.refl _ _).alloc (Nat.le_refl _) _).alloc (le_size1 (Nat.le_refl _) _) _).alloc (le_size2 (Nat.le_refl _) _ _) _
  have g0 : w1.heap[w.heap.size]? = some (.cells #[ptr a, ptr b] 60 (0, 0)) := by
    rw [hw1, Below.heap_alloc _ _ _ (by simp; omega), Below.heap_alloc _ _ _ (by simp)]
    exact heap_alloc_new w _
  have g1 : w1.heap[w.heap.size + 1]? = some (.cells #[.slice k.A k.row.length k.c] 30 (0, 0)) := by
    rw [hw1, Below.heap_alloc _ _ _ (by simp)]
    exact alloc2_at w _ _
  have g2 : w1.heap[w.heap.size + 2]? = some (.cells #[.slice none 0 0, .slice (some ⟨w.heap.size + 1, 0, none⟩) 1 1, .slice (some ⟨w.heap.size, 0, none⟩) 2 2] 70 (0, 0)) := by
    rw [hw1]
    have := heap_alloc_new ((w.alloc (.cells #[ptr a, ptr b] 60)).alloc (.cells #[.slice k.A k.row.length k.c] 30)) (.cells #[.slice none 0 0, .slice (some ⟨w.heap.size + 1, 0, none⟩) 1 1, .slice (some ⟨w.heap.size, 0, none⟩) 2 2] 70)
    simpa using this
  rw [← hw1]
  have hS1 := hS.below hb1
  have hfr := hS.store.free
  have hfree : ∀ i, w.heap.size ≤ i → O i = .free ∧ w0.heap.size ≤ i := fun i hi => ⟨hfr i hi, Nat.le_trans hS.size hi⟩
  have hk1 : KOk (fun k => O k = .row) w1 k := ((St.refl hS.store).below hb1).kok hS.store hk
  obtain ⟨O', hS2, hN, hM, -, -⟩ := hS1.fresh (a := w.heap.size + 2) (n := ⟨[], [k], [a, b]⟩) (V := fun i => if i = 0 then .slice none 0 0 else if i = 1 then .slice (some ⟨w.heap.size + 1, 0, none⟩) 1 1 else .slice (some ⟨w.heap.size, 0, none⟩) 2 2) g2 (hfree _ (by omega))
    (fun i hi => by
      rcases i with _ | _ | _ | i
      · exact Own.nil _
      · exact ⟨rfl, .inr ⟨w.heap.size + 1, 1, _, rfl, Nat.zero_le _, g1, Nat.le_refl _, by unfold maxLen; omega, rfl, rfl⟩⟩
      · exact ⟨rfl, .inr ⟨w.heap.size, 2, _, rfl, Nat.zero_le _, g0, Nat.le_refl _, by unfold maxLen; omega, rfl, rfl⟩⟩
      · omega)
    (fun i hi g hg => by
      rcases i with _ | _ | _ | i
      · cases hg
      · have hg : w.heap.size + 1 = g := Option.some.inj hg
        subst hg; exact ⟨(hfree _ (by omega)).1, (hfree _ (by omega)).2, by omega⟩
      · have hg : w.heap.size = g := Option.some.inj hg
        subst hg; exact ⟨(hfree _ (by omega)).1, (hfree _ (by omega)).2, by omega⟩
      · omega)
    (fun i j g hi hj h1 h2 => by
      rcases i with _ | _ | _ | i <;> rcases j with _ | _ | _ | j <;> first | rfl | omega | (cases h1; done) | (cases h2; done) | (have h1 := Option.some.inj h1; have h2 := Option.some.inj h2; simp only at h1 h2; omega))
    (fun e he => by cases he) (fun k' hk' => by rw [List.mem_singleton.1 hk']; exact hk1)
  have S := spl_ok hok (by have := hO.lo; omega) hs
  have hne : ∀ x ∈ fl ++ fr, x ≠ w.heap.size + 2 := fun x hx e => by
    have : ∃ n, M x = some n := by
      rcases List.mem_append.1 hx with h | h
      · exact hl.some x h
      · exact hr.some x h
    obtain ⟨n, hn⟩ := this
    rw [e, hM] at hn
    cases hn
  refine ⟨_, O', ([k], [l, r]), hS2, ⟨[a, b], [fl, fr], upd_same _ _ _, Z3.two (hl.frame fun x hx => upd_ne (hne x (List.mem_append_left _ hx))) (hr.frame fun x hx => upd_ne (hne x (List.mem_append_right _ hx))), by simp⟩, List.nodup_cons.2 ⟨fun h => hne _ h rfl, hn⟩, ?_, ?_, rfl⟩
  · have f1 := S.fl
    have f2 := S.fr
    have hm := hO.eq
    have hlo := hO.lo
    refine ⟨⟨rfl, fun j n k' t' hj hn x hx => ?_⟩, fun c hc => ?_⟩
    · rcases j with _ | j
      · simp at hj
        subst hj
        rcases n with _ | _ | n
        · simp at hn
          subst hn
          exact ⟨fun _ => S.lo x hx, fun h => by omega⟩
        · simp at hn
          subst hn
          exact ⟨fun h => by omega, fun _ => S.hi x hx⟩
        · simp at hn
      · simp at hj
    · simp at hc
      rcases hc with rfl | rfl
      · exact ⟨S.ol, by omega, by omega⟩
      · exact ⟨S.or, by omega, by omega⟩
  · show List.flatMap (flat d) [l, r] = _
    rw [S.fla]
    simp
end Go.Proofs.Ytlgjkhdpinnccaa
