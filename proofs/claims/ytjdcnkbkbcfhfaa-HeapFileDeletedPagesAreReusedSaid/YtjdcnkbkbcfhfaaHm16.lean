/-
  slices.Clone over ints, columns and rows (turned from XTr, XOj).
  A copy of an index in the making: whose its blocks are. No program's walk.
  Heap files in memory: what a file holds, what a change leaves of it. No program's walk.
  The walks of allocate, release.
  The walk of release.
  The decoder of rows as plain functions on lists of bytes; it inverts the encoder. No program in sight.
-/
import Derived.Test.YtjdcnkbkbcfhfaaHm15
import Derived.Lib.SliceRun
import Derived.Test.YtjdcnkbkbcfhfaaHm10
import Derived.Test.YtjdcnkbkbcfhfaaHm14
import Derived.Deep.CutRange
import Derived.Deep.RegionLaw
namespace Go.Proofs.Ytjdcnkbkbcfhfaa
open Go.RowKit Go.Sort

theorem elem_ints : ElemT Try.prog 22 3 1 8 := ⟨Try.underlying22, by
  have h : (Try.prog.info? 3).map (fun i => (i.zero, i.size, i.bytes)) = some (some (.int .i64 0), 1, 8) := by kernel_rfl
  obtain ⟨i0, hi, hz0, hz1, hz2⟩ := info_parts h
  exact ⟨i0, _, hi, hz0, hz1, hz2, rfl⟩, by omega⟩
theorem elem_cols : ElemT Try.prog 27 57 3 32 := ⟨Try.underlying27, by
  have h : (Try.prog.info? 57).map (fun i => (i.zero, i.size, i.bytes)) = some (some (.agg #[.string ByteArray.empty, .int .i64 0, .bool false]), 3, 32) := by kernel_rfl
  obtain ⟨i0, hi, hz0, hz1, hz2⟩ := info_parts h
  exact ⟨i0, _, hi, hz0, hz1, hz2, rfl⟩, by omega⟩

set_option maxRecDepth 100000 in
theorem scCloneRow (A : Option Addr) (n c : Nat) (xs : List Val) (w : World) (S : Nat → Prop) (hx : Elems 3 Val.cs w S A xs) (hS : ∀ k, S k → k < w.heap.size) (hn : n = xs.length) (hs : xs.length ≤ 100000) :
    Calls Try.prog 11 #[.slice A n c] w fun e w' => ∃ v, e = .returned v ∧ Own 3 Val.cs 44 w.heap.size w' v xs ∧ Below w.heap.size w w' := by
  have hnil := fun W => Lib.run_eql_slice_nil (P := Try.prog) W 35 44 A n c 0 0 Try.underlying35
  cases A with
  | none =>
    have h0 : xs = [] := by
      rcases Nat.eq_zero_or_pos xs.length with h | h
      · exact List.eq_nil_of_length_eq_zero h
      · obtain ⟨_, _, h', _⟩ := hx h; cases h'
    subst h0
    simp only [Option.isNone_none, List.length_nil] at hnil hn
    subst hn
    go_enter Try.func11, Try.ntmps11
    go_wp2_with fail
    go_ret
    exact ⟨_, rfl, Own.nil _, Below.refl _ _⟩
  | some a =>
    simp only [Option.isNone_some] at hnil
    have HX := Lib.hid (hx.keep (w' := w.alloc (.cells #[] 44)) fun k hk => Below.heap_alloc _ _ _ (hS k hk))
    have hB : w.heap.size ≤ (w.alloc (.cells #[] 44)).heap.size := by simp
    have H1 : Hid ((([] : List Val).length + xs.length) * 32 ≤ 140737488355328) := Lib.hid (by simp; omega)
    have H2 : Hid (([] : List Val).length + xs.length ≤ maxLen) := Lib.hid (by unfold maxLen; simp; omega)
    have HN := Lib.hid hn
    clear hx hs hn
    go_enter Try.func11, Try.ntmps11
    go_wp2_with (at_builtin; refine wpList_app rfl (.tmp 5) (.tmp 6) _ _ rfl rfl rfl (run_pushs scElemVal scValLay _ (w.alloc (.cells #[] 44)) _ ([] : List Val) (Own.lit0 w) HX.out HN.out H1.out H2.out hB) ?_; rintro v1 w1 ⟨ho1, hx1⟩)
    go_ret
    exact ⟨_, rfl, by simpa using ho1, ((Below.refl _ _).alloc (Nat.le_refl _) _).trans (hx1.below (base := w.heap.size) (by simp) (fun g hg => Nat.le_of_eq (Option.some.inj hg)))⟩

set_option maxRecDepth 100000 in
theorem cloneInts (A : Option Addr) (n c : Nat) (xs : List Int) (w : World) (S : Nat → Prop) (hx : Elems 1 intCs w S A xs) (hS : ∀ k, S k → k < w.heap.size) (hn : n = xs.length) (hs : xs.length ≤ 100000) :
    Calls Try.prog 19 #[.slice A n c] w fun e w' => ∃ v, e = .returned v ∧ Own 1 intCs 3 w.heap.size w' v xs ∧ Below w.heap.size w w' := by
  have hnil := fun W => Lib.run_eql_slice_nil (P := Try.prog) W 22 3 A n c 0 0 Try.underlying22
  cases A with
  | none =>
    have h0 : xs = [] := by
      rcases Nat.eq_zero_or_pos xs.length with h | h
      · exact List.eq_nil_of_length_eq_zero h
      · obtain ⟨_, _, h', _⟩ := hx h; cases h'
    subst h0
    simp only [Option.isNone_none, List.length_nil] at hnil hn
    subst hn
    go_enter Try.func19, Try.ntmps19
    go_wp2_with fail
    go_ret
    exact ⟨_, rfl, Own.nil _, Below.refl _ _⟩
  | some a =>
    simp only [Option.isNone_some] at hnil
    have HX := Lib.hid (hx.keep (w' := w.alloc (.cells #[] 3)) fun k hk => Below.heap_alloc _ _ _ (hS k hk))
    have hB : w.heap.size ≤ (w.alloc (.cells #[] 3)).heap.size := by simp
    have H1 : Hid ((([] : List Int).length + xs.length) * 8 ≤ 140737488355328) := Lib.hid (by simp; omega)
    have H2 : Hid (([] : List Int).length + xs.length ≤ maxLen) := Lib.hid (by unfold maxLen; simp; omega)
    have HN := Lib.hid hn
    clear hx hs hn
    go_enter Try.func19, Try.ntmps19
    go_wp2_with (at_builtin; refine wpList_app rfl (.tmp 5) (.tmp 6) _ _ rfl rfl rfl (run_pushs elem_ints intLay _ (w.alloc (.cells #[] 3)) _ ([] : List Int) (Own.lit0 w) HX.out HN.out H1.out H2.out hB) ?_; rintro v1 w1 ⟨ho1, hx1⟩)
    go_ret
    exact ⟨_, rfl, by simpa using ho1, ((Below.refl _ _).alloc (Nat.le_refl _) _).trans (hx1.below (base := w.heap.size) (by simp) (fun g hg => Nat.le_of_eq (Option.some.inj hg)))⟩

set_option maxRecDepth 100000 in
theorem cloneCols (A : Option Addr) (n c : Nat) (xs : List Col) (w : World) (S : Nat → Prop) (hx : Elems 3 Col.cs w S A xs) (hS : ∀ k, S k → k < w.heap.size) (hn : n = xs.length) (hs : xs.length ≤ 100000) :
    Calls Try.prog 18 #[.slice A n c] w fun e w' => ∃ v, e = .returned v ∧ Own 3 Col.cs 57 w.heap.size w' v xs ∧ Below w.heap.size w w' := by
  have hnil := fun W => Lib.run_eql_slice_nil (P := Try.prog) W 27 57 A n c 0 0 Try.underlying27
  cases A with
  | none =>
    have h0 : xs = [] := by
      rcases Nat.eq_zero_or_pos xs.length with h | h
      · exact List.eq_nil_of_length_eq_zero h
      · obtain ⟨_, _, h', _⟩ := hx h; cases h'
    subst h0
    simp only [Option.isNone_none, List.length_nil] at hnil hn
    subst hn
    go_enter Try.func18, Try.ntmps18
    go_wp2_with fail
    go_ret
    exact ⟨_, rfl, Own.nil _, Below.refl _ _⟩
  | some a =>
    simp only [Option.isNone_some] at hnil
    have HX := Lib.hid (hx.keep (w' := w.alloc (.cells #[] 57)) fun k hk => Below.heap_alloc _ _ _ (hS k hk))
    have hB : w.heap.size ≤ (w.alloc (.cells #[] 57)).heap.size := by simp
    have H1 : Hid ((([] : List Col).length + xs.length) * 32 ≤ 140737488355328) := Lib.hid (by simp; omega)
    have H2 : Hid (([] : List Col).length + xs.length ≤ maxLen) := Lib.hid (by unfold maxLen; simp; omega)
    have HN := Lib.hid hn
    clear hx hs hn
    go_enter Try.func18, Try.ntmps18
    go_wp2_with (at_builtin; refine wpList_app rfl (.tmp 5) (.tmp 6) _ _ rfl rfl rfl (run_pushs elem_cols colLay _ (w.alloc (.cells #[] 57)) _ ([] : List Col) (Own.lit0 w) HX.out HN.out H1.out H2.out hB) ?_; rintro v1 w1 ⟨ho1, hx1⟩)
    go_ret
    exact ⟨_, rfl, by simpa using ho1, ((Below.refl _ _).alloc (Nat.le_refl _) _).trans (hx1.below (base := w.heap.size) (by simp) (fun g hg => Nat.le_of_eq (Option.some.inj hg)))⟩

end Go.Proofs.Ytjdcnkbkbcfhfaa

namespace Go.Proofs.Ytjdcnkbkbcfhfaa
open Go.RowKit Go.Sort

theorem scElemKeys : ElemT Try.prog 31 35 1 24 := ⟨Try.underlying31, by
  have h : (Try.prog.info? 35).map (fun i => (i.zero, i.size, i.bytes)) = some (some (.slice none 0 0), 1, 24) := by kernel_rfl
  obtain ⟨i0, hi, hz0, hz1, hz2⟩ := info_parts h
  exact ⟨i0, _, hi, hz0, hz1, hz2, rfl⟩, by omega⟩
theorem scSetCellSize (w : World) (p : Addr) (v : Value) : (w.setCell p v).heap.size = w.heap.size := by simp [World.setCell]
theorem scHeapOff {w : World} {p : Addr} {k : Nat} (h : k ≠ p.block) (v : Value) : (w.setCell p v).heap[k]? = w.heap[k]? := Below.heap_setCell w p v k h
theorem scHeapAt {w : World} {g i : Nat} {cur : Array Value} {e : TypeId} (h : w.heap[g]? = some (.cells cur e (0, 0))) (v : Value) : (w.setCell ⟨g, i, none⟩ v).heap[g]? = some (.cells (cur.setIfInBounds i v) e (0, 0)) := by
  unfold World.setCell
  simp only
  rw [Array.getElem?_modify, if_pos rfl, h]
  simp
theorem KOk.ofS {K K' : Nat → Prop} {w w' : World} {k : Key} (h : KOk K w k) (hk : ∀ i, K i → w'.heap[i]? = w.heap[i]? ∧ K' i) : KOk K' w' k := (h.keep fun i hi => (hk i hi).1).more fun i hi => (hk i hi).2
theorem Elems.of {α : Type} {sz : Nat} {cs : α → List Value} {K K' : Nat → Prop} {w w' : World} {A : Option Addr} {xs : List α} (h : Elems sz cs w K A xs) (hk : ∀ i, K i → w'.heap[i]? = w.heap[i]? ∧ K' i) : Elems sz cs w' K' A xs := (h.keep fun i hi => (hk i hi).1).more fun i hi => (hk i hi).2
theorem TOk.of {K K' : Nat → Prop} {w w' : World} {t : Tbl} (h : TOk K w t) (hk : ∀ i, K i → w'.heap[i]? = w.heap[i]? ∧ K' i) : TOk K' w' t := ⟨h.cols.of hk, h.pk.of hk⟩

def EntM.vv (e : EntM) : Value := .slice e.vals.A e.vals.row.length e.vals.c
def EntM.kv (e : EntM) : Value := .slice e.KA e.keys.length e.kc
/-- The blocks of an entry's rows. -/
def RK (lo b : Nat) (w : World) (e : EntM) (g : Nat) : Prop := lo ≤ g ∧ g < w.heap.size ∧ g ≠ b ∧ e.kv.ownBlock ≠ some g
section
variable {lo b : Nat} {w w' : World} {e : EntM}
end

section
variable {base bx : Nat} {w w' : World} {x : Ix} {R : Nat → Prop}
end
end Go.Proofs.Ytjdcnkbkbcfhfaa

namespace Go.Proofs.Ytjdcnkbkbcfhfaa
open Go.RowKit Go.Sort

/-- A page: its block, its capacity, its bytes. -/
structure PgM where
  g : Nat
  c : Nat
  p : List Nat
def PgM.v (x : PgM) : Value := .slice (some ⟨x.g, 0, none⟩) 256 x.c
def PgM.cs (x : PgM) : List Value := [.slice (some ⟨x.g, 0, none⟩) 256 x.c]
theorem pgmLay : Lay 1 PgM.cs := ⟨fun _ => rfl, fun x c hc => by simp [PgM.cs] at hc; subst hc; rfl⟩
theorem elem_pages : ElemT Try.prog 59 64 1 24 := ⟨Try.underlying59, by
  have h : (Try.prog.info? 64).map (fun i => (i.zero, i.size, i.bytes)) = some (some (.slice none 0 0), 1, 24) := by kernel_rfl
  obtain ⟨i0, hi, hz0, hz1, hz2⟩ := info_parts h
  exact ⟨i0, _, hi, hz0, hz1, hz2, rfl⟩, by omega⟩
theorem ord24 : Order 2 4 := ⟨by omega, by omega, by omega⟩

/-- What is not F's may turn: the tree stays. -/
theorem TreeF.keep {F : Nat → Prop} {m o : Nat} {w w' : World} {tb : Nat} {ps : List PE} (h : TreeF F m o w tb ps) (hsz : w.heap.size ≤ w'.heap.size) (hk : ∀ k, k < w.heap.size → ¬ F k → w'.heap[k]? = w.heap[k]?) :
    TreeF (fun k => F k ∨ (w.heap.size ≤ k ∧ k < w'.heap.size)) m o w' tb ps := by
  obtain ⟨M, O, d, a, t, fp, h1, h2, h3⟩ := h
  have hF : ∀ k, (O k).mine ∨ O k = .top ∨ O k = .row → ¬ F k := fun k hh hf => by
    obtain ⟨-, e1, e2, e3⟩ := h3 k hf
    rcases hh with hh | hh | hh
    · exact e1 hh
    · exact e2 hh
    · exact e3 hh
  have hst : Store w' M O := by
    refine ⟨fun a n ha => ?_, fun k hk => h1.store.free k (Nat.le_trans hsz hk)⟩
    obtain ⟨V, hV⟩ := h1.store.at_ a n ha
    refine ⟨V, hV.keep fun k hk' => ⟨hk k ?_ (hF k ?_), rfl⟩⟩
    · apply h1.store.lt'
      rcases hk' with rfl | ⟨i, hi⟩ | hk'
      · rw [hV.own]; simp
      · rw [hi]; simp
      · rw [hk']; simp
    · rcases hk' with rfl | ⟨i, hi⟩ | hk'
      · rw [hV.own]; exact .inl trivial
      · rw [hi]; exact .inl trivial
      · exact .inr (.inr hk')
  refine ⟨M, O, d, a, t, fp, ⟨hst, h1.top, h1.low, (hk tb h1.lt (hF tb (.inr (.inl h1.top)))).trans h1.blk, h1.rep, h1.nd, h1.ok, h1.root, h1.full, h1.len⟩, h2, fun k hk' => ?_⟩
  rcases hk' with hk' | ⟨hk1, hk2⟩
  · exact ⟨Nat.lt_of_lt_of_le (h3 k hk').1 hsz, (h3 k hk').2⟩
  · rw [h1.store.free k hk1]
    exact ⟨hk2, fun h => h, by simp, by simp⟩

def fcells (t : Tbl) (pv : Value) (tb : Nat) : Array Value := #[.string t.name, .slice t.CA t.cols.length t.cc, .slice t.PA t.pk.length t.pc, pv, ptr tb]
/-- The file at fb: its tree at tb keeps off G; pv is the slice of pages. -/
structure FileIn (F G : Nat → Prop) (w : World) (fb tb : Nat) (t : Tbl) (pv : Value) (xs : List PgM) (ps : List PE) : Prop where
  blk : w.heap[fb]? = some (.cells (fcells t pv tb) 61 (0, 0))
  tree : TreeF G 2 4 w tb ps
  own : Own 1 PgM.cs 64 0 w pv xs
  page : ∀ x ∈ xs, Pg 0 w x.g x.c x.p ∧ WF x.p ∧ G x.g ∧ x.g ≠ fb ∧ pv.ownBlock ≠ some x.g
  tab : TOk (fun k => G k ∧ k ≠ fb ∧ pv.ownBlock ≠ some k) w t
  gfb : G fb ∧ pv.ownBlock ≠ some fb
  gpv : ∀ g, pv.ownBlock = some g → G g
  out : ∀ k, F k → G k ∧ k ≠ fb ∧ pv.ownBlock ≠ some k
def FileT (F : Nat → Prop) (w : World) (fb tb : Nat) (t : Tbl) (pgs : Pgs) (ps : List PE) : Prop := ∃ G pv xs, FileIn F G w fb tb t pv xs ps ∧ xs.map PgM.p = pgs

theorem Pg.of_block {w w' : World} {base g c : Nat} {p : List Nat} (h : Pg base w g c p) (hk : w'.heap[g]? = w.heap[g]?) : Pg base w' g c p :=
  ⟨⟨h.1.own.of_block fun g' hg' => by injection hg' with hg'; rw [← hg']; exact hk⟩, h.2⟩

section
variable {F G : Nat → Prop} {w w' : World} {fb tb : Nat} {t : Tbl} {pv pv' : Value} {xs xs' : List PgM} {ps ps' : List PE}
theorem FileIn.lt (h : FileIn F G w fb tb t pv xs ps) : ∀ k, G k → k < w.heap.size := h.tree.lt
theorem FileIn.change (h : FileIn F G w fb tb t pv xs ps) {G' : Nat → Prop} (hG : ∀ k, G k → G' k) (hG' : ∀ k, G' k → G k ∨ (w.heap.size ≤ k ∧ k < w'.heap.size)) (hsz : w.heap.size ≤ w'.heap.size)
    (hk : ∀ k, k < w.heap.size → k ≠ fb → pv.ownBlock ≠ some k → w'.heap[k]? = w.heap[k]?) (hb : w'.heap[fb]? = some (.cells (fcells t pv' tb) 61 (0, 0))) (ho : Own 1 PgM.cs 64 0 w' pv' xs')
    (hpv : pv'.ownBlock = pv.ownBlock ∨ ∃ g, pv'.ownBlock = some g ∧ w.heap.size ≤ g) (hgv : ∀ g, pv'.ownBlock = some g → G' g)
    (hp : ∀ x ∈ xs', x ∈ xs ∨ (Pg 0 w' x.g x.c x.p ∧ WF x.p ∧ G' x.g ∧ x.g ≠ fb ∧ pv'.ownBlock ≠ some x.g)) : FileIn F G' w' fb tb t pv' xs' ps := by
  have hne : ∀ k, k < w.heap.size → pv.ownBlock ≠ some k → pv'.ownBlock ≠ some k := fun k hk hn => by
    rcases hpv with e | ⟨g, e, hg⟩
    · rw [e]; exact hn
    · rw [e]; intro e'; injection e' with e'; omega
  refine ⟨hb, ?_, ho, fun x hx => ?_, ?_, ⟨hG _ h.gfb.1, hne fb (h.lt fb h.gfb.1) h.gfb.2⟩, hgv, fun k hk' => ?_⟩
  · refine (h.tree.keep hsz fun k hk1 hk2 => hk k hk1 ?_ ?_).sub hG'
    · intro e; rw [e] at hk2; exact hk2 h.gfb.1
    · exact fun e => hk2 (h.gpv k e)
  · rcases hp x hx with hx | hx
    · obtain ⟨h1, h2, h3, h4, h5⟩ := h.page x hx
      exact ⟨h1.of_block (hk _ (h.lt _ h3) h4 h5), h2, hG _ h3, h4, hne _ (h.lt _ h3) h5⟩
    · exact hx
  · exact h.tab.of fun k hk' => ⟨hk k (h.lt _ hk'.1) hk'.2.1 hk'.2.2, hG _ hk'.1, hk'.2.1, hne _ (h.lt _ hk'.1) hk'.2.2⟩
  · obtain ⟨h1, h2, h3⟩ := h.out k hk'
    exact ⟨hG _ h1, h2, hne _ (h.lt _ h1) h3⟩
/-- New blocks join. -/
theorem FileIn.more (h : FileIn F G w fb tb t pv xs ps) (hb : Below w.heap.size w w') : FileIn (fun k => F k ∨ (w.heap.size ≤ k ∧ k < w'.heap.size)) (fun k => G k ∨ (w.heap.size ≤ k ∧ k < w'.heap.size)) w' fb tb t pv xs ps := by
  have h1 : FileIn F (fun k => G k ∨ (w.heap.size ≤ k ∧ k < w'.heap.size)) w' fb tb t pv xs ps :=
    h.change (fun k hk => .inl hk) (fun k hk => hk) hb.size (fun k hk _ _ => hb.block k hk) ((hb.block fb (h.lt _ h.gfb.1)).trans h.blk) (h.own.below hb) (.inl rfl) (fun g hg => .inl (h.gpv g hg)) (fun x hx => .inl hx)
  refine ⟨h1.blk, h1.tree, h1.own, h1.page, h1.tab, h1.gfb, h1.gpv, fun k hk => ?_⟩
  rcases hk with hk | hk
  · exact h1.out k hk
  · exact ⟨.inr hk, fun e => by have := h.lt fb h.gfb.1; omega, fun e => by have := h.lt k (h.gpv k e); omega⟩
theorem FileIn.sub {F' : Nat → Prop} (h : FileIn F G w fb tb t pv xs ps) (hs : ∀ k, F' k → F k) : FileIn F' G w fb tb t pv xs ps := ⟨h.blk, h.tree, h.own, h.page, h.tab, h.gfb, h.gpv, fun k hk => h.out k (hs k hk)⟩
/-- The tree turns. -/
theorem FileIn.treed (h : FileIn F G w fb tb t pv xs ps) (ht : TreeF G 2 4 w' tb ps') (hf : Fr G w w') : FileIn F G w' fb tb t pv xs ps' :=
  ⟨(hf.blk fb h.gfb.1).trans h.blk, ht, h.own.of_block fun g hg => hf.blk g (h.gpv g hg), fun x hx => by
    obtain ⟨h1, h2, h3, h4, h5⟩ := h.page x hx
    exact ⟨h1.of_block (hf.blk _ h3), h2, h3, h4, h5⟩, h.tab.of fun k hk => ⟨hf.blk k hk.1, hk⟩, h.gfb, h.gpv, h.out⟩
/-- The pages' slice. -/
theorem FileIn.pform (h : FileIn F G w fb tb t pv xs ps) : ∃ A c, pv = .slice A xs.length c ∧ xs.length ≤ c ∧ c ≤ maxLen := h.own.form
theorem FileIn.phead (h : FileIn F G w fb tb t pv xs ps) (hp : 0 < xs.length) : ∃ g c cur, pv = .slice (some ⟨g, 0, none⟩) xs.length c ∧ w.heap[g]? = some (.cells cur 64 (0, 0)) ∧ xs.length ≤ c ∧ c ≤ maxLen ∧ cur.size = c ∧ cur.toList.take xs.length = xs.flatMap PgM.cs := by
  obtain ⟨h1, h2⟩ := h.own
  rcases h2 with ⟨_, h2⟩ | ⟨g, cap, cur, h1, -, h3, h4, h5, h6, h7⟩
  · omega
  · exact ⟨g, cap, cur, h1, h3, h4, h5, by rw [h6, Nat.mul_one], by rwa [Nat.mul_one] at h7⟩
theorem FileIn.pcell (h : FileIn F G w fb tb t pv xs ps) {g n c : Nat} (hv : pv = .slice (some ⟨g, 0, none⟩) n c) {i : Nat} (hi : i < xs.length) : w.cell? ⟨g, i, none⟩ = some (.slice (some ⟨xs[i].g, 0, none⟩) 256 xs[i].c) ∧ w.frozen? ⟨g, i, none⟩ = false := by
  obtain ⟨g', c', cur, e, hg, _, _, hs, ht⟩ := h.phead (by omega)
  rw [hv] at e
  injection e with e1 e2 e3
  injection e1 with e1
  injection e1 with e1
  subst e1
  refine ⟨?_, frozen_of_row _ _ _ _ _ hg⟩
  rw [cell_of_row _ _ _ _ _ _ hg]
  have h2 : (xs.flatMap PgM.cs)[i]? = some (.slice (some ⟨xs[i].g, 0, none⟩) 256 xs[i].c) := by
    have := flatMap_getElem? (sz := 1) pgmLay.len xs i xs[i] (List.getElem?_eq_getElem hi) 0 (by omega)
    simpa [PgM.cs] using this
  rw [← ht, List.getElem?_take, if_pos hi] at h2
  simpa using h2
/-- A page is laid in place of another. -/
theorem FileIn.set (h : FileIn F G w fb tb t pv xs ps) {g n c : Nat} (hv : pv = .slice (some ⟨g, 0, none⟩) n c) {i : Nat} (hi : i < xs.length) (x : PgM) (hx : Pg 0 w x.g x.c x.p ∧ WF x.p ∧ G x.g ∧ x.g ≠ fb ∧ pv.ownBlock ≠ some x.g) :
    FileIn F G (w.setCell ⟨g, i, none⟩ (.slice (some ⟨x.g, 0, none⟩) 256 x.c)) fb tb t pv (xs.set i x) ps := by
  obtain ⟨g', c', cur, e, hg, hc1, hc2, hs, ht⟩ := h.phead (by omega)
  have hv' := e
  rw [hv] at e
  injection e with e1 e2 e3
  injection e1 with e1
  injection e1 with e1
  subst e1
  have hgo : pv.ownBlock = some g := by rw [hv]; rfl
  have hfg : fb ≠ g := fun e => h.gfb.2 (by rw [e]; exact hgo)
  refine h.change (fun k hk => hk) (fun k hk => .inl hk) (by rw [setCell_size]; exact Nat.le_refl _) (fun k _ _ hk => heap_setCell_off (fun e => hk (by rw [e]; exact hgo)) _) ((heap_setCell_off hfg _).trans h.blk) ?_ (.inl rfl) h.gpv (fun y hy => ?_)
  · rw [hv']
    refine Own.shut pgmLay (Nat.zero_le _) (heap_setCell_at hg _) (by simp) hc1 hc2 (by simp [hs]) ?_
    rw [Array.toList_setIfInBounds, Nat.mul_one, List.take_set, ht]
    apply List.ext_getElem?
    intro j
    have hfl : ∀ l : List PgM, ∀ j : Nat, (l.flatMap PgM.cs)[j]? = l[j]?.map PgM.v := by
      intro l
      induction l with
      | nil => intro j; simp
      | cons a l ih =>
        intro j
        rw [List.flatMap_cons]
        cases j with
        | zero => rfl
        | succ j => show (l.flatMap PgM.cs)[j]? = _; rw [ih]; rfl
    rw [List.getElem?_set, hfl, hfl, List.getElem?_set]
    have hlen : (xs.flatMap PgM.cs).length = xs.length := by rw [flat_len pgmLay, Nat.mul_one]
    rw [hlen]
    by_cases e : i = j
    · subst e
      rw [if_pos rfl, if_pos rfl, if_pos hi, if_pos hi]
      rfl
    · rw [if_neg e, if_neg e]
  · rcases List.mem_or_eq_of_mem_set hy with hy | rfl
    · exact .inl hy
    · exact .inr ⟨hx.1.of_block (heap_setCell_off (fun e => hx.2.2.2.2 (by rw [e]; exact hgo)) _), hx.2⟩
/-- The slice of pages is cut short. -/
theorem FileIn.cut (h : FileIn F G w fb tb t pv xs ps) {g n c : Nat} (hv : pv = .slice (some ⟨g, 0, none⟩) n c) {k : Nat} (hk : k ≤ xs.length) (hp : 0 < xs.length) : FileIn F G (w.setCell ⟨fb, 3, none⟩ (.slice (some ⟨g, 0, none⟩) k c)) fb tb t (.slice (some ⟨g, 0, none⟩) k c) (xs.take k) ps := by
  obtain ⟨g', c', cur, e, hg, hc1, hc2, hs, ht⟩ := h.phead hp
  rw [hv] at e
  injection e with e1 e2 e3
  injection e1 with e1
  injection e1 with e1
  subst e1 e3
  have hgo : pv.ownBlock = some g := by rw [hv]; rfl
  have hfg : g ≠ fb := fun e => h.gfb.2 (by rw [← e]; exact hgo)
  refine h.change (fun k hk => hk) (fun k hk => .inl hk) (by rw [setCell_size]; exact Nat.le_refl _) (fun k _ hk _ => heap_setCell_off hk _) ((heap_setCell_at h.blk _).trans rfl) ?_ (.inl (by rw [hv]; rfl)) (fun g' hg' => h.gpv g' (by rw [hgo]; exact hg')) (fun y hy => .inl (List.mem_of_mem_take hy))
  refine Own.shut pgmLay (Nat.zero_le _) ((heap_setCell_off hfg _).trans hg) (by rw [List.length_take]; omega) (by omega) hc2 (by rw [hs, Nat.mul_one]) ?_
  rw [Nat.mul_one]
  have h2 := congrArg (List.take k) ht
  rw [List.take_take, Nat.min_eq_left hk] at h2
  rw [h2]
  have := flat_take (cs := PgM.cs) pgmLay xs k
  rw [Nat.mul_one] at this
  exact this
/-- A page is appended: behind the append (to w1) and the store. -/
theorem FileIn.push (h : FileIn F G w fb tb t pv xs ps) {w1 : World} (hx : Ext w pv w1 pv') {x : PgM} (ho : Own 1 PgM.cs 64 0 w1 pv' (xs ++ [x])) (hp : Pg 0 w x.g x.c x.p ∧ WF x.p ∧ G x.g ∧ x.g ≠ fb ∧ pv.ownBlock ≠ some x.g) :
    FileIn F (fun k => G k ∨ (w.heap.size ≤ k ∧ k < w1.heap.size)) (w1.setCell ⟨fb, 3, none⟩ pv') fb tb t pv' (xs ++ [x]) ps := by
  have hfl := h.lt fb h.gfb.1
  have hb1 : w1.heap[fb]? = some (.cells (fcells t pv tb) 61 (0, 0)) := (hx.grown.block fb hfl (fun e => h.gfb.2 e.symm)).trans h.blk
  have hne : ∀ k, k < w.heap.size → pv.ownBlock ≠ some k → pv'.ownBlock ≠ some k := fun k hk hn => hx.ne hn hk
  refine h.change (fun k hk => .inl hk) (fun k hk => by rw [setCell_size]; exact hk) (by rw [setCell_size]; exact hx.size) (fun k hk h1 h2 => (heap_setCell_off h1 _).trans (hx.grown.block k hk (fun e => h2 e.symm))) ((heap_setCell_at hb1 _).trans rfl) (ho.setCell (fun g hg e => hne fb hfl h.gfb.2 (by rw [hg, e])) _) hx.block (fun g hg => ?_) (fun y hy => ?_)
  · rcases hx.block with e | ⟨g', e, hg'⟩
    · exact .inl (h.gpv g (e ▸ hg))
    · rw [e] at hg
      injection hg with hg
      rw [← hg]
      exact .inr ⟨hg', (Own.lt ho g' e).2⟩
  · rcases List.mem_append.1 hy with hy | hy
    · exact .inl hy
    · rw [List.mem_singleton.1 hy]
      have hl := h.lt _ hp.2.2.1
      exact .inr ⟨hp.1.of_block ((heap_setCell_off hp.2.2.2.1 _).trans (hx.grown.block _ hl (fun e => hp.2.2.2.2 e.symm))), hp.2.1, .inl hp.2.2.1, hp.2.2.2.1, hne _ hl hp.2.2.2.2⟩
/-- The file's cells. -/
theorem FileIn.c (h : FileIn F G w fb tb t pv xs ps) (i : Nat) : w.cell? ⟨fb, i, none⟩ = (fcells t pv tb)[i]? := cell_of_row _ _ _ _ _ _ h.blk
theorem FileIn.fz (h : FileIn F G w fb tb t pv xs ps) (i : Nat) : w.frozen? ⟨fb, i, none⟩ = false := frozen_of_row _ _ _ _ _ h.blk
end
section
variable {F : Nat → Prop} {w w' : World} {fb tb : Nat} {t : Tbl} {pgs : Pgs} {ps : List PE}
theorem FileT.more (h : FileT F w fb tb t pgs ps) (hb : Below w.heap.size w w') : FileT (fun k => F k ∨ (w.heap.size ≤ k ∧ k < w'.heap.size)) w' fb tb t pgs ps := by
  obtain ⟨G, pv, xs, h1, h2⟩ := h
  exact ⟨_, pv, xs, h1.more hb, h2⟩
theorem FileT.sub {F' : Nat → Prop} (h : FileT F w fb tb t pgs ps) (hs : ∀ k, F' k → F k) : FileT F' w fb tb t pgs ps := by
  obtain ⟨G, pv, xs, h1, h2⟩ := h
  exact ⟨G, pv, xs, h1.sub hs, h2⟩
theorem FileT.below (h : FileT F w fb tb t pgs ps) (hb : Below w.heap.size w w') : FileT F w' fb tb t pgs ps := (h.more hb).sub fun _ => .inl
theorem FileT.lt (h : FileT F w fb tb t pgs ps) : ∀ k, F k → k < w.heap.size := by
  obtain ⟨G, pv, xs, h1, h2⟩ := h
  exact fun k hk => h1.lt k (h1.out k hk).1
theorem FileT.ord (h : FileT F w fb tb t pgs ps) : OrdP ps := by
  obtain ⟨G, pv, xs, h1, h2⟩ := h
  exact h1.tree.at_.ord
theorem FileT.okP (h : FileT F w fb tb t pgs ps) : okP pgs := by
  obtain ⟨G, pv, xs, h1, rfl⟩ := h
  intro p hp
  obtain ⟨x, hx, rfl⟩ := List.mem_map.1 hp
  exact (h1.page x hx).2.1
end
theorem Fr.more {F : Nat → Prop} {a b c : World} (hb : Below a.heap.size a b) (hF : ∀ k, F k → k < a.heap.size) (h : Fr (fun k => F k ∨ (a.heap.size ≤ k ∧ k < b.heap.size)) b c) : Fr F a c := (Fr.of_below hb hF).trans (h.sub fun _ => .inl)
theorem Fr.ext {F : Nat → Prop} {a b : World} {v v' : Value} (h : Ext a v b v') (hF : ∀ k, F k → k < a.heap.size ∧ v.ownBlock ≠ some k) : Fr F a b :=
  ⟨h.grown.os, h.grown.tape, h.grown.output, h.size, fun k hk => h.grown.block k (hF k hk).1 (fun e => (hF k hk).2 e.symm)⟩

/-- A record in memory: bytes of an encoding, as numbers. -/
theorem rec_of {base : Nat} {w : World} {v : Value} {ys : List UInt8} (h : Own 1 byteCs 5 base w v ys) (h0 : 0 < ys.length) : ∃ g c, v = .slice (some ⟨g, 0, none⟩) ys.length c ∧ Rec w g c (ys.map UInt8.toNat) ∧ base ≤ g ∧ g < w.heap.size := by
  have hh := h
  obtain ⟨h1, h2⟩ := h
  rcases h2 with ⟨_, h2⟩ | ⟨g, cap, cur, rfl, hb, h3, h4, h5, h6, h7⟩
  · omega
  · have hl := Own.lt hh g rfl
    refine ⟨g, cap, rfl, ⟨?_, by simpa using h4⟩, hl.1, hl.2⟩
    have he := hh.elems byteLay.len rfl
    intro hp
    obtain ⟨b, off, e, hs, hc⟩ := he h0
    injection e with e
    injection e with e1 e2
    subst e1 e2
    refine ⟨g, 0, rfl, hl.2, fun i x hx j u hu => ?_⟩
    rw [List.getElem?_map] at hx
    cases hy : ys[i]? with
    | none => rw [hy] at hx; cases hx
    | some y =>
      rw [hy] at hx
      injection hx with hx
      refine hc i y hy j u ?_
      rw [← hx] at hu
      exact hu
end Go.Proofs.Ytjdcnkbkbcfhfaa

namespace Go.Proofs.Ytjdcnkbkbcfhfaa
open Go.RowKit Go.Sort

theorem insNo {base g c gr cr : Nat} {p r : List Nat} (w : World) (h : Pg base w g c p) (hw : WF p) (hrec : Rec w gr cr r) (hr : RecOk r) (hc : cap p < r.length) :
    Calls Try.prog 43 #[.slice (some ⟨g, 0, none⟩) 256 c, .slice (some ⟨gr, 0, none⟩) r.length cr] w fun e w' => e = .returned (.tuple #[.slice none 0 0, .int .i64 0, .int .i64 18]) ∧ Below w.heap.size w w' :=
  (insertPage w h hw hrec hr.byte).mono fun e w' ⟨h1, h2⟩ => by
    rw [if_neg (by have := hr.pos; have := hr.len; omega), if_pos hc] at h2
    exact ⟨h2, h1⟩
theorem insYes {base g c gr cr : Nat} {p r : List Nat} (w : World) (h : Pg base w g c p) (hw : WF p) (hrec : Rec w gr cr r) (hr : RecOk r) (hc : ¬ cap p < r.length) :
    Calls Try.prog 43 #[.slice (some ⟨g, 0, none⟩) 256 c, .slice (some ⟨gr, 0, none⟩) r.length cr] w fun e w' => ∃ g' c', e = .returned (.tuple #[.slice (some ⟨g', 0, none⟩) 256 c', .int .i64 (ffree p : Nat), .int .i64 0]) ∧ Pg w.heap.size w' g' c' (pin p r) ∧ Below w.heap.size w w' :=
  (insertPage w h hw hrec hr.byte).mono fun e w' ⟨h1, h2⟩ => by
    rw [if_neg (by have := hr.pos; have := hr.len; omega), if_neg hc] at h2
    obtain ⟨g', c', h3, h4⟩ := h2
    exact ⟨g', c', h3, h4, h1⟩

/-- What a change of the pages leaves. -/
def FilePost (F : Nat → Prop) (w : World) (fb tb : Nat) (t : Tbl) (ps : List PE) (pgs' : Pgs) (w' : World) : Prop := FileT F w' fb tb t pgs' ps ∧ Fr F w w'

theorem halloc_yes {xs : List PgM} {r : List Nat} {k : Nat} (hk : k < xs.length) (hbef : ∀ x ∈ xs.take k, cap x.p < r.length) (hc : ¬ cap xs[k].p < r.length) : halloc (xs.map PgM.p) r = ((xs.map PgM.p).set k (pin xs[k].p r), k, ffree xs[k].p) := by
  have hf : hfind r (xs.map PgM.p) = k := by
    unfold hfind
    rw [List.findIdx_eq (by simpa using hk)]
    refine ⟨by simp; omega, fun j hj => ?_⟩
    have hm : xs[j] ∈ xs.take k := by
      rw [List.mem_take_iff_getElem]
      exact ⟨j, by omega, rfl⟩
    have := hbef _ hm
    simp
    omega
  unfold halloc
  rw [dif_pos (by rw [hf]; simpa using hk)]
  simp only [hf, List.getElem_map]
theorem halloc_no {xs : List PgM} {r : List Nat} (hbef : ∀ x ∈ xs, cap x.p < r.length) : halloc (xs.map PgM.p) r = (xs.map PgM.p ++ [pin zeros r], xs.length, ffree zeros) := by
  unfold halloc
  rw [dif_neg, List.length_map]
  intro hh
  have h1 : r.length ≤ cap (xs.map PgM.p)[hfind r (xs.map PgM.p)] := of_decide_eq_true (List.findIdx_getElem (w := hh))
  rw [List.getElem_map] at h1
  have := hbef _ (List.getElem_mem (l := xs) (n := hfind r (xs.map PgM.p)) (by simpa using hh))
  omega

set_option maxRecDepth 100000 in
set_option maxHeartbeats 4000000 in
theorem allocateW {F : Nat → Prop} {fb tb : Nat} {t : Tbl} {pgs : Pgs} {ps : List PE} (w : World) (h : FileT F w fb tb t pgs ps) {gr cr : Nat} {r : List Nat} (hrec : Rec w gr cr r) (hr : RecOk r) (hn : pgs.length ≤ 1000) :
    Calls Try.prog 26 #[ptr fb, .slice (some ⟨gr, 0, none⟩) r.length cr] w fun e w' => e = .returned (.int .i64 (((halloc pgs r).2.1 * 256 + (halloc pgs r).2.2 : Nat) : Int)) ∧ FilePost F w fb tb t ps (halloc pgs r).1 w' := by
  obtain ⟨G, pv, xs, h, rfl⟩ := h
  rw [List.length_map] at hn
  obtain ⟨A, c, rfl, hc1, hc2⟩ := h.pform
  obtain ⟨n, hxn⟩ : ∃ n, xs.length = n := ⟨_, rfl⟩
  have HFL := Lib.hid h.lt
  have HFF := Lib.hid h.out
  have HFB := Lib.hid (h.lt fb h.gfb.1)
  have HPB := Lib.hid fun g hg => h.lt g (h.gpv g hg)
  have HNEW := Lib.hid fun W (hW : Below w.heap.size w W) => h.more hW
  have HREC := Lib.hid fun W (hW : Below w.heap.size w W) => hrec.below hW
  have HR := Lib.hid hr
  have HXN := Lib.hid hxn
  have c3 : w.cell? ⟨fb, 3, none⟩ = some (.slice A xs.length c) := by rw [h.c 3]; rfl
  have hcap : ∀ p : List Nat, cap p ≤ 100 := fun p => by unfold cap; omega
  have HIY := Lib.hid fun W (hW : Below w.heap.size w W) (k : Nat) (hk : k < xs.length) => insYes W ((h.more hW).page _ (List.getElem_mem hk)).1 ((h.more hW).page _ (List.getElem_mem hk)).2.1 (hrec.below hW) hr
  have HIN := Lib.hid fun W (hW : Below w.heap.size w W) (k : Nat) (hk : k < xs.length) => insNo W ((h.more hW).page _ (List.getElem_mem hk)).1 ((h.more hW).page _ (List.getElem_mem hk)).2.1 (hrec.below hW) hr
  have HIZ := Lib.hid fun W (hW : Below w.heap.size w W) g (hp : Pg g W g 256 zeros) => insYes W hp wf_zeros.1 (hrec.below hW) hr (by rw [cap_zeros]; have := hr.len; omega)
  obtain ⟨l, hl⟩ : ∃ l, r.length = l := ⟨_, rfl⟩
  rw [hxn] at hn hc1 c3
  have HPV : Hid (Value.slice A xs.length c = .slice A n c) := Lib.hid (by rw [hxn])
  clear h hrec hr hcap hxn
  rw [hl] at HIY HIN HIZ ⊢
  have HL := Lib.hid hl
  clear hl
  go_enter Try.func26, Try.ntmps26
  go_wp2_with fail
  go_loopw [18] (fun vi wr => ∃ k : Nat, vi = .int .i64 (k : Int) ∧ k ≤ n ∧ (∀ x ∈ xs.take k, cap x.p < r.length) ∧ Below w.heap.size w wr) (fun vi _ => n - (intOf vi).toNat)
  case atStart => exact ⟨0, rfl, by omega, (by intro x hx; simp at hx), Below.refl _ _⟩
  case round =>
    obtain ⟨k, rfl, hkn, hbef, hb⟩ := hrel
    obtain ⟨wo, rfl⟩ : ∃ wo, wo = wr := ⟨_, rfl⟩
    have HB := Lib.hid hb
    have HBEF := Lib.hid hbef
    by_cases hlt : k < n
    · have hki : k < xs.length := by have := HXN.out; omega
      have hlt' : (k : Int) < (n : Int) := by omega
      have hh := HNEW.out wo hb
      obtain ⟨pb, c', cur, e, -⟩ := hh.phead (by omega)
      injection e with e1 e2 e3
      subst e1 e3
      obtain ⟨d0, -⟩ := hh.pcell rfl hki
      have HSET := Lib.hid fun W (hW : Below wo.heap.size wo W) g' c' q (hp : Pg wo.heap.size W g' c' q) (hq : WF q) => FileIn.set (h := (HNEW.out W (hb.trans (hW.mono hb.size)))) rfl hki ⟨g', c', q⟩ ⟨hp.mono (Nat.zero_le _), hq, .inr ⟨Nat.le_trans hb.size hp.lt.1, hp.lt.2⟩, (fun e => by
          have h1 := HFB.out
          have h2 := hp.lt.1
          have h3 := hb.size
          have e : g' = fb := e
          omega), (fun e => by
          have h1 := HPB.out _ e
          have h2 := hp.lt.1
          have h3 := hb.size
          have h1 : g' < w.heap.size := h1
          omega)⟩
      have HC1 := Lib.hid fun W (hW : Below wo.heap.size wo W) => (HNEW.out W (hb.trans (hW.mono hb.size))).c 3
      have HC2 := Lib.hid fun W (hW : Below wo.heap.size wo W) => (HNEW.out W (hb.trans (hW.mono hb.size))).pcell rfl hki
      by_cases hfit : cap xs[k].p < r.length
      · have HI := Lib.hid (HIN.out wo hb k hki (by rw [← HL.out]; exact hfit))
        have HSUC : Hid (∀ x ∈ xs.take (k + 1), cap x.p < r.length) := Lib.hid (by
          rw [List.take_succ_eq_append_getElem hki]
          intro x hx
          rcases List.mem_append.1 hx with hx | hx
          · exact hbef x hx
          · rw [List.mem_singleton.1 hx]; exact hfit)
        clear hbef hb hh hfit HSET HC1 HC2
        generalize xs[k].g = pg at *
        generalize xs[k].c = pc at *
        go_wp2_with fail
        refine HI.out.mono ?_
        rintro e w1 ⟨rfl, hb1⟩
        have HB1 := Lib.hid (HB.out.trans (hb1.mono HB.out.size))
        clear hb1
        go_wp2_with fail
        go_roundw
        case rel => exact ⟨k + 1, by go_num, by omega, HSUC.out, HB1.out⟩
        case measure => simp [intOf]; omega
      · have HI := Lib.hid (HIY.out wo hb k hki (by rw [← HL.out]; exact hfit))
        have HA := Lib.hid (halloc_yes hki hbef hfit)
        have HW := Lib.hid ((pin_spec (HNEW.out wo hb |>.page _ (List.getElem_mem hki)).2.1 HR.out (by omega : r.length ≤ cap xs[k].p)).1)
        have hs127 := (pin_spec (HNEW.out wo hb |>.page _ (List.getElem_mem hki)).2.1 HR.out (by omega : r.length ≤ cap xs[k].p)).2.1
        have HG0 := Lib.hid (HNEW.out wo hb).gpv
        clear hbef hb hh hfit
        generalize pin xs[k].p r = q at *
        generalize ffree xs[k].p = s at *
        generalize xs[k].g = pg at *
        generalize xs[k].c = pc at *
        go_wp2_with fail
        refine HI.out.mono ?_
        rintro e w1 ⟨g', c2, rfl, hp1, hb1⟩
        have z3 : w1.cell? ⟨fb, 3, none⟩ = some (.slice (some ⟨pb, 0, none⟩) n c) := by rw [HC1.out w1 hb1, ← HPV.out]; rfl
        obtain ⟨z0, z1⟩ := HC2.out w1 hb1
        have HF := Lib.hid (HSET.out w1 hb1 g' c2 q hp1 HW.out)
        have HB1 := Lib.hid (HB.out.trans (hb1.mono HB.out.size))
        clear hb1 hp1
        go_wp2_with fail
        go_ret
        simp only [HA.out]
        refine ⟨ret_int (by go_num), ⟨_, _, _, HF.out.sub fun _ => .inl, ?_⟩, ?_⟩
        · rw [List.map_set]
        · refine (Fr.of_below HB1.out fun k hk => HFL.out k (HFF.out k hk).1).setCell (fun hk => ?_) _
          exact (HFF.out _ hk).2.2 rfl
    · have hkn' : k = n := by omega
      subst hkn'
      have HA := Lib.hid (halloc_no (xs := xs) (r := r) (by rwa [List.take_of_length_le (by have := HXN.out; omega)] at hbef))
      have hz0 : ffree zeros = 0 := ffree_zeros
      have HQ := Lib.hid (pin_spec wf_zeros.1 HR.out (by rw [cap_zeros]; exact HR.out.len))
      clear hbef hb
      go_wp2_with fail
      refine (newPage _).mono ?_
      rintro e w1 ⟨rfl, hp1, hb1⟩
      have HI := Lib.hid (HIZ.out w1 (HB.out.trans (hb1.mono HB.out.size)) _ hp1)
      have hb1' := HB.out.trans (hb1.mono HB.out.size)
      rw [hz0] at HI HA HQ
      have HB1 := Lib.hid hb1'
      clear hb1 hb1' hp1
      go_wp2_with fail
      refine HI.out.mono ?_
      rintro e w2 ⟨g2, c2, rfl, hp2, hb2⟩
      have hb2' := HB1.out.trans (hb2.mono HB1.out.size)
      have hf2 := HNEW.out w2 hb2'
      have z3 : w2.cell? ⟨fb, 3, none⟩ = some (.slice A k c) := by rw [hf2.c 3, ← HPV.out]; rfl
      have HO := Lib.hid hf2.own
      rw [HPV.out] at HO
      have HF2 := Lib.hid hf2
      have HP2 := Lib.hid hp2
      have HB2 := Lib.hid hb2'
      have HL1 : Hid ((xs.length + 1) * 24 ≤ 140737488355328) := Lib.hid (by have := HXN.out; omega)
      have HL2 : Hid (xs.length + 1 ≤ maxLen) := Lib.hid (by have := HXN.out; unfold maxLen; omega)
      have HXL : Hid (xs.length + 1 = k + 1) := Lib.hid (by rw [HXN.out])
      have HC : Hid (∀ v' w', Ext w2 (.slice A k c) w' v' → w'.cell? ⟨fb, 3, none⟩ = some (.slice A k c) ∧ w'.frozen? ⟨fb, 3, none⟩ = false) := Lib.hid fun v' w' hx => by
        have hne := hf2.gfb.2
        rw [HPV.out] at hne
        refine ⟨hx.old_cell z3 hne, frozen_of_row _ _ _ _ _ ((hx.grown.block fb (hf2.lt fb hf2.gfb.1) (fun e => hne e.symm)).trans hf2.blk)⟩
      have hk1 : (k : Int) + 1 - 1 = (k : Int) := by omega
      clear hb2 hb2' hf2 hp2
      generalize pin zeros r = q at *
      go_wp2_with (at_builtin; refine wpList_app rfl (.tmp 55) (.tmp 57) _ _ rfl rfl rfl (run_push elem_pages pgmLay _ _ _ xs ⟨g2, c2, q⟩ _ HO.out rfl HL1.out HL2.out (Nat.zero_le _) rfl) ?_; rintro v3 w3 ⟨ho3, hx3⟩; obtain ⟨A3, n3, c3', rfl, hn3⟩ := ho3.form'; have d3 := HC.out _ _ hx3)
      have hn3' : n3 = k + 1 := by rw [← hn3, List.length_append]; exact HXL.out
      subst hn3'
      have HX3 := Lib.hid hx3
      have HO3 := Lib.hid ho3
      obtain ⟨d3, d3'⟩ := d3
      clear hx3 ho3 hn3
      go_wp2_with fail
      go_ret
      simp only [HA.out]
      refine ⟨ret_int (by rw [HXN.out, show ((k + 1 : Nat) : Int) - 1 = (k : Int) by omega]; unfold wrap64; omega), ⟨_, _, _, (FileIn.push (h := HF2.out) (by rw [HPV.out]; exact HX3.out) (x := ⟨g2, c2, q⟩) HO3.out ⟨HP2.out.mono (Nat.zero_le _), HQ.out.1, .inr ⟨Nat.le_trans HB1.out.size HP2.out.lt.1, HP2.out.lt.2⟩, ?_, ?_⟩).sub fun _ => .inl, ?_⟩, ?_⟩
      · intro e
        have h1 := HFB.out
        have h2 := HP2.out.lt.1
        have h3 := HB1.out.size
        have e : g2 = fb := e
        omega
      · intro e
        have h1 := HPB.out _ e
        have h2 := HP2.out.lt.1
        have h3 := HB1.out.size
        have h1 : g2 < w.heap.size := h1
        omega
      · rw [List.map_append]; rfl
      · refine ((Fr.of_below HB2.out fun k hk => HFL.out k (HFF.out k hk).1).trans (Fr.ext HX3.out fun g hg => ⟨Nat.lt_of_lt_of_le (HFL.out g (HFF.out g hg).1) HB2.out.size, fun e => ?_⟩)).setCell (fun hk => (HFF.out _ hk).2.1 rfl) _
        rw [← HPV.out] at e
        exact (HFF.out g hg).2.2 e
end Go.Proofs.Ytjdcnkbkbcfhfaa

namespace Go.Proofs.Ytjdcnkbkbcfhfaa
open Go.RowKit Go.Sort

theorem delYes {base g c : Nat} {p : List Nat} (w : World) (h : Pg base w g c p) (hw : WF p) (i : Nat) (hi : i ≤ 1000) {r : List Nat} (hc : cont p i = some r) :
    Calls Try.prog 50 #[.slice (some ⟨g, 0, none⟩) 256 c, .int .i64 i] w fun e w' => ∃ g' c', e = .returned (.tuple #[.slice (some ⟨g', 0, none⟩) 256 c', .int .i64 0]) ∧ Pg w.heap.size w' g' c' (rem p i) ∧ Below w.heap.size w w' :=
  (deletePage w h hw i hi).mono fun e w' h2 => by
    obtain ⟨h1, h2⟩ := h2
    rw [if_pos (by rw [hc]; rfl)] at h2
    obtain ⟨g', c', h3, h4⟩ := h2
    exact ⟨g', c', h3, h4, h1⟩

/-- What Delete leaves, and the cells that are still there. -/
def DelMid (w : World) (fb pb n c pg pc i : Nat) (q : List Nat) (e : Ending) (w' : World) : Prop :=
  ∃ g' c', e = .returned (.tuple #[.slice (some ⟨g', 0, none⟩) 256 c', .int .i64 0]) ∧ Pg w.heap.size w' g' c' q ∧ Below w.heap.size w w' ∧ w'.cell? ⟨fb, 3, none⟩ = some (.slice (some ⟨pb, 0, none⟩) n c) ∧ w'.cell? ⟨pb, i, none⟩ = some (.slice (some ⟨pg, 0, none⟩) 256 pc) ∧ w'.frozen? ⟨pb, i, none⟩ = false
/-- Behind the deletion. -/
def RelMid (F : Nat → Prop) (w : World) (fb tb : Nat) (t : Tbl) (pv : Value) (xs : List PgM) (ps : List PE) (i : Nat) (q : List Nat) (w' : World) : Prop := ∃ x : PgM, x.p = q ∧ (∃ G', FileIn F G' w' fb tb t pv (xs.set i x) ps) ∧ Fr F w w'

theorem Fr.below_trans {F : Nat → Prop} {w w1 w' : World} (hb : Below w.heap.size w w1) (hF : ∀ k, F k → k < w.heap.size) (h : Fr F w1 w') : Fr F w w' := (Fr.of_below hb hF).trans h

set_option maxRecDepth 100000 in
set_option maxHeartbeats 4000000 in
theorem releaseW {F : Nat → Prop} {fb tb : Nat} {t : Tbl} {pgs : Pgs} {ps : List PE} (w : World) (h : FileT F w fb tb t pgs ps) {i s : Nat} {r : List Nat} (hs : hat pgs i s = some r) (hs127 : s < 127) (hn : pgs.length ≤ 1000) :
    Calls Try.prog 28 #[ptr fb, .int .i64 ((i * 256 + s : Nat) : Int)] w fun e w' => e = .returned (.tuple #[]) ∧ FilePost F w fb tb t ps (hrel pgs i s) w' := by
  obtain ⟨G, pv, xs, h, rfl⟩ := h
  rw [List.length_map] at hn
  obtain ⟨hi0, hc0⟩ := hat_some hs
  rw [List.length_map] at hi0
  rw [List.getElem_map] at hc0
  obtain ⟨pb, c, cur, rfl, -, hc1, hc2, -, -⟩ := h.phead (by omega)
  obtain ⟨n, hxn⟩ : ∃ n, xs.length = n := ⟨_, rfl⟩
  have HFL := Lib.hid h.lt
  have HFF := Lib.hid h.out
  have HFB := Lib.hid (h.lt fb h.gfb.1)
  have HPB := Lib.hid fun g hg => h.lt g (h.gpv g hg)
  have HNEW := Lib.hid fun W (hW : Below w.heap.size w W) => h.more hW
  have HXN := Lib.hid hxn
  have c3 : w.cell? ⟨fb, 3, none⟩ = some (.slice (some ⟨pb, 0, none⟩) n c) := by rw [h.c 3, ← hxn]; rfl
  obtain ⟨c0, -⟩ := h.pcell rfl hi0
  have hpg := h.page _ (List.getElem_mem hi0)
  have HDEL : Hid (∀ m, Calls Try.prog 50 #[.slice (some ⟨xs[i].g, 0, none⟩) 256 xs[i].c, .int .i64 s] (w.drewN m) (DelMid w fb pb n c xs[i].g xs[i].c i (rem xs[i].p s))) := Lib.hid fun m => (delYes (w.drewN m) (hpg.1.below (below_drewN (Below.refl _ _) m)) hpg.2.1 s (by omega) hc0).mono fun e w' ⟨g', c', h1, h2, h3⟩ =>
    ⟨g', c', h1, h2, (below_drewN (Below.refl _ _) m).trans h3, by rw [(h.more ((below_drewN (Below.refl _ _) m).trans h3)).c 3, ← hxn]; rfl, ((h.more ((below_drewN (Below.refl _ _) m).trans h3)).pcell rfl hi0).1, ((h.more ((below_drewN (Below.refl _ _) m).trans h3)).pcell rfl hi0).2⟩
  have HSET := Lib.hid fun W (hW : Below w.heap.size w W) g' c' q (hp : Pg w.heap.size W g' c' q) (hq : WF q) => FileIn.set (h := (h.more hW)) rfl hi0 ⟨g', c', q⟩ ⟨hp.mono (Nat.zero_le _), hq, .inr ⟨hp.lt.1, hp.lt.2⟩, (fun e => by
      have h1 := HFB.out
      have h2 := hp.lt.1
      have e : g' = fb := e
      omega), (fun e => by
      have h1 := HPB.out _ e
      have h2 := hp.lt.1
      have h1 : g' < w.heap.size := h1
      omega)⟩
  have HWF := Lib.hid (rem_spec hpg.2.1 (cont_of hc0).1).1
  have HREL : Hid (hrel (xs.map PgM.p) i s = htrim ((xs.map PgM.p).set i (rem xs[i].p s))) := Lib.hid (by
    unfold hrel hdel
    rw [List.getD_eq_getElem?_getD, List.getElem?_map, List.getElem?_eq_getElem hi0]
    rfl)
  have HPV : Hid (Value.slice (some ⟨pb, 0, none⟩) xs.length c = .slice (some ⟨pb, 0, none⟩) n c) := Lib.hid (by rw [hxn])
  have hin : (i : Int) < (n : Int) := by omega
  rw [hxn] at hc1
  have hn1000 : n ≤ 1000 := by omega
  have hn1 : 0 < n := by omega
  rw [HREL.out]
  clear h hs hpg hc0 hxn hn
  generalize rem xs[i].p s = q at *
  generalize xs[i].g = pg at *
  generalize xs[i].c = pc at *
  obtain ⟨id, hid⟩ : ∃ id : Int, id = ((i * 256 + s : Nat) : Int) := ⟨_, rfl⟩
  have hq1 : id.tdiv 256 = (i : Int) := by rw [hid, Int.tdiv_eq_ediv_of_nonneg (by omega)]; omega
  have hq2 : id.tmod 256 = (s : Int) := by rw [hid, Int.tmod_eq_emod_of_nonneg (by omega)]; omega
  have hq3 : IntKind.i64.wrap (i : Int) = (i : Int) := by rw [IntKind.wrap_i64]; omega
  rw [← hid]
  clear hid
  go_enter Try.func28, Try.ntmps28
  go_upto_region 1 with fail
  go_cut [] from 11 to 28 (RelMid F w fb tb t (.slice (some ⟨pb, 0, none⟩) xs.length c) xs ps i q)
  case first =>
    go_region_law (first
      | (go_simp; go_at_call 50; refine (HDEL.out 1).mono ?_; rintro e w1 ⟨g', c2, rfl, hp1, hb1, z3, z0, z1⟩))
    all_goals
      have HMID : Hid (RelMid F w fb tb t (.slice (some ⟨pb, 0, none⟩) xs.length c) xs ps i q (w1.setCell ⟨pb, i, none⟩ (.slice (some ⟨g', 0, none⟩) 256 c2))) := Lib.hid ⟨⟨g', c2, q⟩, rfl, ⟨_, (HSET.out w1 hb1 g' c2 q hp1 HWF.out).sub fun _ => .inl⟩, (Fr.of_below hb1 fun k hk => HFL.out k (HFF.out k hk).1).setCell (p := ⟨pb, i, none⟩) (fun hk => (HFF.out _ hk).2.2 rfl) _⟩
      clear hp1 hb1
      go_wp2_with fail
      go_meet
      exact HMID.out
  case rest =>
    obtain ⟨x, hxq, ⟨G1, hf1⟩, hfr1⟩ := hcut
    obtain ⟨wo, rfl⟩ : ∃ wo, wo = wc := ⟨_, rfl⟩
    have HFR1 := Lib.hid hfr1
    obtain ⟨ys, hys⟩ : ∃ ys, ys = xs.set i x := ⟨_, rfl⟩
    have hyl : ys.length = n := by rw [hys, List.length_set]; exact HXN.out
    have HY : Hid ((xs.map PgM.p).set i q = ys.map PgM.p) := Lib.hid (by rw [hys, List.map_set, hxq])
    rw [HPV.out, ← hys] at hf1
    have HF1 := Lib.hid hf1
    have HYL := Lib.hid hyl
    have d3 : wo.cell? ⟨fb, 3, none⟩ = some (.slice (some ⟨pb, 0, none⟩) n c) := by rw [hf1.c 3]; rfl
    clear hf1 hfr1 hys hxq hyl c3 c0 HDEL HSET
    go_wp2_with fail
    go_loopw [5] (fun vi wr => ∃ k : Nat, vi = .int .i64 (k : Int) ∧ k ≤ n ∧ (∃ G2, FileIn F G2 wr fb tb t (.slice (some ⟨pb, 0, none⟩) k c) (ys.take k) ps) ∧ Fr F w wr ∧ htrim ((ys.take k).map PgM.p) = htrim (ys.map PgM.p)) (fun vi _ => (intOf vi).toNat)
    case atStart => exact ⟨n, rfl, Nat.le_refl _, ⟨G1, by rw [List.take_of_length_le (Nat.le_of_eq HYL.out)]; exact HF1.out⟩, HFR1.out, by rw [List.take_of_length_le (Nat.le_of_eq HYL.out)]⟩
    case round =>
      obtain ⟨k, rfl, hkn, ⟨G2, hf⟩, hfr, htr⟩ := hrel
      obtain ⟨wi, rfl⟩ : ∃ wi, wi = wr := ⟨_, rfl⟩
      have e3 : wi.cell? ⟨fb, 3, none⟩ = some (.slice (some ⟨pb, 0, none⟩) k c) := by rw [hf.c 3]; rfl
      have HFRI := Lib.hid hfr
      have HTR := Lib.hid htr
      have HFI := Lib.hid hf
      clear hfr htr
      rcases k with _ | j
      · clear hf
        go_wp2_with fail
        go_end0
        refine ⟨rfl, ⟨G2, _, _, HFI.out, ?_⟩, HFRI.out⟩
        rw [HY.out, ← HTR.out]
        simp [htrim_nil]
      · have hjl : j < (ys.take (j + 1)).length := by rw [List.length_take, HYL.out]; omega
        obtain ⟨f0, -⟩ := hf.pcell rfl hjl
        have hpg := hf.page _ (List.getElem_mem hjl)
        have HSL := Lib.hid (slotsPage wi hpg.1 hpg.2.1)
        have htk : (ys.take (j + 1)).map PgM.p = (ys.take j).map PgM.p ++ [(ys.take (j + 1))[j].p] := by
          have hjy : j < ys.length := by rw [HYL.out]; omega
          have hgt : (ys.take (j + 1))[j] = ys[j] := List.getElem_take
          rw [hgt, List.take_succ_eq_append_getElem hjy, List.map_append]
          rfl
        have HTK := Lib.hid htk
        have HUL : Hid ((us (ys.take (j + 1))[j].p (B (ys.take (j + 1))[j].p 0)).length ≤ 127) := Lib.hid (Nat.le_trans (us_len _ _) hpg.2.1.n_le)
        have hj1 : ((j + 1 : Nat) : Int) - 1 = (j : Int) := by omega
        have hj2 : (0 : Int) < ((j + 1 : Nat) : Int) := by omega
        have hjk : (j : Int) < ((j + 1 : Nat) : Int) := by omega
        have hjc : ((j : Nat) : Int) ≤ (c : Int) := by omega
        have HZ : Hid (∀ W, Below wi.heap.size wi W → W.cell? ⟨fb, 3, none⟩ = some (.slice (some ⟨pb, 0, none⟩) (j + 1) c) ∧ W.frozen? ⟨fb, 3, none⟩ = false) := Lib.hid fun W hW => ⟨by rw [(hf.more hW).c 3]; rfl, (hf.more hW).fz 3⟩
        have HCUT : Hid (∀ W, Below wi.heap.size wi W → ∃ G', FileIn F G' (W.setCell ⟨fb, 3, none⟩ (.slice (some ⟨pb, 0, none⟩) j c)) fb tb t (.slice (some ⟨pb, 0, none⟩) j c) (ys.take j) ps) := Lib.hid fun W hW => by
          have h1 := ((hf.more hW).cut rfl (Nat.le_of_lt hjl) (by omega)).sub (F' := F) fun _ => .inl
          rw [List.take_take, Nat.min_eq_left (Nat.le_succ j)] at h1
          exact ⟨_, h1⟩
        have HF0 : Hid (∀ k, F k → k < wi.heap.size ∧ k ≠ fb) := Lib.hid fun k hk => ⟨hf.lt k (hf.out k hk).1, (hf.out k hk).2.1⟩
        clear hf hpg htk
        generalize (ys.take (j + 1))[j].g = pg' at *
        generalize (ys.take (j + 1))[j].c = pc' at *
        generalize (ys.take (j + 1))[j].p = pp at *
        clear hjl
        by_cases hem : emp pp = true
        · have hu0 : us pp (B pp 0) = [] := List.isEmpty_iff.1 hem
          have HT2 : Hid (htrim ((ys.take j).map PgM.p) = htrim (ys.map PgM.p)) := Lib.hid (by rw [← HTR.out, HTK.out, htrim_snoc, if_pos hem])
          rw [hu0] at HSL
          clear hem hu0 HUL
          go_wp2_with fail
          refine HSL.out.mono ?_
          rintro e w1 ⟨v, rfl, hv, hb1⟩
          obtain ⟨A1, n1, c1, rfl, hn1⟩ := hv.form'
          simp only [List.length_nil] at hn1
          subst hn1
          obtain ⟨z3, z3'⟩ := HZ.out w1 hb1
          have HB1 := Lib.hid hb1
          clear hb1 hv
          go_wp2_with fail
          go_roundw
          case rel => exact ⟨j, by go_num, by omega, HCUT.out w1 HB1.out, (HFRI.out.trans (Fr.of_below HB1.out fun k hk => (HF0.out k hk).1)).setCell (fun hk => (HF0.out _ hk).2 rfl) _, HT2.out⟩
          case measure => simp [intOf]
        · have HT2 : Hid (htrim (ys.map PgM.p) = (ys.take (j + 1)).map PgM.p) := Lib.hid (by rw [← HTR.out, HTK.out, htrim_snoc, if_neg hem])
          obtain ⟨m, hm⟩ : ∃ m, (us pp (B pp 0)).length = m + 1 := by
            cases hu : us pp (B pp 0) with
            | nil => exact absurd (List.isEmpty_iff.2 hu) hem
            | cons a l => exact ⟨l.length, rfl⟩
          have HM := Lib.hid hm
          have hm127 : m ≤ 127 := by have := HUL.out; omega
          clear hem hm
          go_wp2_with fail
          refine HSL.out.mono ?_
          rintro e w1 ⟨v, rfl, hv, hb1⟩
          obtain ⟨A1, n1, c1, rfl, hn1⟩ := hv.form'
          rw [HM.out] at hn1
          subst hn1
          have hm0 : (0 : Int) < ((m + 1 : Nat) : Int) := by omega
          have HB1 := Lib.hid hb1
          clear hb1 hv
          go_wp2_with fail
          go_end0
          refine ⟨rfl, ⟨_, _, _, (HFI.out.more HB1.out).sub fun _ => .inl, ?_⟩, HFRI.out.trans (Fr.of_below HB1.out fun k hk => (HF0.out k hk).1)⟩
          rw [HY.out, HT2.out]
end Go.Proofs.Ytjdcnkbkbcfhfaa

namespace Go.Proofs.Ytjdcnkbkbcfhfaa

/-- What the decoder holds: the input that is left, and whether it has failed. -/
abbrev DSt := List UInt8 × Bool

def dByte : DSt → UInt8 × DSt
  | ([], _) => (0, ([], true))
  | (c :: r, f) => (c, (r, f))
def dStr (n : Nat) (s : DSt) : List UInt8 × DSt := if s.1.length < n then ([], (s.1, true)) else (s.1.take n, (s.1.drop n, s.2))

/-- One step of the varint: what is added to n. -/
def uvAdd (n : Nat) (c : UInt8) (i : Nat) : Nat := n ||| ((c.toNat % 128) * 2 ^ (7 * i)) % 18446744073709551616
/-- The varint from its group number i on, so many rounds being left. -/
def dUv : Nat → Nat → Nat → DSt → Nat × DSt
  | 0, _, _, s => (0, (s.1, true))
  | f + 1, i, n, s => if (dByte s).1.toNat < 128 then (uvAdd n (dByte s).1 i, (dByte s).2) else dUv f (i + 1) (uvAdd n (dByte s).1 i) (dByte s).2
def unzig (u : Nat) : Int := if u % 2 = 0 then (u / 2 : Nat) else -((u / 2 : Nat) : Int) - 1

/-- One value. -/
def dVal (s : DSt) : Val × DSt :=
  let k := (dByte s).1
  let s1 := (dByte s).2
  if k = 1 then (⟨1, unzig (dUv 10 0 0 s1).1, ByteArray.empty⟩, (dUv 10 0 0 s1).2)
  else if k = 2 then (⟨2, ((dByte s1).1.toNat : Int), ByteArray.empty⟩, (dByte s1).2)
  else if k = 3 then (⟨3, 0, ⟨(dStr (dByte s1).1.toNat (dByte s1).2).1.toArray⟩⟩, (dStr (dByte s1).1.toNat (dByte s1).2).2)
  else (⟨(k.toNat : Int), 0, ByteArray.empty⟩, s1)
def dVals : Nat → DSt → List Val × DSt
  | 0, s => ([], s)
  | n + 1, s => if s.2 = true then ([], s) else ((dVal s).1 :: (dVals n (dVal s).2).1, (dVals n (dVal s).2).2)
def dRow (s : DSt) : List Val × DSt := dVals (dByte s).1.toNat (dByte s).2

theorem uvAdd_val {n : Nat} {c : UInt8} {i : Nat} (hn : n < 2 ^ (7 * i)) (hc : (c.toNat % 128) * 2 ^ (7 * i) < 18446744073709551616) : uvAdd n c i = n + (c.toNat % 128) * 2 ^ (7 * i) := by
  unfold uvAdd
  rw [Nat.mod_eq_of_lt hc, Nat.or_comm, ← Nat.shiftLeft_eq, ← Nat.shiftLeft_add_eq_or_of_lt hn, Nat.add_comm]

theorem ofNat_toNat {k : Nat} (h : k < 256) : (UInt8.ofNat k).toNat = k := by
  rw [UInt8.toNat_ofNat']
  exact Nat.mod_eq_of_lt h

theorem dUv_enc (f : Nat) : ∀ (i n m : Nat) (rest : List UInt8) (b : Bool), n < 2 ^ (7 * i) → n + m * 2 ^ (7 * i) < 18446744073709551616 → m < 128 ^ (f + 1) →
    dUv (f + 1) i n (encU m ++ rest, b) = (n + m * 2 ^ (7 * i), (rest, b)) := by
  induction f with
  | zero =>
    intro i n m rest b hn hm hf
    have hlo : m < 128 := by simpa using hf
    rw [encU_lo hlo]
    have hb : (dByte ([UInt8.ofNat m] ++ rest, b)) = (UInt8.ofNat m, (rest, b)) := rfl
    have ht : (UInt8.ofNat m).toNat = m := ofNat_toNat (by omega)
    have hmod : m % 128 = m := Nat.mod_eq_of_lt hlo
    rw [dUv, hb, if_pos (by show (UInt8.ofNat m).toNat < 128; omega)]
    rw [uvAdd_val hn (by rw [ht, hmod]; omega), ht, hmod]
  | succ f ih =>
    intro i n m rest b hn hm hf
    by_cases hlo : m < 128
    · rw [encU_lo hlo]
      have hb : (dByte ([UInt8.ofNat m] ++ rest, b)) = (UInt8.ofNat m, (rest, b)) := rfl
      have ht : (UInt8.ofNat m).toNat = m := ofNat_toNat (by omega)
      have hmod : m % 128 = m := Nat.mod_eq_of_lt hlo
      rw [dUv, hb, if_pos (by show (UInt8.ofNat m).toNat < 128; omega)]
      rw [uvAdd_val hn (by rw [ht, hmod]; omega), ht, hmod]
    · rw [encU_hi (by omega)]
      have hb : (dByte (UInt8.ofNat (m % 128 + 128) :: encU (m / 128) ++ rest, b)) = (UInt8.ofNat (m % 128 + 128), (encU (m / 128) ++ rest, b)) := rfl
      have ht : (UInt8.ofNat (m % 128 + 128)).toNat = m % 128 + 128 := ofNat_toNat (by omega)
      have hmod : (m % 128 + 128) % 128 = m % 128 := by omega
      have hP : 0 < 2 ^ (7 * i) := Nat.two_pow_pos _
      have hle : m % 128 * 2 ^ (7 * i) ≤ m * 2 ^ (7 * i) := Nat.mul_le_mul_right _ (Nat.mod_le _ _)
      have hpow : 2 ^ (7 * (i + 1)) = 128 * 2 ^ (7 * i) := by rw [Nat.mul_add, Nat.pow_add]; omega
      have hsum : n + m % 128 * 2 ^ (7 * i) + m / 128 * 2 ^ (7 * (i + 1)) = n + m * 2 ^ (7 * i) := by
        rw [hpow, ← Nat.mul_assoc, Nat.add_assoc, ← Nat.add_mul]
        congr 2
        omega
      rw [dUv, hb, if_neg (by show ¬ (UInt8.ofNat (m % 128 + 128)).toNat < 128; omega)]
      rw [uvAdd_val hn (by rw [ht, hmod]; omega), ht, hmod]
      have hlt : n + m % 128 * 2 ^ (7 * i) < 2 ^ (7 * (i + 1)) := by
        rw [hpow]
        have : m % 128 * 2 ^ (7 * i) ≤ 127 * 2 ^ (7 * i) := Nat.mul_le_mul_right _ (by omega)
        omega
      rw [ih (i + 1) _ (m / 128) rest b hlt (by omega) (by rw [Nat.pow_succ] at hf; omega), hsum]

theorem dUv_enc10 {m : Nat} (h : IsU64 m) (rest : List UInt8) (b : Bool) : dUv 10 0 0 (encU m ++ rest, b) = (m, (rest, b)) := by
  unfold IsU64 at h
  have := dUv_enc 9 0 0 m rest b (by simp) (by simpa using h) (by omega)
  simpa using this

theorem unzig_zig (i : Int) : unzig (zig i) = i := by
  unfold unzig zig
  by_cases h : 0 ≤ i
  · rw [if_pos h, if_pos (by omega)]; omega
  · rw [if_neg h, if_neg (by omega)]; omega

theorem bytes_empty {s : ByteArray} (h : s.toList.isEmpty = true) : s = ByteArray.empty := by
  rw [ByteArray.toList_eq] at h
  obtain ⟨⟨x⟩⟩ := s
  simp at h
  subst h
  rfl

theorem dVal_enc {v : Val} (h : v.err = 0) (rest : List UInt8) (b : Bool) : dVal (encV v ++ rest, b) = (v, (rest, b)) := by
  obtain ⟨k, n, s⟩ := v
  rcases valid_cases h with ⟨h1, h2, h3⟩ | ⟨h1, h2, h3, h4⟩ | ⟨h1, h2, h3⟩ | ⟨h1, h2, h3⟩
  · simp only at h1 h2 h3
    subst h1; subst h2
    have := bytes_empty h3
    subst this
    rfl
  · simp only at h1 h2 h3 h4
    subst h1
    have := bytes_empty h4
    subst this
    have hd := dUv_enc10 (zig_u64 h2 h3) rest b
    show dVal (1 :: (encU (zig n) ++ rest), b) = _
    simp only [dVal, dByte, if_true, hd, unzig_zig]
  · simp only at h1 h2 h3
    subst h1
    have := bytes_empty h3
    subst this
    rcases h2 with rfl | rfl <;> rfl
  · simp only at h1 h2 h3
    subst h1; subst h2
    have ht : (UInt8.ofNat s.size).toNat = s.size := ofNat_toNat (by omega)
    have hl : s.data.toList.length = s.size := rfl
    have hs : dStr s.size (s.data.toList ++ rest, b) = (s.data.toList, (rest, b)) := by
      unfold dStr
      rw [if_neg (by simp only [List.length_append]; omega)]
      simp only [← hl, List.take_left, List.drop_left]
    show dVal (3 :: UInt8.ofNat s.size :: (s.data.toList ++ rest), b) = _
    have e1 : (3 : UInt8) ≠ 1 := by decide
    have e2 : (3 : UInt8) ≠ 2 := by decide
    simp only [dVal, dByte, if_neg e1, if_neg e2, if_true, ht, hs]

theorem dVals_enc : ∀ (r : List Val) (rest : List UInt8), (∀ v ∈ r, v.err = 0) → dVals r.length (r.flatMap encV ++ rest, false) = (r, (rest, false))
  | [], rest, _ => rfl
  | v :: r, rest, h => by
    rw [List.flatMap_cons, List.append_assoc, List.length_cons, dVals, if_neg (by simp), dVal_enc (h v (by simp))]
    rw [dVals_enc r rest fun x hx => h x (by simp [hx])]

theorem dRow_enc {r : List Val} (h : rErr r = 0) (rest : List UInt8) : dRow (encR r ++ rest, false) = (r, (rest, false)) := by
  obtain ⟨h1, h2⟩ := rErr_zero h
  have ht : (UInt8.ofNat r.length).toNat = r.length := ofNat_toNat (by omega)
  unfold dRow encR
  simp only [List.cons_append, dByte, ht]
  exact dVals_enc r rest h2

theorem encR_inj {a b : List Val} (ha : rErr a = 0) (hb : rErr b = 0) (h : encR a = encR b) : a = b := by
  have h1 := dRow_enc ha []
  rw [h, dRow_enc hb []] at h1
  exact (Prod.mk.inj h1).1.symm

/-- No valid row's encoding begins another's. -/
theorem encR_prefix {a b : List Val} (ha : rErr a = 0) (hb : rErr b = 0) {rest : List UInt8} (h : encR a ++ rest = encR b) : rest = [] := by
  have h1 := dRow_enc ha rest
  have h2 := dRow_enc hb []
  rw [List.append_nil, ← h, h1] at h2
  exact (Prod.mk.inj (Prod.mk.inj h2).2).1

end Go.Proofs.Ytjdcnkbkbcfhfaa
