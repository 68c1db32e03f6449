/-
  What a step of apply leaves; the triggers' cells. No program's walk.
-/
import Derived.Test.YtefifkleamiabaaG25
namespace Go.Proofs.Ytefifkleamiabaa
open Go.RowKit Go.Sort

/-- Behind the two stores. -/
def PS (B px : Nat) (s : Sc) (TA : Option Addr) (tc : Nat) (ts : List Tr) (a b : Int) (full : Bool) (n : Nat) (va : Value) (w wx : World) : Prop :=
  ∃ A4 c4 rs' va' qs', XIn B px s TA tc ts A4 c4 rs' va' qs' wx ∧ rs'.map RelM.d = iData full a b ∧ qs'.length ≤ n ∧ Below B w wx ∧ (∀ k, KOk (Free px va w) w k → KOk (Free px va' wx) wx k) ∧ Keeps (Free px va w) w wx
/-- The change's box. -/
def CB4 (g : Nat) (c : ChM) (W : World) : Prop := W.cell? ⟨g, 0, none⟩ = some (.int .i64 c.kind) ∧ W.cell? ⟨g, 1, none⟩ = some (.string c.name) ∧ W.cell? ⟨g, 2, none⟩ = some (.slice c.key.A c.key.row.length c.key.c) ∧ W.cell? ⟨g, 3, none⟩ = some (.slice c.row.A c.row.row.length c.row.c)
theorem CB4.of {g : Nat} {c : ChM} {W : World} (h : W.heap[g]? = some (.cells c.cells 50 (0, 0))) : CB4 g c W := by
  unfold ChM.cells at h
  exact ⟨cell_of_row _ _ 0 _ _ _ h, cell_of_row _ _ 1 _ _ _ h, cell_of_row _ _ 2 _ _ _ h, cell_of_row _ _ 3 _ _ _ h⟩
/-- Behind the append: what the stores want. -/
def ApR (px g : Nat) (c : ChM) (v4 : Value) (P : World → Prop) (v5 : Value) (w5 : World) : Prop :=
  ∃ A5 n5 c5, v5 = .slice A5 n5 c5 ∧ CB4 g c w5 ∧ CB4 g c (w5.setCell ⟨px, 4, none⟩ v4) ∧ CB4 g c ((w5.setCell ⟨px, 4, none⟩ v4).setCell ⟨px, 5, none⟩ (.slice A5 n5 c5))
    ∧ (∃ q, w5.cell? ⟨px, 4, none⟩ = some q) ∧ (∃ q, w5.cell? ⟨px, 5, none⟩ = some q) ∧ (w5.frozen? ⟨px, 4, none⟩ = false ∧ w5.frozen? ⟨px, 5, none⟩ = false) ∧ Hid (P ((w5.setCell ⟨px, 4, none⟩ v4).setCell ⟨px, 5, none⟩ (.slice A5 n5 c5)))
section
variable {B px : Nat} {s : Sc} {TA : Option Addr} {tc : Nat} {ts : List Tr} {a b : Int} {IA : Option Addr} {ic : Nat} {rs : List RelM} {va : Value} {qs : List ChM} {w W : World}
theorem XIn.append (h : XIn B px s TA tc ts IA ic rs va qs w) {w4 : World} {A4 : Option Addr} {n4 c4 : Nat} {rs' : List RelM} {full : Bool} (hio : InO w.heap.size w w4 (.slice A4 n4 c4) rs' (iData full a b)) {g : Nat} (hg : Free px va w g) {c : ChM} (hc : w.heap[g]? = some (.cells c.cells 50 (0, 0))) {n : Nat} (hq : qs.length + 1 ≤ n) (hn : n ≤ 20) (ty : TypeId) :
    ∃ v5 w5, (Builtin.append_ #[41, 41] ty #[va, .slice (some ⟨w4.heap.size, 0, none⟩) 1 1]).run Try.prog (w4.alloc (.cells #[.int .i64 c.kind, .string c.name, .slice c.key.A c.key.row.length c.key.c, .slice c.row.A c.row.row.length c.row.c] 50)) = .ok v5 w5
      ∧ ApR px g c (.slice A4 n4 c4) (PS B px s TA tc ts a b full n va w) v5 w5 := by
  have hlt := h.lt
  have hs4 := hio.bel.size
  have hB := h.hB
  obtain ⟨v5, w5, hrun, ho5, hx5⟩ := run_push elem_chg chmLay ty w4 va qs c #[.int .i64 c.kind, .string c.name, .slice c.key.A c.key.row.length c.key.c, .slice c.row.A c.row.row.length c.row.c] (h.app.below hio.bel) rfl (by omega) (by unfold maxLen; omega) (by omega) rfl
  refine ⟨v5, w5, hrun, ?_⟩
  obtain ⟨A5, c5, rfl, -, -⟩ := ho5.form
  obtain ⟨A4', c4', hv4, -, -⟩ := hio.own.form
  injection hv4 with e1 e2 e3
  subst e1 e2 e3
  obtain ⟨hx, hb, hk, hkp⟩ := h.step hio rfl ho5 hx5
  have hgv : w5.heap[g]? = some (.cells c.cells 50 (0, 0)) :=
    (hx5.keeps (S := fun k => k = g) (fun k hk => ⟨by rw [hk]; have := hg.1; omega, fun e => hg.2.2 (by rw [← e, hk])⟩) g rfl).trans ((hio.bel.block g hg.1).trans hc)
  have hpv : w5.heap[px]? = some (.cells (exC s (.slice TA ts.length tc) (.slice IA rs.length ic) va) 68 (0, 0)) :=
    (hx5.keeps (S := fun k => k = px) (fun k hk => ⟨by rw [hk]; omega, fun e => h.ne (by rw [← e, hk])⟩) px rfl).trans ((hio.bel.block px hlt).trans h.blk)
  unfold exC at hpv
  refine ⟨A5, _, c5, rfl, CB4.of hgv, CB4.of ?_, CB4.of ?_, ⟨_, cell_of_row _ _ 4 _ _ _ hpv⟩, ⟨_, cell_of_row _ _ 5 _ _ _ hpv⟩, ⟨frozen_of_row _ _ 4 _ _ hpv, frozen_of_row _ _ 5 _ _ hpv⟩, Lib.hid ⟨_, _, rs', _, _, hx, hio.dat, ?_, hb, hk, hkp⟩⟩
  · rw [Below.heap_setCell _ _ _ _ hg.2.1]; exact hgv
  · rw [Below.heap_setCell _ _ _ _ hg.2.1, Below.heap_setCell _ _ _ _ hg.2.1]; exact hgv
  · rw [List.length_append]; exact hq

/-- The cells of the two triggers and their actions. -/
structure TgC (TA RA RB AA AB : Option Addr) (ac tb toff rb roff ab aoff : Nat) (S : Nat → Prop) (W : World) : Prop where
  t : TA = some ⟨tb, toff, none⟩
  r : RA = some ⟨rb, roff, none⟩
  a : AA = some ⟨ab, aoff, none⟩
  t0 : W.cell? ⟨tb, toff, none⟩ = some (.int .i64 1) ∧ W.cell? ⟨tb, toff + 1, none⟩ = some (.string nItem) ∧ W.cell? ⟨tb, toff + 2, none⟩ = some (.slice RA 1 1)
  t1 : W.cell? ⟨tb, toff + 3, none⟩ = some (.int .i64 2) ∧ W.cell? ⟨tb, toff + 3 + 1, none⟩ = some (.string nItem) ∧ W.cell? ⟨tb, toff + 3 + 2, none⟩ = some (.slice AA 1 1)
  a0 : W.cell? ⟨rb, roff, none⟩ = some (.int .i64 2) ∧ W.cell? ⟨rb, roff + 1, none⟩ = some (.string nItem) ∧ W.cell? ⟨rb, roff + 2, none⟩ = some (.slice RB 1 1)
  a1 : W.cell? ⟨ab, aoff, none⟩ = some (.int .i64 1) ∧ W.cell? ⟨ab, aoff + 1, none⟩ = some (.string nItem) ∧ W.cell? ⟨ab, aoff + 2, none⟩ = some (.slice AB 4 ac)
  o0 : Elems 4 opdCs W S RB [0]
  o1 : Elems 4 opdCs W S AB [0, 1, 2, 3]
theorem TgOk.cells {S : Nat → Prop} {W : World} {TA RA RB AA AB : Option Addr} {ac : Nat} (h : TgOk S W TA [tRem RA RB, tAdd AA AB ac]) : ∃ tb toff rb roff ab aoff, TgC TA RA RB AA AB ac tb toff rb roff ab aoff S W := by
  obtain ⟨tb, toff, e, -, p0, p1, p2⟩ := h.el.tr (k := 0) (by show 0 < 2; omega)
  obtain ⟨tb', toff', e', -, q0, q1, q2⟩ := h.el.tr (k := 1) (by show 1 < 2; omega)
  rw [e] at e'
  injection e' with e'
  injection e' with e1 e2
  subst e1 e2
  have h0 := h.tr (tRem RA RB) (by simp)
  have h1 := h.tr (tAdd AA AB ac) (by simp)
  obtain ⟨rb, roff, er, -, r0, r1, r2⟩ := h0.el.ac (k := 0) (by show 0 < 1; omega)
  obtain ⟨ab, aoff, ea, -, s0, s1, s2⟩ := h1.el.ac (k := 0) (by show 0 < 1; omega)
  have o0 := h0.act ⟨2, nItem, RB, 1, [0]⟩ (by simp [tRem])
  have o1 := h1.act ⟨1, nItem, AB, ac, [0, 1, 2, 3]⟩ (by simp [tAdd])
  rw [Nat.zero_mul, Nat.add_zero] at p0 p1 p2 r0 r1 r2 s0 s1 s2
  rw [Nat.one_mul] at q0 q1 q2
  exact ⟨tb, toff, rb, roff, ab, aoff, e, er, ea, ⟨p0, p1, p2⟩, ⟨q0, q1, q2⟩, ⟨r0, r1, r2⟩, ⟨s0, s1, s2⟩, o0, o1⟩
theorem KOk.nil {S : Nat → Prop} {w : World} : KOk S w ⟨none, 0, []⟩ :=
  ⟨(((Own.nil (base := 0) (e := 26) w).elems valLay.len rfl).more fun g hg => by cases hg), by show 0 ≤ 12; omega⟩
end
end Go.Proofs.Ytefifkleamiabaa
