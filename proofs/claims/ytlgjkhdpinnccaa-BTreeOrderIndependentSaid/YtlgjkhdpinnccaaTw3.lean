/-
  The walk of split at an inner node.
-/
import Derived.Test.YtlgjkhdpinnccaaTw2
import Derived.Deep.RegionHeld3
import Derived.Deep.Cut
import Derived.Deep.CutRange
import Derived.Deep.RegionLaw
namespace Go.Proofs.Ytlgjkhdpinnccaa
open Go.RowKit Go.Sort

/-- An inner node is split: the new node b, the key k that parts them. -/
def SplitInner (w : World) (M : Nodes) (O : Own') (a : Nat) (ks : List Key) (cs : List Nat) (e : Ending) (w' : World) : Prop :=
  ∃ (b : Nat) (k : Key) (M' : Nodes) (O' : Own'), e = .returned (.tuple #[ptr b, .slice k.A k.row.length k.c]) ∧ ks[cs.length / 2 - 1]? = some k ∧ St w O w' M' O'
    ∧ M' a = some ⟨[], ks.take (cs.length / 2 - 1), cs.take (cs.length / 2)⟩ ∧ M' b = some ⟨[], ks.drop (cs.length / 2), cs.drop (cs.length / 2)⟩ ∧ (∀ y, y ≠ a → y ≠ b → M' y = M y) ∧ w.heap.size ≤ b ∧ KOk (fun k => O' k = .row) w' k

/-- Two fields of a node are laid anew, their values in blocks made since. -/
theorem St.two_new {w0 w w2 : World} {O0 O : Own'} {M : Nodes} (h : St w0 O0 w M O) {a b : Nat} {n nb : NC} {ks : List Key} {cs : List Nat} {V Vb : Nat → Value} (ha : M a = some n) (hV : NodeAt w O a n V) {v1 v2 : Value}
    (hb : Below w.heap.size w w2) (h1 : Own 1 Key.cs 30 w.heap.size w2 v1 ks) (h2 : Own 1 Nid.cs 60 w.heap.size w2 v2 cs) (hne : ∀ g, v1.ownBlock = some g → v2.ownBlock ≠ some g) (hes : n.es = [])
    (hrk : ∀ k ∈ ks, KOk (fun k => O k = .row) w k) (hnb : NodeAt w O b nb Vb) (hab : b ≠ a) :
    ∃ O', St w0 O0 ((w2.setCell ⟨a, 2, none⟩ v2).setCell ⟨a, 1, none⟩ v1) (upd M a (some ⟨[], ks, cs⟩)) O' ∧ NodeAt ((w2.setCell ⟨a, 2, none⟩ v2).setCell ⟨a, 1, none⟩ v1) O' a ⟨[], ks, cs⟩ (fun j => if j = 1 then v1 else if j = 2 then v2 else V j)
      ∧ NodeAt ((w2.setCell ⟨a, 2, none⟩ v2).setCell ⟨a, 1, none⟩ v1) O' b nb Vb := by
  obtain ⟨es, ks0, cs0⟩ := n
  simp only at hes
  subst hes
  obtain ⟨s1, n1⟩ := h.field_new (n' := ⟨[], ks0, cs⟩) ha hV (i := 2) (by omega) hb (h2.mono (Nat.zero_le _)) (fun g hg => (Own.lt h2 g hg).1) same2 (fun e he => by cases he) hV.rowk
  have nb1 := hV.other_new hnb hab h.store.free (i := 2) hb fun g hg => (Own.lt h2 g hg).1
  have hf : ∀ g, v1.ownBlock = some g → ownBy O v2 (.fld 2 a) g = .free ∧ w0.heap.size ≤ g := fun g hg => by
    have hl := (Own.lt h1 g hg).1
    exact ⟨(ownBy_ne (hne g hg)).trans (h.store.free g hl), Nat.le_trans h.size hl⟩
  have h1' : Own 1 Key.cs 30 0 (w2.setCell ⟨a, 2, none⟩ v2) v1 ks := (h1.mono (Nat.zero_le _)).of_block fun g hg => heap_setCell_off (fun e => by
    have := (Own.lt h1 g hg).1
    have h3 := h.store.lt ha
    omega) v2
  have hrk' : ∀ k ∈ ks, KOk (fun k => ownBy O v2 (.fld 2 a) k = .row) (w2.setCell ⟨a, 2, none⟩ v2) k := fun k hk => (hrk k hk).of fun i hi => by
    have hlt := h.store.lt' (k := i) (by rw [hi]; simp)
    refine ⟨?_, ?_⟩
    · rw [heap_setCell_off (fun e => by have := hV.own; rw [← e, hi] at this; cases this)]
      exact hb.block i hlt
    · rw [ownBy_ne fun e => ?_]
      · exact hi
      · have := (Own.lt h2 i e).1
        omega
  obtain ⟨s2, n2⟩ := s1.field (n' := ⟨[], ks, cs⟩) (upd_same _ _ _) n1 (i := 1) (by omega) (World.grownBy.refl _ _) h1' (fun g hg => .inr (hf g hg)) same1 (fun e he => by cases he) hrk'
  refine ⟨_, ?_, n2, n1.other nb1 hab s1.store.free (i := 1) (by omega) (World.grownBy.refl _ _) fun g hg => .inr (hf g hg).1⟩
  have : upd (upd M a (some ⟨[], ks0, cs⟩)) a (some ⟨[], ks, cs⟩) = upd M a (some ⟨[], ks, cs⟩) := by
    funext k
    unfold upd
    split <;> rfl
  rw [this] at s2
  exact s2

/-- A row stays. -/
theorem St.kok {w0 w : World} {O0 O : Own'} {M0 M : Nodes} {k : Key} (h : St w0 O0 w M O) (hs : Store w0 M0 O0) (hk : KOk (fun k => O0 k = .row) w0 k) : KOk (fun k => O k = .row) w k :=
  hk.of fun i hi => by
    have hl := hs.lt' (k := i) (by rw [hi]; simp)
    exact ⟨h.keep i hl (by rw [hi]; exact fun h => h), (h.own i hl).trans hi⟩

set_option maxRecDepth 100000 in
set_option maxHeartbeats 4000000 in
theorem splitInnerW (a : Nat) (ks : List Key) (cs : List Nat) (w : World) (M : Nodes) (O : Own') (hs : Store w M O) (ha : M a = some ⟨[], ks, cs⟩) (hk : ks.length + 1 = cs.length) (h4 : 4 ≤ cs.length) (hl : cs.length ≤ 40) :
    Calls Try.prog 32 #[ptr a] w (SplitInner w M O a ks cs) := by
  obtain ⟨V, hV⟩ := hs.at_ a _ ha
  obtain ⟨A0, c0, A1, c1, A2, c2, e0, e1, e2, h0, h1, hc2, hfr, o0, o1, o2⟩ := hV.cells
  obtain ⟨g1, c, cur, hv, -, hg, hcl1, hcm1, -, -⟩ := o1.open_ (by show 0 < ks.length; omega)
  injection hv with hv1 _ hv2
  subst hv1 hv2
  obtain ⟨g2, c, cur2, hv, -, hg2, hcl2, hcm2, -, -⟩ := o2.open_ (by show 0 < cs.length; omega)
  injection hv with hv1 _ hv2
  subst hv1 hv2
  obtain ⟨m, hm⟩ : ∃ m, m = cs.length / 2 := ⟨_, rfl⟩
  obtain ⟨n, hn⟩ : ∃ n, n = cs.length := ⟨_, rfl⟩
  obtain ⟨n1, hn1⟩ : ∃ n1, n1 = ks.length := ⟨_, rfl⟩
  obtain ⟨k, hkk⟩ : ∃ k, ks[m - 1]? = some k := ⟨_, List.getElem?_eq_getElem (by omega)⟩
  simp only [← hn, ← hn1, List.length_nil] at h0 h1 hc2 o0 o1 o2 hcl1 hcl2 e0 e1 e2
  have hmn : 2 ≤ m ∧ m < n ∧ m < n1 ∧ n1 ≤ 40 ∧ n ≤ 40 ∧ m ≤ 40 := by omega
  have hdiv : (n : Int) / 2 = (m : Int) := by omega
  obtain ⟨b, hb⟩ : ∃ b, b = w.heap.size := ⟨_, rfl⟩
  obtain ⟨w1, hw1⟩ : ∃ w1, w1 = w.alloc (.cells #[.slice none 0 0, .slice none 0 0, .slice none 0 0] 70) := ⟨_, rfl⟩
  have hS1 : St w O w1 M O := by rw [hw1]; exact (St.refl hs).alloc _
  have hb1 : w1.heap[b]? = some (.cells #[.slice none 0 0, .slice none 0 0, .slice none 0 0] 70 (0, 0)) := by rw [hw1, hb]; exact heap_alloc_new w _
  have hal := hs.lt ha
  obtain ⟨O1, hS1, hNb, -, hO1, -⟩ := hS1.fresh (a := b) (n := ⟨[], [], []⟩) (V := fun _ => .slice none 0 0) hb1 ⟨hs.free b (by omega), by omega⟩ (fun i _ => nodeNil _ _) (fun i _ g hg => by cases hg) (fun i j g _ _ hg _ => by cases hg) (fun e he => by cases he) (fun k hk => by cases hk)
  subst hb
  have hba : ¬ w.heap.size = a := by omega
  have hab : ¬ a = w.heap.size := by omega
  have hNa : NodeAt w1 O1 a ⟨[], ks, cs⟩ V := hV.below hs.free (by rw [hw1]; exact (Below.refl _ _).alloc (Nat.le_refl _) _) hO1
  have c10 := hNa.cell (i := 0) (by omega) e0
  have c11 := hNa.cell (i := 1) (by omega) e1
  have c12 := hNa.cell (i := 2) (by omega) e2
  have o11 : Own 1 Key.cs 30 0 w1 (.slice (some ⟨g1, 0, none⟩) n1 c1) ks := by
    have := hNa.fld 1 (by omega)
    rw [e1] at this
    exact this
  have o12 : Own 1 Nid.cs 60 0 w1 (.slice (some ⟨g2, 0, none⟩) n c2) cs := by
    have := hNa.fld 2 (by omega)
    rw [e2] at this
    exact this
  obtain ⟨b', o', he, -, hck⟩ := (o11.elems keyLay.len rfl).key (k := m - 1) (by omega)
  injection he with he
  injection he with he1 he2
  subst he1 he2
  have hkk' : ks[m - 1] = k := by rw [List.getElem?_eq_getElem (by omega)] at hkk; exact Option.some.inj hkk
  rw [hkk', Nat.zero_add] at hck
  have HCc : Hid (∀ W, Below w1.heap.size w1 W → Calls Try.prog 48 #[.slice (some ⟨g2, m, none⟩) (n - m) (c2 - m)] W fun e w' => ∃ A p c, e = .returned (.slice A p c) ∧ Own 1 Nid.cs 60 W.heap.size w' (.slice A p c) (cs.drop m) ∧ Below W.heap.size W w' ∧ Below w1.heap.size w1 w') := Lib.hid fun W hW => by
    have := own_drop nidLay (o12.below hW) (m := m) (by omega) hn (by omega)
    rw [Nat.mul_one] at this
    refine (cloneNid _ _ _ _ W _ this (fun _ h => h) (by rw [List.length_drop, hn]) (by rw [List.length_drop]; omega)).mono ?_
    rintro e w' ⟨v, rfl, h1, h2⟩
    obtain ⟨A, c, rfl, -, -⟩ := h1.form
    exact ⟨_, _, _, rfl, h1, h2, hW.trans (h2.mono hW.size)⟩
  have HCk : Hid (∀ W, Below w1.heap.size w1 W → Calls Try.prog 49 #[.slice (some ⟨g1, m, none⟩) (n1 - m) (c1 - m)] W fun e w' => ∃ A p c, e = .returned (.slice A p c) ∧ Own 1 Key.cs 30 W.heap.size w' (.slice A p c) (ks.drop m) ∧ Below W.heap.size W w' ∧ Below w1.heap.size w1 w') := Lib.hid fun W hW => by
    have := own_drop keyLay (o11.below hW) (m := m) (by omega) hn1 (by omega)
    rw [Nat.mul_one] at this
    refine (cloneKey _ _ _ _ W _ this (fun _ h => h) (by rw [List.length_drop, hn1]) (by rw [List.length_drop]; omega)).mono ?_
    rintro e w' ⟨v, rfl, h1, h2⟩
    obtain ⟨A, c, rfl, -, -⟩ := h1.form
    exact ⟨_, _, _, rfl, h1, h2, hW.trans (h2.mono hW.size)⟩
  have hcm1 : ¬ c1 = m := by omega
  have hcm2 : ¬ c2 = m := by omega
  have hle1 : (m : Int) ≤ (n : Int) := by omega
  have hle2 : (m : Int) ≤ (n1 : Int) := by omega
  have HST := Lib.hid hs
  have HKO : Hid (KOk (fun k => O k = .row) w k) := Lib.hid (hV.rowk k (List.mem_of_getElem? hkk))
  have HS1 := Lib.hid hS1
  have HNa := Lib.hid hNa
  have HNb := Lib.hid hNb
  have HFL := Lib.hid (fillW a w _ _ 0 c0 n c2 h0 hc2)
  have HLF := Lib.hid (leafW a w1 _ n c2 c12)
  have HW1 := Lib.hid hw1
  have HN := Lib.hid hn
  have HA := Lib.hid ha
  have HN1 := Lib.hid hn1
  have HM := Lib.hid hm
  have HK := Lib.hid hkk
  have hnz : ¬ n = 0 := by omega
  have hn0 : (n == 0) = false := by simp [hnz]
  obtain ⟨m1, hm1⟩ : ∃ m1, m1 = m - 1 := ⟨_, rfl⟩
  rw [← hm1] at hck
  have hi1 : (m : Int) - 1 = (m1 : Int) := by omega
  have hi2 : (m1 : Int) < (n1 : Int) := by omega
  have hi3 : (0 : Int) ≤ (m1 : Int) := by omega
  have HM1 := Lib.hid hm1
  clear hw1 hn hm hn1 hkk hkk' hm1
  rw [if_neg hnz] at HFL
  go_enter Try.func32, Try.ntmps32
  go_wp2_with fail
  refine HFL.out.mono ?_
  rintro e w' ⟨rfl, rfl⟩
  go_wp2_with fail
  rw [← HW1.out]
  refine HLF.out.mono ?_
  rintro e w' ⟨rfl, rfl⟩
  go_upto_region 8 with fail
  clear o11 o12 hV hg hg2 ha hs o0 o1 o2 h0 h1 hc2 hfr hO1 hNa hNb hS1 hb1 c10
  have hbl1 := HS1.out.store.lt (upd_same _ _ _)
  have hal1 := HS1.out.store.lt ((upd_ne hab).trans HA.out)
  have d1 : w1.cell? ⟨w.heap.size, 1, none⟩ = some (.slice none 0 0) := HNb.out.cell (i := 1) (by omega) rfl
  have d2 : w1.cell? ⟨w.heap.size, 2, none⟩ = some (.slice none 0 0) := HNb.out.cell (i := 2) (by omega) rfl
  have d1f := HNb.out.frozen 1
  have d2f := HNb.out.frozen 2
  go_cut [6] from 50 to 69 (fun v wx => v = .slice k.A k.row.length k.c ∧ ∃ O2 Vb, St w O wx (upd (upd M w.heap.size (some ⟨[], [], []⟩)) w.heap.size (some ⟨[], ks.drop m, cs.drop m⟩)) O2 ∧ NodeAt wx O2 w.heap.size ⟨[], ks.drop m, cs.drop m⟩ Vb ∧ NodeAt wx O2 a ⟨[], ks, cs⟩ V)
  case first =>
    have hB0 : Below w1.heap.size w1 w1.drew := (Below.refl _ _).drew
    have HB0 := Lib.hid hB0
    have HKP : Hid (∀ W, Below w1.heap.size w1 W → W.cell? ⟨a, 1, none⟩ = some (.slice (some ⟨g1, 0, none⟩) n1 c1) ∧ W.cell? ⟨a, 2, none⟩ = some (.slice (some ⟨g2, 0, none⟩) n c2)) := Lib.hid fun W hb4 => ⟨(hb4.cell hal1).trans c11, (hb4.cell hal1).trans c12⟩
    have HKB : Hid (∀ W, Below w1.heap.size w1 W → W.cell? ⟨w.heap.size, 1, none⟩ = some (.slice none 0 0) ∧ W.cell? ⟨w.heap.size, 2, none⟩ = some (.slice none 0 0) ∧ W.frozen? ⟨w.heap.size, 1, none⟩ = false ∧ W.frozen? ⟨w.heap.size, 2, none⟩ = false) := Lib.hid fun W hb4 => ⟨(hb4.cell hbl1).trans d1, (hb4.cell hbl1).trans d2, (hb4.frozen hbl1).trans d1f, (hb4.frozen hbl1).trans d2f⟩
    go_region_held3 (fun w' => w'.cell? ⟨a, 1, none⟩ = some (.slice (some ⟨g1, 0, none⟩) n1 c1) ∧ w'.cell? ⟨a, 2, none⟩ = some (.slice (some ⟨g2, 0, none⟩) n c2))
      (first | exact HKP.out _ hb5' | exact HKP.out _ hb4' | go_keep)
      (first
        | (go_at_call 48; refine (HCc.out _ HB0.out).mono ?_; rintro e w4 ⟨Ac, pc, cc, rfl, hoc, hb4, hb4'⟩)
        | (go_at_call 49; refine (HCk.out _ HB0.out).mono ?_; rintro e w4 ⟨Ak, pk, ck, rfl, hok, hb4, hb4'⟩)
        | (go_at_call 48; refine (HCc.out _ hb4').mono ?_; rintro e w5 ⟨Ac, pc, cc, rfl, hoc, hb5, hb5'⟩; obtain ⟨q1, q2, r1, r2⟩ := HKB.out _ hb5')
        | (go_at_call 49; refine (HCk.out _ hb4').mono ?_; rintro e w5 ⟨Ak, pk, ck, rfl, hok, hb5, hb5'⟩; obtain ⟨q1, q2, r1, r2⟩ := HKB.out _ hb5'))
    go_wp2_with fail
    go_meet
    have hbk : Below w1.heap.size w1 w5 := hb5'
    obtain ⟨O2, t1, t2, t3⟩ := HS1.out.two_new (upd_same _ _ _) HNb.out hbk (v1 := .slice Ak pk ck) (v2 := .slice Ac pc cc) (hok.mono hb4'.size) ((hoc.below hb5).mono (Nat.le_refl _)) (fun g h1 h2 => by
      have q1 := (Own.lt hok g h1).1
      have q2 := (Own.lt hoc g h2).2
      omega) rfl (fun k hk => HNa.out.rowk k (List.mem_of_mem_drop hk)) HNa.out hab
    exact ⟨rfl, O2, _, t1, t2, t3⟩
  case rest =>
    obtain ⟨rfl, O2, Vb, hS2, hNb2, hNa2⟩ := hcut
    clear HS1 HNa HNb d1 d2 d1f d2f c11 c12 HCc HCk hal1 hbl1
    have o11 : Own 1 Key.cs 30 0 wc (.slice (some ⟨g1, 0, none⟩) n1 c1) ks := by
      have := hNa2.fld 1 (by omega)
      rw [e1] at this
      exact this
    have o12 : Own 1 Nid.cs 60 0 wc (.slice (some ⟨g2, 0, none⟩) n c2) cs := by
      have := hNa2.fld 2 (by omega)
      rw [e2] at this
      exact this
    have c11 := hNa2.cell (i := 1) (by omega) e1
    have c12 := hNa2.cell (i := 2) (by omega) e2
    have f11 := hNa2.frozen 1
    have f12 := hNa2.frozen 2
    have hal2 : a < wc.heap.size := (Array.getElem?_eq_some_iff.1 hNa2.blk).1
    have HCc : Hid (∀ W, Below wc.heap.size wc W → Calls Try.prog 48 #[.slice (some ⟨g2, 0, none⟩) m c2] W fun e w' => ∃ A p c, e = .returned (.slice A p c) ∧ Own 1 Nid.cs 60 W.heap.size w' (.slice A p c) (cs.take m) ∧ Below W.heap.size W w' ∧ Below wc.heap.size wc w') := Lib.hid fun W hW => by
      have := (((o12.below hW).elems nidLay.len rfl).take m).more (S' := (· < W.heap.size)) fun k hk => (Own.lt (o12.below hW) k hk).2
      refine (cloneNid _ _ _ _ W _ this (fun _ h => h) (by rw [List.length_take, ← HN.out]; omega) (by rw [List.length_take]; omega)).mono ?_
      rintro e w' ⟨v, rfl, h1, h2⟩
      obtain ⟨A, c, rfl, -, -⟩ := h1.form
      exact ⟨_, _, _, rfl, h1, h2, hW.trans (h2.mono hW.size)⟩
    have HCk : Hid (∀ W, Below wc.heap.size wc W → Calls Try.prog 49 #[.slice (some ⟨g1, 0, none⟩) m1 c1] W fun e w' => ∃ A p c, e = .returned (.slice A p c) ∧ Own 1 Key.cs 30 W.heap.size w' (.slice A p c) (ks.take m1) ∧ Below W.heap.size W w' ∧ Below wc.heap.size wc w') := Lib.hid fun W hW => by
      have := (((o11.below hW).elems keyLay.len rfl).take m1).more (S' := (· < W.heap.size)) fun k hk => (Own.lt (o11.below hW) k hk).2
      refine (cloneKey _ _ _ _ W _ this (fun _ h => h) (by rw [List.length_take, ← HN1.out]; have := HM1.out; omega) (by rw [List.length_take]; omega)).mono ?_
      rintro e w' ⟨v, rfl, h1, h2⟩
      obtain ⟨A, c, rfl, -, -⟩ := h1.form
      exact ⟨_, _, _, rfl, h1, h2, hW.trans (h2.mono hW.size)⟩
    have HS2 := Lib.hid hS2
    have HNa := Lib.hid hNa2
    have HNb := Lib.hid hNb2
    have HE1 := Lib.hid e1
    have HE2 := Lib.hid e2
    have hle3 : (m1 : Int) ≤ (c1 : Int) := by have := HM1.out; omega
    have hle4 : (m : Int) ≤ (c2 : Int) := by omega
    have hm1p : (0 : Int) ≤ (m1 : Int) := by omega
    have hw2 : IntKind.i64.wrap (m1 : Int) = (m1 : Int) := by rw [IntKind.wrap_i64]; omega
    have hw1 : IntKind.i64.wrap ((m : Int) - 1) = (m1 : Int) := by rw [IntKind.wrap_i64]; omega
    clear hi1
    clear o11 o12 hS2 hNa2 hNb2 e1 e2 hcl1 hcl2 hcm1 hcm2 hk h4 hl hle1 hle2
    have hB0 : Below wc.heap.size wc wc.drew := (Below.refl _ _).drew
    have HB0 := Lib.hid hB0
    clear hB0
    have HKP : Hid (∀ W, Below wc.heap.size wc W → W.cell? ⟨a, 1, none⟩ = some (.slice (some ⟨g1, 0, none⟩) n1 c1) ∧ W.cell? ⟨a, 2, none⟩ = some (.slice (some ⟨g2, 0, none⟩) n c2)) := Lib.hid fun W hb4 => ⟨(hb4.cell hal2).trans c11, (hb4.cell hal2).trans c12⟩
    have HKB : Hid (∀ W, Below wc.heap.size wc W → W.cell? ⟨a, 1, none⟩ = some (.slice (some ⟨g1, 0, none⟩) n1 c1) ∧ W.cell? ⟨a, 2, none⟩ = some (.slice (some ⟨g2, 0, none⟩) n c2) ∧ W.frozen? ⟨a, 1, none⟩ = false ∧ W.frozen? ⟨a, 2, none⟩ = false) := Lib.hid fun W hb4 => ⟨(hb4.cell hal2).trans c11, (hb4.cell hal2).trans c12, (hb4.frozen hal2).trans f11, (hb4.frozen hal2).trans f12⟩
    go_upto_region 9 with fail
    go_region_law (first
        | (go_simp; go_at_call 48; refine (HCc.out _ HB0.out).mono ?_; rintro e w4 ⟨Ac, pc, cc, rfl, hoc, hb4, hb4'⟩; obtain ⟨q1, q2, r1, r2⟩ := HKB.out _ hb4')
        | (go_simp; go_at_call 49; refine (HCk.out _ hb4').mono ?_; rintro e w5 ⟨Ak, pk, ck, rfl, hok, hb5, hb5'⟩; obtain ⟨q1, q2, r1, r2⟩ := HKB.out _ hb5'))
    all_goals
      have HE : Hid (∀ j, SplitInner w M O a ks cs (.returned (.tuple #[ptr w.heap.size, .slice k.A k.row.length k.c])) (((w5.setCell ⟨a, 2, none⟩ (.slice Ac pc cc)).setCell ⟨a, 1, none⟩ (.slice Ak pk ck)).drewN j)) := Lib.hid fun j => by
        obtain ⟨O3, t1, t2, t3⟩ := HS2.out.two_new ((upd_ne hab).trans ((upd_ne hab).trans HA.out)) HNa.out hb5' (v1 := .slice Ak pk ck) (v2 := .slice Ac pc cc) (hok.mono hb4'.size) ((hoc.below hb5).mono (Nat.le_refl _)) (fun g h1 h2 => by
          have q1 := (Own.lt hok g h1).1
          have q2 := (Own.lt hoc g h2).2
          omega) rfl (fun k hk => HNa.out.rowk k (List.mem_of_mem_take hk)) HNb.out hba
        unfold SplitInner
        rw [← HM.out]
        refine ⟨w.heap.size, k, _, _, rfl, HK.out, t1.drewN j, ?_, (upd_ne hba).trans (upd_same _ _ _), fun y h1 h2 => (upd_ne h1).trans ((upd_ne h2).trans (upd_ne h2)), Nat.le_refl _, ?_⟩
        · rw [← HM1.out]; exact upd_same _ _ _
        · exact (t1.drewN j).kok HST.out HKO.out
      clear HCc HCk HKP HKB hb4 hb4' hb5 hb5' hoc hok HB0 q1 q2 r1 r2
      go_wp2_with fail
      go_ret2
      exact HE.out 0
end Go.Proofs.Ytlgjkhdpinnccaa
