/-
  The walk of splitChild.
  The walk of insert at a leaf.
  The walk of insert.
  The walk of slices.Clone of a row.
  The walk of value.Validate.
  The walk of encoding.CheckRow.
  A whole tree in memory and what it holds. No program's walk.
-/
import Derived.Test.YtjdcnkbkbcfhfaaHm08
import Derived.StillTailTactics
import Derived.Deep.RegionLaw
import Derived.Test.YtjdcnkbkbcfhfaaHm06
import Derived.Test.YtjdcnkbkbcfhfaaRows
import Derived.Test.YtjdcnkbkbcfhfaaHm01
import Derived.Test.YtjdcnkbkbcfhfaaHm04
namespace Go.Proofs.Ytjdcnkbkbcfhfaa
open Go.RowKit Go.Sort

theorem quietSame {P : Program} {f : FuncId} {args : Array Value} {w : World} {n : Nat} {v : Value}
    (h : Calls P f args (w.drewN n) fun e w' => e = .returned v ∧ w.drewN n = w') : Calls P f args (w.drewN n) fun e w'' => e = .returned v ∧ ∃ m, w'' = w.drewN m :=
  h.mono fun _ _ ⟨he, hm⟩ => ⟨he, n, hm.symm⟩

theorem Elems.nid {w : World} {S : Nat → Prop} {A : Option Addr} {r : List Nid} {k : Nat} {b : Nat} (h : Elems 1 Nid.cs w S A r) (hk : r[k]? = some b) :
    ∃ g off, A = some ⟨g, off, none⟩ ∧ S g ∧ w.cell? ⟨g, off + k, none⟩ = some (ptr b) := by
  obtain ⟨hl, e⟩ := List.getElem?_eq_some_iff.1 hk
  obtain ⟨g, off, e1, hb, hc⟩ := h.at_ hl
  refine ⟨g, off, e1, hb, ?_⟩
  have := hc 0 _ rfl
  rw [e] at this
  simpa using this

/-- The child i of a node, as a walk reads it. -/
theorem NodeAt.child {w : World} {O : Own'} {a : Nat} {n : NC} {V : Nat → Value} (h : NodeAt w O a n V) {i b : Nat} (hi : n.cs[i]? = some b) :
    ∃ g c, V 2 = .slice (some ⟨g, 0, none⟩) n.cs.length c ∧ w.cell? ⟨a, 2, none⟩ = some (.slice (some ⟨g, 0, none⟩) n.cs.length c) ∧ w.cell? ⟨g, i, none⟩ = some (ptr b) ∧ O g = .fld 2 a ∧ n.cs.length ≤ c ∧ c ≤ maxLen := by
  obtain ⟨A0, c0, A1, c1, A2, c2, e0, e1, e2, h0, h1, h2, hfr, o0, o1, o2⟩ := h.cells
  have hl := (List.getElem?_eq_some_iff.1 hi).1
  obtain ⟨g, c, cur, hv, -, hg, hcl, hcm, -, -⟩ := o2.open_ (by omega)
  injection hv with hv1 _ hv2
  subst hv1 hv2
  obtain ⟨g', off, he, -, hc⟩ := (o2.elems nidLay.len rfl).nid hi
  injection he with he
  injection he with he1 he2
  subst he1 he2
  rw [Nat.zero_add] at hc
  exact ⟨g, c2, e2, h2, hc, h.whose 2 (by omega) g (by rw [e2]; rfl), hcl, hcm⟩

/-- The number that fill tells, of a tree's node. -/
theorem fillT {w : World} {M : Nodes} {O : Own'} (hs : Store w M O) {d a : Nat} {t : T d} {fp : List Nat} (hr : Rep M d a t fp) (hd : d = 0 ∨ 1 ≤ fill d t) (k : Nat) :
    Calls Try.prog 41 #[ptr a] (w.drewN k) fun e w' => e = .returned (.int .i64 (fill d t : Nat)) ∧ w.drewN k = w' := by
  obtain ⟨n, cs, hm, hc⟩ := hr.node
  obtain ⟨V, hV⟩ := hs.at_ a n hm
  obtain ⟨A0, c0, A1, c1, A2, c2, e0, e1, e2, h0, h1, h2, -⟩ := hV.cells
  have := fillW a (w.drewN k) A0 A2 _ c0 _ c2 h0 h2
  rw [hc.fill0 hd] at this
  exact this
theorem leafT {w : World} {M : Nodes} {O : Own'} (hs : Store w M O) {d a : Nat} {t : T d} {fp : List Nat} (hr : Rep M d a t fp) (hd : d = 0 ∨ 1 ≤ fill d t) (k : Nat) :
    Calls Try.prog 37 #[ptr a] (w.drewN k) fun e w' => e = .returned (.bool (d == 0)) ∧ w.drewN k = w' := by
  obtain ⟨n, cs, hm, hc⟩ := hr.node
  obtain ⟨V, hV⟩ := hs.at_ a n hm
  obtain ⟨A0, c0, A1, c1, A2, c2, e0, e1, e2, h0, h1, h2, -⟩ := hV.cells
  have := leafW a (w.drewN k) A2 _ c2 h2
  have e : (n.cs.length == 0) = (d == 0) := by
    cases d with
    | zero =>
      obtain ⟨es, rfl, rfl, rfl⟩ := hc
      rfl
    | succ d =>
      obtain ⟨rfl, hl⟩ := hc
      have hd : 1 ≤ t.2.length := by
        rcases hd with h | h
        · cases h
        · exact h
      have h1 : ¬ cs.length = 0 := by omega
      show (cs.length == 0) = (d + 1 == 0)
      rw [beq_false_of_ne h1, beq_false_of_ne (by omega)]
  rw [e] at this
  exact this

/-- One field of a node grows or shrinks where it lies, or is laid elsewhere. -/
theorem St.field_ext {w0 w w' : World} {O0 O : Own'} {M : Nodes} (h : St w0 O0 w M O) {a : Nat} {n n' : NC} {V : Nat → Value} (ha : M a = some n) (hV : NodeAt w O a n V) {i : Nat} (hi : i < 3) {v' : Value}
    (hE : Ext w (V i) w' v') (hF : Fld i n' w' v') (hsame : ∀ j, j < 3 → j ≠ i → ∀ w v, Fld j n w v → Fld j n' w v)
    (hre : ∀ e ∈ n'.es, KOk (fun k => O k = .row) w e.key) (hrk : ∀ k ∈ n'.ks, KOk (fun k => O k = .row) w k) :
    St w0 O0 (w'.setCell ⟨a, i, none⟩ v') (upd M a (some n')) (ownBy O v' (.fld i a))
    ∧ NodeAt (w'.setCell ⟨a, i, none⟩ v') (ownBy O v' (.fld i a)) a n' (fun j => if j = i then v' else V j) :=
  h.field ha hV hi hE.grown hF (fun g hg => by
    rcases hE.block with e | ⟨g', e, hg'⟩
    · exact .inl (hV.whose i hi g (e ▸ hg))
    · rw [e] at hg
      injection hg with hg
      subst hg
      exact .inr ⟨h.store.free _ hg', Nat.le_trans h.size hg'⟩) hsame hre hrk

/-- What splitChild leaves. -/
def SpcPost (w : World) (M : Nodes) (O : Own') (o d i a : Nat) (t : T (d + 1)) (fp : List Nat) (e : Ending) (w' : World) : Prop :=
  e = .returned (.tuple #[]) ∧ ∃ (M' : Nodes) (O' : Own') (t' : T (d + 1)) (fp' : List Nat), St w O w' M' O' ∧ Rep M' (d + 1) a t' fp' ∧ Chg w.heap.size M M' fp fp' ∧ SpC o d i t t'

set_option maxRecDepth 100000 in
set_option maxHeartbeats 4000000 in
theorem splitChildW {m m' o o' d i a tb : Nat} {t : T (d + 1)} {fp : List Nat} (w : World) (M : Nodes) (O : Own') (hs : Store w M O) (ht : w.cell? ⟨tb, 0, none⟩ = some (.int .i64 o)) (hO : Order m o) (hr : Rep M (d + 1) a t fp) (hn : fp.Nodup)
    {c : T d} (hc : t.2[i]? = some c) (hok : Ok m' o' d c) (hf : fill d c ≤ 40) (h1 : d = 0 ∨ 1 ≤ fill d c) (hlen : t.1.length + 1 = t.2.length) (hl : t.2.length ≤ 40) :
    Calls Try.prog 65 #[ptr tb, ptr a, .int .i64 i] w (SpcPost w M O o d i a t fp) := by
  have hr0 := hr
  have hlt := hr.lt hs
  obtain ⟨cs, fps, hm, hz, hfp⟩ := hr
  have hzl := hz.len
  have hil := (List.getElem?_eq_some_iff.1 hc).1
  obtain ⟨b, hb⟩ : ∃ b, cs[i]? = some b := ⟨_, List.getElem?_eq_getElem (by omega)⟩
  obtain ⟨V, hV⟩ := hs.at_ a _ hm
  obtain ⟨g2, c2, e2, q2, qi, -, hcl2, hcm2⟩ := hV.child hb
  obtain ⟨c', f, hc', hf', hrb⟩ : ∃ c' f, t.2[i]? = some c' ∧ fps[i]? = some f ∧ Rep M d b c' f := by
    obtain ⟨a', c', q1, q2, q3⟩ := hz.at_ hc
    rw [hb] at q1
    injection q1 with q1
    subst q1
    exact ⟨_, _, hc, q2, q3⟩
  rw [hc] at hc'
  injection hc' with hc'
  subst hc'
  have hnf : f.Nodup := by
    rw [hfp] at hn
    exact (List.pairwise_flatten.1 (List.nodup_cons.1 hn).2).1 f (List.mem_of_getElem? hf')
  simp only at q2 hcl2
  have HFL := Lib.hid (fun k => fillT hs hrb h1 k)
  have HSP : Hid (o < fill d c → ∀ k, Calls Try.prog 42 #[ptr b] (w.drewN k) (SplitPost (w.drewN k) M O d b c f)) := Lib.hid fun h k => splitW (w.drewN k) M O (hs.below (below_drewN (Below.refl _ _) k)) hrb hnf hok (by have := hO.lo; omega) hf
  have hin : (i : Int) < (cs.length : Int) := by omega
  have hi0 : (0 : Int) ≤ (i : Int) := by omega
  have hi40 : i ≤ 40 := by omega
  have hw1 : IntKind.i64.wrap ((i : Int) + 1) = (i : Int) + 1 := by rw [IntKind.wrap_i64]; omega
  rcases Nat.lt_or_ge o (fill d c) with hgt | hle
  · have hcmp : decide (((fill d c : Nat) : Int) ≤ (o : Int)) = false := by rw [decide_eq_false_iff_not]; omega
    have hcmp2 : decide (fill d c ≤ o) = false := by rw [decide_eq_false_iff_not]; omega
    have hcmp3 : ¬ fill d c ≤ o := by omega
    have HSP2 := Lib.hid (HSP.out hgt)
    have HS := Lib.hid hs
    have HM := Lib.hid hm
    have HZ := Lib.hid hz
    have HZL := Lib.hid hzl
    have HB := Lib.hid hb
    have HC := Lib.hid hc
    have HF := Lib.hid hf'
    have HLT := Lib.hid hlt
    have HGT := Lib.hid hgt
    have HNN := Lib.hid hn
    have HFP := Lib.hid hfp
    have HLE := Lib.hid hlen
    have HLE1 : Hid (t.1.length + 1 = t.2.length ∧ t.2.length ≤ 40 ∧ i < t.2.length) := Lib.hid ⟨hlen, hl, hil⟩
    clear hV hm hz hr0 hrb hs hc hok HSP hcm2 hzl hb hf' hlt hgt hn hfp hlen
    go_enter Try.func65, Try.ntmps65
    go_wp2_with fail
    go_quiet (first | (go_at_call 41; exact quietSame (HFL.out _)))
    go_wp2_with fail
    refine (HSP2.out _).mono ?_
    rintro e w1 ⟨r, k, M1, O1, l', r', fl, fr, rfl, hsp, hS1, hrl, hrr, hch, hko⟩
    have hS1 : St w O w1 M1 O1 := ((St.refl HS.out).drewN _).trans hS1
    have hch : Chg w.heap.size M M1 f (fl ++ fr) := hch
    have haf : a ∉ f := fun h => by
      have := HNN.out
      rw [HFP.out] at this
      exact (List.nodup_cons.1 this).1 (List.mem_flatten.2 ⟨f, List.mem_of_getElem? HF.out, h⟩)
    have hal : a < w.heap.size := HLT.out a (by rw [HFP.out]; exact List.mem_cons_self)
    have hm1 : M1 a = some ⟨[], t.1, cs⟩ := (hch.out a haf hal).trans HM.out
    obtain ⟨V1, hV1⟩ := hS1.store.at_ a _ hm1
    obtain ⟨g3, c3, e3, q3, q3i, -, hcl3, hcm3⟩ := hV1.child HB.out
    simp only at q3 e3 hcl3
    obtain ⟨i1, hi1⟩ : ∃ i1, i1 = i + 1 := ⟨_, rfl⟩
    have hcast : (i : Int) + 1 = (i1 : Int) := by omega
    have o3 : Own 1 Nid.cs 82 0 w1 (.slice (some ⟨g3, 0, none⟩) cs.length c3) cs := by
      have := hV1.fld 2 (by omega)
      rw [e3] at this
      exact this
    have hA1 : Below w1.heap.size w1 (w1.alloc (.cells #[ptr r] 82)) := (Below.refl _ _).alloc (Nat.le_refl _) _
    have HI := Lib.hid (insNid (some ⟨g3, 0, none⟩) c3 cs i1 r (w1.alloc (.cells #[ptr r] 82)) (o3.alloc _) (by rw [HZL.out.1]; omega) (heap_alloc_new w1 _) rfl (fun e => by have := (Own.lt o3 _ e).2; omega) (by rw [HZL.out.1]; omega))
    have hS1a := hS1.alloc (.cells #[ptr r] 82)
    have hV1a : NodeAt (w1.alloc (.cells #[ptr r] 82)) O1 a ⟨[], t.1, cs⟩ V1 := hV1.below hS1.store.free hA1 fun _ _ => rfl
    have hal1 := hS1.store.lt hm1
    have c1a := hV1a.cells
    have HS1a := Lib.hid hS1a
    have HS1 := Lib.hid hS1
    have HV1a := Lib.hid hV1a
    have HE3 := Lib.hid e3
    have HM1 := Lib.hid hm1
    have HKO := Lib.hid hko
    have HCH := Lib.hid hch
    have HRL := Lib.hid hrl
    have HRR := Lib.hid hrr
    have HSPL := Lib.hid hsp
    have HAF := Lib.hid haf
    have HI1 := Lib.hid hi1
    clear hS1a hV1a e3 hm1 hko hch hrl hrr hsp haf hi1 hA1 o3 hS1 hV1 HSP2 HFL q2 qi e2 HLE hcl2 hcl3
    obtain ⟨A0, k0, A1, k1, A2, k2, e0, e1, e2, p0, p1, p2, pfr, u0, u1, u2⟩ := c1a
    have hg3 : g3 ≠ a := fun e => by
      have h1 := HV1a.out.whose 2 (by omega) g3 (by rw [HE3.out]; rfl)
      have h2 := HV1a.out.own
      rw [e, h2] at h1
      cases h1
    have E1 := Lib.hid e1
    clear u0 u1 u2 p0 p2 e0 e2 e1
    go_wp2_with fail
    refine HI.out.mono ?_
    rintro e w2 ⟨v2, rfl, ho2, hx2⟩
    obtain ⟨A4, k4, rfl, hk4, hk4m⟩ := ho2.form
    have hne2 : (Value.slice (some ⟨g3, 0, none⟩) cs.length c3).ownBlock ≠ some a := fun e => hg3 (by injection e)
    have q1 := hx2.old_cell p1 hne2
    have hb2 : w2.heap[a]? = some (.cells #[V1 0, V1 1, V1 2] 85 (0, 0)) := (hx2.grown.block a (by simp; omega) (fun e => hne2 e.symm)).trans HV1a.out.blk
    have fz2 := frozen_of_row w2 a 2 _ _ hb2
    have cz2 : w2.cell? ⟨a, 2, none⟩ = some (.slice (some ⟨g3, 0, none⟩) cs.length c3) := by rw [cell_of_row _ _ _ _ _ _ hb2, ← HE3.out]; rfl
    obtain ⟨hS2, hN2⟩ := HS1a.out.field_ext (n' := ⟨[], t.1, cs.take i1 ++ r :: cs.drop i1⟩) HM1.out HV1a.out (i := 2) (by omega) (by rw [HE3.out]; exact hx2) ho2 same2 (fun e he => by cases he) HV1a.out.rowk
    obtain ⟨W2, hW2⟩ : ∃ W2, W2 = w2.setCell ⟨a, 2, none⟩ (.slice A4 (cs.take i1 ++ r :: cs.drop i1).length k4) := ⟨_, rfl⟩
    have hS2b := (((St.refl HS1.out.store).alloc (.cells #[ptr r] 82)).field_ext (n' := ⟨[], t.1, cs.take i1 ++ r :: cs.drop i1⟩) HM1.out HV1a.out (i := 2) (by omega) (by rw [HE3.out]; exact hx2) ho2 same2 (fun e he => by cases he) HV1a.out.rowk).1
    rw [← hW2] at hS2 hN2 hS2b
    have HKK := Lib.hid ((hS2b.alloc (.cells #[.slice k.A k.row.length k.c] 35)).kok HS1.out.store HKO.out)
    clear hS2b
    have c2a := hN2.cells
    obtain ⟨B0, j0, B1, j1, B2, j2, d0, d1, d2, r0, r1, r2, rfr, x0, x1, x2⟩ := c2a
    have hlk : i ≤ t.1.length := by have := HLE1.out; omega
    have hsz : W2.heap.size = w2.heap.size := by rw [hW2]; exact setCell_size _ _
    have HI2 := Lib.hid (insKey (gv := w2.heap.size) B1 j1 t.1 i k (W2.alloc (.cells #[.slice k.A k.row.length k.c] 35)) (x1.alloc _) hlk (by rw [← hsz]; exact heap_alloc_new W2 _) rfl (fun e => by have := (Own.lt x1 _ e).2; omega) (by have := HLE1.out; omega))
    have HN2a : Hid (NodeAt (W2.alloc (.cells #[.slice k.A k.row.length k.c] 35)) _ a ⟨[], t.1, cs.take i1 ++ r :: cs.drop i1⟩ _) := Lib.hid (hN2.below hS2.store.free ((Below.refl _ _).alloc (Nat.le_refl _) _) fun _ _ => rfl)
    have HS2a := Lib.hid (hS2.alloc (.cells #[.slice k.A k.row.length k.c] 35))
    have HD1 := Lib.hid d1
    have HW2 := Lib.hid hW2
    have r1 : w2.cell? ⟨a, 1, none⟩ = some (.slice B1 t.1.length j1) := by
      rw [cell_of_row _ _ _ _ _ _ hb2, ← d1]; rfl
    have HO2 := Lib.hid ho2
    have HX2 := Lib.hid hx2
    have hx2s : w1.heap.size ≤ w2.heap.size := Nat.le_trans (le_size1 (Nat.le_refl _) _) hx2.size
    clear hS2 hN2 x0 x1 x2 d0 d1 d2 r0 r2 rfr hW2 ho2 hx2 hb2 q1 p1 hS1 HI hlk
    generalize (cs.take i1 ++ r :: cs.drop i1).length = nl at *
    go_wp2_with fail
    rw [← HW2.out]

    refine HI2.out.mono ?_
    rintro e w3 ⟨v3, rfl, ho3, hx3⟩
    obtain ⟨A5, k5, rfl, hk5, hk5m⟩ := ho3.form
    generalize (t.1.take i ++ k :: t.1.drop i).length = nk at *
    have hne3 : (Value.slice B1 t.1.length j1).ownBlock ≠ some a := fun e => by
      have h1 := HN2a.out.whose 1 (by omega) a (by rw [HD1.out]; exact e)
      rw [HN2a.out.own] at h1
      cases h1
    have hb3 := (hx3.grown.block a (by simp [hsz]; have := hx2s; omega) (fun e => hne3 e.symm)).trans HN2a.out.blk
    have fz3 := frozen_of_row w3 a 1 _ _ hb3
    have cz3 : w3.cell? ⟨a, 1, none⟩ = some (.slice B1 t.1.length j1) := by rw [cell_of_row _ _ _ _ _ _ hb3, ← HD1.out]; rfl
    go_wp2_with fail
    go_end0
    have hkrow : ∀ k' ∈ t.1.take i ++ k :: t.1.drop i, KOk (fun j => ownBy O1 (.slice A4 nl k4) (.fld 2 a) j = .row) (W2.alloc (.cells #[.slice k.A k.row.length k.c] 35)) k' := fun k' hk' => by
      rcases List.mem_append.1 hk' with h | h
      · exact HN2a.out.rowk k' (List.mem_of_mem_take h)
      · rcases List.mem_cons.1 h with rfl | h
        · exact HKK.out
        · exact HN2a.out.rowk k' (List.mem_of_mem_drop h)
    obtain ⟨hS3, hN3⟩ := HS2a.out.field_ext (n' := ⟨[], t.1.take i ++ k :: t.1.drop i, cs.take i1 ++ r :: cs.drop i1⟩) (upd_same _ _ _) HN2a.out (i := 1) (by omega) (by rw [HD1.out]; exact hx3) ho3 same1 (fun e he => by cases he) hkrow
    have hfp := HFP.out
    have hch := HCH.out
    have hmid : ((fps.drop i).take (i + 1 - i)).flatten = f := by rw [mid_one HF.out]; simp
    have hnafl : ∀ x ∈ fl ++ fr, x ≠ a := fun x hx e => by
      rcases hch.sub x hx with h | h
      · exact HAF.out (e ▸ h)
      · omega
    have hM3 : ∀ x, x ≠ a → upd (upd M1 a (some ⟨[], t.1, cs.take i1 ++ r :: cs.drop i1⟩)) a (some ⟨[], t.1.take i ++ k :: t.1.drop i, cs.take i1 ++ r :: cs.drop i1⟩) x = M1 x := fun x hx => (upd_ne hx).trans (upd_ne hx)
    obtain ⟨M3, hM3e⟩ : ∃ M3, M3 = upd (upd M1 a (some ⟨[], t.1, cs.take i1 ++ r :: cs.drop i1⟩)) a (some ⟨[], t.1.take i ++ k :: t.1.drop i, cs.take i1 ++ r :: cs.drop i1⟩) := ⟨_, rfl⟩
    have hM3a : M3 a = some ⟨[], t.1.take i ++ k :: t.1.drop i, cs.take i1 ++ r :: cs.drop i1⟩ := by rw [hM3e]; exact upd_same _ _ _
    rw [← hM3e] at hM3 hS3
    have hnn := HNN.out
    have hlt := HLT.out
    rw [hfp] at hnn hlt
    have hz3 := z3_mid (M := M) (M' := M3) (H := w.heap.size) (a := a) (i := i) (j := i + 1) HZ.out (Nat.le_succ _) hil hnn hlt (Z3.two (HRL.out.frame (M' := M3) fun x hx => hM3 x (hnafl x (List.mem_append_left _ hx))) (HRR.out.frame (M' := M3) fun x hx => hM3 x (hnafl x (List.mem_append_right _ hx))))
      (by simpa using hch.nd) (by rw [hmid]; simpa using hch.sub) (by rw [hmid]; exact fun x h1 h2 h3 => (hM3 x h2).trans (hch.out x h1 h3))
    have ecs : cs.take i ++ [b, r] ++ cs.drop (i + 1) = cs.take i1 ++ r :: cs.drop i1 := by
      rw [HI1.out, List.take_add_one, HB.out]
      simp
    rw [ecs] at hz3
    refine ⟨rfl, M3, _, (t.1.take i ++ k :: t.1.drop i, t.2.take i ++ l' :: r' :: t.2.drop (i + 1)), _, hS3, ⟨_, _, hM3a, ?_, rfl⟩, ⟨hz3.2.1, fun x hx hlx => ?_, fun x hx => ?_⟩, c, HC.out, .inr ⟨HGT.out, l', k, r', HSPL.out, rfl⟩⟩
    · have := hz3.1
      simpa using this
    · rw [hfp] at hx
      exact (hM3 x (fun e => hx (e ▸ List.mem_cons_self))).trans (hch.out x (fun h => hx (List.mem_cons_of_mem _ (List.mem_flatten.2 ⟨f, List.mem_of_getElem? HF.out, h⟩))) hlx)
    · rw [hfp]
      exact hz3.2.2 x hx
  · have HE : Hid (∀ k, SpcPost w M O o d i a t fp (.returned (.tuple #[])) (w.drewN k)) := Lib.hid fun k => ⟨rfl, M, O, t, fp, (St.refl hs).drewN k, hr0, Chg.refl hn, c, hc, .inl ⟨hle, rfl⟩⟩
    have hcmp : decide (((fill d c : Nat) : Int) ≤ (o : Int)) = true := by rw [decide_eq_true_iff]; omega
    have hcmp2 : decide (fill d c ≤ o) = true := by rw [decide_eq_true_iff]; omega
    have hcmp3 : fill d c ≤ o := hle
    clear hV hm hz hr0 hrb hs hc hok HSP hcm2
    generalize fill d c = fc at *
    go_enter Try.func65, Try.ntmps65
    go_wp2_with fail
    go_quiet (first | (go_at_call 41; exact quietSame (HFL.out _)))
    go_wp2_with fail
    go_end0
    exact HE.out _
end Go.Proofs.Ytjdcnkbkbcfhfaa

namespace Go.Proofs.Ytjdcnkbkbcfhfaa
open Go.RowKit Go.Sort

theorem setCell_same {w : World} {a i : Nat} {cur : Array Value} {e : TypeId} {v : Value} (h : w.heap[a]? = some (.cells cur e (0, 0))) (hv : cur[i]? = some v) : w.setCell ⟨a, i, none⟩ v = w := by
  have hc : cur.setIfInBounds i v = cur := by
    obtain ⟨h1, h2⟩ := Array.getElem?_eq_some_iff.1 hv
    subst h2
    apply Array.ext (by simp)
    intro j hj1 hj2
    rw [Array.getElem_setIfInBounds]
    split
    · subst_vars; rfl
    · rfl
  unfold World.setCell
  refine (congrArg (fun h => ({ w with heap := h } : World)) ?_ : _ = ({ w with heap := w.heap } : World))
  apply Array.ext (by simp)
  intro j hj1 hj2
  rw [Array.getElem_modify]
  split
  · rename_i hj
    subst hj
    have h3 := (Array.getElem?_eq_some_iff.1 h).2
    rw [h3]
    simp [hc]
  · rfl

theorem flat_set {xs : List Ent} {i : Nat} {x : Ent} (h : xs[i]? = some x) (v : Int) : (xs.take i ++ ⟨x.key, v⟩ :: xs.drop (i + 1)).flatMap Ent.cs = (xs.flatMap Ent.cs).set (i * 2 + 1) (.int .i64 v) := by
  obtain ⟨h1, h2⟩ := List.getElem?_eq_some_iff.1 h
  have e : xs = xs.take i ++ x :: xs.drop (i + 1) := by rw [← h2, ← List.drop_eq_getElem_cons h1, List.take_append_drop]
  conv => rhs; rw [e]
  rw [List.flatMap_append, List.flatMap_append, List.flatMap_cons, List.flatMap_cons]
  have hl : ((xs.take i).flatMap Ent.cs).length = i * 2 := by rw [flat_len entLay, List.length_take]; congr 1; omega
  rw [List.set_append_right _ _ (by omega), hl, show i * 2 + 1 - i * 2 = 1 from by omega]
  rfl

theorem own_setVal {base : Nat} {w : World} {g n c i : Nat} {xs : List Ent} {x : Ent} (h : Own 2 Ent.cs 81 base w (.slice (some ⟨g, 0, none⟩) n c) xs) (hx : xs[i]? = some x) (v : Int) :
    Own 2 Ent.cs 81 base (w.setCell ⟨g, i * 2 + 1, none⟩ (.int .i64 v)) (.slice (some ⟨g, 0, none⟩) n c) (xs.take i ++ ⟨x.key, v⟩ :: xs.drop (i + 1)) := by
  obtain ⟨h1, h2⟩ := List.getElem?_eq_some_iff.1 hx
  obtain ⟨g', c', cur, hv, hb, hg, hcl, hcm, hs, ht⟩ := h.open_ (by omega)
  injection hv with hv1 hv2 hv3
  injection hv1 with hv1
  injection hv1 with hv1
  subst hv1 hv3
  refine Own.shut entLay hb (heap_setCell_at hg _) ?_ (by omega) hcm (by simp [hs]) ?_
  · simp only [List.length_append, List.length_cons, List.length_take, List.length_drop]; omega
  · rw [Array.toList_setIfInBounds, List.take_set, hv2, ht, flat_set hx]

/-- What insert leaves. -/
def InsPost (w : World) (M : Nodes) (O : Own') (m o d a : Nat) (t : T d) (fp : List Nat) (x : Ent) (e : Ending) (w' : World) : Prop :=
  ∃ (M' : Nodes) (O' : Own') (t' : T d) (fp' : List Nat), e = .returned (.bool (getF x.key.row (flat d t)).isNone) ∧ St w O w' M' O' ∧ Rep M' d a t' fp' ∧ Chg w.heap.size M M' fp fp'
    ∧ Ok m o d t' ∧ flat d t' = insF x (flat d t) ∧ fill d t ≤ fill d t' ∧ fill d t' ≤ fill d t + 1
abbrev entV (x : Ent) : Value := .agg #[.slice x.key.A x.key.row.length x.key.c, .int .i64 x.val]

set_option maxRecDepth 100000 in
set_option maxHeartbeats 4000000 in
theorem insLeafW {m o a tb : Nat} {es : List Ent} {fp : List Nat} (w : World) (M : Nodes) (O : Own') (hs : Store w M O) (hr : Rep M 0 a es fp) (hn' : fp.Nodup) (x : Ent) (hx : KOk (fun k => O k = .row) w x.key) (ho : Ord es) (hl : es.length ≤ 40) :
    Calls Try.prog 40 #[ptr tb, ptr a, entV x] w (InsPost w M O m o 0 a es fp x) := by
  obtain ⟨es', he', hm, rfl⟩ := hr
  rw [show es' = es from he'] at hm
  clear he'
  have hal := hs.lt hm
  obtain ⟨V, hV⟩ := hs.at_ a _ hm
  obtain ⟨w0, hw0⟩ : ∃ w0, w0 = w.alloc (.cells #[.slice x.key.A x.key.row.length x.key.c, .int .i64 x.val] 81) := ⟨_, rfl⟩
  have hb0 : Below w.heap.size w w0 := by rw [hw0]; exact (Below.refl _ _).alloc (Nat.le_refl _) _
  have hS0 : St w O w0 M O := by rw [hw0]; exact (St.refl hs).alloc _
  have hbox : w0.heap[w.heap.size]? = some (.cells #[.slice x.key.A x.key.row.length x.key.c, .int .i64 x.val] 81 (0, 0)) := by rw [hw0]; exact heap_alloc_new w _
  have hV0 : NodeAt w0 O a ⟨es, [], []⟩ V := hV.below hs.free hb0 fun _ _ => rfl
  have hx0 : KOk (fun k => O k = .row) w0 x.key := hS0.kok hs hx
  obtain ⟨A0, c0, A1, c1, A2, c2, e0, e1, e2, h0, h1, h2, hfr, o0, o1, o2⟩ := hV0.cells
  simp only at h0 h2 o0 e0
  have hrl : ∀ k, O k = .row → k < w0.heap.size := fun k hk => hS0.store.lt' (by rw [hk]; simp)
  have HLF := Lib.hid (leafW a w0 A2 0 c2 h2)
  have HSE := Lib.hid (searchW a w0 A0 c0 es x.key.A x.key.c x.key.row _ _ h0 ((o0.elems entLay.len rfl).more fun k hk => (Own.lt o0 k hk).2) hrl hrl hV0.rowe ho hx0.el (by omega))
  have hk0 : w0.cell? ⟨w.heap.size, 0, none⟩ = some (.slice x.key.A x.key.row.length x.key.c) := by rw [cell_of_row _ _ _ _ _ _ hbox]; rfl
  have hk1 : w0.cell? ⟨w.heap.size, 1, none⟩ = some (.int .i64 x.val) := by rw [cell_of_row _ _ _ _ _ _ hbox]; rfl
  have hbl : w.heap.size < w0.heap.size := by rw [hw0]; simp
  have hal0 : a < w0.heap.size := by omega
  have HS0 := Lib.hid hS0
  have HV0 := Lib.hid hV0
  have HO0 := Lib.hid o0
  have HE0 := Lib.hid e0
  have HM := Lib.hid hm
  have HW0 := Lib.hid hw0
  have HX0 := Lib.hid hx0
  have HO := Lib.hid ho
  have HBX := Lib.hid hbox
  clear hw0 hS0 hV0 hV hs hm hx hx0 ho o0 o1 o2 e0 e1 e2 hb0 hbox hrl hfr h1
  go_enter Try.func40, Try.ntmps40
  go_wp2_with fail
  rw [← HW0.out]
  refine HLF.out.mono ?_
  rintro e w' ⟨rfl, rfl⟩
  go_wp2_with fail
  refine HSE.out.mono ?_
  rintro e w1 ⟨i, fnd, rfl, hA, hb1⟩
  have hil := hA.le
  have HA := Lib.hid hA
  have h0a := (hb1.cell (p := ⟨a, 0, none⟩) hal0).trans h0
  have k0a := (hb1.cell (p := ⟨w.heap.size, 0, none⟩) hbl).trans hk0
  have k1a := (hb1.cell (p := ⟨w.heap.size, 1, none⟩) hbl).trans hk1
  have HV1 : Hid (NodeAt w1 O a ⟨es, [], []⟩ V) := Lib.hid (HV0.out.below HS0.out.store.free hb1 fun _ _ => rfl)
  have HS1 := Lib.hid (HS0.out.below hb1)
  have HO1 := Lib.hid (HO0.out.below hb1)
  have HX1 : Hid (KOk (fun k => O k = .row) w1 x.key) := Lib.hid (((St.refl HS0.out.store).below hb1).kok HS0.out.store HX0.out)
  have HBX1 := Lib.hid ((hb1.block _ hbl).trans HBX.out)
  clear hA h0 hk0 hk1 h2 HLF HSE HV0 HO0 HX0 HBX HW0
  cases fnd with
  | true =>
    have hlt : i < es.length := by
      obtain ⟨z, r, hd, -⟩ := HA.out.eq.1 rfl
      have := congrArg List.length hd
      simp at this
      omega
    obtain ⟨g, c, cur, hv, -, hg, hcl, hcm, hcs, hct⟩ := HO1.out.open_ (by omega)
    injection hv with hv1 _ hv2
    subst hv1 hv2
    obtain ⟨y, hy, hyk, hins, -, hget⟩ := at_upd HA.out
    have hci : w1.cell? ⟨g, i * 2 + 1, none⟩ = some (.int .i64 y.val) := by
      obtain ⟨b', o', he, -, -, hc1⟩ := (HO1.out.elems entLay.len rfl).ent hlt
      injection he with he
      injection he with he1 he2
      subst he1 he2
      rw [Nat.zero_add] at hc1
      have : es[i] = y := by
        have := List.getElem?_eq_getElem hlt
        rw [hy] at this
        exact (Option.some.inj this).symm
      rw [this] at hc1
      exact hc1
    have hfz : w1.frozen? ⟨g, i * 2 + 1, none⟩ = false := frozen_of_row w1 g _ _ _ hg
    have hi0 : (0 : Int) ≤ (i : Int) := by omega
    have hi1 : (i : Int) < (es.length : Int) := by omega
    have HY := Lib.hid hy
    have HI := Lib.hid hins
    have HG := Lib.hid hget
    clear hy hins hget hyk hg hct hcs
    generalize hn : es.length = n at *
    have HE : Hid (∀ k, InsPost w M O m o 0 a es [a] x (.returned (.bool false)) ((w1.setCell ⟨g, i * 2 + 1, none⟩ (.int .i64 x.val)).drewN k)) := Lib.hid fun k => by
      have hk : (x.key.row : Row) = x.key.row := rfl
      have hgw := HV1.out.whose 0 (by omega) g (by rw [HE0.out]; rfl)
      have hgr : w1.grownBy (w1.setCell ⟨g, i * 2 + 1, none⟩ (.int .i64 x.val)) (V 0).ownBlock := by
        rw [HE0.out]
        exact ⟨rfl, rfl, rfl, by simp [World.setCell], fun k _ hk => Below.heap_setCell w1 _ _ k (fun e => hk (by rw [e]; rfl))⟩
      obtain ⟨t1, t2⟩ := HS1.out.field (n' := ⟨es.take i ++ ⟨y.key, x.val⟩ :: es.drop (i + 1), [], []⟩) HM.out HV1.out (i := 0) (by omega) hgr (own_setVal HO1.out HY.out x.val) (fun g' hg' => .inl (by injection hg' with hg'; rw [← hg']; exact hgw)) same0
        (fun e he => by
          rcases List.mem_append.1 he with h | h
          · exact HV1.out.rowe e (List.mem_of_mem_take h)
          · rcases List.mem_cons.1 h with rfl | h
            · exact HV1.out.rowe y (List.mem_of_getElem? HY.out)
            · exact HV1.out.rowe e (List.mem_of_mem_drop h)) (fun k hk => by cases hk)
      have hag : a ≠ g := fun e => by
        have h1 := HV1.out.own
        rw [e, hgw] at h1
        cases h1
      have hb3 : (w1.setCell ⟨g, i * 2 + 1, none⟩ (.int .i64 x.val)).heap[a]? = some (.cells #[V 0, V 1, V 2] 85 (0, 0)) := (heap_setCell_off hag _).trans HV1.out.blk
      rw [setCell_same hb3 (by rw [HE0.out]; rfl)] at t1
      have hins := HI.out
      refine ⟨_, _, (es.take i ++ ⟨y.key, x.val⟩ :: es.drop (i + 1) : List Ent), [a], ?_, t1.drewN k, ⟨_, rfl, upd_same _ _ _, rfl⟩, ⟨hn', fun z hz _ => upd_ne (by simpa using hz), fun z hz => .inl hz⟩, ?_, hins.symm, ?_⟩
      · show _ = Ending.returned (.bool (getF x.key.row es).isNone)
        rw [HG.out]; rfl
      · show Ord _
        rw [← hins]
        exact ord_ins HO.out
      · have hlen : (es.take i ++ ⟨y.key, x.val⟩ :: es.drop (i + 1)).length = es.length := by
          simp only [List.length_append, List.length_cons, List.length_take, List.length_drop]; omega
        exact ⟨Nat.le_of_eq hlen.symm, by show List.length _ ≤ List.length es + 1; omega⟩
    go_wp2_with fail
    go_region
    go_wp2_with fail
    go_ret
    exact HE.out _
  | false =>
    have hins := at_ins HA.out
    have hget := (at_none HA.out).2
    have hA2 : Below w1.heap.size w1 (w1.drew.alloc (.cells #[.slice x.key.A x.key.row.length x.key.c, .int .i64 x.val] 81)) := ((Below.refl _ _).drew).alloc (Nat.le_refl _) _
    have HII := Lib.hid (insEnt (gv := w1.heap.size) A0 c0 es i x (w1.drew.alloc (.cells #[.slice x.key.A x.key.row.length x.key.c, .int .i64 x.val] 81)) (HO1.out.below hA2) hil (heap_alloc_new w1.drew _) rfl (fun e => by have := (Own.lt HO1.out _ e).2; omega) (by omega))
    have HV2 : Hid (NodeAt (w1.drew.alloc (.cells #[.slice x.key.A x.key.row.length x.key.c, .int .i64 x.val] 81)) O a ⟨es, [], []⟩ V) := Lib.hid (HV1.out.below HS1.out.store.free hA2 fun _ _ => rfl)
    have HS2 := Lib.hid (HS1.out.below hA2)
    have HX2 : Hid (KOk (fun k => O k = .row) (w1.drew.alloc (.cells #[.slice x.key.A x.key.row.length x.key.c, .int .i64 x.val] 81)) x.key) := Lib.hid (((St.refl HS1.out.store).below hA2).kok HS1.out.store HX1.out)
    have HI := Lib.hid hins
    have HG := Lib.hid hget
    have hi0 : (0 : Int) ≤ (i : Int) := by omega
    have hA2s : a < (w1.drew.alloc (.cells #[.slice x.key.A x.key.row.length x.key.c, .int .i64 x.val] 81)).heap.size := by have := hb1.size; simp; omega
    clear hins hget hA2
    generalize hn : es.length = n at *
    have HF : Hid (∀ w2 v2, Own 2 Ent.cs 81 0 w2 v2 (es.take i ++ x :: es.drop i) → Ext (w1.drew.alloc (.cells #[.slice x.key.A x.key.row.length x.key.c, .int .i64 x.val] 81)) (.slice A0 n c0) w2 v2 → ∃ A3 n3 c3, v2 = .slice A3 n3 c3 ∧ w2.frozen? ⟨a, 0, none⟩ = false ∧ w2.cell? ⟨a, 0, none⟩ = some (.slice A0 n c0) ∧ ∀ k, InsPost w M O m o 0 a es [a] x (.returned (.bool true)) ((w2.setCell ⟨a, 0, none⟩ (.slice A3 n3 c3)).drewN k)) := Lib.hid fun w2 v2 ho2 hx2 => by
      obtain ⟨A3, c3, rfl, hc3, hc3m⟩ := ho2.form
      have hne2 : (Value.slice A0 n c0).ownBlock ≠ some a := fun e => by
        have h1 := HV2.out.whose 0 (by omega) a (by rw [HE0.out]; exact e)
        rw [HV2.out.own] at h1
        cases h1
      have hb3 : w2.heap[a]? = some (.cells #[V 0, V 1, V 2] 85 (0, 0)) := (hx2.grown.block a hA2s (fun e => hne2 e.symm)).trans HV2.out.blk
      have fz3 := frozen_of_row w2 a 0 _ _ hb3
      have cz3 : w2.cell? ⟨a, 0, none⟩ = some (.slice A0 n c0) := by rw [cell_of_row _ _ _ _ _ _ hb3, ← HE0.out]; rfl
      refine ⟨A3, _, c3, rfl, fz3, cz3, fun k => ?_⟩
      obtain ⟨t1, t2⟩ := HS2.out.field_ext (n' := ⟨es.take i ++ x :: es.drop i, [], []⟩) HM.out HV2.out (i := 0) (by omega) (by rw [HE0.out]; exact hx2) ho2 same0
        (fun e he => by
          rcases List.mem_append.1 he with h | h
          · exact HV2.out.rowe e (List.mem_of_mem_take h)
          · rcases List.mem_cons.1 h with rfl | h
            · exact HX2.out
            · exact HV2.out.rowe e (List.mem_of_mem_drop h)) (fun k hk => by cases hk)
      have hins := HI.out
      refine ⟨_, _, (es.take i ++ x :: es.drop i : List Ent), [a], ?_, t1.drewN k, ⟨_, rfl, upd_same _ _ _, rfl⟩, ⟨hn', fun z hz _ => upd_ne (by simpa using hz), fun z hz => .inl hz⟩, ?_, hins.symm, ?_⟩
      · show _ = Ending.returned (.bool (getF x.key.row es).isNone)
        rw [HG.out]; rfl
      · show Ord _
        rw [← hins]
        exact ord_ins HO.out
      · have hlen : (es.take i ++ x :: es.drop i).length = es.length + 1 := by
          simp only [List.length_append, List.length_cons, List.length_take, List.length_drop]; omega
        exact ⟨by show List.length es ≤ List.length _; omega, Nat.le_of_eq hlen⟩
    have h0b : (w1.alloc (.cells #[.slice x.key.A x.key.row.length x.key.c, .int .i64 x.val] 81)).cell? ⟨a, 0, none⟩ = some (.slice A0 n c0) := HV2.out.cell (i := 0) (by omega) HE0.out
    clear hA2s
    go_wp2_with fail
    go_region_law (first | (go_simp; go_at_call 64; refine HII.out.mono ?_; rintro e w2 ⟨v2, rfl, ho2, hx2⟩; obtain ⟨A3, n3, c3, rfl, fz3, cz3, hE⟩ := HF.out _ _ ho2 hx2; have HE := Lib.hid hE; clear hE ho2 hx2))
    all_goals
      go_wp2_with fail
      go_ret
      exact HE.out 0
end Go.Proofs.Ytjdcnkbkbcfhfaa

namespace Go.Proofs.Ytjdcnkbkbcfhfaa
open Go.RowKit Go.Sort

theorem cell_of_heap {w w' : World} {g i : Nat} (h : w'.heap[g]? = w.heap[g]?) : w'.cell? ⟨g, i, none⟩ = w.cell? ⟨g, i, none⟩ := by
  unfold World.cell?
  simp only [h]
theorem St.cell {w0 w : World} {O0 O : Own'} {M0 M : Nodes} (h : St w0 O0 w M O) (hs : Store w0 M0 O0) {g i : Nat} (hg : O0 g = .top ∨ O0 g = .old ∨ O0 g = .row) : w.cell? ⟨g, i, none⟩ = w0.cell? ⟨g, i, none⟩ :=
  cell_of_heap (h.keep g (hs.lt' (by rcases hg with h | h | h <;> rw [h] <;> simp)) (by rcases hg with h | h | h <;> rw [h] <;> exact fun h => h))
theorem St.ownTop {w0 w : World} {O0 O : Own'} {M0 M : Nodes} (h : St w0 O0 w M O) (hs : Store w0 M0 O0) {g : Nat} (hg : O0 g = .top) : O g = .top :=
  (h.own g (hs.lt' (by rw [hg]; simp))).trans hg
theorem getF_mid {k : Row} {A B C : List Ent} (hA : ∀ x ∈ A, rl x.key.row k) (hB : ∀ x ∈ B, rl k x.key.row) : getF k (A ++ (C ++ B)) = getF k C := by
  rw [getF_left hA, getF_right hB]

theorem Chg.mono {H H1 : Nat} {M M' : Nodes} {fp fp' : List Nat} (h : Chg H1 M M' fp fp') (hH : H ≤ H1) : Chg H M M' fp fp' :=
  ⟨h.nd, fun x hx hl => h.out x hx (Nat.lt_of_lt_of_le hl hH), fun x hx => (h.sub x hx).imp id fun h => Nat.le_trans hH h⟩

set_option maxRecDepth 100000 in
set_option maxHeartbeats 4000000 in
theorem insertW {m o tb : Nat} (hO : Order m o) (x : Ent) : ∀ {d a : Nat} {t : T d} {fp : List Nat} (w : World) (M : Nodes) (O : Own') (_ : Store w M O) (_ : O tb = .top) (_ : w.cell? ⟨tb, 0, none⟩ = some (.int .i64 o)) (_ : Rep M d a t fp) (_ : fp.Nodup)
    (_ : KOk (fun k => O k = .row) w x.key) (_ : Ok m o d t) (_ : d = 0 ∨ 1 ≤ fill d t) (_ : fill d t ≤ o),
    Calls Try.prog 40 #[ptr tb, ptr a, entV x] w (InsPost w M O m o d a t fp x)
  | 0, a, t, fp, w, M, O, hs, htb, ht, hr, hn, hx, hok, hd, hf => insLeafW w M O hs hr hn x hx hok (by have := hO.hi; have : List.length (α := Ent) t ≤ o := hf; omega)
  | d + 1, a, t, fp, w, M, O, hs, htb, ht, hr, hn, hx, hok, hd, hf => by
    have hm1 : 1 ≤ m := by have := hO.lo; have := hO.eq; omega
    have hd1 : 1 ≤ t.2.length := by
      rcases hd with h | h
      · cases h
      · exact h
    have hf' : t.2.length ≤ o := hf
    have hlen := hok.1.1
    have hlt := hr.lt hs
    have hLF := fun (W : World) (hW : St w O W M O) => leafT hW.store hr (.inr hd1) 0
    obtain ⟨cs, fps, hm, hz, hfp⟩ := hr
    have hzl := hz.len
    have hal := hs.lt hm
    obtain ⟨V, hV⟩ := hs.at_ a _ hm
    obtain ⟨w0, hw0⟩ : ∃ w0, w0 = w.alloc (.cells #[.slice x.key.A x.key.row.length x.key.c, .int .i64 x.val] 81) := ⟨_, rfl⟩
    have hb0 : Below w.heap.size w w0 := by rw [hw0]; exact (Below.refl _ _).alloc (Nat.le_refl _) _
    have hS0 : St w O w0 M O := by rw [hw0]; exact (St.refl hs).alloc _
    have hbox : w0.heap[w.heap.size]? = some (.cells #[.slice x.key.A x.key.row.length x.key.c, .int .i64 x.val] 81 (0, 0)) := by rw [hw0]; exact heap_alloc_new w _
    have hV0 : NodeAt w0 O a ⟨[], t.1, cs⟩ V := hV.below hs.free hb0 fun _ _ => rfl
    have hx0 : KOk (fun k => O k = .row) w0 x.key := hS0.kok hs hx
    obtain ⟨A0, c0, A1, c1, A2, c2, e0, e1, e2, h0, h1, h2, hfr, o0, o1, o2⟩ := hV0.cells
    simp only at h1 h2 o1 e1
    have hrl : ∀ k, O k = .row → k < w0.heap.size := fun k hk => hS0.store.lt' (by rw [hk]; simp)
    have HLF : Hid (Calls Try.prog 37 #[ptr a] w0 fun e w' => e = .returned (.bool false) ∧ w0 = w') := Lib.hid (hLF w0 hS0)
    have HCI := Lib.hid (childIdxW a w0 A1 c1 t.1 x.key.A x.key.c x.key.row _ _ h1 ((o1.elems keyLay.len rfl).more fun k hk => (Own.lt o1 k hk).2) hrl hrl hV0.rowk (keys_ord hok hm1) hx0.el (by have := hO.hi; omega))
    have hk0 : w0.cell? ⟨w.heap.size, 0, none⟩ = some (.slice x.key.A x.key.row.length x.key.c) := by rw [cell_of_row _ _ _ _ _ _ hbox]; rfl
    have hk1 : w0.cell? ⟨w.heap.size, 1, none⟩ = some (.int .i64 x.val) := by rw [cell_of_row _ _ _ _ _ _ hbox]; rfl
    have hbl : w.heap.size < w0.heap.size := by rw [hw0]; simp
    have HW0 := Lib.hid hw0
    have HS := Lib.hid hs
    have HM := Lib.hid hm
    have HZ := Lib.hid hz
    have HZL := Lib.hid hzl
    have HFP := Lib.hid hfp
    have HNN := Lib.hid hn
    have HLT := Lib.hid hlt
    have HOK := Lib.hid hok
    have HS0 := Lib.hid hS0
    have HV0 := Lib.hid hV0
    have HX0 := Lib.hid hx0
    have HX := Lib.hid hx
    have HTB := Lib.hid htb
    have HT := Lib.hid ht
    have HLE : Hid (t.1.length + 1 = t.2.length ∧ 1 ≤ t.2.length ∧ t.2.length ≤ o ∧ o ≤ 16) := Lib.hid ⟨hlen, hd1, hf', hO.hi⟩
    clear hLF hw0 hs hm hz hzl hfp hn hlt hok hS0 hV hV0 hx hx0 htb ht hlen hd1 hf' hf hd h0 h1 h2 hfr o0 o1 o2 e0 e1 e2 hb0 hrl
    go_enter Try.func40, Try.ntmps40
    go_wp2_with fail
    rw [← HW0.out]
    refine HLF.out.mono ?_
    rintro e w' ⟨rfl, rfl⟩
    go_wp2_with fail
    refine HCI.out.mono ?_
    rintro e w1 ⟨j, rfl, hcov, hb1⟩
    have HCOV := Lib.hid hcov
    have hjl : j < t.2.length := by have := hcov.1; have := HLE.out; omega
    obtain ⟨c, hc⟩ : ∃ c, t.2[j]? = some c := ⟨_, List.getElem?_eq_getElem hjl⟩
    obtain ⟨b, hb⟩ : ∃ b, cs[j]? = some b := ⟨_, List.getElem?_eq_getElem (by have := HZL.out; omega)⟩
    obtain ⟨f, hff, hrb⟩ : ∃ f, fps[j]? = some f ∧ Rep M d b c f := by
      obtain ⟨a', c', q1, q2, q3⟩ := HZ.out.at_ hc
      rw [hb] at q1
      injection q1 with q1
      subst q1
      exact ⟨_, q2, q3⟩
    have HS1 := Lib.hid (HS0.out.below hb1)
    have HV1 : Hid (NodeAt w1 O a ⟨[], t.1, cs⟩ V) := Lib.hid (HV0.out.below HS0.out.store.free hb1 fun _ _ => rfl)
    obtain ⟨g2, c2', e2, q2, qi, -, hcl2, hcm2⟩ := HV1.out.child hb
    simp only at q2
    have k0a := (hb1.cell (p := ⟨w.heap.size, 0, none⟩) hbl).trans hk0
    have k1a := (hb1.cell (p := ⟨w.heap.size, 1, none⟩) hbl).trans hk1
    have hcok := HOK.out.2 c (List.mem_of_getElem? hc)
    have hm2 : 2 ≤ m := by have := hO.lo; have := hO.eq; omega
    have hnf : f.Nodup := by
      have := HNN.out
      rw [HFP.out] at this
      exact (List.pairwise_flatten.1 (List.nodup_cons.1 this).2).1 f (List.mem_of_getElem? hff)
    have hS1d : St w O w1.drew M O := HS1.out.below (Below.refl _ _).drew
    have HIH : Hid (Calls Try.prog 40 #[ptr tb, ptr b, entV x] w1.drew (InsPost w1.drew M O m o d b c f x)) := Lib.hid (insertW hO x w1.drew M O hS1d.store HTB.out ((hS1d.cell HS.out (.inl HTB.out)).trans HT.out) hrb hnf (hS1d.kok HS.out (by
      have := HX0.out
      exact HX.out)) hcok.1 (.inr (by omega)) hcok.2.2)
    have hin : (j : Int) < (cs.length : Int) := by have := HZL.out; omega
    have hj0 : (0 : Int) ≤ (j : Int) := by omega
    have HC := Lib.hid hc
    have HB := Lib.hid hb
    have HF := Lib.hid hff
    have HCK := Lib.hid hcok
    have HSD := Lib.hid hS1d
    clear hcov hc hb hff hrb hb1 hk0 hk1 hcok hnf hS1d e2 hcl2 hcm2 HLF HCI
    go_wp2_with fail
    go_still_tail 9, (by kernel_rfl)
    change wpList _ _ _ _ _ w1.drew
    go_wp2_with fail
    refine HIH.out.mono ?_
    rintro e w2 ⟨M2, O2, c', f', rfl, hS2, hr2, hch2, hok2, hfl2, hf1, hf2⟩
    have hsz : w.heap.size ≤ w1.heap.size := HS1.out.size
    have hm2' := HM.out
    obtain ⟨fps', u1, u2, u3, u4⟩ := Rep.set_child (t := t) (i := j) HM.out HZ.out HFP.out HNN.out (fun x hx => Nat.lt_of_lt_of_le (HLT.out x hx) hsz) HB.out HF.out hr2 (hch2 : Chg w1.heap.size M M2 f f')
    have HR2 : Rep M2 (d + 1) a (t.1, t.2.set j c') (a :: fps'.flatten) := ⟨cs, fps', u1, u2, rfl⟩
    have hcj : (t.1, t.2.set j c').2[j]? = some c' := by
      show (t.2.set j c')[j]? = _
      rw [List.getElem?_set]
      simp [hjl]
    have hSx : St w O w2 M2 O2 := HSD.out.trans hS2
    have HSC := Lib.hid (splitChildW (tb := tb) (o := o) w2 M2 O2 hS2.store ((hSx.cell HS.out (.inl HTB.out)).trans HT.out) hO HR2 u3.nd hcj hok2 (by have := HCK.out; have := HLE.out; omega) (.inr (by have := HCK.out; omega)) (by show t.1.length + 1 = (t.2.set j c').length; rw [List.length_set]; exact HLE.out.1) (by show (t.2.set j c').length ≤ 40; rw [List.length_set]; have := HLE.out; omega))
    have HG : Hid (getF x.key.row (flat d c) = getF x.key.row (flat (d + 1) t)) := Lib.hid (by
      have hs := cov_sides HOK.out.1 HCOV.out
      rw [show flat (d + 1) t = flat (d + 1) (t.1, t.2) from rfl, flat_at HC.out, getF_mid hs.1 hs.2])
    have HSX := Lib.hid hSx
    have HU3 := Lib.hid u3
    have HOK2 := Lib.hid hok2
    have HFL2 := Lib.hid hfl2
    have HF12 : Hid (fill d c ≤ fill d c' ∧ fill d c' ≤ fill d c + 1) := Lib.hid ⟨hf1, hf2⟩
    clear hSx u3 hok2 hfl2 hf1 hf2 hS2 hr2 hch2 u1 u2 u4 HR2 hcj hm2'
    rw [HG.out]
    obtain ⟨gf, hgf⟩ : ∃ gf, gf = getF x.key.row (flat (d + 1) t) := ⟨_, rfl⟩
    rw [← hgf]
    have HGF := Lib.hid hgf
    clear hgf
    go_wp2_with fail
    refine HSC.out.mono ?_
    rintro e w3 ⟨rfl, M3, O3, t', fp', hS3, hr3, hch3, hsp⟩
    have HE : Hid (InsPost w M O m o (d + 1) a t fp x (.returned (.bool gf.isNone)) w3) := Lib.hid (by
      obtain ⟨v1, v2, v3, v4⟩ := ins_ok hO HOK.out HCOV.out HC.out HOK2.out HFL2.out HF12.out.1 HF12.out.2 hsp
      refine ⟨M3, O3, t', fp', ?_, HSX.out.trans hS3, hr3, ?_, v1, v2, v3, v4⟩
      · rw [HGF.out]
      · exact (HU3.out.mono hsz).trans hch3 HSX.out.size)
    clear hS3 hr3 hch3 hsp
    go_wp2_with fail
    go_ret
    exact HE.out
end Go.Proofs.Ytjdcnkbkbcfhfaa

namespace Go.Proofs.Ytjdcnkbkbcfhfaa
open Go.RowKit

theorem elem_val : ElemT Try.prog 35 44 3 32 := ⟨Try.underlying35, by
  have h : (Try.prog.info? 44).map (fun i => (i.zero, i.size, i.bytes)) = some (some (.agg #[.int .i64 0, .int .i64 0, .string ByteArray.empty]), 3, 32) := by kernel_rfl
  obtain ⟨i0, hi, hz0, hz1, hz2⟩ := info_parts h
  exact ⟨i0, _, hi, hz0, hz1, hz2, rfl⟩, by omega⟩

theorem valLay : Lay 3 Val.cs := ⟨fun _ => rfl, fun x c hc => by simp [Val.cs] at hc; rcases hc with rfl | rfl | rfl <;> rfl⟩

set_option maxRecDepth 100000 in
theorem cloneRow (A : Option Addr) (n c : Nat) (xs : List Val) (w : World) (S : Nat → Prop) (hx : Elems 3 Val.cs w S A xs) (hS : ∀ k, S k → k < w.heap.size) (hn : n = xs.length) (hs : xs.length ≤ 100000) :
    Calls Try.prog 11 #[.slice A n c] w fun e w' => ∃ v, e = .returned v ∧ Own 3 Val.cs 44 w.heap.size w' v xs ∧ Below w.heap.size w w' := by
  have hnil := fun W => Lib.run_eql_slice_nil (P := Try.prog) W 35 44 A n c 0 0 Try.underlying35
  cases A with
  | none =>
    have h0 : xs = [] := by
      rcases Nat.eq_zero_or_pos xs.length with h | h
      · exact List.eq_nil_of_length_eq_zero h
      · obtain ⟨_, _, h', _⟩ := hx h; cases h'
    subst h0
    simp only [Option.isNone_none, List.length_nil] at hnil hn
    subst hn
    go_enter Try.func11, Try.ntmps11
    go_wp2_with fail
    go_ret
    exact ⟨_, rfl, Own.nil _, Below.refl _ _⟩
  | some a =>
    simp only [Option.isNone_some] at hnil
    have HX := Lib.hid (hx.keep (w' := w.alloc (.cells #[] 44)) fun k hk => Below.heap_alloc _ _ _ (hS k hk))
    have hB : w.heap.size ≤ (w.alloc (.cells #[] 44)).heap.size := by simp
    have H1 : Hid ((([] : List Val).length + xs.length) * 32 ≤ 140737488355328) := Lib.hid (by simp; omega)
    have H2 : Hid (([] : List Val).length + xs.length ≤ maxLen) := Lib.hid (by unfold maxLen; simp; omega)
    have HN := Lib.hid hn
    clear hx hs hn
    go_enter Try.func11, Try.ntmps11
    go_wp2_with (at_builtin; refine wpList_app rfl (.tmp 5) (.tmp 6) _ _ rfl rfl rfl (run_pushs elem_val valLay _ (w.alloc (.cells #[] 44)) _ ([] : List Val) (Own.lit0 w) HX.out HN.out H1.out H2.out hB) ?_; rintro v1 w1 ⟨ho1, hx1⟩)
    go_ret
    exact ⟨_, rfl, by simpa using ho1, ((Below.refl _ _).alloc (Nat.le_refl _) _).trans (hx1.below (base := w.heap.size) (by simp) (fun g hg => Nat.le_of_eq (Option.some.inj hg)))⟩

end Go.Proofs.Ytjdcnkbkbcfhfaa

namespace Go.Proofs.Ytjdcnkbkbcfhfaa
open Go.RowKit

set_option maxHeartbeats 1000000 in
theorem validate (k n : Int) (s : ByteArray) (w : World) :
    Calls Try.prog 58 #[.agg #[.int .i64 k, .int .i64 n, .string s]] w fun e w' => e = .returned (.int .i64 (vErr k n s)) ∧ Below w.heap.size w w' := by
  by_cases hk0 : k = 0
  · subst hk0
    by_cases hn : n = 0
    · subst hn
      go_enter Try.func58, Try.ntmps58
      go_wp2
      all_goals (go_ret; exact ⟨ret_int (by simp_all [vErr]), (Below.refl _ _).alloc (Nat.le_refl _) _⟩)
    · go_enter Try.func58, Try.ntmps58
      go_wp2
      all_goals (go_ret; exact ⟨ret_int (by simp_all [vErr]), (Below.refl _ _).alloc (Nat.le_refl _) _⟩)
  by_cases hk1 : k = 1
  · subst hk1
    go_enter Try.func58, Try.ntmps58
    go_wp2
    all_goals (go_ret; exact ⟨ret_int (by simp_all [vErr] <;> omega), (Below.refl _ _).alloc (Nat.le_refl _) _⟩)
  by_cases hk2 : k = 2
  · subst hk2
    by_cases hn : n = 0
    · subst hn
      go_enter Try.func58, Try.ntmps58
      go_wp2
      all_goals (go_ret; exact ⟨ret_int (by simp_all [vErr] <;> omega), (Below.refl _ _).alloc (Nat.le_refl _) _⟩)
    by_cases hn1 : n = 1
    · subst hn1
      go_enter Try.func58, Try.ntmps58
      go_wp2
      all_goals (go_ret; exact ⟨ret_int (by simp_all [vErr] <;> omega), (Below.refl _ _).alloc (Nat.le_refl _) _⟩)
    · go_enter Try.func58, Try.ntmps58
      go_wp2
      all_goals (go_ret; exact ⟨ret_int (by simp_all [vErr] <;> omega), (Below.refl _ _).alloc (Nat.le_refl _) _⟩)
  by_cases hk3 : k = 3
  · subst hk3
    by_cases hn : n = 0
    · subst hn
      go_enter Try.func58, Try.ntmps58
      go_wp2
      all_goals (go_ret; exact ⟨ret_int (by simp_all [vErr] <;> omega), (Below.refl _ _).alloc (Nat.le_refl _) _⟩)
    · go_enter Try.func58, Try.ntmps58
      go_wp2
      all_goals (go_ret; exact ⟨ret_int (by simp_all [vErr] <;> omega), (Below.refl _ _).alloc (Nat.le_refl _) _⟩)
  · go_enter Try.func58, Try.ntmps58
    go_wp2
    all_goals (go_ret; exact ⟨ret_int (by simp_all [vErr] <;> omega), (Below.refl _ _).alloc (Nat.le_refl _) _⟩)

end Go.Proofs.Ytjdcnkbkbcfhfaa

namespace Go.Proofs.Ytjdcnkbkbcfhfaa
open Go.RowKit

set_option maxHeartbeats 1000000 in
theorem checkRow (A : Option Addr) (c : Nat) (r : List Val) (w : World) (hr : Elems 3 Val.cs w (· < w.heap.size) A r) (hl : r.length ≤ maxLen) :
    Calls Try.prog 35 #[.slice A r.length c] w fun e w' => e = .returned (.int .i64 (rErr r)) ∧ Below w.heap.size w w' := by
  unfold maxLen at hl
  by_cases h12 : 12 < r.length
  · go_enter Try.func35, Try.ntmps35
    go_wp2
    go_ret
    exact ⟨ret_int (by simp [rErr, h12]), Below.refl _ _⟩
  · have HE : Hid (rErr r = rErrs (r.drop 0)) := by unfold Hid rErr; rw [if_neg h12]; rfl
    go_enter Try.func35, Try.ntmps35
    go_wp2
    go_loopw [11] (fun i wr => ∃ k : Nat, k ≤ r.length ∧ i = .int .i64 k ∧ rErr r = rErrs (r.drop k) ∧ Below w.heap.size w wr) (fun i _ => r.length - (intOf i).toNat)
    case atStart => exact ⟨0, by omega, rfl, HE.out, Below.refl _ _⟩
    case round =>
      obtain ⟨k, hk, rfl, he, hb⟩ := hrel
      have HE2 := Lib.hid he
      clear he HE
      by_cases hlt : k < r.length
      · have hd := rErrs_drop hlt
        have HD := Lib.hid hd
        clear hd
        obtain ⟨b, off, rfl, hbs, c0, c1, c2⟩ := (hr.keep (Keeps.of_below hb fun _ h => h)).val hlt
        generalize r[k] = x at *
        by_cases hz : x.err = 0
        · have hz' : (vErr x.kind x.int x.text != 0) = false := by have h := hz; unfold Val.err at h; simp [h]
          have HZ := Lib.hid hz
          clear hz
          go_wp2_with (go_at_call 58; refine (validate _ _ _ _).mono ?_; rintro e w1 ⟨rfl, hb1⟩)
          go_roundw
          case rel => exact ⟨k + 1, by omega, by go_num, by rw [HE2.out, HD.out, if_pos HZ.out], (hb.alloc (by have := hb.size; omega) _).trans (hb1.mono (by have := hb.size; simp; omega))⟩
          case measure => simp [intOf]; omega
        · have hz' : (vErr x.kind x.int x.text != 0) = true := by have h := hz; unfold Val.err at h; simp [h]
          have HZ := Lib.hid hz
          clear hz
          go_wp2_with (go_at_call 58; refine (validate _ _ _ _).mono ?_; rintro e w1 ⟨rfl, hb1⟩)
          go_ret
          exact ⟨ret_int (by rw [HE2.out, HD.out, if_neg HZ.out]; rfl), (hb.alloc (by have := hb.size; omega) _).trans (hb1.mono (by have := hb.size; simp; omega))⟩
      · go_wp2_with fail
        go_ret
        exact ⟨ret_int (by rw [HE2.out, List.drop_eq_nil_of_le (by omega)]; rfl), hb⟩

end Go.Proofs.Ytjdcnkbkbcfhfaa

namespace Go.Proofs.Ytjdcnkbkbcfhfaa
open Go.RowKit Go.Sort

abbrev PE := Row × Int
def pr (e : Ent) : PE := (e.key.row, e.val)
def insP (p : PE) : List PE → List PE
  | [] => [p]
  | x :: xs => if cmpR x.1 p.1 < 0 then x :: insP p xs else if cmpR x.1 p.1 = 0 then (x.1, p.2) :: xs else p :: x :: xs
def delP (k : Row) : List PE → List PE
  | [] => []
  | x :: xs => if cmpR x.1 k < 0 then x :: delP k xs else if cmpR x.1 k = 0 then xs else x :: xs
def getP (k : Row) : List PE → Option Int
  | [] => none
  | x :: xs => if cmpR x.1 k < 0 then getP k xs else if cmpR x.1 k = 0 then some x.2 else none
abbrev OrdP (ps : List PE) : Prop := ps.Pairwise fun a b => rl a.1 b.1

theorem map_ins (e : Ent) : ∀ xs : List Ent, (insF e xs).map pr = insP (pr e) (xs.map pr)
  | [] => rfl
  | x :: xs => by
    rw [List.map_cons, insF_cons]
    show _ = if cmpR x.key.row e.key.row < 0 then _ else if cmpR x.key.row e.key.row = 0 then _ else _
    split
    · rw [List.map_cons, map_ins e xs]
    · split <;> rfl
theorem map_del (k : Row) : ∀ xs : List Ent, (delF k xs).map pr = delP k (xs.map pr)
  | [] => rfl
  | x :: xs => by
    rw [List.map_cons, delF_cons]
    show _ = if cmpR x.key.row k < 0 then _ else if cmpR x.key.row k = 0 then _ else _
    split
    · rw [List.map_cons, map_del k xs]
    · split <;> rfl
theorem get_map (k : Row) : ∀ xs : List Ent, getF k xs = getP k (xs.map pr)
  | [] => rfl
  | x :: xs => by
    rw [List.map_cons, getF_cons, get_map k xs]
    rfl
theorem map_ord {xs : List Ent} (h : Ord xs) : OrdP (xs.map pr) := List.pairwise_map.2 h

/-- The tree at tb; no block below base is its own. -/
structure TreeIn (base m o : Nat) (w : World) (M : Nodes) (O : Own') (tb d a : Nat) (t : T d) (fp : List Nat) (n : Nat) : Prop where
  store : Store w M O
  top : O tb = .top
  low : ∀ k, k < base → ¬ (O k).mine ∧ O k ≠ .top ∧ O k ≠ .row
  blk : w.heap[tb]? = some (.cells #[.int .i64 o, ptr a, .int .i64 n] 87 (0, 0))
  rep : Rep M d a t fp
  nd : fp.Nodup
  ok : Ok m o d t
  root : d = 0 ∨ 2 ≤ fill d t
  full : fill d t ≤ o
  len : n = (flat d t).length
def TreeAt (base m o : Nat) (w : World) (tb : Nat) (ps : List PE) : Prop := ∃ (M : Nodes) (O : Own') (d a : Nat) (t : T d) (fp : List Nat), TreeIn base m o w M O tb d a t fp ps.length ∧ (flat d t).map pr = ps

section
variable {base m o : Nat} {w w' : World} {M : Nodes} {O : Own'} {tb d a : Nat} {t : T d} {fp : List Nat} {n : Nat} {ps : List PE}
theorem TreeIn.below (h : TreeIn base m o w M O tb d a t fp n) (hb : Below w.heap.size w w') : TreeIn base m o w' M O tb d a t fp n :=
  ⟨h.store.below hb, h.top, h.low, (hb.block tb (h.store.lt' (by rw [h.top]; simp))).trans h.blk, h.rep, h.nd, h.ok, h.root, h.full, h.len⟩
theorem TreeAt.below (h : TreeAt base m o w tb ps) (hb : Below w.heap.size w w') : TreeAt base m o w' tb ps := by
  obtain ⟨M, O, d, a, t, fp, h1, h2⟩ := h
  exact ⟨M, O, d, a, t, fp, h1.below hb, h2⟩
theorem TreeAt.ord (h : TreeAt base m o w tb ps) : OrdP ps := by
  obtain ⟨M, O, d, a, t, fp, h1, h2⟩ := h
  rw [← h2]
  exact map_ord (flat_ord h1.ok)
theorem TreeIn.base_le (h : TreeIn base m o w M O tb d a t fp n) : base ≤ tb := Nat.le_of_not_lt fun hl => (h.low tb hl).2.1 h.top
theorem TreeIn.lt (h : TreeIn base m o w M O tb d a t fp n) : tb < w.heap.size := h.store.lt' (by rw [h.top]; simp)
theorem TreeAt.lt (h : TreeAt base m o w tb ps) : tb < w.heap.size ∧ base ≤ tb := by
  obtain ⟨M, O, d, a, t, fp, h1, h2⟩ := h
  exact ⟨h1.lt, h1.base_le⟩
/-- The top's own cells change. -/
theorem Store.setTop (h : Store w M O) (ht : O tb = .top) (i : Nat) (v : Value) : Store (w.setCell ⟨tb, i, none⟩ v) M O := by
  refine ⟨fun a n ha => ?_, fun k hk => h.free k (by rwa [setCell_size] at hk)⟩
  obtain ⟨V, hV⟩ := h.at_ a n ha
  refine ⟨V, hV.keep fun k hk => ⟨heap_setCell_off (fun e => ?_) v, rfl⟩⟩
  rcases hk with rfl | ⟨i, hi⟩ | hk
  · have := hV.own; rw [e, ht] at this; cases this
  · rw [e, ht] at hi; cases hi
  · rw [e, ht] at hk; cases hk
/-- What a change by the tree's functions leaves. -/
theorem St.below_base {w0 : World} {O0 : Own'} (h : St w0 O0 w M O) (hl : ∀ k, k < base → ¬ (O0 k).mine ∧ O0 k ≠ .top ∧ O0 k ≠ .row) (hB : base ≤ w0.heap.size) : Below base w0 w :=
  ⟨h.os, h.tape, h.output, h.size, fun k hk => h.keep k (Nat.lt_of_lt_of_le hk hB) (hl k hk).1⟩
theorem St.low {w0 : World} {O0 : Own'} (h : St w0 O0 w M O) (hl : ∀ k, k < base → ¬ (O0 k).mine ∧ O0 k ≠ .top ∧ O0 k ≠ .row) (hB : base ≤ w0.heap.size) : ∀ k, k < base → ¬ (O k).mine ∧ O k ≠ .top ∧ O k ≠ .row := fun k hk => by
  rw [h.own k (Nat.lt_of_lt_of_le hk hB)]
  exact hl k hk
end

/-- A new root over two nodes. -/
theorem new_root {m o : Nat} {w0 w : World} {O0 O : Own'} {M : Nodes} (hS : St w0 O0 w M O) {d a b : Nat} {l r t : T d} {fl fr : List Nat} {k : Key} (hO : Order m o) (hok : Ok m o d t) (hf : o < fill d t) (hf2 : fill d t ≤ o + 1) (hs : Spl d t l k r) (hl : Rep M d a l fl) (hr : Rep M d b r fr) (hn : (fl ++ fr).Nodup) (hk : KOk (fun k => O k = .row) w k) :
    ∃ (M' : Nodes) (O' : Own') (t' : T (d + 1)), St w0 O0 (((w.alloc (.cells #[ptr a, ptr b] 82)).alloc (.cells #[.slice k.A k.row.length k.c] 35)).alloc (.cells #[.slice none 0 0, .slice (some ⟨w.heap.size + 1, 0, none⟩) 1 1, .slice (some ⟨w.heap.size, 0, none⟩) 2 2] 85)) M' O'
      ∧ Rep M' (d + 1) (w.heap.size + 2) t' ((w.heap.size + 2) :: (fl ++ fr)) ∧ ((w.heap.size + 2) :: (fl ++ fr)).Nodup ∧ Ok m o (d + 1) t' ∧ flat (d + 1) t' = flat d t ∧ fill (d + 1) t' = 2 := by
  obtain ⟨w1, hw1⟩ : ∃ w1, w1 = ((w.alloc (.cells #[ptr a, ptr b] 82)).alloc (.cells #[.slice k.A k.row.length k.c] 35)).alloc (.cells #[.slice none 0 0, .slice (some ⟨w.heap.size + 1, 0, none⟩) 1 1, .slice (some ⟨w.heap.size, 0, none⟩) 2 2] 85) := ⟨_, rfl⟩
  have hsz : w1.heap.size = w.heap.size + 3 := by rw [hw1]; simp
  have hb1 : Below w.heap.size w w1 := by
    rw [hw1]
    exact (((Below.refl _ _).alloc (Nat.le_refl _) _).alloc (le_size1 (Nat.le_refl _) _) _).alloc (le_size2 (Nat.le_refl _) _ _) _
  have g0 : w1.heap[w.heap.size]? = some (.cells #[ptr a, ptr b] 82 (0, 0)) := by
    rw [hw1, Below.heap_alloc _ _ _ (by simp; omega), Below.heap_alloc _ _ _ (by simp)]
    exact heap_alloc_new w _
  have g1 : w1.heap[w.heap.size + 1]? = some (.cells #[.slice k.A k.row.length k.c] 35 (0, 0)) := by
    rw [hw1, Below.heap_alloc _ _ _ (by simp)]
    exact alloc2_at w _ _
  have g2 : w1.heap[w.heap.size + 2]? = some (.cells #[.slice none 0 0, .slice (some ⟨w.heap.size + 1, 0, none⟩) 1 1, .slice (some ⟨w.heap.size, 0, none⟩) 2 2] 85 (0, 0)) := by
    rw [hw1]
    have := heap_alloc_new ((w.alloc (.cells #[ptr a, ptr b] 82)).alloc (.cells #[.slice k.A k.row.length k.c] 35)) (.cells #[.slice none 0 0, .slice (some ⟨w.heap.size + 1, 0, none⟩) 1 1, .slice (some ⟨w.heap.size, 0, none⟩) 2 2] 85)
    simpa using this
  rw [← hw1]
  have hS1 := hS.below hb1
  have hfr := hS.store.free
  have hfree : ∀ i, w.heap.size ≤ i → O i = .free ∧ w0.heap.size ≤ i := fun i hi => ⟨hfr i hi, Nat.le_trans hS.size hi⟩
  have hk1 : KOk (fun k => O k = .row) w1 k := ((St.refl hS.store).below hb1).kok hS.store hk
  obtain ⟨O', hS2, hN, hM, -, -⟩ := hS1.fresh (a := w.heap.size + 2) (n := ⟨[], [k], [a, b]⟩) (V := fun i => if i = 0 then .slice none 0 0 else if i = 1 then .slice (some ⟨w.heap.size + 1, 0, none⟩) 1 1 else .slice (some ⟨w.heap.size, 0, none⟩) 2 2) g2 (hfree _ (by omega))
    (fun i hi => by
      rcases i with _ | _ | _ | i
      · exact Own.nil _
      · exact ⟨rfl, .inr ⟨w.heap.size + 1, 1, _, rfl, Nat.zero_le _, g1, Nat.le_refl _, by unfold maxLen; omega, rfl, rfl⟩⟩
      · exact ⟨rfl, .inr ⟨w.heap.size, 2, _, rfl, Nat.zero_le _, g0, Nat.le_refl _, by unfold maxLen; omega, rfl, rfl⟩⟩
      · omega)
    (fun i hi g hg => by
      rcases i with _ | _ | _ | i
      · cases hg
      · have hg : w.heap.size + 1 = g := Option.some.inj hg
        subst hg; exact ⟨(hfree _ (by omega)).1, (hfree _ (by omega)).2, by omega⟩
      · have hg : w.heap.size = g := Option.some.inj hg
        subst hg; exact ⟨(hfree _ (by omega)).1, (hfree _ (by omega)).2, by omega⟩
      · omega)
    (fun i j g hi hj h1 h2 => by
      rcases i with _ | _ | _ | i <;> rcases j with _ | _ | _ | j <;> first | rfl | omega | (cases h1; done) | (cases h2; done) | (have h1 := Option.some.inj h1; have h2 := Option.some.inj h2; simp only at h1 h2; omega))
    (fun e he => by cases he) (fun k' hk' => by rw [List.mem_singleton.1 hk']; exact hk1)
  have S := spl_ok hok (by have := hO.lo; omega) hs
  have hne : ∀ x ∈ fl ++ fr, x ≠ w.heap.size + 2 := fun x hx e => by
    have : ∃ n, M x = some n := by
      rcases List.mem_append.1 hx with h | h
      · exact hl.some x h
      · exact hr.some x h
    obtain ⟨n, hn⟩ := this
    rw [e, hM] at hn
    cases hn
  refine ⟨_, O', ([k], [l, r]), hS2, ⟨[a, b], [fl, fr], upd_same _ _ _, Z3.two (hl.frame fun x hx => upd_ne (hne x (List.mem_append_left _ hx))) (hr.frame fun x hx => upd_ne (hne x (List.mem_append_right _ hx))), by simp⟩, List.nodup_cons.2 ⟨fun h => hne _ h rfl, hn⟩, ?_, ?_, rfl⟩
  · have f1 := S.fl
    have f2 := S.fr
    have hm := hO.eq
    have hlo := hO.lo
    refine ⟨⟨rfl, fun j n k' t' hj hn x hx => ?_⟩, fun c hc => ?_⟩
    · rcases j with _ | j
      · simp at hj
        subst hj
        rcases n with _ | _ | n
        · simp at hn
          subst hn
          exact ⟨fun _ => S.lo x hx, fun h => by omega⟩
        · simp at hn
          subst hn
          exact ⟨fun h => by omega, fun _ => S.hi x hx⟩
        · simp at hn
      · simp at hj
    · simp at hc
      rcases hc with rfl | rfl
      · exact ⟨S.ol, by omega, by omega⟩
      · exact ⟨S.or, by omega, by omega⟩
  · show List.flatMap (flat d) [l, r] = _
    rw [S.fla]
    simp
end Go.Proofs.Ytjdcnkbkbcfhfaa
