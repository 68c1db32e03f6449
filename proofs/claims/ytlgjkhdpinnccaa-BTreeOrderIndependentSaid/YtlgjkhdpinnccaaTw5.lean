/-
  The walk of splitChild.
-/
import Derived.Test.YtlgjkhdpinnccaaTw4
namespace Go.Proofs.Ytlgjkhdpinnccaa
open Go.RowKit Go.Sort

theorem quietSame {P : Program} {f : FuncId} {args : Array Value} {w : World} {n : Nat} {v : Value}
    (h : Calls P f args (w.drewN n) fun e w' => e = .returned v ∧ w.drewN n = w') : Calls P f args (w.drewN n) fun e w'' => e = .returned v ∧ ∃ m, w'' = w.drewN m :=
  h.mono fun _ _ ⟨he, hm⟩ => ⟨he, n, hm.symm⟩

theorem Elems.nid {w : World} {S : Nat → Prop} {A : Option Addr} {r : List Nid} {k : Nat} {b : Nat} (h : Elems 1 Nid.cs w S A r) (hk : r[k]? = some b) :
    ∃ g off, A = some ⟨g, off, none⟩ ∧ S g ∧ w.cell? ⟨g, off + k, none⟩ = some (ptr b) := by
  obtain ⟨hl, e⟩ := List.getElem?_eq_some_iff.1 hk
  obtain ⟨g, off, e1, hb, hc⟩ := h.at_ hl
  refine ⟨g, off, e1, hb, ?_⟩
  have := hc 0 _ rfl
  rw [e] at this
  simpa using this

/-- The child i of a node, as a walk reads it. -/
theorem NodeAt.child {w : World} {O : Own'} {a : Nat} {n : NC} {V : Nat → Value} (h : NodeAt w O a n V) {i b : Nat} (hi : n.cs[i]? = some b) :
    ∃ g c, V 2 = .slice (some ⟨g, 0, none⟩) n.cs.length c ∧ w.cell? ⟨a, 2, none⟩ = some (.slice (some ⟨g, 0, none⟩) n.cs.length c) ∧ w.cell? ⟨g, i, none⟩ = some (ptr b) ∧ O g = .fld 2 a ∧ n.cs.length ≤ c ∧ c ≤ maxLen := by
  obtain ⟨A0, c0, A1, c1, A2, c2, e0, e1, e2, h0, h1, h2, hfr, o0, o1, o2⟩ := h.cells
  have hl := (List.getElem?_eq_some_iff.1 hi).1
  obtain ⟨g, c, cur, hv, -, hg, hcl, hcm, -, -⟩ := o2.open_ (by omega)
  injection hv with hv1 _ hv2
  subst hv1 hv2
  obtain ⟨g', off, he, -, hc⟩ := (o2.elems nidLay.len rfl).nid hi
  injection he with he
  injection he with he1 he2
  subst he1 he2
  rw [Nat.zero_add] at hc
  exact ⟨g, c2, e2, h2, hc, h.whose 2 (by omega) g (by rw [e2]; rfl), hcl, hcm⟩

/-- The number that fill tells, of a tree's node. -/
theorem fillT {w : World} {M : Nodes} {O : Own'} (hs : Store w M O) {d a : Nat} {t : T d} {fp : List Nat} (hr : Rep M d a t fp) (hd : d = 0 ∨ 1 ≤ fill d t) (k : Nat) :
    Calls Try.prog 31 #[ptr a] (w.drewN k) fun e w' => e = .returned (.int .i64 (fill d t : Nat)) ∧ w.drewN k = w' := by
  obtain ⟨n, cs, hm, hc⟩ := hr.node
  obtain ⟨V, hV⟩ := hs.at_ a n hm
  obtain ⟨A0, c0, A1, c1, A2, c2, e0, e1, e2, h0, h1, h2, -⟩ := hV.cells
  have := fillW a (w.drewN k) A0 A2 _ c0 _ c2 h0 h2
  rw [hc.fill0 hd] at this
  exact this
theorem leafT {w : World} {M : Nodes} {O : Own'} (hs : Store w M O) {d a : Nat} {t : T d} {fp : List Nat} (hr : Rep M d a t fp) (hd : d = 0 ∨ 1 ≤ fill d t) (k : Nat) :
    Calls Try.prog 33 #[ptr a] (w.drewN k) fun e w' => e = .returned (.bool (d == 0)) ∧ w.drewN k = w' := by
  obtain ⟨n, cs, hm, hc⟩ := hr.node
  obtain ⟨V, hV⟩ := hs.at_ a n hm
  obtain ⟨A0, c0, A1, c1, A2, c2, e0, e1, e2, h0, h1, h2, -⟩ := hV.cells
  have := leafW a (w.drewN k) A2 _ c2 h2
  have e : (n.cs.length == 0) = (d == 0) := by
    cases d with
    | zero =>
      obtain ⟨es, rfl, rfl, rfl⟩ := hc
      rfl
    | succ d =>
      obtain ⟨rfl, hl⟩ := hc
      have hd : 1 ≤ t.2.length := by
        rcases hd with h | h
        · cases h
        · exact h
      have h1 : ¬ cs.length = 0 := by omega
      show (cs.length == 0) = (d + 1 == 0)
      rw [beq_false_of_ne h1, beq_false_of_ne (by omega)]
  rw [e] at this
  exact this

/-- One field of a node grows or shrinks where it lies, or is laid elsewhere. -/
theorem St.field_ext {w0 w w' : World} {O0 O : Own'} {M : Nodes} (h : St w0 O0 w M O) {a : Nat} {n n' : NC} {V : Nat → Value} (ha : M a = some n) (hV : NodeAt w O a n V) {i : Nat} (hi : i < 3) {v' : Value}
    (hE : Ext w (V i) w' v') (hF : Fld i n' w' v') (hsame : ∀ j, j < 3 → j ≠ i → ∀ w v, Fld j n w v → Fld j n' w v)
    (hre : ∀ e ∈ n'.es, KOk (fun k => O k = .row) w e.key) (hrk : ∀ k ∈ n'.ks, KOk (fun k => O k = .row) w k) :
    St w0 O0 (w'.setCell ⟨a, i, none⟩ v') (upd M a (some n')) (ownBy O v' (.fld i a))
    ∧ NodeAt (w'.setCell ⟨a, i, none⟩ v') (ownBy O v' (.fld i a)) a n' (fun j => if j = i then v' else V j) :=
  h.field ha hV hi hE.grown hF (fun g hg => by
    rcases hE.block with e | ⟨g', e, hg'⟩
    · exact .inl (hV.whose i hi g (e ▸ hg))
    · rw [e] at hg
      injection hg with hg
      subst hg
      exact .inr ⟨h.store.free _ hg', Nat.le_trans h.size hg'⟩) hsame hre hrk

/-- What splitChild leaves. -/
def SpcPost (w : World) (M : Nodes) (O : Own') (o d i a : Nat) (t : T (d + 1)) (fp : List Nat) (e : Ending) (w' : World) : Prop :=
  e = .returned (.tuple #[]) ∧ ∃ (M' : Nodes) (O' : Own') (t' : T (d + 1)) (fp' : List Nat), St w O w' M' O' ∧ Rep M' (d + 1) a t' fp' ∧ Chg w.heap.size M M' fp fp' ∧ SpC o d i t t'

set_option maxRecDepth 100000 in
set_option maxHeartbeats 4000000 in
theorem splitChildW {m m' o o' d i a tb : Nat} {t : T (d + 1)} {fp : List Nat} (w : World) (M : Nodes) (O : Own') (hs : Store w M O) (ht : w.cell? ⟨tb, 0, none⟩ = some (.int .i64 o)) (hO : Order m o) (hr : Rep M (d + 1) a t fp) (hn : fp.Nodup)
    {c : T d} (hc : t.2[i]? = some c) (hok : Ok m' o' d c) (hf : fill d c ≤ 40) (h1 : d = 0 ∨ 1 ≤ fill d c) (hlen : t.1.length + 1 = t.2.length) (hl : t.2.length ≤ 40) :
    Calls Try.prog 46 #[ptr tb, ptr a, .int .i64 i] w (SpcPost w M O o d i a t fp) := by
  have hr0 := hr
  have hlt := hr.lt hs
  obtain ⟨cs, fps, hm, hz, hfp⟩ := hr
  have hzl := hz.len
  have hil := (List.getElem?_eq_some_iff.1 hc).1
  obtain ⟨b, hb⟩ : ∃ b, cs[i]? = some b := ⟨_, List.getElem?_eq_getElem (by omega)⟩
  obtain ⟨V, hV⟩ := hs.at_ a _ hm
  obtain ⟨g2, c2, e2, q2, qi, -, hcl2, hcm2⟩ := hV.child hb
  obtain ⟨c', f, hc', hf', hrb⟩ : ∃ c' f, t.2[i]? = some c' ∧ fps[i]? = some f ∧ Rep M d b c' f := by
    obtain ⟨a', c', q1, q2, q3⟩ := hz.at_ hc
    rw [hb] at q1
    injection q1 with q1
    subst q1
    exact ⟨_, _, hc, q2, q3⟩
  rw [hc] at hc'
  injection hc' with hc'
  subst hc'
  have hnf : f.Nodup := by
    rw [hfp] at hn
    exact (List.pairwise_flatten.1 (List.nodup_cons.1 hn).2).1 f (List.mem_of_getElem? hf')
  simp only at q2 hcl2
  have HFL := Lib.hid (fun k => fillT hs hrb h1 k)
  have HSP : Hid (o < fill d c → ∀ k, Calls Try.prog 32 #[ptr b] (w.drewN k) (SplitPost (w.drewN k) M O d b c f)) := Lib.hid fun h k => splitW (w.drewN k) M O (hs.below (below_drewN (Below.refl _ _) k)) hrb hnf hok (by have := hO.lo; omega) hf
  have hin : (i : Int) < (cs.length : Int) := by omega
  have hi0 : (0 : Int) ≤ (i : Int) := by omega
  have hi40 : i ≤ 40 := by omega
  have hw1 : IntKind.i64.wrap ((i : Int) + 1) = (i : Int) + 1 := by rw [IntKind.wrap_i64]; omega
  rcases Nat.lt_or_ge o (fill d c) with hgt | hle
  · have hcmp : decide (((fill d c : Nat) : Int) ≤ (o : Int)) = false := by rw [decide_eq_false_iff_not]; omega
    have hcmp2 : decide (fill d c ≤ o) = false := by rw [decide_eq_false_iff_not]; omega
    have hcmp3 : ¬ fill d c ≤ o := by omega
    have HSP2 := Lib.hid (HSP.out hgt)
    have HS := Lib.hid hs
    have HM := Lib.hid hm
    have HZ := Lib.hid hz
    have HZL := Lib.hid hzl
    have HB := Lib.hid hb
    have HC := Lib.hid hc
    have HF := Lib.hid hf'
    have HLT := Lib.hid hlt
    have HGT := Lib.hid hgt
    have HNN := Lib.hid hn
    have HFP := Lib.hid hfp
    have HLE := Lib.hid hlen
    have HLE1 : Hid (t.1.length + 1 = t.2.length ∧ t.2.length ≤ 40 ∧ i < t.2.length) := Lib.hid ⟨hlen, hl, hil⟩
    clear hV hm hz hr0 hrb hs hc hok HSP hcm2 hzl hb hf' hlt hgt hn hfp hlen
    go_enter Try.func46, Try.ntmps46
    go_wp2_with fail
    go_quiet (first | (go_at_call 31; exact quietSame (HFL.out _)))
    go_wp2_with fail
    refine (HSP2.out _).mono ?_
    rintro e w1 ⟨r, k, M1, O1, l', r', fl, fr, rfl, hsp, hS1, hrl, hrr, hch, hko⟩
    have hS1 : St w O w1 M1 O1 := ((St.refl HS.out).drewN _).trans hS1
    have hch : Chg w.heap.size M M1 f (fl ++ fr) := hch
    have haf : a ∉ f := fun h => by
      have := HNN.out
      rw [HFP.out] at this
      exact (List.nodup_cons.1 this).1 (List.mem_flatten.2 ⟨f, List.mem_of_getElem? HF.out, h⟩)
    have hal : a < w.heap.size := HLT.out a (by rw [HFP.out]; exact List.mem_cons_self)
    have hm1 : M1 a = some ⟨[], t.1, cs⟩ := (hch.out a haf hal).trans HM.out
    obtain ⟨V1, hV1⟩ := hS1.store.at_ a _ hm1
    obtain ⟨g3, c3, e3, q3, q3i, -, hcl3, hcm3⟩ := hV1.child HB.out
    simp only at q3 e3 hcl3
    obtain ⟨i1, hi1⟩ : ∃ i1, i1 = i + 1 := ⟨_, rfl⟩
    have hcast : (i : Int) + 1 = (i1 : Int) := by omega
    have o3 : Own 1 Nid.cs 60 0 w1 (.slice (some ⟨g3, 0, none⟩) cs.length c3) cs := by
      have := hV1.fld 2 (by omega)
      rw [e3] at this
      exact this
    have hA1 : Below w1.heap.size w1 (w1.alloc (.cells #[ptr r] 60)) := (Below.refl _ _).alloc (Nat.le_refl _) _
    have HI := Lib.hid (insNid (some ⟨g3, 0, none⟩) c3 cs i1 r (w1.alloc (.cells #[ptr r] 60)) (o3.alloc _) (by rw [HZL.out.1]; omega) (heap_alloc_new w1 _) rfl (fun e => by have := (Own.lt o3 _ e).2; omega) (by rw [HZL.out.1]; omega))
    have hS1a := hS1.alloc (.cells #[ptr r] 60)
    have hV1a : NodeAt (w1.alloc (.cells #[ptr r] 60)) O1 a ⟨[], t.1, cs⟩ V1 := hV1.below hS1.store.free hA1 fun _ _ => rfl
    have hal1 := hS1.store.lt hm1
    have c1a := hV1a.cells
    have HS1a := Lib.hid hS1a
    have HS1 := Lib.hid hS1
    have HV1a := Lib.hid hV1a
    have HE3 := Lib.hid e3
    have HM1 := Lib.hid hm1
    have HKO := Lib.hid hko
    have HCH := Lib.hid hch
    have HRL := Lib.hid hrl
    have HRR := Lib.hid hrr
    have HSPL := Lib.hid hsp
    have HAF := Lib.hid haf
    have HI1 := Lib.hid hi1
    clear hS1a hV1a e3 hm1 hko hch hrl hrr hsp haf hi1 hA1 o3 hS1 hV1 HSP2 HFL q2 qi e2 HLE hcl2 hcl3
    obtain ⟨A0, k0, A1, k1, A2, k2, e0, e1, e2, p0, p1, p2, pfr, u0, u1, u2⟩ := c1a
    have hg3 : g3 ≠ a := fun e => by
      have h1 := HV1a.out.whose 2 (by omega) g3 (by rw [HE3.out]; rfl)
      have h2 := HV1a.out.own
      rw [e, h2] at h1
      cases h1
    have E1 := Lib.hid e1
    clear u0 u1 u2 p0 p2 e0 e2 e1
    go_wp2_with fail
    refine HI.out.mono ?_
    rintro e w2 ⟨v2, rfl, ho2, hx2⟩
    obtain ⟨A4, k4, rfl, hk4, hk4m⟩ := ho2.form
    have hne2 : (Value.slice (some ⟨g3, 0, none⟩) cs.length c3).ownBlock ≠ some a := fun e => hg3 (by injection e)
    have q1 := hx2.old_cell p1 hne2
    have hb2 : w2.heap[a]? = some (.cells #[V1 0, V1 1, V1 2] 70 (0, 0)) := (hx2.grown.block a (by simp; omega) (fun e => hne2 e.symm)).trans HV1a.out.blk
    have fz2 := frozen_of_row w2 a 2 _ _ hb2
    have cz2 : w2.cell? ⟨a, 2, none⟩ = some (.slice (some ⟨g3, 0, none⟩) cs.length c3) := by rw [cell_of_row _ _ _ _ _ _ hb2, ← HE3.out]; rfl
    obtain ⟨hS2, hN2⟩ := HS1a.out.field_ext (n' := ⟨[], t.1, cs.take i1 ++ r :: cs.drop i1⟩) HM1.out HV1a.out (i := 2) (by omega) (by rw [HE3.out]; exact hx2) ho2 same2 (fun e he => by cases he) HV1a.out.rowk
    obtain ⟨W2, hW2⟩ : ∃ W2, W2 = w2.setCell ⟨a, 2, none⟩ (.slice A4 (cs.take i1 ++ r :: cs.drop i1).length k4) := ⟨_, rfl⟩
    have hS2b := (((St.refl HS1.out.store).alloc (.cells #[ptr r] 60)).field_ext (n' := ⟨[], t.1, cs.take i1 ++ r :: cs.drop i1⟩) HM1.out HV1a.out (i := 2) (by omega) (by rw [HE3.out]; exact hx2) ho2 same2 (fun e he => by cases he) HV1a.out.rowk).1
    rw [← hW2] at hS2 hN2 hS2b
    have HKK := Lib.hid ((hS2b.alloc (.cells #[.slice k.A k.row.length k.c] 30)).kok HS1.out.store HKO.out)
    clear hS2b
    have c2a := hN2.cells
    obtain ⟨B0, j0, B1, j1, B2, j2, d0, d1, d2, r0, r1, r2, rfr, x0, x1, x2⟩ := c2a
    have hlk : i ≤ t.1.length := by have := HLE1.out; omega
    have hsz : W2.heap.size = w2.heap.size := by rw [hW2]; exact setCell_size _ _
    have HI2 := Lib.hid (insKey (gv := w2.heap.size) B1 j1 t.1 i k (W2.alloc (.cells #[.slice k.A k.row.length k.c] 30)) (x1.alloc _) hlk (by rw [← hsz]; exact heap_alloc_new W2 _) rfl (fun e => by have := (Own.lt x1 _ e).2; omega) (by have := HLE1.out; omega))
    have HN2a : Hid (NodeAt (W2.alloc (.cells #[.slice k.A k.row.length k.c] 30)) _ a ⟨[], t.1, cs.take i1 ++ r :: cs.drop i1⟩ _) := Lib.hid (hN2.below hS2.store.free ((Below.refl _ _).alloc (Nat.le_refl _) _) fun _ _ => rfl)
    have HS2a := Lib.hid (hS2.alloc (.cells #[.slice k.A k.row.length k.c] 30))
    have HD1 := Lib.hid d1
    have HW2 := Lib.hid hW2
    have r1 : w2.cell? ⟨a, 1, none⟩ = some (.slice B1 t.1.length j1) := by
      rw [cell_of_row _ _ _ _ _ _ hb2, ← d1]; rfl
    have HO2 := Lib.hid ho2
    have HX2 := Lib.hid hx2
    have hx2s : w1.heap.size ≤ w2.heap.size := Nat.le_trans (le_size1 (Nat.le_refl _) _) hx2.size
    clear hS2 hN2 x0 x1 x2 d0 d1 d2 r0 r2 rfr hW2 ho2 hx2 hb2 q1 p1 hS1 HI hlk
    generalize (cs.take i1 ++ r :: cs.drop i1).length = nl at *
    go_wp2_with fail
    rw [← HW2.out]

    refine HI2.out.mono ?_
    rintro e w3 ⟨v3, rfl, ho3, hx3⟩
    obtain ⟨A5, k5, rfl, hk5, hk5m⟩ := ho3.form
    generalize (t.1.take i ++ k :: t.1.drop i).length = nk at *
    have hne3 : (Value.slice B1 t.1.length j1).ownBlock ≠ some a := fun e => by
      have h1 := HN2a.out.whose 1 (by omega) a (by rw [HD1.out]; exact e)
      rw [HN2a.out.own] at h1
      cases h1
    have hb3 := (hx3.grown.block a (by simp [hsz]; have := hx2s; omega) (fun e => hne3 e.symm)).trans HN2a.out.blk
    have fz3 := frozen_of_row w3 a 1 _ _ hb3
    have cz3 : w3.cell? ⟨a, 1, none⟩ = some (.slice B1 t.1.length j1) := by rw [cell_of_row _ _ _ _ _ _ hb3, ← HD1.out]; rfl
    go_wp2_with fail
    go_end0
    have hkrow : ∀ k' ∈ t.1.take i ++ k :: t.1.drop i, KOk (fun j => ownBy O1 (.slice A4 nl k4) (.fld 2 a) j = .row) (W2.alloc (.cells #[.slice k.A k.row.length k.c] 30)) k' := fun k' hk' => by
      rcases List.mem_append.1 hk' with h | h
      · exact HN2a.out.rowk k' (List.mem_of_mem_take h)
      · rcases List.mem_cons.1 h with rfl | h
        · exact HKK.out
        · exact HN2a.out.rowk k' (List.mem_of_mem_drop h)
    obtain ⟨hS3, hN3⟩ := HS2a.out.field_ext (n' := ⟨[], t.1.take i ++ k :: t.1.drop i, cs.take i1 ++ r :: cs.drop i1⟩) (upd_same _ _ _) HN2a.out (i := 1) (by omega) (by rw [HD1.out]; exact hx3) ho3 same1 (fun e he => by cases he) hkrow
    have hfp := HFP.out
    have hch := HCH.out
    have hmid : ((fps.drop i).take (i + 1 - i)).flatten = f := by rw [mid_one HF.out]; simp
    have hnafl : ∀ x ∈ fl ++ fr, x ≠ a := fun x hx e => by
      rcases hch.sub x hx with h | h
      · exact HAF.out (e ▸ h)
      · omega
    have hM3 : ∀ x, x ≠ a → upd (upd M1 a (some ⟨[], t.1, cs.take i1 ++ r :: cs.drop i1⟩)) a (some ⟨[], t.1.take i ++ k :: t.1.drop i, cs.take i1 ++ r :: cs.drop i1⟩) x = M1 x := fun x hx => (upd_ne hx).trans (upd_ne hx)
    obtain ⟨M3, hM3e⟩ : ∃ M3, M3 = upd (upd M1 a (some ⟨[], t.1, cs.take i1 ++ r :: cs.drop i1⟩)) a (some ⟨[], t.1.take i ++ k :: t.1.drop i, cs.take i1 ++ r :: cs.drop i1⟩) := ⟨_, rfl⟩
    have hM3a : M3 a = some ⟨[], t.1.take i ++ k :: t.1.drop i, cs.take i1 ++ r :: cs.drop i1⟩ := by rw [hM3e]; exact upd_same _ _ _
    rw [← hM3e] at hM3 hS3
    have hnn := HNN.out
    have hlt := HLT.out
    rw [hfp] at hnn hlt
    have hz3 := z3_mid (M := M) (M' := M3) (H := w.heap.size) (a := a) (i := i) (j := i + 1) HZ.out (Nat.le_succ _) hil hnn hlt (Z3.two (HRL.out.frame (M' := M3) fun x hx => hM3 x (hnafl x (List.mem_append_left _ hx))) (HRR.out.frame (M' := M3) fun x hx => hM3 x (hnafl x (List.mem_append_right _ hx))))
      (by simpa using hch.nd) (by rw [hmid]; simpa using hch.sub) (by rw [hmid]; exact fun x h1 h2 h3 => (hM3 x h2).trans (hch.out x h1 h3))
    have ecs : cs.take i ++ [b, r] ++ cs.drop (i + 1) = cs.take i1 ++ r :: cs.drop i1 := by
      rw [HI1.out, List.take_add_one, HB.out]
      simp
    rw [ecs] at hz3
    refine ⟨rfl, M3, _, (t.1.take i ++ k :: t.1.drop i, t.2.take i ++ l' :: r' :: t.2.drop (i + 1)), _, hS3, ⟨_, _, hM3a, ?_, rfl⟩, ⟨hz3.2.1, fun x hx hlx => ?_, fun x hx => ?_⟩, c, HC.out, .inr ⟨HGT.out, l', k, r', HSPL.out, rfl⟩⟩
    · have := hz3.1
      simpa using this
    · rw [hfp] at hx
      exact (hM3 x (fun e => hx (e ▸ List.mem_cons_self))).trans (hch.out x (fun h => hx (List.mem_cons_of_mem _ (List.mem_flatten.2 ⟨f, List.mem_of_getElem? HF.out, h⟩))) hlx)
    · rw [hfp]
      exact hz3.2.2 x hx
  · have HE : Hid (∀ k, SpcPost w M O o d i a t fp (.returned (.tuple #[])) (w.drewN k)) := Lib.hid fun k => ⟨rfl, M, O, t, fp, (St.refl hs).drewN k, hr0, Chg.refl hn, c, hc, .inl ⟨hle, rfl⟩⟩
    have hcmp : decide (((fill d c : Nat) : Int) ≤ (o : Int)) = true := by rw [decide_eq_true_iff]; omega
    have hcmp2 : decide (fill d c ≤ o) = true := by rw [decide_eq_true_iff]; omega
    have hcmp3 : fill d c ≤ o := hle
    clear hV hm hz hr0 hrb hs hc hok HSP hcm2
    generalize fill d c = fc at *
    go_enter Try.func46, Try.ntmps46
    go_wp2_with fail
    go_quiet (first | (go_at_call 31; exact quietSame (HFL.out _)))
    go_wp2_with fail
    go_end0
    exact HE.out _
end Go.Proofs.Ytlgjkhdpinnccaa
