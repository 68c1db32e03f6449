/-
  The walk of insert.
-/
import Derived.Test.YtlgjkhdpinnccaaTw6
namespace Go.Proofs.Ytlgjkhdpinnccaa
open Go.RowKit Go.Sort

theorem cell_of_heap {w w' : World} {g i : Nat} (h : w'.heap[g]? = w.heap[g]?) : w'.cell? ⟨g, i, none⟩ = w.cell? ⟨g, i, none⟩ := by
  unfold World.cell?
  simp only [h]
theorem St.cell {w0 w : World} {O0 O : Own'} {M0 M : Nodes} (h : St w0 O0 w M O) (hs : Store w0 M0 O0) {g i : Nat} (hg : O0 g = .top ∨ O0 g = .old ∨ O0 g = .row) : w.cell? ⟨g, i, none⟩ = w0.cell? ⟨g, i, none⟩ :=
  cell_of_heap (h.keep g (hs.lt' (by rcases hg with h | h | h <;> rw [h] <;> simp)) (by rcases hg with h | h | h <;> rw [h] <;> exact fun h => h))
theorem St.ownTop {w0 w : World} {O0 O : Own'} {M0 M : Nodes} (h : St w0 O0 w M O) (hs : Store w0 M0 O0) {g : Nat} (hg : O0 g = .top) : O g = .top :=
  (h.own g (hs.lt' (by rw [hg]; simp))).trans hg
theorem getF_mid {k : Row} {A B C : List Ent} (hA : ∀ x ∈ A, rl x.key.row k) (hB : ∀ x ∈ B, rl k x.key.row) : getF k (A ++ (C ++ B)) = getF k C := by
  rw [getF_left hA, getF_right hB]

theorem Chg.mono {H H1 : Nat} {M M' : Nodes} {fp fp' : List Nat} (h : Chg H1 M M' fp fp') (hH : H ≤ H1) : Chg H M M' fp fp' :=
  ⟨h.nd, fun x hx hl => h.out x hx (Nat.lt_of_lt_of_le hl hH), fun x hx => (h.sub x hx).imp id fun h => Nat.le_trans hH h⟩

set_option maxRecDepth 100000 in
set_option maxHeartbeats 4000000 in
theorem insertW {m o tb : Nat} (hO : Order m o) (x : Ent) : ∀ {d a : Nat} {t : T d} {fp : List Nat} (w : World) (M : Nodes) (O : Own') (_ : Store w M O) (_ : O tb = .top) (_ : w.cell? ⟨tb, 0, none⟩ = some (.int .i64 o)) (_ : Rep M d a t fp) (_ : fp.Nodup)
    (_ : KOk (fun k => O k = .row) w x.key) (_ : Ok m o d t) (_ : d = 0 ∨ 1 ≤ fill d t) (_ : fill d t ≤ o),
    Calls Try.prog 29 #[ptr tb, ptr a, entV x] w (InsPost w M O m o d a t fp x)
  | 0, a, t, fp, w, M, O, hs, htb, ht, hr, hn, hx, hok, hd, hf => insLeafW w M O hs hr hn x hx hok (by have := hO.hi; have : List.length (α := Ent) t ≤ o := hf; omega)
  | d + 1, a, t, fp, w, M, O, hs, htb, ht, hr, hn, hx, hok, hd, hf => by
    have hm1 : 1 ≤ m := by have := hO.lo; have := hO.eq; omega
    have hd1 : 1 ≤ t.2.length := by
      rcases hd with h | h
      · cases h
      · exact h
    have hf' : t.2.length ≤ o := hf
    have hlen := hok.1.1
    have hlt := hr.lt hs
    have hLF := fun (W : World) (hW : St w O W M O) => leafT hW.store hr (.inr hd1) 0
    obtain ⟨cs, fps, hm, hz, hfp⟩ := hr
    have hzl := hz.len
    have hal := hs.lt hm
    obtain ⟨V, hV⟩ := hs.at_ a _ hm
    obtain ⟨w0, hw0⟩ : ∃ w0, w0 = w.alloc (.cells #[.slice x.key.A x.key.row.length x.key.c, .int .i64 x.val] 45) := ⟨_, rfl⟩
    have hb0 : Below w.heap.size w w0 := by rw [hw0]; exact (Below.refl _ _).alloc (Nat.le_refl _) _
    have hS0 : St w O w0 M O := by rw [hw0]; exact (St.refl hs).alloc _
    have hbox : w0.heap[w.heap.size]? = some (.cells #[.slice x.key.A x.key.row.length x.key.c, .int .i64 x.val] 45 (0, 0)) := by rw [hw0]; exact heap_alloc_new w _
    have hV0 : NodeAt w0 O a ⟨[], t.1, cs⟩ V := hV.below hs.free hb0 fun _ _ => rfl
    have hx0 : KOk (fun k => O k = .row) w0 x.key := hS0.kok hs hx
    obtain ⟨A0, c0, A1, c1, A2, c2, e0, e1, e2, h0, h1, h2, hfr, o0, o1, o2⟩ := hV0.cells
    simp only at h1 h2 o1 e1
    have hrl : ∀ k, O k = .row → k < w0.heap.size := fun k hk => hS0.store.lt' (by rw [hk]; simp)
    have HLF : Hid (Calls Try.prog 33 #[ptr a] w0 fun e w' => e = .returned (.bool false) ∧ w0 = w') := Lib.hid (hLF w0 hS0)
    have HCI := Lib.hid (childIdxW a w0 A1 c1 t.1 x.key.A x.key.c x.key.row _ _ h1 ((o1.elems keyLay.len rfl).more fun k hk => (Own.lt o1 k hk).2) hrl hrl hV0.rowk (keys_ord hok hm1) hx0.el (by have := hO.hi; omega))
    have hk0 : w0.cell? ⟨w.heap.size, 0, none⟩ = some (.slice x.key.A x.key.row.length x.key.c) := by rw [cell_of_row _ _ _ _ _ _ hbox]; rfl
    have hk1 : w0.cell? ⟨w.heap.size, 1, none⟩ = some (.int .i64 x.val) := by rw [cell_of_row _ _ _ _ _ _ hbox]; rfl
    have hbl : w.heap.size < w0.heap.size := by rw [hw0]; simp
    have HW0 := Lib.hid hw0
    have HS := Lib.hid hs
    have HM := Lib.hid hm
    have HZ := Lib.hid hz
    have HZL := Lib.hid hzl
    have HFP := Lib.hid hfp
    have HNN := Lib.hid hn
    have HLT := Lib.hid hlt
    have HOK := Lib.hid hok
    have HS0 := Lib.hid hS0
    have HV0 := Lib.hid hV0
    have HX0 := Lib.hid hx0
    have HX := Lib.hid hx
    have HTB := Lib.hid htb
    have HT := Lib.hid ht
    have HLE : Hid (t.1.length + 1 = t.2.length ∧ 1 ≤ t.2.length ∧ t.2.length ≤ o ∧ o ≤ 16) := Lib.hid ⟨hlen, hd1, hf', hO.hi⟩
    clear hLF hw0 hs hm hz hzl hfp hn hlt hok hS0 hV hV0 hx hx0 htb ht hlen hd1 hf' hf hd h0 h1 h2 hfr o0 o1 o2 e0 e1 e2 hb0 hrl
    go_enter Try.func29, Try.ntmps29
    go_wp2_with fail
    rw [← HW0.out]
    refine HLF.out.mono ?_
    rintro e w' ⟨rfl, rfl⟩
    go_wp2_with fail
    refine HCI.out.mono ?_
    rintro e w1 ⟨j, rfl, hcov, hb1⟩
    have HCOV := Lib.hid hcov
    have hjl : j < t.2.length := by have := hcov.1; have := HLE.out; omega
    obtain ⟨c, hc⟩ : ∃ c, t.2[j]? = some c := ⟨_, List.getElem?_eq_getElem hjl⟩
    obtain ⟨b, hb⟩ : ∃ b, cs[j]? = some b := ⟨_, List.getElem?_eq_getElem (by have := HZL.out; omega)⟩
    obtain ⟨f, hff, hrb⟩ : ∃ f, fps[j]? = some f ∧ Rep M d b c f := by
      obtain ⟨a', c', q1, q2, q3⟩ := HZ.out.at_ hc
      rw [hb] at q1
      injection q1 with q1
      subst q1
      exact ⟨_, q2, q3⟩
    have HS1 := Lib.hid (HS0.out.below hb1)
    have HV1 : Hid (NodeAt w1 O a ⟨[], t.1, cs⟩ V) := Lib.hid (HV0.out.below HS0.out.store.free hb1 fun _ _ => rfl)
    obtain ⟨g2, c2', e2, q2, qi, -, hcl2, hcm2⟩ := HV1.out.child hb
    simp only at q2
    have k0a := (hb1.cell (p := ⟨w.heap.size, 0, none⟩) hbl).trans hk0
    have k1a := (hb1.cell (p := ⟨w.heap.size, 1, none⟩) hbl).trans hk1
    have hcok := HOK.out.2 c (List.mem_of_getElem? hc)
    have hm2 : 2 ≤ m := by have := hO.lo; have := hO.eq; omega
    have hnf : f.Nodup := by
      have := HNN.out
      rw [HFP.out] at this
      exact (List.pairwise_flatten.1 (List.nodup_cons.1 this).2).1 f (List.mem_of_getElem? hff)
    have hS1d : St w O w1.drew M O := HS1.out.below (Below.refl _ _).drew
    have HIH : Hid (Calls Try.prog 29 #[ptr tb, ptr b, entV x] w1.drew (InsPost w1.drew M O m o d b c f x)) := Lib.hid (insertW hO x w1.drew M O hS1d.store HTB.out ((hS1d.cell HS.out (.inl HTB.out)).trans HT.out) hrb hnf (hS1d.kok HS.out (by
      have := HX0.out
      exact HX.out)) hcok.1 (.inr (by omega)) hcok.2.2)
    have hin : (j : Int) < (cs.length : Int) := by have := HZL.out; omega
    have hj0 : (0 : Int) ≤ (j : Int) := by omega
    have HC := Lib.hid hc
    have HB := Lib.hid hb
    have HF := Lib.hid hff
    have HCK := Lib.hid hcok
    have HSD := Lib.hid hS1d
    clear hcov hc hb hff hrb hb1 hk0 hk1 hcok hnf hS1d e2 hcl2 hcm2 HLF HCI
    go_wp2_with fail
    go_still_tail 9, (by kernel_rfl)
    change wpList _ _ _ _ _ w1.drew
    go_wp2_with fail
    refine HIH.out.mono ?_
    rintro e w2 ⟨M2, O2, c', f', rfl, hS2, hr2, hch2, hok2, hfl2, hf1, hf2⟩
    have hsz : w.heap.size ≤ w1.heap.size := HS1.out.size
    have hm2' := HM.out
    obtain ⟨fps', u1, u2, u3, u4⟩ := Rep.set_child (t := t) (i := j) HM.out HZ.out HFP.out HNN.out (fun x hx => Nat.lt_of_lt_of_le (HLT.out x hx) hsz) HB.out HF.out hr2 (hch2 : Chg w1.heap.size M M2 f f')
    have HR2 : Rep M2 (d + 1) a (t.1, t.2.set j c') (a :: fps'.flatten) := ⟨cs, fps', u1, u2, rfl⟩
    have hcj : (t.1, t.2.set j c').2[j]? = some c' := by
      show (t.2.set j c')[j]? = _
      rw [List.getElem?_set]
      simp [hjl]
    have hSx : St w O w2 M2 O2 := HSD.out.trans hS2
    have HSC := Lib.hid (splitChildW (tb := tb) (o := o) w2 M2 O2 hS2.store ((hSx.cell HS.out (.inl HTB.out)).trans HT.out) hO HR2 u3.nd hcj hok2 (by have := HCK.out; have := HLE.out; omega) (.inr (by have := HCK.out; omega)) (by show t.1.length + 1 = (t.2.set j c').length; rw [List.length_set]; exact HLE.out.1) (by show (t.2.set j c').length ≤ 40; rw [List.length_set]; have := HLE.out; omega))
    have HG : Hid (getF x.key.row (flat d c) = getF x.key.row (flat (d + 1) t)) := Lib.hid (by
      have hs := cov_sides HOK.out.1 HCOV.out
      rw [show flat (d + 1) t = flat (d + 1) (t.1, t.2) from rfl, flat_at HC.out, getF_mid hs.1 hs.2])
    have HSX := Lib.hid hSx
    have HU3 := Lib.hid u3
    have HOK2 := Lib.hid hok2
    have HFL2 := Lib.hid hfl2
    have HF12 : Hid (fill d c ≤ fill d c' ∧ fill d c' ≤ fill d c + 1) := Lib.hid ⟨hf1, hf2⟩
    clear hSx u3 hok2 hfl2 hf1 hf2 hS2 hr2 hch2 u1 u2 u4 HR2 hcj hm2'
    rw [HG.out]
    obtain ⟨gf, hgf⟩ : ∃ gf, gf = getF x.key.row (flat (d + 1) t) := ⟨_, rfl⟩
    rw [← hgf]
    have HGF := Lib.hid hgf
    clear hgf
    go_wp2_with fail
    refine HSC.out.mono ?_
    rintro e w3 ⟨rfl, M3, O3, t', fp', hS3, hr3, hch3, hsp⟩
    have HE : Hid (InsPost w M O m o (d + 1) a t fp x (.returned (.bool gf.isNone)) w3) := Lib.hid (by
      obtain ⟨v1, v2, v3, v4⟩ := ins_ok hO HOK.out HCOV.out HC.out HOK2.out HFL2.out HF12.out.1 HF12.out.2 hsp
      refine ⟨M3, O3, t', fp', ?_, HSX.out.trans hS3, hr3, ?_, v1, v2, v3, v4⟩
      · rw [HGF.out]
      · exact (HU3.out.mono hsz).trans hch3 HSX.out.size)
    clear hS3 hr3 hch3 hsp
    go_wp2_with fail
    go_ret
    exact HE.out
end Go.Proofs.Ytlgjkhdpinnccaa
