/-
  The walk of Get.
-/
import Derived.Test.YtlgjkhdpinnccaaTp
import Derived.Deep.RegionHeld3
import Derived.Deep.RegionLaw
import Derived.Deep.LoopGhost
namespace Go.Proofs.Ytlgjkhdpinnccaa
open Go.RowKit Go.Sort

/-- A node of the tree on the way down to the key. -/
structure Way (M : Nodes) (m o : Nat) (key : Row) (top : List Ent) (d a : Nat) (t : T d) (fp : List Nat) : Prop where
  rep : Rep M d a t fp
  ok : Ok m o d t
  ne : d = 0 ∨ 1 ≤ fill d t
  full : fill d t ≤ o
  same : getF key (flat d t) = getF key top

/-- One step down. -/
theorem way_down {m o : Nat} (hO : Order m o) {w : World} {M : Nodes} {O : Own'} (hs : Store w M O) {key : Row} {top : List Ent} {d a : Nat} {t : T (d + 1)} {fp : List Nat} (h : Way M m o key top (d + 1) a t fp) (A : Option Addr) (c : Nat) (hk : Elems 3 Val.cs w (· < w.heap.size) A key) :
    ∃ g n c2, w.cell? ⟨a, 2, none⟩ = some (.slice (some ⟨g, 0, none⟩) n c2) ∧ ∀ k, Calls Try.prog 34 #[ptr a, .slice A key.length c] (w.drewN k) fun e w' => ∃ (j b : Nat) (t' : T d) (fp' : List Nat), e = .returned (.int .i64 j) ∧ (0 : Int) ≤ (j : Int) ∧ (j : Int) < (n : Int) ∧ w'.cell? ⟨a, 2, none⟩ = some (.slice (some ⟨g, 0, none⟩) n c2) ∧ w'.cell? ⟨g, j, none⟩ = some (ptr b) ∧ Way M m o key top d b t' fp' ∧ Below w.heap.size w w' := by
  have hm1 : 1 ≤ m := by have := hO.lo; have := hO.eq; omega
  obtain ⟨hr, hok, hne, hful, hsame⟩ := h
  have hd1 : 1 ≤ t.2.length := by
    rcases hne with h | h
    · cases h
    · exact h
  have hful : t.2.length ≤ o := hful
  obtain ⟨cs, fps, hm, hz, hfp⟩ := hr
  have hzl := hz.len
  obtain ⟨V, hV⟩ := hs.at_ a _ hm
  obtain ⟨b0, hb0⟩ : ∃ b, cs[0]? = some b := ⟨_, List.getElem?_eq_getElem (by omega)⟩
  obtain ⟨g, c2, e2, q2, -, -, -, -⟩ := hV.child hb0
  simp only at q2 e2
  refine ⟨g, cs.length, c2, q2, fun k => ?_⟩
  obtain ⟨A0, c0, A1, c1, A2, c2', e0, e1, e2', h0, h1, h2, hfr, o0, o1, o2⟩ := hV.cells
  simp only at h1 o1
  have hrl : ∀ k, O k = .row → k < w.heap.size := fun k hk => hs.lt' (by rw [hk]; simp)
  have hbk : Below w.heap.size w (w.drewN k) := below_drewN (Below.refl _ _) k
  refine (childIdxW a (w.drewN k) A1 c1 t.1 A c key _ _ h1 ((((o1.drewN k).elems keyLay.len rfl)).more fun i hi => (Own.lt o1 i hi).2) hrl (fun _ h => h) (fun x hx => (hV.rowk x hx).keep fun i _ => rfl) (keys_ord hok hm1) (hk.keep fun i _ => rfl) (by have := hok.1.1; have := hO.hi; omega)).mono ?_
  rintro e w' ⟨j, rfl, hcov, hb1⟩
  have hbw : Below w.heap.size w w' := hbk.trans hb1
  have hjl : j < t.2.length := by have := hcov.1; have := hok.1.1; omega
  obtain ⟨c', hc⟩ : ∃ c, t.2[j]? = some c := ⟨_, List.getElem?_eq_getElem hjl⟩
  obtain ⟨b, hb⟩ : ∃ b, cs[j]? = some b := ⟨_, List.getElem?_eq_getElem (by omega)⟩
  obtain ⟨f, hff, hrb⟩ : ∃ f, fps[j]? = some f ∧ Rep M d b c' f := by
    obtain ⟨a', c'', q1, q2, q3⟩ := hz.at_ hc
    rw [hb] at q1
    injection q1 with q1
    subst q1
    exact ⟨_, q2, q3⟩
  have hV' : NodeAt w' O a ⟨[], t.1, cs⟩ V := hV.below hs.free hbw fun _ _ => rfl
  obtain ⟨g', c2'', e2'', q2', qi, -, -, -⟩ := hV'.child hb
  rw [e2] at e2''
  injection e2'' with x1 x2 x3
  injection x1 with x1
  injection x1 with x1
  subst x1 x3
  have hcok := hok.2 c' (List.mem_of_getElem? hc)
  refine ⟨j, b, c', f, rfl, by omega, by omega, q2', qi, ⟨hrb, hcok.1, .inr (by omega), hcok.2.2, ?_⟩, hbw⟩
  rw [← hsame]
  have hsd := cov_sides hok.1 hcov
  rw [show flat (d + 1) t = flat (d + 1) (t.1, t.2) from rfl, flat_at hc, getF_mid hsd.1 hsd.2]

/-- What Get answers. -/
def getV (r : Option Int) : Value := match r with
  | some v => .tuple #[.int .i64 v, .int .i64 0]
  | none => .tuple #[.int .i64 0, .int .i64 4]

set_option maxRecDepth 100000 in
set_option maxHeartbeats 4000000 in
theorem getW {base m o tb : Nat} (hO : Order m o) {ps : List PE} (w : World) (hT : TreeAt base m o w tb ps) (A : Option Addr) (c : Nat) (key : Row) (hk : Elems 3 Val.cs w (· < w.heap.size) A key) (he : rErr key = 0) (hkl : key.length ≤ 12) :
    Calls Try.prog 12 #[ptr tb, .slice A key.length c] w fun e w' => e = .returned (getV (getP key ps)) ∧ Below w.heap.size w w' := by
  obtain ⟨M, O, d, a, t, fp, hT, hps⟩ := hT
  have HCR := Lib.hid (checkRow A c key w hk (by unfold maxLen; omega))
  rw [he] at HCR
  have HT := Lib.hid hT
  have HPS := Lib.hid hps
  have HK := Lib.hid hk
  clear hT hps hk
  go_enter Try.func12, Try.ntmps12
  go_wp2_with fail
  refine HCR.out.mono ?_
  rintro e w1 ⟨rfl, hb1⟩
  have hT1 := HT.out.below hb1
  have ca : w1.cell? ⟨tb, 1, none⟩ = some (ptr a) := by rw [cell_of_row _ _ _ _ _ _ hT1.blk]; rfl
  have HT1 := Lib.hid hT1
  have HB1 := Lib.hid hb1
  clear hT1 hb1
  go_wp2_with fail
  go_loopg [7] d (fun k v wr => ∃ (b : Nat) (t' : T k) (fp' : List Nat), v = ptr b ∧ Way M m o key (flat d t) k b t' fp' ∧ Below w1.heap.size w1 wr)
  case atStart => exact ⟨a, t, fp, rfl, ⟨HT1.out.rep, HT1.out.ok, HT1.out.root.imp id fun h => by omega, HT1.out.full, rfl⟩, Below.refl _ _⟩
  case round =>
    obtain ⟨b, t', fp', rfl, hW, hb⟩ := hrel
    have hst : Store wr M O := HT1.out.store.below hb
    have hkw : Elems 3 Val.cs wr (· < wr.heap.size) A key := (HK.out.keep (Keeps.of_below (HB1.out.trans (hb.mono HB1.out.size)) fun _ h => h)).more fun i hi => Nat.lt_of_lt_of_le hi (HB1.out.trans (hb.mono HB1.out.size)).size
    have HLF : Hid (Calls Try.prog 33 #[ptr b] wr fun e w' => e = .returned (.bool (gk == 0)) ∧ wr = w') := Lib.hid (leafT hst hW.rep hW.ne 0)
    have HB := Lib.hid hb
    have HST := Lib.hid hst
    have HKW := Lib.hid hkw
    cases gk with
    | zero =>
      obtain ⟨hrep, hok, -, hful, hsame⟩ := hW
      obtain ⟨es, hes, hm, -⟩ := hrep
      have hsame : getF key es = getF key (flat d t) := by rw [hes]; exact hsame
      have hful : es.length ≤ o := by rw [hes]; exact hful
      have hok : Ord es := by rw [hes]; exact hok
      obtain ⟨V, hV⟩ := hst.at_ b _ hm
      obtain ⟨A0, c0, A1, c1, A2, c2, e0, e1, e2, h0, h1, h2, hfr, o0, o1, o2⟩ := hV.cells
      simp only at h0 o0
      have hrl : ∀ k, O k = .row → k < wr.heap.size := fun k hk => hst.lt' (by rw [hk]; simp)
      have HSE := Lib.hid (searchW b wr A0 c0 es A c key _ _ h0 ((o0.elems entLay.len rfl).more fun k hk => (Own.lt o0 k hk).2) hrl (fun _ h => h) hV.rowe hok hkw (by have := hO.hi; omega))
      have hbl := hst.lt hm
      have HO0 := Lib.hid o0
      have HSM := Lib.hid hsame
      have H0 := Lib.hid h0
      have hz0 : (0 == 0) = true := rfl
      rw [hz0] at HLF
      clear hst hkw hb hm hV e0 e1 e2 h0 h1 h2 hfr o0 o1 o2 hrl hsame hok hful hes ca
      go_wp2_with fail
      refine HLF.out.mono ?_
      rintro e w' ⟨rfl, rfl⟩
      clear HLF
      go_wp2_with fail
      refine HSE.out.mono ?_
      rintro e w2 ⟨i, fnd, rfl, hA, hb2⟩
      have HA := Lib.hid hA
      have hil := hA.le
      clear hA
      cases fnd with
      | true =>
        have hlt : i < es.length := by
          obtain ⟨z, r, hd, -⟩ := HA.out.eq.1 rfl
          have := congrArg List.length hd
          simp at this
          omega
        obtain ⟨y, hy, -, -, -, hget⟩ := at_upd (e := ⟨⟨none, 0, key⟩, 0⟩) HA.out
        have hget : getF key es = some y.val := hget
        have ho2 := HO0.out.below hb2
        obtain ⟨g, off, rfl, -, -, hc1⟩ := (ho2.elems entLay.len rfl).ent hlt
        have hey : es[i] = y := by
          have := List.getElem?_eq_getElem hlt
          rw [hy] at this
          exact (Option.some.inj this).symm
        rw [hey] at hc1
        have q0 := (hb2.cell (p := ⟨b, 0, none⟩) hbl).trans H0.out
        have HE : Hid (getV (getP key ps) = .tuple #[.int .i64 y.val, .int .i64 0]) := Lib.hid (by
          rw [← HPS.out, ← get_map, ← HSM.out, hget]; rfl)
        have HBF := Lib.hid (HB1.out.trans ((HB.out.trans (hb2.mono HB.out.size)).mono HB1.out.size))
        have hi0 : (0 : Int) ≤ (i : Int) := by omega
        have hi1 : (i : Int) < (es.length : Int) := by omega
        clear hy hget ho2 hey hb2
        go_wp2_with fail
        go_ret2
        exact ⟨congrArg Ending.returned HE.out.symm, HBF.out⟩
      | false =>
        have hget : getF key es = none := (at_none HA.out).2
        have HE : Hid (getV (getP key ps) = .tuple #[.int .i64 0, .int .i64 4]) := Lib.hid (by
          rw [← HPS.out, ← get_map, ← HSM.out, hget]; rfl)
        have HBF := Lib.hid (HB1.out.trans ((HB.out.trans (hb2.mono HB.out.size)).mono HB1.out.size))
        clear hget hb2
        go_wp2_with fail
        go_ret2
        exact ⟨congrArg Ending.returned HE.out.symm, HBF.out⟩
    | succ k =>
      obtain ⟨g, n, c2, q2, hci⟩ := way_down hO hst hW A c hkw
      have HCI := Lib.hid hci
      have q2d : wr.drew.cell? ⟨b, 2, none⟩ = some (.slice (some ⟨g, 0, none⟩) n c2) := q2
      have HQ := Lib.hid q2d
      clear hci hst hkw hW hb q2d ca
      have hz0 : (k + 1 == 0) = false := rfl
      rw [hz0] at HLF
      go_wp2_with fail
      refine HLF.out.mono ?_
      rintro e w' ⟨rfl, rfl⟩
      clear HLF
      go_upto_region 6 with fail
      go_region_law (first
          | (go_simp; go_at_call 34; refine (HCI.out 1).mono ?_; rintro e w2 ⟨j, b', t'', fp'', rfl, p0, p1, p2, p3, hW2, hb2⟩))
      all_goals
        go_wp2_with fail
        go_roundg k
        case measure => omega
        case rel => exact ⟨b', t'', fp'', rfl, hW2, HB.out.trans (hb2.mono HB.out.size)⟩
end Go.Proofs.Ytlgjkhdpinnccaa
