/-
  The walk of ascend.
-/
import Derived.Test.YtjdcnkbkbcfhfaaHm19
namespace Go.Proofs.Ytjdcnkbkbcfhfaa
open Go.RowKit Go.Sort

set_option maxRecDepth 100000 in
set_option maxHeartbeats 4000000 in
theorem ascW {σ : Type} {w0 : World} {M : Nodes} {O : Own'} (hs : Store w0 M O) {fid : FuncId} {caps : Array Value} {R : σ → World → Prop} {f : σ → Ent → σ × Bool} {sz : σ → Nat} {N : Nat} (hV : Vis w0 (fun k => O k = .row) fid caps R f sz N) (A : Option Addr) (c : Nat) (low : Row) (hlow : Elems 3 Val.cs w0 (· < w0.heap.size) A low)
    {m o : Nat} (hO : Order m o) : ∀ {d a : Nat} {t : T d} {fp : List Nat} (_ : Rep M d a t fp) (_ : Ok m o d t) (_ : d = 0 ∨ 1 ≤ fill d t) (_ : fill d t ≤ 40) (s : σ) (_ : sz s + (geF low (flat d t)).length ≤ N) (W : World) (_ : Below w0.heap.size w0 W) (_ : R s W),
    Calls Try.prog 55 #[ptr a, .slice A low.length c, .func (.func fid) #[] caps] W (AscPost w0 R (runV f s (geF low (flat d t))))
  | 0, a, t, fp, hr, hok, hne, hf, s, hN, W, hb, hR => by
    obtain ⟨es, he, hm, -⟩ := hr
    have hl : es.length ≤ 40 := by rw [he]; exact hf
    have ho : Ord es := by rw [he]; exact hok
    subst he
    exact ascLeaf hs hV A c low hlow hm ho hl s hN W hb hR
  | d + 1, a, t, fp, hr, hok, hne, hf, s, hN, W, hb, hR => by
    have HIHS : Hid (∀ (b : Nat) (c' : T d) (fc : List Nat) (s : σ) (W : World), Rep M d b c' fc → Ok m o d c' → (d = 0 ∨ 1 ≤ fill d c') → fill d c' ≤ 40 → sz s + (geF low (flat d c')).length ≤ N → Below w0.heap.size w0 W → R s W → Calls Try.prog 55 #[ptr b, .slice A low.length c, .func (.func fid) #[] caps] W (AscPost w0 R (runV f s (geF low (flat d c'))))) :=
      Lib.hid fun b c' fc s W h1 h2 h3 h4 hn h5 h6 => ascW hs hV A c low hlow hO h1 h2 h3 h4 s hn W h5 h6
    have hm2 : 2 ≤ m := by have := hO.lo; have := hO.eq; omega
    have hoh := hO.hi
    have hsW := hs.below hb
    have HLF : Hid (Calls Try.prog 37 #[ptr a] W fun e w' => e = .returned (.bool false) ∧ W = w') := Lib.hid (leafT hsW hr hne 0)
    obtain ⟨cs, fps, hm, hz, hfp⟩ := hr
    have hzl := hz.len
    have hd1 : 1 ≤ t.2.length := by
      rcases hne with h | h
      · cases h
      · exact h
    have hf' : t.2.length ≤ 40 := hf
    obtain ⟨V, hV0⟩ := hs.at_ a _ hm
    obtain ⟨b0, hb0⟩ : ∃ b, cs[0]? = some b := ⟨_, List.getElem?_eq_getElem (by omega)⟩
    have hVW : NodeAt W O a ⟨[], t.1, cs⟩ V := hV0.below hs.free hb fun _ _ => rfl
    obtain ⟨g, c2, e2, q2, -, -, hcl, hcm⟩ := hVW.child hb0
    simp only at q2 e2 hcl
    have hal := hsW.lt hm
    have HCH : Hid (∀ i, i < cs.length → ∃ (b : Nat) (c : T d) (f : List Nat), t.2[i]? = some c ∧ (∀ W, Below w0.heap.size w0 W → W.cell? ⟨g, i, none⟩ = some (ptr b)) ∧ Rep M d b c f ∧ Ok m o d c ∧ (d = 0 ∨ 1 ≤ fill d c) ∧ fill d c ≤ 40) := Lib.hid fun i hi => by
      obtain ⟨c, hc⟩ : ∃ c, t.2[i]? = some c := ⟨_, List.getElem?_eq_getElem (by omega)⟩
      obtain ⟨b, hb⟩ : ∃ b, cs[i]? = some b := ⟨_, List.getElem?_eq_getElem hi⟩
      obtain ⟨a', f, q1, q2', q3⟩ := hz.at_ hc
      rw [hb] at q1
      injection q1 with q1
      subst q1
      have hcok := hok.2 c (List.mem_of_getElem? hc)
      refine ⟨b, c, f, hc, fun W hW => ?_, q3, hcok.1, .inr (by omega), by omega⟩
      have hV' : NodeAt W O a ⟨[], t.1, cs⟩ V := hV0.below hs.free hW fun _ _ => rfl
      obtain ⟨g', c2', e2', -, qi, -, -, -⟩ := hV'.child hb
      rw [e2] at e2'
      injection e2' with x1
      injection x1 with x1
      injection x1 with x1
      rw [x1]
      exact qi
    obtain ⟨A0, c0, A1, c1, A2, c2', e0, e1, e2', h0, h1, h2, hfr, o0, o1, o2⟩ := hVW.cells
    simp only at h1 o1
    have hrl : ∀ k, O k = .row → k < W.heap.size := fun k hk => hsW.lt' (by rw [hk]; simp)
    have hlW := (hlow.keep (Keeps.of_below hb fun _ h => h)).more (S' := (· < W.heap.size)) fun i hi => Nat.lt_of_lt_of_le hi hb.size
    have HCI : Hid (Calls Try.prog 38 #[ptr a, .slice A low.length c] W.drew fun e w' => ∃ j : Nat, e = .returned (.int .i64 j) ∧ (0 : Int) ≤ (j : Int) ∧ (j : Int) ≤ (cs.length : Int) ∧ ¬ c2 = j ∧ j < cs.length ∧ w'.cell? ⟨a, 2, none⟩ = some (.slice (some ⟨g, 0, none⟩) cs.length c2) ∧ Cov t.1 low j ∧ Below W.heap.size W w') := Lib.hid (by
      refine (childIdxW a W.drew A1 c1 t.1 A c low _ _ h1 ((((o1.drew).elems keyLay.len rfl)).more fun i hi => (Own.lt o1 i hi).2) hrl (fun _ h => h) (fun x hx => (hVW.rowk x hx).keep fun i _ => rfl) (keys_ord hok (by omega)) (hlW.keep fun i _ => rfl) (by have := hok.1.1; omega)).mono ?_
      rintro e w' ⟨j, rfl, hcov, hb1⟩
      have hb1' : Below W.heap.size W w' := ((Below.refl _ _).drew).trans hb1
      have hjl : j < cs.length := by have := hcov.1; have := hok.1.1; omega
      exact ⟨j, rfl, by omega, by omega, by omega, hjl, (hb1'.cell hal).trans q2, hcov, hb1'⟩)
    have HGE : Hid (∀ j, Cov t.1 low j → geF low (flat (d + 1) t) = (t.2.drop j).flatMap fun c => geF low (flat d c)) := Lib.hid fun j hj => geF_cov hok hj
    have HVI := Lib.hid hV
    have HNN := Lib.hid hN
    clear hN
    have HB := Lib.hid hb
    have HR := Lib.hid hR
    have hnl : cs.length ≤ 40 := by omega
    have HZL := Lib.hid hzl
    have q2d : W.drew.cell? ⟨a, 2, none⟩ = some (.slice (some ⟨g, 0, none⟩) cs.length c2) := q2
    unfold maxLen at hcm
    clear hs hz hV hV0 hVW hok hne hf hm hzl hd1 hf' hb0 e2 e2' hfp hsW o0 o1 o2 h0 h1 h2 hfr e0 e1 hrl hlW hb hR hlow
    generalize hn : cs.length = n at *
    have HNC := Lib.hid hn
    clear hn
    go_enter Try.func55, Try.ntmps55
    go_wp2_with fail
    refine HLF.out.mono ?_
    rintro e w' ⟨rfl, rfl⟩
    go_upto_region 10 with fail
    go_cut [44, 45, 46] from 37 to 46 (fun v44 v45 v46 wx => ∃ j : Nat, v44 = .slice (some ⟨g, j, none⟩) (n - j) (c2 - j) ∧ v45 = .int .i64 ((n - j : Nat) : Int) ∧ v46 = .int .i64 (0 : Int) ∧ j < n ∧ Cov t.1 low j ∧ Below W.heap.size W wx)
    case first =>
      go_region_law (first
          | (go_simp; go_at_call 38; refine HCI.out.mono ?_; rintro e w2 ⟨j, rfl, p0, p1, p2, p3, p4, hcov, hb2⟩))
      all_goals
        go_wp2_with fail
        go_meet
        exact ⟨j, rfl, rfl, rfl, p3, hcov, hb2⟩
    case rest =>
      obtain ⟨j, rfl, rfl, rfl, hjn, hcov, hb1⟩ := hcut
      obtain ⟨D, hD⟩ : ∃ D, D = t.2.drop j := ⟨_, rfl⟩
      obtain ⟨p, hp⟩ : ∃ p, p = n - j := ⟨_, rfl⟩
      have HG2 : Hid (geF low (flat (d + 1) t) = D.flatMap fun c => geF low (flat d c)) := Lib.hid (by rw [hD]; exact HGE.out j hcov)
      have HDL : Hid (D.length = p) := Lib.hid (by rw [hD, List.length_drop, hp, ← HZL.out.1])
      have HCD : Hid (∀ k, k < p → ∃ (b : Nat) (c : T d) (f : List Nat), D[k]? = some c ∧ (∀ W, Below w0.heap.size w0 W → W.cell? ⟨g, j + k, none⟩ = some (ptr b)) ∧ Rep M d b c f ∧ Ok m o d c ∧ (d = 0 ∨ 1 ≤ fill d c) ∧ fill d c ≤ 40) := Lib.hid fun k hk => by
        obtain ⟨b, c, f, h1, h2⟩ := HCH.out (j + k) (by omega)
        exact ⟨b, c, f, by rw [hD, List.getElem?_drop]; exact h1, h2⟩
      have hpb : p ≤ 40 := by omega
      have HBW := Lib.hid (HB.out.trans (hb1.mono HB.out.size))
      have HRW := Lib.hid (HVI.out.quiet _ _ _ HR.out hb1)
      rw [← hp]
      clear hD hp hcov hb1 HCH HGE HCI HLF
      go_wp2_with fail
      go_loopw [46] (fun vi wr => ∃ k : Nat, vi = .int .i64 k ∧ k ≤ p ∧ (runV f s ((D.take k).flatMap fun c => geF low (flat d c))).2 = true ∧ R (runV f s ((D.take k).flatMap fun c => geF low (flat d c))).1 wr ∧ Below w0.heap.size w0 wr) (fun vi _ => p - (intOf vi).toNat)
      case atStart => exact ⟨0, rfl, by omega, rfl, HRW.out, HBW.out⟩
      case round =>
        obtain ⟨k, rfl, hk, ht, hr, hb⟩ := hrel
        by_cases hkp : k < p
        · obtain ⟨b, c', fc, hx, hcell, hrb, hokb, hneb, hfb⟩ := HCD.out k hkp
          have ck := hcell wr hb
          have hkp2 : (k : Int) < (p : Int) := by omega
          have hszk : sz (runV f s ((D.take k).flatMap fun c => geF low (flat d c))).1 + (geF low (flat d c')).length ≤ N := by
            have h1 := runV_sz HVI.out.bud s ((D.take k).flatMap fun c => geF low (flat d c))
            have h2 := HNN.out
            have h3 : D.flatMap (fun c => geF low (flat d c)) = (D.take k).flatMap (fun c => geF low (flat d c)) ++ (geF low (flat d c') ++ (D.drop (k + 1)).flatMap (fun c => geF low (flat d c))) := by
              obtain ⟨q1, q2⟩ := List.getElem?_eq_some_iff.1 hx
              conv => lhs; rw [← List.take_append_drop k D, List.drop_eq_getElem_cons q1, q2]
              rw [List.flatMap_append, List.flatMap_cons]
            rw [HG2.out, h3, List.length_append, List.length_append] at h2
            omega
          have HIH := Lib.hid (HIHS.out b c' fc _ wr hrb hokb hneb hfb hszk hb hr)
          clear hszk
          have HSTEP : Hid (runV f s ((D.take (k + 1)).flatMap fun c => geF low (flat d c)) = runV f (runV f s ((D.take k).flatMap fun c => geF low (flat d c))).1 (geF low (flat d c'))) := Lib.hid (by
            rw [List.take_add_one, hx]
            show runV f s ((D.take k ++ [c']).flatMap _) = _
            rw [List.flatMap_append, runV_append, if_pos ht]
            congr 1
            simp)
          have HSPLIT : Hid (D.flatMap (fun c => geF low (flat d c)) = (D.take (k + 1)).flatMap (fun c => geF low (flat d c)) ++ (D.drop (k + 1)).flatMap (fun c => geF low (flat d c))) := Lib.hid (by rw [← List.flatMap_append, List.take_append_drop])
          clear hx hcell hrb hokb hneb hfb hb hr ht
          generalize hr1 : runV f (runV f s ((D.take k).flatMap fun c => geF low (flat d c))).1 (geF low (flat d c')) = r1 at *
          clear hr1
          go_wp2_with fail
          refine HIH.out.mono ?_
          rintro e w2 ⟨rfl, hr2, hb2⟩
          have HR2 := Lib.hid hr2
          have HB2 := Lib.hid hb2
          clear hr2 hb2 HIH ck
          obtain ⟨rs, rb⟩ := r1
          cases rb with
          | true =>
            go_wp2_with fail
            go_roundw
            case rel => exact ⟨k + 1, by go_num, by omega, by rw [HSTEP.out], by rw [HSTEP.out]; exact HR2.out, HB2.out⟩
            case measure => simp [intOf]; omega
          | false =>
            have HF : Hid (AscPost w0 R (runV f s (geF low (flat (d + 1) t))) (.returned (.bool false)) w2) := Lib.hid (by
              rw [HG2.out, HSPLIT.out, runV_append, HSTEP.out, if_neg (by exact Bool.noConfusion)]
              exact ⟨rfl, HR2.out, HB2.out⟩)
            go_wp2_with fail
            go_ret
            exact HF.out
        · have hke : k = p := by omega
          subst hke
          have HF : Hid (AscPost w0 R (runV f s (geF low (flat (d + 1) t))) (.returned (.bool true)) wr) := Lib.hid (by
            have h1 : D.take k = D := List.take_of_length_le (by rw [HDL.out]; exact Nat.le_refl _)
            rw [h1, ← HG2.out] at ht hr
            exact ⟨by rw [ht], hr, hb⟩)
          have hkp2 : ¬ ((k : Int) < (k : Int)) := by omega
          clear ht hr hb
          go_wp2_with fail
          go_ret
          exact HF.out
end Go.Proofs.Ytjdcnkbkbcfhfaa
