/-
  The walks of minKey, minFill.
-/
import Derived.Test.YtlgjkhdpinnccaaTp
import Derived.Deep.LoopGhost
namespace Go.Proofs.Ytlgjkhdpinnccaa
open Go.RowKit Go.Sort

set_option maxRecDepth 100000 in
set_option maxHeartbeats 4000000 in
theorem minKeyW {m o : Nat} (hO : Order m o) {w : World} {M : Nodes} {O : Own'} (hs : Store w M O) {d a : Nat} {t : T d} {fp : List Nat} {z : Ent} (hr : Rep M d a t fp) (hok : Ok m o d t) (hne : d = 0 ∨ 1 ≤ fill d t) (hz : (flat d t).head? = some z) :
    Calls Try.prog 70 #[ptr a] w fun e w' => e = .returned (.slice z.key.A z.key.row.length z.key.c) ∧ w = w' := by
  have hm1 : 1 ≤ m := by have := hO.lo; have := hO.eq; omega
  have HS := Lib.hid hs
  have HR := Lib.hid hr
  have HOK := Lib.hid hok
  have HNE := Lib.hid hne
  have HZ := Lib.hid hz
  clear hs hr hok hne hz
  go_enter Try.func70, Try.ntmps70
  go_wp2_with fail
  go_loopg [0] d (fun k v wr => ∃ (b : Nat) (t' : T k) (fp' : List Nat), v = ptr b ∧ Rep M k b t' fp' ∧ Ok m o k t' ∧ (k = 0 ∨ 1 ≤ fill k t') ∧ (flat k t').head? = some z ∧ w = wr)
  case atStart => exact ⟨a, t, fp, rfl, HR.out, HOK.out, HNE.out, HZ.out, rfl⟩
  case round =>
    obtain ⟨b, t', fp', rfl, hrep, hok, hne, hz, rfl⟩ := hrel
    have HLF : Hid (Calls Try.prog 33 #[ptr b] w fun e w' => e = .returned (.bool (gk == 0)) ∧ w = w') := Lib.hid (leafT HS.out hrep hne 0)
    cases gk with
    | zero =>
      obtain ⟨es, hes, hm, -⟩ := hrep
      have hz : es.head? = some z := by rw [hes]; exact hz
      obtain ⟨V, hV⟩ := HS.out.at_ b _ hm
      obtain ⟨A0, c0, A1, c1, A2, c2, e0, e1, e2, h0, h1, h2, hfr, o0, o1, o2⟩ := hV.cells
      simp only at h0 o0
      have hpos : 0 < es.length := by
        cases es with
        | nil => simp at hz
        | cons x r => simp
      obtain ⟨g, off, rfl, -, hc0, -⟩ := (o0.elems entLay.len rfl).ent hpos
      have hez : es[0] = z := by
        rw [List.head?_eq_getElem?, List.getElem?_eq_getElem hpos] at hz
        exact Option.some.inj hz
      rw [hez] at hc0
      simp only [Nat.zero_mul, Nat.add_zero] at hc0
      have hi1 : (0 : Int) < (es.length : Int) := by omega
      have hz0 : (0 == 0) = true := rfl
      rw [hz0] at HLF
      clear hm hV e0 e1 e2 h1 h2 hfr o0 o1 o2 hez hz hes hok hne
      generalize es.length = n at *
      go_wp2_with fail
      refine HLF.out.mono ?_
      rintro e w' ⟨rfl, rfl⟩
      clear HLF
      go_wp2_with fail
      go_ret
      exact ⟨rfl, rfl⟩
    | succ k =>
      obtain ⟨cs, fps, hm, hz3, hfp⟩ := hrep
      have hzl := hz3.len
      have hd1 : 1 ≤ t'.2.length := by
        rcases hne with h | h
        · cases h
        · exact h
      obtain ⟨V, hV⟩ := HS.out.at_ b _ hm
      obtain ⟨b0, hb0⟩ : ∃ b, cs[0]? = some b := ⟨_, List.getElem?_eq_getElem (by omega)⟩
      obtain ⟨g, c2, e2, q2, qi, -, -, -⟩ := hV.child hb0
      simp only at q2
      obtain ⟨c', hc⟩ : ∃ c, t'.2[0]? = some c := ⟨_, List.getElem?_eq_getElem (by omega)⟩
      obtain ⟨a', f, p1, p2, p3⟩ := hz3.at_ hc
      rw [hb0] at p1
      injection p1 with p1
      subst p1
      have hcok := hok.2 c' (List.mem_of_getElem? hc)
      have hcne : k = 0 ∨ 1 ≤ fill k c' := .inr (by omega)
      have hcz : (flat k c').head? = some z := by
        have hfn := flat_ne hcok.1 hm1 (by omega)
        have h1 : flat (k + 1) t' = flat k c' ++ (t'.2.drop 1).flatMap (flat k) := by
          rw [show flat (k + 1) t' = flat (k + 1) (t'.1, t'.2) from rfl, flat_at hc]
          simp
        rw [h1, List.head?_append] at hz
        cases hh : (flat k c').head? with
        | none => exact absurd (List.head?_eq_none_iff.1 hh) hfn
        | some y =>
          rw [hh] at hz
          simpa using hz
      have H1 := Lib.hid p3
      have H2 := Lib.hid hcok.1
      have H3 := Lib.hid hcne
      have H4 := Lib.hid hcz
      have hi1 : (0 : Int) < (cs.length : Int) := by omega
      have hz0 : (k + 1 == 0) = false := rfl
      rw [hz0] at HLF
      clear hm hz3 hV hb0 e2 hc p2 p3 hcok hcne hcz hok hne hz hzl hfp hd1
      generalize cs.length = n at *
      go_wp2_with fail
      refine HLF.out.mono ?_
      rintro e w' ⟨rfl, rfl⟩
      clear HLF
      go_wp2_with fail
      go_roundg k
      case measure => omega
      case rel => exact ⟨b0, c', f, rfl, H1.out, H2.out, H3.out, H4.out, rfl⟩

set_option maxRecDepth 100000 in
theorem minFillW {m o tb : Nat} (hO : Order m o) (w : World) (ht : w.cell? ⟨tb, 0, none⟩ = some (.int .i64 o)) :
    Calls Try.prog 62 #[ptr tb] w fun e w' => e = .returned (.int .i64 m) ∧ w = w' := by
  have h1 : ((o : Int) + 1) / 2 = (m : Int) := by have := hO.eq; omega
  have hb : (o : Int) ≤ 16 := by have := hO.hi; omega
  clear hO
  go_enter Try.func62, Try.ntmps62
  go_wp2_with fail
  go_ret
  exact ⟨ret_int h1, rfl⟩
end Go.Proofs.Ytlgjkhdpinnccaa
