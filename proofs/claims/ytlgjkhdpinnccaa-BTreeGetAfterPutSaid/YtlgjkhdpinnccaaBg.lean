/-
  The walk of the law BTreeGetAfterPut.
-/
import Derived.Test.YtlgjkhdpinnccaaBl
import Derived.Test.YtlgjkhdpinnccaaTget
namespace Go.Proofs.Ytlgjkhdpinnccaa
open Go.RowKit Go.Sort

set_option maxRecDepth 100000 in
set_option maxHeartbeats 4000000 in
theorem getput_law (or : Int) (A : Option Addr) (c : Nat) (xs : List Int) (k : Int) (w : World) (hor : I64 or) (hx : Elems 1 intCs w (· < w.heap.size) A xs) (_hl : xs.length ≤ c) (_hcm : c ≤ maxLen) (hok : ∀ x ∈ xs, I64 x) (hsz : xs.length * 8 ≤ reachBytes) (hk : I64 k) :
    Calls Try.prog 3 #[.int .i64 or, .slice A xs.length c, .int .i64 k] w fun e w' => e = .returned (.bool true) ∧ Below w.heap.size w w' := by
  unfold reachBytes at hsz
  have H1 : Hid ((([k] : List Int).length + xs.length) * 8 ≤ 140737488355328) := Lib.hid (by simp; omega)
  have H2 : Hid (([k] : List Int).length + xs.length ≤ maxLen) := Lib.hid (by unfold maxLen; simp; omega)
  have HX := Lib.hid (hx.keep (w' := w.alloc (.cells #[.int .i64 k] 3)) fun k hk => Below.heap_alloc _ _ _ hk)
  have HO := Lib.hid (one_own w k)
  have hB : w.heap.size ≤ (w.alloc (.cells #[.int .i64 k] 3)).heap.size := by simp
  have HN : Hid (xs.length = xs.length) := Lib.hid rfl
  have HKK : Hid (∀ n ∈ [k] ++ xs, I64 n) := Lib.hid fun n hn => by
    rcases List.mem_append.1 hn with h | h
    · simp at h; subst h; exact hk
    · exact hok n h
  have HOR := Lib.hid hor
  have HK := Lib.hid hk
  clear hor hx hok hsz hk
  go_enter Try.func3, Try.ntmps3
  go_wp2_with (at_builtin; refine wpList_app rfl (.tmp 16) (.tmp 17) _ _ rfl rfl rfl (run_pushs elem_ints intLay _ (w.alloc (.cells #[.int .i64 k] 3)) _ [k] HO.out HX.out HN.out H1.out H2.out hB) ?_; rintro v2 w2 ⟨ho2, hx2⟩; obtain ⟨A2, m2, c2, rfl, hm2⟩ := ho2.form')
  have hb2 : Below w.heap.size w w2 := ((Below.refl _ _).alloc (Nat.le_refl _) _).trans (hx2.below (base := w.heap.size) hB (fun g hg => Nat.le_of_eq (Option.some.inj hg)))
  have hcap : ([k] ++ xs).length ≤ c2 ∧ c2 ≤ maxLen := by
    obtain ⟨A3, c3, hv, h1, h2⟩ := ho2.form
    injection hv with _ _ h3
    rw [h3]
    exact ⟨h1, h2⟩
  have HT0 := treeOfW or A2 c2 ([k] ++ xs) w2 HOR.out ((ho2.elems intLay.len rfl).more fun k hk => (ho2.lt k hk).2) hcap.1 hcap.2 HKK.out
  rw [hm2] at HT0
  have HT := Lib.hid HT0
  have HB2 := Lib.hid hb2
  clear HT0 hcap hb2 ho2 hx2 hm2
  refine HT.out.mono ?_
  rintro e w3 ⟨m, o, tb, hO, -, rfl, hT3, hb3⟩
  have HO3 := Lib.hid hO
  have HT3 := Lib.hid hT3
  have HB3 := Lib.hid hb3
  have hlen := bld_len ([k] ++ xs) (min ([k] ++ xs).length 200)
  have hlen2 : (bld ([k] ++ xs) (min ([k] ++ xs).length 200)).length ≤ 200 := by omega
  generalize bld ([k] ++ xs) (min ([k] ++ xs).length 200) = ps at *
  have HIR := Lib.hid (intRowW k w3 HK.out)
  clear hO hT3 hb3 hlen HT
  go_wp2_with fail
  refine HIR.out.mono ?_
  rintro e w4 ⟨A4, rfl, hx4, -, hb4⟩
  have HPU := Lib.hid (putW (base := w2.heap.size) HO3.out w4 (Nat.le_trans HB3.out.size hb4.size) (HT3.out.below hb4) A4 1 (rowOf k) 777 hx4 (rowOf_ok k) (by show 1 ≤ 12; omega) (by omega))
  have HB4 := Lib.hid (HB3.out.trans (hb4.mono HB3.out.size))
  clear hx4 hb4 HIR
  rw [show (rowOf k).length = 1 from rfl] at HPU
  go_wp2_with fail
  refine HPU.out.mono ?_
  rintro e w5 ⟨rfl, hT5, hb5⟩
  have HT5 := Lib.hid hT5
  have HB5 := Lib.hid (HB4.out.trans hb5)
  have HIR := Lib.hid (intRowW k w5 HK.out)
  have HG := Lib.hid (getP_insP (rowOf k, 777) ps)
  clear hT5 hb5 HPU
  generalize (getP (rowOf k) ps).isNone = gg at *
  go_wp2_with fail
  refine HIR.out.mono ?_
  rintro e w6 ⟨A6, rfl, hx6, -, hb6⟩
  have HGE := Lib.hid (getW HO3.out w6 (HT5.out.below hb6) A6 1 (rowOf k) hx6 (rowOf_ok k) (by show 1 ≤ 12; omega))
  have HB6 := Lib.hid (HB2.out.trans ((HB5.out.trans (hb6.mono HB5.out.size)).mono HB2.out.size))
  clear hx6 hb6 HIR
  rw [show (rowOf k).length = 1 from rfl, HG.out] at HGE
  go_wp2_with fail
  refine HGE.out.mono ?_
  rintro e w7 ⟨rfl, hb7⟩
  have HB7 := Lib.hid (HB6.out.trans (hb7.mono HB6.out.size))
  clear hb7 HGE
  unfold getV
  go_wp2_with fail
  go_ret
  exact ⟨by simp, HB7.out⟩
end Go.Proofs.Ytlgjkhdpinnccaa
