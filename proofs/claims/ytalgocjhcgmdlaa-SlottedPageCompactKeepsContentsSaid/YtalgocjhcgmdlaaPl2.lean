/-
  The walks of the laws SlottedPageDeleteKeepsOthers, SlottedPageUpdateKeepsOthers.
-/
import Derived.Test.YtalgocjhcgmdlaaPl1
import Derived.SizedLaws
import Derived.Deep.Slices
namespace Go.Proofs.Ytalgocjhcgmdlaa
open Go.RowKit

theorem bytes_int : Try.prog.bytesOf 3 = 8 := by kernel_rfl
/-- The form's reach bounds a slice of integers. -/
theorem sized_ints {H : Type} {enc : TypeId × Value → H} {w : World} {base : Nat} {spare : Nat → Bool} {held : Bool} {fuel : Nat} {t e : TypeId} (ht : Try.prog.underlying t = some (.slice e)) {cs : List Value} {x : DataW H × List MemPlace} (h : DataW.trod enc Try.prog w base spare held fuel t cs = some x)
    {A : Option Addr} {n c : Nat} (hcs : cs = [.slice A n c]) (hs : ∀ elems sp, x.1 = .slice elems sp → (elems.length + sp.length) * 8 ≤ reachBytes) : n * 8 ≤ reachBytes := by
  rcases Go.Deep.open_slice ht h with ⟨h1, _⟩ | ⟨a, len, cap, m, k, D, Pl, h1, _, _, _, _, hx, _⟩
  · rw [h1] at hcs
    injection hcs with hcs _
    injection hcs with _ h2 _
    subst h2
    omega
  · rw [h1] at hcs
    injection hcs with hcs _
    injection hcs with _ h2 _
    subst h2
    have := hs _ _ (by rw [hx])
    rw [List.length_map, List.length_range] at this
    omega

section
variable {P : Program} {w : World} {ops : Array Oper} {rest : List Oper} {o : Oper} {a : Act} {Q : Exit → Act → World → Prop}
/-- delete(records, i), at the operation. -/
theorem wpList_mpdel (hg : o.guard = none) (m x : Operand) (hop : o.op = Op.call { callee := Callee.builtin Builtin.delete, args := #[m, x], argTypes := #[24, 3] })
    {b n i : Nat} {p p' : List Nat} (hm : a.eval m = .map (some b)) (hx : a.eval x = .int .i64 (i : Int)) (h : Mp w b n p) (hi : i ≤ 1000000) (hs : (cont p i).isSome = true) (hc : ∀ j, cont p' j = if j = i then none else cont p j)
    (hK : ∀ w', Mp w' b n p' → w.grownBy w' (some b) → wpList Try.prog ops Q rest (a.put o.dst (.tuple #[])) w') : wpList Try.prog ops Q (o :: rest) a w := by
  refine wpList_plain hg fun K' hK' => ?_
  obtain ⟨w', hrun, r1, r2⟩ := h.del i hi hs hc o.type
  unfold Oper.wp
  simp [execOp, hop, resolve, invoke, builtin, hm, hx, hrun, Result.andThen]
  exact hK' _ _ (hK w' r1 r2)
end

theorem five_own (W : World) : Own 1 intCs 3 W.heap.size (W.alloc (.cells #[.int .i64 5] 3)) (.slice (some ⟨W.heap.size, 0, none⟩) 1 1) [5] :=
  World.ownsRow_lit (base := W.heap.size) (e := 3) (size := 1) W #[.int .i64 5] 1 (Nat.le_refl _) (by unfold maxLen; omega) (by simp)

/-- The page after inserting a record of length 6 and others. -/
structure FP (w wr : World) (b : Nat) (p : List Nat) (g c : Nat) : Prop where
  pg : Pg w.heap.size wr g c p
  wf : WF p
  mp : Mp wr b 60 p
  below : Below w.heap.size w wr
  hb : w.heap.size ≤ b
theorem FP.keep {w wr w' : World} {b : Nat} {p : List Nat} {g c : Nat} (h : FP w wr b p g c) (hb : Below wr.heap.size wr w') : FP w w' b p g c :=
  ⟨h.pg.below hb, h.wf, h.mp.below hb, h.below.trans (hb.mono h.below.size), h.hb⟩
/-- The map is written: the page stays. -/
theorem FP.turned {w wr w' : World} {b n g c : Nat} {p : List Nat} {q : List Nat} {g' c' : Nat} (h : FP w wr b p g c) (hq : Pg w.heap.size wr g' c' q) (hw : WF q) (hg : wr.grownBy w' (some b)) (hm : Mp w' b n q) (hn : n ≤ 60) : FP w w' b q g' c' :=
  ⟨hq.grown hg (hq.neMp h.mp), hw, hm.mono hn, h.below.trans (below_of_grown hg h.below.size (fun j hj => by injection hj with hj; rw [← hj]; exact h.hb)), h.hb⟩

set_option maxRecDepth 100000 in
set_option maxHeartbeats 2000000 in
theorem delete_law (A : Option Addr) (c : Nat) (xs : List Int) (i : Int) (w : World) (hx : Elems 1 intCs w (· < w.heap.size) A xs) (_hlc : xs.length ≤ c) (_hc : c ≤ maxLen) (hok : ∀ n ∈ xs, I64 n) (hsz : xs.length * 8 ≤ reachBytes) (hi : -9223372036854775808 ≤ i ∧ i ≤ 9223372036854775807) :
    Calls Try.prog 5 #[.slice A xs.length c, .int .i64 i] w fun e w' => e = .returned (.bool true) ∧ Below w.heap.size w w' := by
  unfold reachBytes at hsz
  have H1 : Hid ((([5] : List Int).length + xs.length) * 8 ≤ 140737488355328) := Lib.hid (by simp; omega)
  have H2 : Hid (([5] : List Int).length + xs.length ≤ maxLen) := Lib.hid (by unfold maxLen; simp; omega)
  have HX := Lib.hid (hx.keep (w' := w.alloc (.cells #[.int .i64 5] 3)) fun k hk => Below.heap_alloc _ _ _ hk)
  have HO := Lib.hid (five_own w)
  have hB : w.heap.size ≤ (w.alloc (.cells #[.int .i64 5] 3)).heap.size := by simp
  have HI := Lib.hid hi
  have HK5 : Hid (∀ n ∈ [5] ++ xs, I64 n) := Lib.hid fun n hn => by
    rcases List.mem_append.1 hn with h | h
    · simp at h; subst h; unfold I64; omega
    · exact hok n h
  have HN : Hid (xs.length = xs.length) := Lib.hid rfl
  clear hx hok hsz hi
  go_enter Try.func5, Try.ntmps5
  go_wp2_with (at_builtin; refine wpList_app rfl (.tmp 11) (.tmp 12) _ _ rfl rfl rfl (run_pushs elem_ints intLay _ (w.alloc (.cells #[.int .i64 5] 3)) _ [5] HO.out HX.out HN.out H1.out H2.out hB) ?_; rintro v2 w2 ⟨ho2, hx2⟩; obtain ⟨A2, m2, c2, rfl, hm2⟩ := ho2.form')
  have hb2 : Below w.heap.size w w2 := ((Below.refl _ _).alloc (Nat.le_refl _) _).trans (hx2.below (base := w.heap.size) hB (fun g hg => Nat.le_of_eq (Option.some.inj hg)))
  have hcap2 : ([5] ++ xs).length ≤ c2 ∧ c2 ≤ maxLen := by
    obtain ⟨A3, c3, hv, h1, h2⟩ := ho2.form
    injection hv with _ _ h3
    rw [h3]
    exact ⟨h1, h2⟩
  have HF0 := filledPage A2 c2 ([5] ++ xs) w2 ((ho2.elems intLay.len rfl).more fun k hk => (ho2.lt k hk).2) hcap2.1 hcap2.2 HK5.out
  have hmin : 0 < min ([5] ++ xs).length 60 ∧ min ([5] ++ xs).length 60 ≤ 60 := by simp; omega
  rw [hm2] at HF0 hmin
  have HF := Lib.hid HF0
  have HB2 := Lib.hid hb2
  clear HF0 hcap2 hb2 ho2 hx2 hm2
  generalize min m2 60 = kk at *
  refine HF.out.mono ?_
  rintro e w3 ⟨p, g, c3, b, rfl, hfi⟩
  have hpos := hfi.pos hmin.1
  have hnn := hfi.wf.n_le
  have huf := us_full hfi.full
  have hln := hfi.mp.len
  rw [huf] at hln
  have hfull := hfi.full
  have hfp : FP w w3 b p g c3 := ⟨hfi.pg.mono HB2.out.size, hfi.wf, hfi.mp.mono hmin.2, HB2.out.trans (hfi.below.mono HB2.out.size), Nat.le_trans HB2.out.size hfi.hb⟩
  have HFP := Lib.hid hfp
  have HFU := Lib.hid hfull
  obtain ⟨n, hn⟩ : ∃ n, n = B p 0 := ⟨_, rfl⟩
  rw [← hn] at hpos hnn hln
  have HNB := Lib.hid hn
  have y1 : ((n : Int) == 0) = false := by rw [beq_eq_false_iff_ne]; omega
  have HMD := Lib.hid fun W => mod_any i n W HI.out (by omega) (by omega)
  clear hfi huf hfull hfp hn hmin HF HB2
  go_wp2_with fail
  refine (HMD.out w3).mono ?_
  rintro e w4 ⟨m, rfl, hm, rfl⟩
  have hmn : m < B p 0 := by rw [← HNB.out]; omega
  have hcm := cont_some hmn (HFU.out m hmn)
  have HDL0 := deletePage w3 HFP.out.pg HFP.out.wf m (by omega)
  unfold DelPost at HDL0
  rw [hcm] at HDL0
  have HDL := Lib.hid HDL0
  have HCR := Lib.hid fun j => cont_rem HFP.out.wf hmn j
  have HWR := Lib.hid (rem_spec HFP.out.wf hmn).1
  have HCM : Hid ((cont p m).isSome = true) := Lib.hid (by rw [hcm]; rfl)
  have hm6 : m ≤ 1000000 := by omega
  clear HDL0 hcm hmn hln HMD
  go_wp2_with fail
  refine HDL.out.mono ?_
  rintro e w5 ⟨hb5, hcase⟩
  rw [if_pos (show (some (rc p m)).isSome = true from rfl)] at hcase
  obtain ⟨g5, c5, rfl, hp5⟩ := hcase
  have HF5 := Lib.hid (HFP.out.keep hb5)
  have HP5 := Lib.hid (hp5.mono HFP.out.below.size)
  clear hb5 hp5 HDL
  go_wp2_with (at_delete; refine wpList_mpdel rfl (.tmp 37) (.tmp 38) rfl (p := p) (p' := rem p m) rfl rfl HF5.out.mp hm6 HCM.out HCR.out ?_; intro w6 hm6' hg6)
  have HF6 := Lib.hid (HF5.out.turned HP5.out HWR.out hg6 hm6' (Nat.le_refl _))
  have HRD := Lib.hid (readsPage w6 HF6.out.pg HF6.out.wf HF6.out.mp)
  clear hm6' hg6
  go_wp2_with fail
  refine HRD.out.mono ?_
  rintro e w7 ⟨rfl, hb7⟩
  have HB7 := Lib.hid (HF6.out.below.trans (hb7.mono HF6.out.below.size))
  clear hb7
  go_wp2_with fail
  go_ret
  exact ⟨rfl, HB7.out⟩

end Go.Proofs.Ytalgocjhcgmdlaa
