/-
  SecondaryDeleteInvertsInsert: plain facts, and the law's calls of IndexedRows on two indexes.
-/
import Derived.Test.YtakbabkcidioaaaYv
import Derived.Test.YtakbabkcidioaaaYl1
namespace Go.Proofs.Ytakbabkcidioaaa
open Go.RowKit Go.Sort

theorem del_ins {d : XD} {v k : Row} (h : SrtX d) (hn : (v, k) ∉ flatX d) : flatX d = flatX (delX v k (insX v k d)) := by
  refine flatX_ext h (delX_sorted v k (insX_sorted v k h hn)) fun p => ?_
  rw [mem_delX v k p (insX_sorted v k h hn), mem_insX]
  constructor
  · exact fun hp => ⟨.inr hp, fun e => hn (e ▸ hp)⟩
  · rintro ⟨h1 | h1, h2⟩
    · exact absurd h1 h2
    · exact h1
theorem new_key {cols : List Int} {ns : List Int} {m : Nat} (hm : m ≤ 24) {n : Int} : ∀ p ∈ flatX (bldX [0] cols (trF ns m)), p.2 ≠ keyOf [0] (trow 900 n) := fun p hp e => by
  obtain ⟨r, hr, rfl⟩ := (mem_bldX _ _ _ _).1 hp
  obtain ⟨i, q, hi, rfl⟩ := trF_mem hr
  have e : keyOf [0] (trow i q) = keyOf [0] (trow 900 n) := e
  rw [keyOf0, keyOf0] at e
  injection e with e _
  injection e with _ e _
  omega
/-- An index good for IndexedRows. -/
structure Bi (w : World) (x : Ix) (N : Nat) : Prop where
  ok : IOk (· < w.heap.size) w x
  len : x.ents.length ≤ 1000
  irl : (irs x.ents).length = N
  le : N ≤ 100
theorem Bi.below {w w' : World} {x : Ix} {N : Nat} (h : Bi w x N) (hb : Below w.heap.size w w') : Bi w' x N := ⟨h.ok.on hb, h.len, h.irl, h.le⟩
theorem Bt.bi {w : World} {x : Ix} {cols : List Int} {rows : List Row} (h : Bt (· < w.heap.size) w x cols rows) (hl : rows.length ≤ 100) : Bi w x rows.length := ⟨h.ok, by have := h.val.sz.ents; omega, h.irl, hl⟩
theorem irs_xd (x : Ix) : (irs x.ents).length = (flatX x.xd).length := by
  have h1 := congrArg List.length (irs_flat x.ents)
  rw [List.length_map] at h1; exact h1
theorem irLaw2 {w : World} {x : Ix} {N : Nat} (h : Bi w x N) :
    Calls Try.prog 12 #[x.val] w fun e w' => ∃ A n c, e = .returned (.slice A n c) ∧ IrPost w x A n c w' := by
  refine (indexedRowsW x w h.ok h.len (by rw [h.irl]; have := h.le; omega)).mono ?_
  rintro e w' ⟨v, rfl, ho, hb⟩
  obtain ⟨A, c, rfl, -, -⟩ := ho.form
  exact ⟨A, _, c, rfl, (ho.elems irLay.len rfl).more fun g hg => (Own.lt ho g hg).2, rfl, hb⟩
variable {w0 w : World} {bx by_ : Nat} {x y : Ix} {N M : Nat}
theorem pairX2 (hx : Bi w x N) (hy : Bi w y M) (he : flatX x.xd = flatX y.xd) (hq : Bxs w bx by_ x y) (hb : Below w0.heap.size w0 w) :
    Calls Try.prog 12 #[x.val] w fun e w1 => ∃ A n c, e = .returned (.slice A n c) ∧ Bxs w1 bx by_ x y ∧ Hid (Calls Try.prog 12 #[y.val] w1 fun e w2 => ∃ B m d, e = .returned (.slice B m d) ∧ Bxs w2 bx by_ x y ∧
      Hid (Calls Try.prog 11 #[.slice A n c, .slice B m d] w2 fun e w3 => e = .returned (.bool true) ∧ Below w0.heap.size w0 w3 ∧ Bxs w3 bx by_ x y)) := by
  refine (irLaw2 hx).mono ?_
  rintro e w1 ⟨A, n, c, rfl, hA, hn, hb1⟩
  refine ⟨A, n, c, rfl, hq.below hb1, Lib.hid ((irLaw2 (hy.below hb1)).mono ?_)⟩
  rintro e w2 ⟨B, m, d, rfl, hB, hm, hb2⟩
  have hb12 := hb1.trans (hb2.mono hb1.size)
  refine ⟨B, m, d, rfl, (hq.below hb1).below hb2, Lib.hid ((eqLaw (hx.below hb12).ok (hy.below hb12).ok he (hA.on hb2) hB hn hm (by have := hx.irl; have := hx.le; omega)).mono ?_)⟩
  rintro e w3 ⟨rfl, hb3⟩
  exact ⟨rfl, hb.trans ((hb12.trans (hb3.mono hb12.size)).mono hb.size), (hq.below hb12).below hb3⟩
theorem pairY2 (hx : Bi w x N) (hy : Bi w y M) (he : flatX x.xd = flatX y.xd) (hq : Bxs w bx by_ x y) (hb : Below w0.heap.size w0 w) :
    Calls Try.prog 12 #[y.val] w fun e w1 => ∃ B m d, e = .returned (.slice B m d) ∧ Bxs w1 bx by_ x y ∧ Hid (Calls Try.prog 12 #[x.val] w1 fun e w2 => ∃ A n c, e = .returned (.slice A n c) ∧ Bxs w2 bx by_ x y ∧
      Hid (Calls Try.prog 11 #[.slice A n c, .slice B m d] w2 fun e w3 => e = .returned (.bool true) ∧ Below w0.heap.size w0 w3 ∧ Bxs w3 bx by_ x y)) := by
  refine (irLaw2 hy).mono ?_
  rintro e w1 ⟨B, m, d, rfl, hB, hm, hb1⟩
  refine ⟨B, m, d, rfl, hq.below hb1, Lib.hid ((irLaw2 (hx.below hb1)).mono ?_)⟩
  rintro e w2 ⟨A, n, c, rfl, hA, hn, hb2⟩
  have hb12 := hb1.trans (hb2.mono hb1.size)
  refine ⟨A, n, c, rfl, (hq.below hb1).below hb2, Lib.hid ((eqLaw (hx.below hb12).ok (hy.below hb12).ok he hA (hB.on hb2) hn hm (by have := hx.irl; have := hx.le; omega)).mono ?_)⟩
  rintro e w3 ⟨rfl, hb3⟩
  exact ⟨rfl, hb.trans ((hb12.trans (hb3.mono hb12.size)).mono hb.size), (hq.below hb12).below hb3⟩
theorem two_own' (W : World) (k l : Int) : Own 1 intCs 3 W.heap.size (W.alloc (.cells #[.int .i64 k, .int .i64 l] 3)) (.slice (some ⟨W.heap.size, 0, none⟩) 2 2) [k, l] :=
  World.ownsRow_lit (base := W.heap.size) (e := 3) (size := 1) W #[.int .i64 k, .int .i64 l] 2 (Nat.le_refl _) (by unfold maxLen; omega) (by simp)
end Go.Proofs.Ytakbabkcidioaaa
