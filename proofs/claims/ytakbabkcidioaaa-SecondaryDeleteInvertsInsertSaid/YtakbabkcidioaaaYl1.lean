/-
  The walk of the law SecondaryOrderIndependent.
-/
import Derived.Test.YtakbabkcidioaaaYlp
import Derived.Test.YtakbabkcidioaaaYrv
import Derived.Test.YtakbabkcidioaaaYie
import Derived.Test.YtakbabkcidioaaaYr
namespace Go.Proofs.Ytakbabkcidioaaa
open Go.RowKit Go.Sort

theorem one_own (W : World) (k : Int) : Own 1 intCs 3 W.heap.size (W.alloc (.cells #[.int .i64 k] 3)) (.slice (some ⟨W.heap.size, 0, none⟩) 1 1) [k] :=
  World.ownsRow_lit (base := W.heap.size) (e := 3) (size := 1) W #[.int .i64 k] 1 (Nat.le_refl _) (by unfold maxLen; omega) (by simp)
/-- A built index, good for the laws. -/
structure Bt (S : Nat → Prop) (w : World) (x : Ix) (cols : List Int) (rows : List Row) : Prop where
  ok : IOk S w x
  data : x.xd = bldX [0] cols rows
  val : XVal x
  cols : x.cols = cols
  tc : x.t.cols = iCols
  pk : x.t.pk = [0]
theorem Bt.keep {S S' : Nat → Prop} {w w' : World} {x : Ix} {cols : List Int} {rows : List Row} (h : Bt S w x cols rows) (hk : Keeps S w w') (hs : ∀ k, S k → S' k) : Bt S' w' x cols rows := ⟨(h.ok.keep hk).more hs, h.data, h.val, h.cols, h.tc, h.pk⟩
theorem Bt.irl {S : Nat → Prop} {w : World} {x : Ix} {cols : List Int} {rows : List Row} (h : Bt S w x cols rows) : (irs x.ents).length = rows.length := by
  have h1 := congrArg List.length (irs_flat x.ents)
  rw [List.length_map] at h1
  rw [h1, show x.ents.map EntM.xe = bldX [0] cols rows from h.data, flen_bldX]
theorem Bt.pos {S : Nat → Prop} {w : World} {x : Ix} {cols : List Int} {rows : List Row} (h : Bt S w x cols rows) (hr : 0 < rows.length) : 0 < x.ents.length := by
  rcases Nat.eq_zero_or_pos x.ents.length with h0 | h0
  · have h1 := h.irl
    rw [List.eq_nil_of_length_eq_zero h0] at h1
    have h2 : (irs ([] : List EntM)).length = 0 := rfl
    omega
  · exact h0
/-- The law's call of Build. -/
def BdPost (w : World) (cols : List Int) (rows : List Row) (e : Ending) (w' : World) : Prop := ∃ x, e = .returned (.tuple #[x.val, .int .i64 0]) ∧ Bt (fun g => w.heap.size ≤ g ∧ g < w'.heap.size) w' x cols rows ∧ Below w.heap.size w w'
theorem buildLaw {a p : Nat} (B : Option Addr) (d : Nat) (cols : List Int) (A : Option Addr) (c n : Nat) (ks : List Key) (rows : List Row) (w : World) (ht : TOk (· < w.heap.size) w (iTbl (some ⟨a, 0, none⟩) (some ⟨p, 0, none⟩))) (hy : Elems 1 intCs w (· < w.heap.size) B cols) (hd : cols.length ≤ d) (hn : ks.length = n)
    (hc : ∀ c ∈ cols, 0 ≤ c ∧ c < 3) (hcl : 0 < cols.length ∧ cols.length ≤ 12) (hnd : cols.Nodup) (hr : Elems 1 Key.cs w (· < w.heap.size) A ks) (hk : ∀ k ∈ ks, Elems 3 Val.cs w (· < w.heap.size) k.A k.row) (hrows : ks.map Key.row = rows)
    (hg : ∀ r ∈ rows, RGood (iTbl (some ⟨a, 0, none⟩) (some ⟨p, 0, none⟩)) cols r) (hkn : (rows.map (keyOf [0])).Nodup) (hl : rows.length ≤ 24) :
    Calls Try.prog 8 #[(iTbl (some ⟨a, 0, none⟩) (some ⟨p, 0, none⟩)).val, .slice B cols.length d, .slice A n c] w (BdPost w cols rows) := by
  subst hn hrows
  refine (buildW (iTbl (some ⟨a, 0, none⟩) (some ⟨p, 0, none⟩)) B d cols A c ks w ht hy hd (iTab_ok rfl rfl) (iCol_ok rfl hc hcl hnd) hr hk hg hkn (by rw [List.length_map] at hl; exact hl) (by show 1 ≤ 12; omega) hcl.2).mono ?_
  rintro e w' ⟨x, he, hok, hxd, hxc, htc, hpk, hcap, hb⟩
  refine ⟨x, he, ⟨hok, hxd, ?_, hxc, htc, hpk⟩, hb⟩
  exact xval_of (iTab_ok htc hpk) (by rw [hxc]; exact iCol_ok htc hc hcl hnd) hcap (by rw [hxd, hxc]; exact (trF_dok (t := iTbl (some ⟨a, 0, none⟩) (some ⟨p, 0, none⟩)) rfl hg hkn hl).of htc hpk)
/-- IndexedRows of a built index. -/
def IrPost (w : World) (x : Ix) (A : Option Addr) (n _c : Nat) (w' : World) : Prop := Elems 2 IR.cs w' (· < w'.heap.size) A (irs x.ents) ∧ (irs x.ents).length = n ∧ Below w.heap.size w w'
theorem irLaw {w : World} {x : Ix} {cols : List Int} {rows : List Row} (h : Bt (· < w.heap.size) w x cols rows) (hl : rows.length ≤ 100) :
    Calls Try.prog 12 #[x.val] w fun e w' => ∃ A n c, e = .returned (.slice A n c) ∧ IrPost w x A n c w' := by
  refine (indexedRowsW x w h.ok (by have := h.val.sz.ents; omega) (by rw [h.irl]; omega)).mono ?_
  rintro e w' ⟨v, rfl, ho, hb⟩
  obtain ⟨A, c, rfl, -, -⟩ := ho.form
  exact ⟨A, _, c, rfl, (ho.elems irLay.len rfl).more fun g hg => (Own.lt ho g hg).2, rfl, hb⟩
theorem eqLaw {w : World} {x y : Ix} {A B : Option Addr} {n m c d : Nat} (hx : IOk (· < w.heap.size) w x) (hy : IOk (· < w.heap.size) w y) (he : flatX x.xd = flatX y.xd) (hA : Elems 2 IR.cs w (· < w.heap.size) A (irs x.ents)) (hB : Elems 2 IR.cs w (· < w.heap.size) B (irs y.ents)) (hn : (irs x.ents).length = n) (hm : (irs y.ents).length = m) (hl : n ≤ 1000) :
    Calls Try.prog 11 #[.slice A n c, .slice B m d] w fun e w' => e = .returned (.bool true) ∧ Below w.heap.size w w' := by
  subst hn hm
  refine (indexedEqW A B c d (irs x.ents) (irs y.ents) w hA hB (fun p hp => ?_) (fun p hp => ?_) hl ?_).mono ?_
  · obtain ⟨e, he, h1, h2⟩ := irs_mem hp
    exact ⟨by rw [h1]; exact (hx.ent e he).vals, (hx.ent e he).key _ h2⟩
  · obtain ⟨e, he, h1, h2⟩ := irs_mem hp
    exact ⟨by rw [h1]; exact (hy.ent e he).vals, (hy.ent e he).key _ h2⟩
  · have h1 := irs_flat x.ents
    have h2 := irs_flat y.ents
    unfold Ix.xd at he
    unfold irD
    rw [h1, h2, he]
  · rintro e w' ⟨he, n, rfl⟩
    exact ⟨he, below_drewN (Below.refl _ _) n⟩
/-- Both boxes stand as they stood. -/
structure Bxs (w : World) (bx by_ : Nat) (x y : Ix) : Prop where
  x : w.heap[bx]? = some (.cells x.cells 30 (0, 0))
  y : w.heap[by_]? = some (.cells y.cells 30 (0, 0))
theorem Bxs.below {w w' : World} {bx by_ : Nat} {x y : Ix} (h : Bxs w bx by_ x y) (hb : Below w.heap.size w w') : Bxs w' bx by_ x y :=
  ⟨(hb.block _ (Array.getElem?_eq_some_iff.1 h.x).1).trans h.x, (hb.block _ (Array.getElem?_eq_some_iff.1 h.y).1).trans h.y⟩
theorem Bt.below {w w' : World} {x : Ix} {cols : List Int} {rows : List Row} (h : Bt (· < w.heap.size) w x cols rows) (hb : Below w.heap.size w w') : Bt (· < w'.heap.size) w' x cols rows := h.keep (Keeps.of_below hb fun _ h => h) fun _ hk => Nat.lt_of_lt_of_le hk hb.size
variable {w0 w : World} {bx by_ : Nat} {x y : Ix} {cols cols' : List Int} {rows rows' : List Row}
theorem pairX (hx : Bt (· < w.heap.size) w x cols rows) (hy : Bt (· < w.heap.size) w y cols' rows') (he : flatX x.xd = flatX y.xd) (hl : rows.length ≤ 100) (hl' : rows'.length ≤ 100) (hq : Bxs w bx by_ x y) (hb : Below w0.heap.size w0 w) :
    Calls Try.prog 12 #[x.val] w fun e w1 => ∃ A n c, e = .returned (.slice A n c) ∧ Bxs w1 bx by_ x y ∧ Hid (Calls Try.prog 12 #[y.val] w1 fun e w2 => ∃ B m d, e = .returned (.slice B m d) ∧ Bxs w2 bx by_ x y ∧
      Hid (Calls Try.prog 11 #[.slice A n c, .slice B m d] w2 fun e w3 => e = .returned (.bool true) ∧ Below w0.heap.size w0 w3 ∧ Bxs w3 bx by_ x y)) := by
  refine (irLaw hx hl).mono ?_
  rintro e w1 ⟨A, n, c, rfl, hA, hn, hb1⟩
  refine ⟨A, n, c, rfl, hq.below hb1, Lib.hid ((irLaw (hy.below hb1) hl').mono ?_)⟩
  rintro e w2 ⟨B, m, d, rfl, hB, hm, hb2⟩
  have hb12 := hb1.trans (hb2.mono hb1.size)
  refine ⟨B, m, d, rfl, (hq.below hb1).below hb2, Lib.hid ((eqLaw (hx.below hb12).ok (hy.below hb12).ok he (hA.on hb2) hB hn hm (by have := hx.irl; omega)).mono ?_)⟩
  rintro e w3 ⟨rfl, hb3⟩
  exact ⟨rfl, hb.trans ((hb12.trans (hb3.mono hb12.size)).mono hb.size), (hq.below hb12).below hb3⟩
theorem pairY (hx : Bt (· < w.heap.size) w x cols rows) (hy : Bt (· < w.heap.size) w y cols' rows') (he : flatX x.xd = flatX y.xd) (hl : rows.length ≤ 100) (hl' : rows'.length ≤ 100) (hq : Bxs w bx by_ x y) (hb : Below w0.heap.size w0 w) :
    Calls Try.prog 12 #[y.val] w fun e w1 => ∃ B m d, e = .returned (.slice B m d) ∧ Bxs w1 bx by_ x y ∧ Hid (Calls Try.prog 12 #[x.val] w1 fun e w2 => ∃ A n c, e = .returned (.slice A n c) ∧ Bxs w2 bx by_ x y ∧
      Hid (Calls Try.prog 11 #[.slice A n c, .slice B m d] w2 fun e w3 => e = .returned (.bool true) ∧ Below w0.heap.size w0 w3 ∧ Bxs w3 bx by_ x y)) := by
  refine (irLaw hy hl').mono ?_
  rintro e w1 ⟨B, m, d, rfl, hB, hm, hb1⟩
  refine ⟨B, m, d, rfl, hq.below hb1, Lib.hid ((irLaw (hx.below hb1) hl).mono ?_)⟩
  rintro e w2 ⟨A, n, c, rfl, hA, hn, hb2⟩
  have hb12 := hb1.trans (hb2.mono hb1.size)
  refine ⟨A, n, c, rfl, (hq.below hb1).below hb2, Lib.hid ((eqLaw (hx.below hb12).ok (hy.below hb12).ok he hA (hB.on hb2) hn hm (by have := hx.irl; omega)).mono ?_)⟩
  rintro e w3 ⟨rfl, hb3⟩
  exact ⟨rfl, hb.trans ((hb12.trans (hb3.mono hb12.size)).mono hb.size), (hq.below hb12).below hb3⟩
end Go.Proofs.Ytakbabkcidioaaa
