/-
  The walk of ascend, with a visitor by its contract.
-/
import Derived.Test.YtlgjkhdpinnccaaTp
import Derived.Deep.RegionLaw
import Derived.Deep.CutRange
namespace Go.Proofs.Ytlgjkhdpinnccaa
open Go.RowKit Go.Sort

section
variable {σ : Type} (f : σ → Ent → σ × Bool)
/-- The visits, till one says no. -/
def runV : σ → List Ent → σ × Bool
  | s, [] => (s, true)
  | s, x :: xs => if (f s x).2 then runV (f s x).1 xs else ((f s x).1, false)
theorem runV_cons (s : σ) (x : Ent) (xs : List Ent) : runV f s (x :: xs) = if (f s x).2 then runV f (f s x).1 xs else ((f s x).1, false) := rfl
theorem runV_append : ∀ (s : σ) (A B : List Ent), runV f s (A ++ B) = if (runV f s A).2 then runV f (runV f s A).1 B else runV f s A
  | s, [], B => by simp [runV]
  | s, x :: A, B => by
    rw [List.cons_append, runV_cons, runV_cons]
    by_cases h : (f s x).2 = true
    · rw [if_pos h, if_pos h, runV_append _ A B]
    · simp only [if_neg h, Bool.false_eq_true, if_false]
theorem runV_one (s : σ) (x : Ent) : runV f s [x] = f s x := by
  show (if (f s x).2 then ((f s x).1, true) else ((f s x).1, false)) = f s x
  cases hx : f s x with
  | mk a b => cases b <;> rfl
end

/-- The entries from a key on. -/
def geF (low : Row) (es : List Ent) : List Ent := es.filter fun x => decide (¬ cmpR x.key.row low < 0)
theorem geF_at {es : List Ent} {low : Row} {i : Nat} {b : Bool} (h : At er es low i b) : geF low es = es.drop i := by
  unfold geF
  conv => lhs; rw [← List.take_append_drop i es]
  rw [List.filter_append, List.filter_eq_nil_iff.2, List.nil_append, List.filter_eq_self.2]
  · intro x hx
    have := h.hi x hx
    unfold rl at this
    simpa using this
  · intro x hx
    have := h.lo x hx
    unfold rl at this
    simpa using this
theorem geF_cov {m o d : Nat} {t : T (d + 1)} {low : Row} {j : Nat} (h : Ok m o (d + 1) t) (hc : Cov t.1 low j) : geF low (flat (d + 1) t) = (t.2.drop j).flatMap fun c => geF low (flat d c) := by
  have hs := (cov_sides h.1 hc).1
  show geF low (t.2.flatMap (flat d)) = _
  conv => lhs; rw [← List.take_append_drop j t.2]
  unfold geF
  rw [List.flatMap_append, List.filter_append, List.filter_eq_nil_iff.2, List.nil_append, List.filter_flatMap]
  intro x hx
  have := hs x hx
  unfold rl at this
  simpa using this

/-- A visitor's contract. -/
structure Vis {σ : Type} (w0 : World) (K : Nat → Prop) (fid : FuncId) (caps : Array Value) (R : σ → World → Prop) (f : σ → Ent → σ × Bool) (sz : σ → Nat) (N : Nat) : Prop where
  ent : ∀ (args : Array Value) (w : World), (callFunc fid args).run Try.prog w = .ok (.enter fid args) w
  bud : ∀ (s : σ) (x : Ent), sz (f s x).1 ≤ sz s + 1
  run : ∀ (s : σ) (x : Ent) (W : World), sz s < N → R s W → Below w0.heap.size w0 W → KOk K W x.key → Calls Try.prog fid (#[entV x] ++ caps) W fun e w' => e = .returned (.bool (f s x).2) ∧ R (f s x).1 w' ∧ Below w0.heap.size w0 w'
  quiet : ∀ (s : σ) (W W' : World), R s W → Below W.heap.size W W' → R s W'

theorem runV_sz {σ : Type} {f : σ → Ent → σ × Bool} {sz : σ → Nat} (h : ∀ (s : σ) (x : Ent), sz (f s x).1 ≤ sz s + 1) : ∀ (s : σ) (L : List Ent), sz (runV f s L).1 ≤ sz s + L.length
  | s, [] => Nat.le_refl _
  | s, x :: L => by
    rw [runV_cons, List.length_cons]
    have h1 := h s x
    split
    · have := runV_sz h (f s x).1 L
      omega
    · simp only
      omega

/-- What ascend leaves. -/
def AscPost {σ : Type} (w0 : World) (R : σ → World → Prop) (r : σ × Bool) (e : Ending) (w' : World) : Prop := e = .returned (.bool r.2) ∧ R r.1 w' ∧ Below w0.heap.size w0 w'

set_option maxRecDepth 100000 in
set_option maxHeartbeats 4000000 in
theorem ascLeaf {σ : Type} {w0 : World} {M : Nodes} {O : Own'} (hs : Store w0 M O) {fid : FuncId} {caps : Array Value} {R : σ → World → Prop} {f : σ → Ent → σ × Bool} {sz : σ → Nat} {N : Nat} (hV : Vis w0 (fun k => O k = .row) fid caps R f sz N) (A : Option Addr) (c : Nat) (low : Row) (hlow : Elems 3 Val.cs w0 (· < w0.heap.size) A low)
    {a : Nat} {es : List Ent} (hm : M a = some ⟨es, [], []⟩) (ho : Ord es) (hl : es.length ≤ 40) (s : σ) (hN : sz s + (geF low es).length ≤ N) (W : World) (hb : Below w0.heap.size w0 W) (hR : R s W) :
    Calls Try.prog 37 #[ptr a, .slice A low.length c, .func (.func fid) #[] caps] W (AscPost w0 R (runV f s (geF low es))) := by
  have hsW := hs.below hb
  obtain ⟨V, hV0⟩ := hs.at_ a _ hm
  have hVV : NodeAt W O a ⟨es, [], []⟩ V := hV0.below hs.free hb fun _ _ => rfl
  obtain ⟨A0, c0, A1, c1, A2, c2, e0, e1, e2, h0, h1, h2, hfr, o0, o1, o2⟩ := hVV.cells
  simp only at h0 h2 o0
  have hrl : ∀ k, O k = .row → k < W.heap.size := fun k hk => hsW.lt' (by rw [hk]; simp)
  have hlW := (hlow.keep (Keeps.of_below hb fun _ h => h)).more (S' := (· < W.heap.size)) fun i hi => Nat.lt_of_lt_of_le hi hb.size
  have HLF := Lib.hid (leafW a W A2 0 c2 h2)
  have HSE := Lib.hid (searchW a W A0 c0 es A c low _ _ h0 ((o0.elems entLay.len rfl).more fun k hk => (Own.lt o0 k hk).2) hrl (fun _ h => h) hVV.rowe ho hlW (by omega))
  have hal := hsW.lt hm
  have HO0 := Lib.hid o0
  have HV := Lib.hid hV
  have HNN := Lib.hid hN
  have HB := Lib.hid hb
  have HR := Lib.hid hR
  have HS := Lib.hid hs
  have HM := Lib.hid hm
  have HV0 := Lib.hid hV0
  have HE0 := Lib.hid e0
  clear hsW e0 e1 e2 h1 h2 hfr o0 o1 o2 hrl hlW hV hb hR hs hm hlow hVV hV0 hN
  go_enter Try.func37, Try.ntmps37
  go_wp2_with fail
  refine HLF.out.mono ?_
  rintro e w' ⟨rfl, rfl⟩
  go_wp2_with fail
  refine HSE.out.mono ?_
  rintro e w1 ⟨i, fnd, rfl, hA, hb1⟩
  have hil := hA.le
  have hge := geF_at hA
  have hlen : (es.drop i).length = es.length - i := List.length_drop
  have q0 := (hb1.cell (p := ⟨a, 0, none⟩) hal).trans h0
  have HGE := Lib.hid hge
  have HB1 := Lib.hid (HB.out.trans (hb1.mono HB.out.size))
  have HR1 := Lib.hid (HV.out.quiet _ _ _ HR.out hb1)
  have hn40 : es.length ≤ 40 := hl
  obtain ⟨A0', c0', hv0, hc0, hc0m⟩ := HO0.out.form
  injection hv0 with x1 _ x2
  subst x1 x2
  unfold maxLen at hc0m
  clear hA hge hb1 h0 hal
  generalize hn : es.length = n at *
  have HN := Lib.hid hn
  clear hn
  have hi1 : (i : Int) ≤ (n : Int) := by omega
  have hi2 : (0 : Int) ≤ (i : Int) := by omega
  have hi3 : (n : Int) ≤ (c0 : Int) := by omega
  rcases Nat.lt_or_ge i n with hlt | hge'
  · have hne : ¬ c0 = i := by omega
    obtain ⟨g, c', cur, hv, -, hg, -, -, -, -⟩ := HO0.out.open_ (by have := HN.out; omega)
    injection hv with y1 _ y2
    subst y1
    have HEL : Hid (∀ (Wr : World) (k : Nat) (x : Ent), Below w0.heap.size w0 Wr → (es.drop i)[k]? = some x → Wr.cell? ⟨g, i * 2 + k * 2, none⟩ = some (.slice x.key.A x.key.row.length x.key.c) ∧ Wr.cell? ⟨g, i * 2 + k * 2 + 1, none⟩ = some (.int .i64 x.val) ∧ KOk (fun k => O k = .row) Wr x.key) := Lib.hid fun Wr k x hbr hx => by
      have hd : (es.drop i)[k]? = es[i + k]? := List.getElem?_drop
      rw [hd] at hx
      obtain ⟨hlk, hxe⟩ := List.getElem?_eq_some_iff.1 hx
      have hVr : NodeAt Wr O a ⟨es, [], []⟩ V := HV0.out.below HS.out.free hbr fun _ _ => rfl
      have ho : Own 2 Ent.cs 45 0 Wr (V 0) es := hVr.fld 0 (by omega)
      rw [HE0.out] at ho
      obtain ⟨g', off, he, -, hc1, hc2⟩ := (ho.elems entLay.len rfl).ent hlk
      injection he with he
      injection he with he1 he2
      subst he1 he2
      rw [hxe, Nat.zero_add, Nat.add_mul] at hc1 hc2
      exact ⟨hc1, hc2, hVr.rowe x (List.mem_of_getElem? hx)⟩
    have hln : (es.drop i).length = n - i := hlen
    generalize es.drop i = L at *
    obtain ⟨p, hp⟩ : ∃ p, p = n - i := ⟨_, rfl⟩
    have hpi : (n : Int) - (i : Int) = (p : Int) := by omega
    have HP := Lib.hid hp
    rw [← hp] at hln hlen
    have HL := Lib.hid hln
    have hpb : p ≤ 40 := by omega
    clear hg hp hln hlen
    go_wp2_with fail

    go_loopw [28] (fun vi wr => ∃ k : Nat, vi = .int .i64 k ∧ k ≤ p ∧ (runV f s (L.take k)).2 = true ∧ R (runV f s (L.take k)).1 wr ∧ Below w0.heap.size w0 wr) (fun vi _ => p - (intOf vi).toNat)
    case atStart => exact ⟨0, rfl, by omega, rfl, HR1.out, HB1.out⟩
    case round =>
      obtain ⟨k, rfl, hk, ht, hr, hb⟩ := hrel
      have HT := Lib.hid ht
      have HRK := Lib.hid hr
      have HBK := Lib.hid hb
      clear ht hr hb
      by_cases hkp : k < p
      · obtain ⟨x, hx⟩ : ∃ x, L[k]? = some x := ⟨_, List.getElem?_eq_getElem (by have := HL.out; omega)⟩
        obtain ⟨d1, d2, hko⟩ := HEL.out wr k x HBK.out hx
        have hkp2 : (k : Int) < (p : Int) := by omega
        have HX := Lib.hid hx
        have HKO := Lib.hid hko
        have hent := HV.out.ent
        have hba : Below wr.heap.size wr (wr.alloc (.cells #[.slice x.key.A x.key.row.length x.key.c, .int .i64 x.val] 45)) := (Below.refl _ _).alloc (Nat.le_refl _) _
        have hszk : sz (runV f s (L.take k)).1 < N := by
          have h1 := runV_sz HV.out.bud s (L.take k)
          have h2 := HNN.out
          rw [HGE.out, HL.out] at h2
          have h3 : (L.take k).length ≤ k := by rw [List.length_take]; omega
          omega
        have HRUN := Lib.hid (HV.out.run _ x _ hszk (HV.out.quiet _ _ _ HRK.out hba) (HBK.out.trans (hba.mono HBK.out.size)) (((St.refl (HS.out.below HBK.out)).below hba).kok (HS.out.below HBK.out) HKO.out))
        clear hx hko hba
        go_wp2_with fail
        refine HRUN.out.mono ?_
        rintro e w2 ⟨rfl, hr2, hb2⟩
        have HR2 := Lib.hid hr2
        have HB2 := Lib.hid hb2
        have HSTEP : Hid (runV f s (L.take (k + 1)) = f (runV f s (L.take k)).1 x) := Lib.hid (by
          rw [List.take_add_one, HX.out]
          show runV f s (L.take k ++ [x]) = _
          rw [runV_append, if_pos HT.out, runV_one])
        clear hr2 hb2 HRUN d1 d2
        cases hfx : (f (runV f s (L.take k)).1 x).2 with
        | true =>
          have HFX := Lib.hid hfx
          clear hfx
          go_wp2_with fail
          go_roundw
          case rel => exact ⟨k + 1, by go_num, by omega, by rw [HSTEP.out]; exact HFX.out, by rw [HSTEP.out]; exact HR2.out, HB2.out⟩
          case measure => simp [intOf]; omega
        | false =>
          have HF : Hid (AscPost w0 R (runV f s (geF low es)) (.returned (.bool false)) w2) := Lib.hid (by
            have h1 : runV f s L = f (runV f s (L.take k)).1 x := by
              conv => lhs; rw [← List.take_append_drop (k + 1) L]
              rw [runV_append, HSTEP.out, if_neg (by rw [hfx]; exact Bool.noConfusion)]
            rw [HGE.out, h1]
            exact ⟨by rw [hfx], HR2.out, HB2.out⟩)
          clear hfx
          go_wp2_with fail
          go_ret
          exact HF.out
      · have hke : k = p := by omega
        subst hke
        have HF : Hid (AscPost w0 R (runV f s (geF low es)) (.returned (.bool true)) wr) := Lib.hid (by
          have h1 : L.take k = L := List.take_of_length_le (by rw [HL.out]; exact Nat.le_refl _)
          have h2 := HT.out
          have h3 := HRK.out
          rw [h1] at h2 h3
          rw [HGE.out]
          exact ⟨by rw [h2], h3, HBK.out⟩)
        have hkp2 : ¬ ((k : Int) < (k : Int)) := by omega
        go_wp2_with fail
        go_ret
        exact HF.out
  · have hie : i = n := by omega
    subst hie
    have hnil : es.drop i = [] := List.drop_of_length_le (by rw [HN.out]; exact Nat.le_refl _)
    have HF : Hid (AscPost w0 R (runV f s (geF low es)) (.returned (.bool true)) w1) := Lib.hid (by
      rw [HGE.out, hnil]
      exact ⟨rfl, HR1.out, HB1.out⟩)
    clear hnil
    by_cases hci : c0 = i
    · go_wp2_with fail
      go_loopw [28] (fun vi wr => vi = .int .i64 (0 : Int) ∧ w1 = wr) (fun _ _ => 0)
      case atStart => exact ⟨rfl, rfl⟩
      case round =>
        obtain ⟨rfl, rfl⟩ := hrel
        go_wp2_with fail
        go_ret
        exact HF.out
    · go_wp2_with fail
      go_loopw [28] (fun vi wr => vi = .int .i64 (0 : Int) ∧ w1 = wr) (fun _ _ => 0)
      case atStart => exact ⟨rfl, rfl⟩
      case round =>
        obtain ⟨rfl, rfl⟩ := hrel
        go_wp2_with fail
        go_ret
        exact HF.out
end Go.Proofs.Ytlgjkhdpinnccaa
