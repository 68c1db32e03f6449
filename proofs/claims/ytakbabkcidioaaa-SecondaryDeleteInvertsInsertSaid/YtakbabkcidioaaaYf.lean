/-
  The walk of secondary.Insert, where all is well.
-/
import Derived.Test.YtakbabkcidioaaaYh
import Derived.Test.YtakbabkcidioaaaYg
import Derived.Test.YtakbabkcidioaaaYdo
namespace Go.Proofs.Ytakbabkcidioaaa
open Go.RowKit Go.Sort

theorem keyOf_len (pk : List Int) (r : Row) : (keyOf pk r).length = pk.length := by unfold keyOf; rw [List.length_map]
/-- What Insert leaves. -/
def InPost (w : World) (x : Ix) (D : XD) (e : Ending) (w' : World) : Prop := ∃ x', e = .returned (.tuple #[x'.val, .int .i64 0]) ∧ IOk (fun g => w.heap.size ≤ g ∧ g < w'.heap.size) w' x' ∧ x'.xd = D ∧ x'.cols = x.cols ∧ x'.t.cols = x.t.cols ∧ x'.t.pk = x.t.pk ∧ x'.cols.length ≤ x'.xc ∧ Below w.heap.size w w'
/-- Between the two insertions. -/
structure Mid (base b9 : Nat) (wx : World) (D : XD) (key : Row) (i : Nat) (x x2 : Ix) (e2 : EntM) (R2 : Nat → Prop) : Prop where
  cb : CB base b9 wx x2 R2
  lo : ∀ g, R2 g → base ≤ g
  at_ : x2.ents[i]? = some e2
  data : x2.xd.set i (e2.vals.row, insL key (e2.keys.map Key.row)) = D
  srt : (e2.keys.map Key.row).Pairwise rl
  kl : e2.keys.length ≤ 100
  el : x2.ents.length ≤ 101
  cols : x2.cols = x.cols
  tc : x2.t.cols = x.t.cols
  pk : x2.t.pk = x.t.pk
  xcap : x2.cols.length ≤ x2.xc
def MidPost (base b9 : Nat) (W : World) (D : XD) (key : Row) (i : Nat) (x : Ix) (wx : World) : Prop := ∃ x2 e2 R2, Mid base b9 wx D key i x x2 e2 R2 ∧ Below base W wx
/-- Behind both insertions. -/
structure Fin (base b9 : Nat) (wx : World) (D : XD) (x x3 : Ix) (R3 : Nat → Prop) : Prop where
  cb : CB base b9 wx x3 R3
  lo : ∀ g, R3 g → base ≤ g
  data : x3.xd = D
  cols : x3.cols = x.cols
  tc : x3.t.cols = x.t.cols
  pk : x3.t.pk = x.t.pk
  xcap : x3.cols.length ≤ x3.xc
def FinPost (base b9 : Nat) (W : World) (D : XD) (x : Ix) (wx : World) : Prop := ∃ x3 R3, Fin base b9 wx D x x3 R3 ∧ Below base W wx
theorem results_cell_tmp {P : Program} {fn : Func} {p q : Tmp} {ty : TypeId} (h : fn.results = #[.cell p ty, .tmp q]) (tmps : Array Value) (w : World) (g : Nat) (t : TypeId) (cs : Array Value) (fr : Nat × Nat) (d : TypeDesc) (u : Value)
    (hp : tmps.getD p undef = .pointer (some ⟨g, 0, none⟩)) (hq : tmps.getD q undef = u) (hg : w.heap[g]? = some (.cells cs t fr))
    (hu : P.underlying ty = some d) (hd : (match d with | .struct _ | .array _ _ => true | _ => false) = true) (hi : (P.info? ty).map (·.size) = some cs.size) :
    (results fn tmps).run P w = .ok (.tuple #[.agg cs, u]) w := by
  have hp' : tmps[p]?.getD undef = .pointer (some ⟨g, 0, none⟩) := by simpa using hp
  have hq' : tmps[q]?.getD undef = u := by simpa using hq
  simp [results, h, hp', hq', asAddr, run_loadVar_row w g t ty cs fr d hg hu hd hi]
theorem ret_ins {x : Ix} {g : Nat} {w : World} (tmps : Array Value) (hp : tmps.getD 4 undef = .pointer (some ⟨g, 0, none⟩)) (h5 : tmps.getD 5 undef = .int .i64 0) (hg : w.heap[g]? = some (.cells x.cells 30 (0, 0))) :
    (results Try.f17 tmps).run Try.prog w = .ok (.tuple #[x.val, .int .i64 0]) w :=
  results_cell_tmp (P := Try.prog) Try.results17 tmps w g 30 _ (0, 0) _ _ hp h5 hg Try.underlying30 rfl (by kernel_rfl)
theorem set_at {α : Type} : ∀ {xs : List α} {i : Nat} {e : α} {r : List α} (y : α), xs.drop i = e :: r → xs.set i y = xs.take i ++ y :: r
  | [], i, e, r, y, h => by simp at h
  | x :: xs, 0, e, r, y, h => by
    injection h with h1 h2
    rw [List.set_cons_zero, h2]
    rfl
  | x :: xs, i + 1, e, r, y, h => by
    show x :: xs.set i y = x :: (xs.take i ++ y :: r)
    rw [set_at y (show xs.drop i = e :: r from h)]

theorem At.mapTo {α β : Type} {row : α → Row} {row' : β → Row} {f : α → β} (hf : ∀ a, row' (f a) = row a) {xs : List α} {t : Row} {i : Nat} {fnd : Bool} (h : At row xs t i fnd) : At row' (xs.map f) t i fnd := by
  refine ⟨by rw [List.length_map]; exact h.le, fun x hx => ?_, fun x hx => ?_, h.eq.trans ⟨fun ⟨a, r, h1, h2⟩ => ?_, fun ⟨a, r, h1, h2⟩ => ?_⟩⟩
  · rw [← List.map_take] at hx
    obtain ⟨a, ha, rfl⟩ := List.mem_map.1 hx
    rw [hf]
    exact h.lo a ha
  · rw [← List.map_drop] at hx
    obtain ⟨a, ha, rfl⟩ := List.mem_map.1 hx
    rw [hf]
    exact h.hi a ha
  · exact ⟨f a, r.map f, by rw [← List.map_drop, h1]; rfl, by rw [hf]; exact h2⟩
  · rw [← List.map_drop] at h1
    cases hd : xs.drop i with
    | nil => rw [hd] at h1; cases h1
    | cons b q =>
      rw [hd] at h1
      injection h1 with h1 h3
      exact ⟨b, q, rfl, by rw [← hf, h1]; exact h2⟩
theorem sep_ins {α : Type} {Q : α → α → Prop} {xs : List α} {e0 : α} (h : xs.Pairwise Q) (h0 : ∀ a, Q a e0 ∧ Q e0 a) (i : Nat) : (xs.take i ++ e0 :: xs.drop i).Pairwise Q := by
  rw [List.pairwise_append, List.pairwise_cons]
  refine ⟨h.sublist (List.take_sublist i xs), ⟨fun a _ => (h0 a).2, h.sublist (List.drop_sublist i xs)⟩, fun a ha b hb => ?_⟩
  rcases List.mem_cons.1 hb with rfl | hb
  · exact (h0 a).1
  · have h2 := h
    rw [← List.take_append_drop i xs, List.pairwise_append] at h2
    exact h2.2.2 a ha b hb

set_option maxRecDepth 100000 in
set_option maxHeartbeats 4000000 in
theorem insertW (x : Ix) (A : Option Addr) (c : Nat) (r : Row) (w : World) (hx : IOk (· < w.heap.size) w x) (hv : XVal x) (hr : Elems 3 Val.cs w (· < w.heap.size) A r) (hrow : RowOk x.t r) (hpk : x.t.pk.length ≤ 12) (hcl : x.cols.length ≤ 12) (hnew : ∀ e ∈ x.ents, ∀ k ∈ e.keys, k.row ≠ keyOf x.t.pk r) :
    Calls Try.prog 17 #[x.val, .slice A r.length c] w (InPost w x (insX (keyOf x.cols r) (keyOf x.t.pk r) x.xd)) := by
  obtain ⟨W0, hW0⟩ : ∃ W0, W0 = (w.alloc (.cells x.cells 30)).alloc (.cells #[.string ⟨#[]⟩, .slice none 0 0, .slice none 0 0, .slice none 0 0, .slice none 0 0] 30) := ⟨_, rfl⟩
  have hbW : Below w.heap.size w W0 := by rw [hW0]; exact ((Below.refl _ _).alloc (Nat.le_refl _) _).alloc (le_size1 (Nat.le_refl _) _) _
  have hg0 : W0.heap[w.heap.size]? = some (.cells x.cells 30 (0, 0)) := by rw [hW0, Below.heap_alloc _ _ _ (by simp)]; exact heap_alloc_new w _
  have hg1 : W0.heap[w.heap.size + 1]? = some (.cells #[.string ⟨#[]⟩, .slice none 0 0, .slice none 0 0, .slice none 0 0, .slice none 0 0] 30 (0, 0)) := by rw [hW0]; exact alloc2_at w _ _
  have hsz : w.heap.size + 2 = W0.heap.size := by rw [hW0]; simp
  have hx0 := hx.on hbW
  have hr0 := hr.on hbW
  have HBX : Hid (∀ W, Below W0.heap.size W0 W → W.cell? ⟨w.heap.size, 0, none⟩ = some (.string x.t.name) ∧ W.cell? ⟨w.heap.size, 1, none⟩ = some (.slice x.t.CA x.t.cols.length x.t.cc) ∧ W.cell? ⟨w.heap.size, 2, none⟩ = some (.slice x.t.PA x.t.pk.length x.t.pc) ∧ W.cell? ⟨w.heap.size, 3, none⟩ = some (.slice x.XA x.cols.length x.xc) ∧ W.cell? ⟨w.heap.size, 4, none⟩ = some (.slice x.EA x.ents.length x.ec)) := Lib.hid fun W hW => Ix.box (w' := W) hg0 (hW.block _ (by omega))
  have HCK := Lib.hid (checkW x W0 hx0 hv)
  have HCR := Lib.hid fun (W : World) (hW : Below W0.heap.size W0 W) => secCheckRow x.t A c r W (hx0.on hW).t (hr0.on hW) (by have := hv.tab.ncols; omega) hrow
  have HKY := Lib.hid fun (W : World) (hW : Below W0.heap.size W0 W) => relKey x.t A c r W (hx0.on hW).t (hr0.on hW) (by omega)
  have HHK := Lib.hid fun (W : World) (key : Key) (hW : Below W0.heap.size W0 W) (hk : KOk (· < W.heap.size) W key) (hkr : key.row = keyOf x.t.pk r) => hasKeyW x key W (hx0.on hW) hk (fun e he => (hv.srt.keys _ (List.mem_map_of_mem he)).2) hv.sz (by rw [hkr]; exact hnew)
  have HCN := Lib.hid fun (W : World) (hW : Below W0.heap.size W0 W) => cloneIx x W (hx0.on hW) hv.sz
  have hcr : ∀ k ∈ x.cols, 0 ≤ k ∧ k < (r.length : Int) := fun k hk => by rw [hrow.len]; exact hv.cols.rng k hk
  have HPR := Lib.hid fun (W : World) (hW : Below W0.heap.size W0 W) => secProject A c r x.XA x.xc x.cols W (hr0.on hW) (hx0.on hW).cols (by omega) hcr
  have HV := Lib.hid hv
  have HW := Lib.hid hW0
  have HG := Lib.hid (And.intro hbW (And.intro hg1 hsz))
  have HL := Lib.hid (And.intro hpk hcl)
  obtain ⟨vals, hvals⟩ : ∃ vals, vals = keyOf x.cols r := ⟨_, rfl⟩
  obtain ⟨kr, hkr⟩ : ∃ kr, kr = keyOf x.t.pk r := ⟨_, rfl⟩
  have hvl : vals.length ≤ 12 := by rw [hvals, keyOf_len]; exact hcl
  have hkl : kr.length ≤ 12 := by rw [hkr, keyOf_len]; exact hpk
  rw [← hvals, ← hkr]
  rw [← hvals] at HPR
  rw [← hkr] at HKY HHK
  clear hx hv hr hrow hnew hW0 hbW hg0 hg1 hsz hx0 hr0 hcr hpk hcl hvals hkr
  obtain ⟨D, hD⟩ : ∃ D, D = insX vals kr x.xd := ⟨_, rfl⟩
  rw [← hD]
  have HD := Lib.hid hD
  clear hD
  obtain ⟨⟨name, CA, cc, tc, PA, pc, pk⟩, XA, xc, cols, EA, ec, ents⟩ := x
  unfold Ix.val
  unfold Ix.cells at HW ⊢
  simp only [Tbl.val, Ix.val, Ix.cells] at HBX HCK HCR HKY HHK HCN HPR HW HG ⊢
  go_enter Try.func17, Try.ntmps17
  go_upto_region 1 with fail
  rw [← HW.out]
  obtain ⟨x0, x1, x2, x3, x4⟩ := HBX.out W0 (Below.refl _ _)
  go_wp2_with fail
  refine HCK.out.mono ?_
  rintro e w1 ⟨rfl, hb1⟩
  clear x0 x1 x2 x3 x4 HCK
  obtain ⟨x0, x1, x2, x3, x4⟩ := HBX.out w1 hb1
  have HB1 := Lib.hid hb1
  clear hb1
  go_wp2_with fail
  refine (HCR.out w1 HB1.out).mono ?_
  rintro e w2 ⟨rfl, hb2⟩
  have HB2 := Lib.hid (HB1.out.trans (hb2.mono HB1.out.size))
  clear x0 x1 x2 x3 x4 hb2 HCR
  obtain ⟨x0, x1, x2, x3, x4⟩ := HBX.out w2 HB2.out
  go_wp2_with fail
  refine (HKY.out w2 HB2.out).mono ?_
  rintro e w3 ⟨v3, rfl, ho3, hb3⟩
  obtain ⟨kA, kn, kc, rfl, hkn⟩ : ∃ A n c, v3 = .slice A n c ∧ kr.length = n := by
    obtain ⟨A, c, hv, -, -⟩ := ho3.form
    exact ⟨A, _, c, hv, rfl⟩
  subst hkn
  have HB3 := Lib.hid (HB2.out.trans (hb3.mono HB2.out.size))
  have hk3 : KOk (· < w3.heap.size) w3 ⟨kA, kc, kr⟩ := ⟨(ho3.elems valLay.len rfl).more fun g hg => (Own.lt ho3 g hg).2, hkl⟩
  have HK3 := Lib.hid hk3
  clear x0 x1 x2 x3 x4 hb3 ho3 hk3 HKY
  obtain ⟨x0, x1, x2, x3, x4⟩ := HBX.out w3 HB3.out
  go_wp2_with fail
  refine (HHK.out w3 ⟨kA, kc, kr⟩ HB3.out HK3.out rfl).mono ?_
  rintro e w4 ⟨rfl, hb4⟩
  have HB4 := Lib.hid (HB3.out.trans (hb4.mono HB3.out.size))
  have HK4 := Lib.hid (HK3.out.on hb4)
  clear x0 x1 x2 x3 x4 hb4 HHK HK3
  obtain ⟨x0, x1, x2, x3, x4⟩ := HBX.out w4 HB4.out
  go_wp2_with fail
  refine (HCN.out w4 HB4.out).mono ?_
  rintro e w5 ⟨y, R, rfl, hown, hlo5, hlike, hb5⟩
  clear x0 x1 x2 x3 x4 HCN
  -- the copy in its variable
  have hlt9 : ∀ g, R g → g < w5.heap.size := hown.lt
  obtain ⟨W9, hW9⟩ : ∃ W9, W9 = w5.alloc (.cells y.cells 30) := ⟨_, rfl⟩
  have hb9 : Below w5.heap.size w5 W9 := by rw [hW9]; exact (Below.refl _ _).alloc (Nat.le_refl _) _
  have hcb : CB w4.heap.size w5.heap.size W9 y R := ⟨by rw [hW9]; exact heap_alloc_new w5 _, hown.below hb9, fun h => by have := hlt9 _ h; omega, hb5.size, fun e => by have := (Own.lt hown.ents _ e).2; omega, fun e he e2 => by have := (Own.lt (hown.keys e he).1 _ e2).2; omega⟩
  have hb49 : Below w4.heap.size w4 W9 := hb5.trans (hb9.mono hb5.size)
  have HCB := Lib.hid hcb
  have HB49 := Lib.hid hb49
  have HB9 := Lib.hid (HB4.out.trans (hb49.mono HB4.out.size))
  have HLK := Lib.hid hlike
  have HLO := Lib.hid hlo5
  have HW9 := Lib.hid hW9
  clear hlo5 hlt9 hb9 hcb hb49 hlike hown hb5 hW9
  obtain ⟨⟨n9, CA9, cc9, tc9, PA9, pc9, pk9⟩, XA9, xc9, cols9, EA9, ec9, ents9⟩ := y
  unfold Ix.val
  unfold Ix.cells at HW9 ⊢
  simp only at HW9 ⊢
  go_upto_region 11 with fail
  rw [← HW9.out]
  obtain ⟨x0, x1, x2, x3, x4⟩ := HBX.out W9 HB9.out
  go_wp2_with fail
  refine (HPR.out W9 HB9.out).mono ?_
  rintro e w10 ⟨v10, rfl, ho10, hb10⟩
  obtain ⟨vA, vn, vc, rfl, hvn⟩ : ∃ A n c, v10 = .slice A n c ∧ vals.length = n := by
    obtain ⟨A, c, hv, -, -⟩ := ho10.form
    exact ⟨A, _, c, hv, rfl⟩
  subst hvn
  clear x0 x1 x2 x3 x4 HPR
  have hcb10 := HCB.out.below hb10
  obtain ⟨z0, z1, z2, z3, z4⟩ := Ix.box hcb10.box rfl
  simp only at z0 z1 z2 z3 z4
  have HV10 := Lib.hid (And.intro ho10 (And.intro hb10 hcb10))
  have hsr : ents9.Pairwise fun a b => rl a.vals.row b.vals.row := by
    have h1 := HV.out.srt.vals
    have h2 := HLK.out.xd
    unfold Ix.xd at h1 h2
    simp only at h1 h2
    rw [← h2] at h1
    exact (List.pairwise_map (R := fun a b : XE => rl a.1 b.1) (f := EntM.xe)).1 h1
  have hel9 : ents9.length ≤ 100 := by
    have h1 := HV.out.sz.ents
    have h2 := congrArg List.length HLK.out.xd
    unfold Ix.xd at h2
    rw [List.length_map, List.length_map] at h2
    simp only at h1 h2
    omega
  have HSR := Lib.hid (searchW ⟨⟨n9, CA9, cc9, tc9, PA9, pc9, pk9⟩, XA9, xc9, cols9, EA9, ec9, ents9⟩ vA vc vals w10 hcb10.own.ok hsr ((ho10.elems valLay.len rfl).more fun g hg => (Own.lt ho10 g hg).2) (by show ents9.length ≤ 1000; omega))
  unfold Ix.val Ix.cells at HSR
  simp only at HSR
  have HEL := Lib.hid hel9
  clear ho10 hb10 hcb10 hsr hel9
  go_wp2_with fail
  refine HSR.out.mono ?_
  rintro e w11 ⟨i, fnd, rfl, hat, hb11⟩
  clear z0 z1 z2 z3 z4 HSR
  have hcb11 := HV10.out.2.2.below hb11
  have hatx : At (fun x : XE => x.1) (ents9.map EntM.xe) vals i fnd := At.mapTo (row' := fun x : XE => x.1) (f := EntM.xe) (fun a => rfl) hat
  have hxd9 : ents9.map EntM.xe = ents.map EntM.xe := HLK.out.xd
  have HDD : Hid (D = insX vals kr (ents9.map EntM.xe)) := Lib.hid (by rw [hxd9]; exact HD.out)
  have HKS : Hid (∀ e ∈ ents9, (e.keys.map Key.row).Pairwise rl ∧ e.keys.length ≤ 100) := Lib.hid fun e he => by
    have h1 : e.xe ∈ ents.map EntM.xe := by rw [← hxd9]; exact List.mem_map_of_mem he
    refine ⟨(HV.out.srt.keys _ h1).2, ?_⟩
    obtain ⟨e', he', hee⟩ := List.mem_map.1 h1
    have h2 := HV.out.sz.keys e' he'
    have h3 := congrArg (fun q : XE => q.2.length) hee
    simp only [EntM.xe, List.length_map] at h3
    omega
  have HCB11 := Lib.hid (And.intro hcb11 hb11)
  have HAT := Lib.hid (And.intro hat hatx)
  have hile : i ≤ ents9.length := hat.le
  clear hcb11 hb11 hat hatx hxd9
  go_upto_if 50 with fail
  go_cut [] from 49 to 58 (MidPost w4.heap.size w5.heap.size w11 D kr i ⟨⟨name, CA, cc, tc, PA, pc, pk⟩, XA, xc, cols, EA, ec, ents⟩)
  case first =>
    cases fnd with
    | true =>
      have HF : Hid (MidPost w4.heap.size w5.heap.size w11 D kr i ⟨⟨name, CA, cc, tc, PA, pc, pk⟩, XA, xc, cols, EA, ec, ents⟩ w11) := Lib.hid (by
        obtain ⟨e, q, h1, h2⟩ := HAT.out.1.eq.1 rfl
        obtain ⟨e', q', h3, h4, h5⟩ := insX_old (k := kr) HAT.out.2
        have hei : ents9[i]? = some e := by
          have := congrArg (fun l => l[0]?) h1
          simpa using this
        have hm := List.mem_of_getElem? hei
        have he' : e' = e.xe := by
          rw [← List.map_drop, h1] at h3
          injection h3 with h3 _
          exact h3.symm
        refine ⟨_, e, R, ⟨HCB11.out.1, HLO.out, hei, ?_, (HKS.out e hm).1, (HKS.out e hm).2, (by have := HEL.out; show ents9.length ≤ 101; omega), HLK.out.cols, HLK.out.tc, HLK.out.pk, HLK.out.xcap⟩, Below.refl _ _⟩
        rw [HDD.out, h5, he', h2]
        exact set_at _ h3)
      clear hile
      go_wp2_with fail
      go_meet
      exact HF.out
    | false =>
      have HI : Hid (Calls Try.prog 32 #[.slice EA9 ents9.length ec9, .int .i64 i, .slice (some ⟨w11.heap.size, 0, none⟩) 1 1] (w11.alloc (.cells #[.slice vA vals.length vc, .slice none 0 0] 59)) fun e w' => ∃ A' n' c', e = .returned (.slice A' n' c') ∧ w'.cell? ⟨w5.heap.size, 4, none⟩ = some (.slice EA9 ents9.length ec9) ∧ w'.frozen? ⟨w5.heap.size, 4, none⟩ = false ∧ Hid (MidPost w4.heap.size w5.heap.size w11 D kr i ⟨⟨name, CA, cc, tc, PA, pc, pk⟩, XA, xc, cols, EA, ec, ents⟩ (w'.setCell ⟨w5.heap.size, 4, none⟩ (.slice A' n' c')))) := Lib.hid (by
        obtain ⟨o, ho⟩ : ∃ o : Obj, o = .cells #[.slice vA vals.length vc, .slice none 0 0] 59 := ⟨_, rfl⟩
        rw [← ho]
        have hba : Below w11.heap.size w11 (w11.alloc o) := (Below.refl _ _).alloc (Nat.le_refl _) o
        have hcb := HCB11.out.1.below hba
        obtain ⟨ho10, hb10, hcb10⟩ := HV10.out
        have hb1011 := HCB11.out.2
        obtain ⟨e0, he0⟩ : ∃ e0 : EntM, e0 = ⟨⟨vA, vc, vals⟩, none, 0, []⟩ := ⟨_, rfl⟩
        have hsz9 := HCB.out.own.ents
        have hbl : ∀ g, (Value.slice vA vals.length vc).ownBlock = some g → W9.heap.size ≤ g ∧ g < w10.heap.size := fun g hg => Own.lt ho10 g hg
        have h10le : w10.heap.size ≤ w11.heap.size := hb1011.size
        have hW9l : w5.heap.size < W9.heap.size := HCB.out.lt
        have hhne : (Value.slice EA9 ents9.length ec9).ownBlock ≠ some w11.heap.size := fun e => by
          have := (Own.lt HCB.out.own.ents _ e).2
          have := hb10.size
          omega
        refine (insEntM EA9 ec9 ents9 i e0 (w11.alloc o) (gv := w11.heap.size) (u := #[.slice vA vals.length vc, .slice none 0 0]) (hcb.own.ents.mono (Nat.zero_le _)) hile (by rw [← ho]; exact heap_alloc_new w11 o) (by rw [he0]; rfl) hhne (by have := HEL.out; omega)).mono ?_
        rintro e w' ⟨v', rfl, hown', hext⟩
        obtain ⟨A', c', hv', k1, k2, k3, k4⟩ := cs_ents (R2 := fun g => (Value.slice vA vals.length vc).ownBlock = some g) hcb hext hown' (fun g hg => by
            have h1 := hbl g hg
            have h2 : w11.heap.size < (w11.alloc o).heap.size := by simp
            refine ⟨by omega, by omega, fun e => ?_, fun y hy e => ?_⟩
            · have := (Own.lt HCB.out.own.ents g e).2; omega
            · have := (Own.lt (HCB.out.own.keys y hy).1 g e).2; omega) (fun y hy => by
            rcases List.mem_append.1 hy with h | h
            · exact .inl (List.mem_of_mem_take h)
            · rcases List.mem_cons.1 h with h | h
              · rw [h, he0]
                refine .inr ⟨rfl, rfl, rfl, ⟨?_, hvl⟩⟩
                exact (((ho10.below hb1011).below hba).elems valLay.len rfl)
              · exact .inl (List.mem_of_mem_drop h)) (sep_ins hcb.own.sep (fun a => ⟨(fun g _ e => by rw [he0] at e; cases e), (fun g e => by rw [he0] at e; cases e)⟩) i)
        subst hv'
        have hlen : (ents9.take i ++ e0 :: ents9.drop i).length = ents9.length + 1 := by simp; omega
        refine ⟨A', _, c', rfl, k1, k2, Lib.hid ⟨_, e0, _, ⟨k3, (fun g hg => hg.elim (HLO.out g) fun h => by have := (hbl g h).1; have := HCB.out.hbx; omega), ?_, ?_, ?_, ?_, ?_, HLK.out.cols, HLK.out.tc, HLK.out.pk, HLK.out.xcap⟩, (hba.mono (by have := HCB11.out.1.lt; have := HCB11.out.1.hbx; omega)).trans k4⟩⟩
        · show (ents9.take i ++ e0 :: ents9.drop i)[i]? = some e0
          rw [List.getElem?_append_right (by rw [List.length_take]; omega), List.length_take, Nat.min_eq_left hile, Nat.sub_self]
          rfl
        · show ((ents9.take i ++ e0 :: ents9.drop i).map EntM.xe).set i _ = D
          rw [HDD.out, insX_new HAT.out.2, List.map_append, List.map_take, List.map_cons, List.map_drop]
          rw [List.set_append_right _ _ (by rw [List.length_take]; omega), List.length_take, List.length_map, Nat.min_eq_left hile, Nat.sub_self, List.set_cons_zero, he0]
          rfl
        · rw [he0]; exact List.Pairwise.nil
        · rw [he0]; exact Nat.zero_le _
        · have := HEL.out; show (ents9.take i ++ e0 :: ents9.drop i).length ≤ 101; omega)
      have z4 := (Ix.box HCB11.out.1.box rfl).2.2.2.2
      simp only at z4
      clear hile
      go_wp2_with fail
      refine HI.out.mono ?_
      rintro e w' ⟨A', n', c', rfl, k1, k2, HF⟩
      clear z4 HI
      go_wp2_with fail
      go_meet
      exact HF.out
  case rest =>
    obtain ⟨x2, e2, R2, hmid, hbc⟩ := hcut
    obtain ⟨⟨n2, CA2, cc2, tc2, PA2, pc2, pk2⟩, XA2, xc2, cols2, EA2, ec2, ents2⟩ := x2
    obtain ⟨⟨evA, evc, evr⟩, eKA, ekc, eks⟩ := e2
    have hb4c : Below w4.heap.size w4 wc := ((HB49.out.trans (HV10.out.2.1.mono (HB49.out.size))).trans (HCB11.out.2.mono (Nat.le_trans HB49.out.size HV10.out.2.1.size))).trans hbc
    have hin : i < ents2.length := (List.getElem?_eq_some_iff.1 hmid.at_).1
    have hei : ents2[i] = ⟨⟨evA, evc, evr⟩, eKA, ekc, eks⟩ := by
      have h := hmid.at_
      simp only at h
      rw [List.getElem?_eq_getElem hin] at h
      exact Option.some.inj h
    have hme : (⟨⟨evA, evc, evr⟩, eKA, ekc, eks⟩ : EntM) ∈ ents2 := hei ▸ List.getElem_mem hin
    have hok := hmid.cb.own.ok
    obtain ⟨eb, ecap, ecur, hev, -, -, -, -, -, -⟩ := hmid.cb.own.ents.open_ (by show 0 < ents2.length; omega)
    injection hev with hEA _ _
    obtain ⟨eb', eo', hEA', hebl, -, e1⟩ := hok.ents.entM hin
    simp only at hEA hEA'
    rw [hEA] at hEA'
    injection hEA' with hEA'
    injection hEA' with q1 q2
    subst q1 q2
    rw [hei] at e1
    simp only [Nat.zero_add] at e1
    have z4 := (Ix.box hmid.cb.box rfl).2.2.2.2
    simp only at z4
    have hk4 := HK4.out.on hb4c
    have HBS := Lib.hid (bsKeys eKA ekc eks kA kc kr wc _ _ ((hok.ent _ hme).keys) (fun _ h => h) (fun _ h => h) ((hok.ent _ hme).key) ((List.pairwise_map (R := rl) (f := Key.row)).1 hmid.srt) hk4.el (by have := hmid.kl; simp only at this; omega))
    have HMID := Lib.hid hmid
    have HB4C := Lib.hid hb4c
    have HK4C := Lib.hid hk4
    have hil : (i : Int) < (ents2.length : Int) := by omega
    have hi0 : (0 : Int) ≤ (i : Int) := by omega
    subst hEA
    clear hmid hbc hb4c hei hme hok hk4 hile
    go_wp2_with fail
    refine HBS.out.mono ?_
    rintro e w13 ⟨k, fnd2, rfl, hat2, hb13⟩
    have hcb13 := HMID.out.cb.below hb13
    have hk13 := HK4C.out.on hb13
    have y4 := (Ix.box hcb13.box rfl).2.2.2.2
    simp only at y4
    have y1 := (hb13.cell (p := ⟨eb, i * 2 + 1, none⟩) hebl).trans e1
    have hkle : k ≤ eks.length := hat2.le
    have hk100 : eks.length ≤ 100 := HMID.out.kl
    have hb9l : w5.heap.size < w13.heap.size := hcb13.lt
    have hebl13 : eb < w13.heap.size := Nat.lt_of_lt_of_le hebl hb13.size
    have HCN : Hid (Calls Try.prog 35 #[.slice kA kr.length kc] w13.drew fun e w14 => ∃ A1 c1, e = .returned (.slice A1 kr.length c1) ∧ w14.cell? ⟨w5.heap.size, 4, none⟩ = some (.slice (some ⟨eb, 0, none⟩) ents2.length ec2) ∧ w14.cell? ⟨eb, i * 2 + 1, none⟩ = some (.slice eKA eks.length ekc) ∧ (∀ o, (w14.alloc o).cell? ⟨w5.heap.size, 4, none⟩ = some (.slice (some ⟨eb, 0, none⟩) ents2.length ec2)) ∧ (∀ o, (w14.alloc o).cell? ⟨eb, i * 2 + 1, none⟩ = some (.slice eKA eks.length ekc))
        ∧ Hid (Calls Try.prog 34 #[.slice eKA eks.length ekc, .int .i64 k, .slice (some ⟨w14.heap.size, 0, none⟩) 1 1] (w14.alloc (.cells #[.slice A1 kr.length c1] 37)) fun e w15 => ∃ A' n' c', e = .returned (.slice A' n' c') ∧ w15.cell? ⟨w5.heap.size, 4, none⟩ = some (.slice (some ⟨eb, 0, none⟩) ents2.length ec2) ∧ (∃ q, w15.cell? ⟨eb, i * 2 + 1, none⟩ = some q) ∧ w15.frozen? ⟨eb, i * 2 + 1, none⟩ = false
          ∧ Hid (FinPost w4.heap.size w5.heap.size wc D ⟨⟨name, CA, cc, tc, PA, pc, pk⟩, XA, xc, cols, EA, ec, ents⟩ (w15.setCell ⟨eb, i * 2 + 1, none⟩ (.slice A' n' c'))))) := Lib.hid (by
      have hbd : Below w13.heap.size w13 w13.drew := (Below.refl _ _).drew
      have hk' := hk13.on hbd
      refine (cloneRow kA kr.length kc kr w13.drew _ hk'.el (fun _ h => h) rfl (by omega)).mono ?_
      rintro e w14 ⟨v, rfl, ho14, hb14⟩
      obtain ⟨A1, c1, rfl, -, -⟩ := ho14.form
      have hb' : Below w13.heap.size w13 w14 := hbd.trans hb14
      have hcb14 := hcb13.below hb'
      refine ⟨A1, c1, rfl, (hb'.cell (p := ⟨w5.heap.size, 4, none⟩) hb9l).trans y4, (hb'.cell (p := ⟨eb, i * 2 + 1, none⟩) hebl13).trans y1, fun o => ((hb'.alloc hb'.size o).cell (p := ⟨w5.heap.size, 4, none⟩) hb9l).trans y4, fun o => ((hb'.alloc hb'.size o).cell (p := ⟨eb, i * 2 + 1, none⟩) hebl13).trans y1, Lib.hid ?_⟩
      obtain ⟨o, ho⟩ : ∃ o : Obj, o = .cells #[.slice A1 kr.length c1] 37 := ⟨_, rfl⟩
      rw [← ho]
      have hba : Below w14.heap.size w14 (w14.alloc o) := (Below.refl _ _).alloc (Nat.le_refl _) o
      have hcb := hcb14.below hba
      have hat13 := HMID.out.at_
      simp only at hat13
      have hmem := List.mem_of_getElem? hat13
      have hbl : ∀ g, (Value.slice A1 kr.length c1).ownBlock = some g → w13.heap.size ≤ g ∧ g < w14.heap.size := fun g hg => Own.lt ho14 g hg
      have hko : Own 1 Key.cs 37 w4.heap.size (w14.alloc o) (.slice eKA eks.length ekc) eks := (hcb.own.keys _ hmem).1
      have hhne : (Value.slice eKA eks.length ekc).ownBlock ≠ some w14.heap.size := fun e => by
        have := (Own.lt ((hcb14.own.keys _ hmem).1) _ e).2
        omega
      refine (insKey eKA ekc eks k ⟨A1, c1, kr⟩ (w14.alloc o) (gv := w14.heap.size) (u := #[.slice A1 kr.length c1]) (hko.mono (Nat.zero_le _)) hkle (by rw [← ho]; exact heap_alloc_new w14 o) rfl hhne (by omega)).mono ?_
      rintro e w15 ⟨v', rfl, hown', hext⟩
      obtain ⟨A', c', eb2, hv', hEA2, k1, k2, k3, k4⟩ := cs_keys (R2 := fun g => (Value.slice A1 kr.length c1).ownBlock = some g) hcb hat13 hext hown' (fun g hg => by
          have h1 := hbl g hg
          have h2 : w14.heap.size < (w14.alloc o).heap.size := by simp
          have h3 := hb'.size
          refine ⟨by omega, by omega, fun e => ?_, fun y hy e => ?_⟩
          · have := (Own.lt hcb13.own.ents g e).2; omega
          · have := (Own.lt (hcb13.own.keys y hy).1 g e).2; omega) (fun y hy => by
          rcases List.mem_append.1 hy with h | h
          · exact .inl (List.mem_of_mem_take h)
          · rcases List.mem_cons.1 h with h | h
            · rw [h]
              exact .inr ⟨((ho14.below hba).elems valLay.len rfl), hkl⟩
            · exact .inl (List.mem_of_mem_drop h))
      simp only at hEA2
      injection hEA2 with hEA2
      injection hEA2 with hEA2
      subst hEA2
      have hb4 := (Ix.box (w' := w15) (g := w5.heap.size) (x := ⟨⟨n2, CA2, cc2, tc2, PA2, pc2, pk2⟩, XA2, xc2, cols2, some ⟨eb, 0, none⟩, ec2, ents2⟩) (w := w14.alloc o) hcb.box (hext.grown.block _ hcb.lt (fun e => hcb.nk _ hmem e.symm))).2.2.2.2
      simp only at hb4
      subst hv'
      refine ⟨A', _, c', rfl, hb4, ⟨_, k1⟩, k2, Lib.hid ⟨_, _, ⟨k3, fun g hg => hg.elim (HMID.out.lo g) fun h => ?_, ?_, HMID.out.cols, HMID.out.tc, HMID.out.pk, HMID.out.xcap⟩, ?_⟩⟩
      · have := (hbl g h).1
        have := hcb13.hbx
        omega
      · rw [← HMID.out.data]
        show (ents2.set i _).map EntM.xe = (ents2.map EntM.xe).set i _
        rw [List.map_set]
        congr 1
        show (evr, (eks.take k ++ (⟨A1, c1, kr⟩ : Key) :: eks.drop k).map Key.row) = (evr, insL kr (eks.map Key.row))
        rw [insL_at (At.mapTo (row' := fun x : Row => x) (f := Key.row) (fun a => rfl) hat2), List.map_append, List.map_take, List.map_cons, List.map_drop]
      · have hbase : w4.heap.size ≤ w13.heap.size := Nat.le_trans (HMID.out.cb.hbx) (by omega)
        have h1 : Below w4.heap.size wc w13 := hb13.mono (Nat.le_trans HMID.out.cb.hbx (Nat.le_of_lt HMID.out.cb.lt))
        exact ((h1.trans (hb'.mono hbase)).trans (hba.mono (Nat.le_trans hbase hb'.size))).trans k4)
    have HB13 := Lib.hid hb13
    clear hcb13 hk13 hb13 hat2 hkle hk100 hb9l hebl13 z4 e1 hebl hin
    go_upto_region 16 with fail
    go_cut [] from 70 to 85 (FinPost w4.heap.size w5.heap.size wc D ⟨⟨name, CA, cc, tc, PA, pc, pk⟩, XA, xc, cols, EA, ec, ents⟩)
    case first =>
      go_region_law (first
        | (go_simp; go_at_call 35; refine HCN.out.mono ?_; rintro e w14 ⟨A1, c1, rfl, p1, p2, p3, p4, HIN⟩)
        | (go_simp; go_at_call 34; refine HIN.out.mono ?_; rintro e w15 ⟨A', n', c', rfl, s1, ⟨q, s2⟩, s3, HF⟩))
      all_goals (go_wp2_with fail; go_meet; exact HF.out)
    case rest =>
      obtain ⟨x3, R3, hfin, hb⟩ := hcut
      clear y4 y1
      have hbw : Below w4.heap.size w4 wc := HB4C.out.trans hb
      have hsz2 := HG.out.2.2
      have hg1 : wc.heap[w.heap.size + 1]? = some (.cells #[.string ⟨#[]⟩, .slice none 0 0, .slice none 0 0, .slice none 0 0, .slice none 0 0] 30 (0, 0)) := (hbw.block _ (by have := HB4.out.size; omega)).trans ((HB4.out.block _ (by omega)).trans HG.out.2.1)
      obtain ⟨⟨n', CA', cc', tc', PA', pc', pk'⟩, XA', xc', cols', EA', ec', ents'⟩ := x3
      obtain ⟨z0, z1, z2, z3, z4⟩ := Ix.box hfin.cb.box rfl
      simp only at z0 z1 z2 z3 z4
      have n0 := cell_of_row _ _ 0 _ _ _ hg1
      have n1 := cell_of_row _ _ 1 _ _ _ hg1
      have n2 := cell_of_row _ _ 2 _ _ _ hg1
      have n3 := cell_of_row _ _ 3 _ _ _ hg1
      have n4 := cell_of_row _ _ 4 _ _ _ hg1
      have f0 := frozen_of_row _ _ 0 _ _ hg1
      have f1 := frozen_of_row _ _ 1 _ _ hg1
      have f2 := frozen_of_row _ _ 2 _ _ hg1
      have f3 := frozen_of_row _ _ 3 _ _ hg1
      have f4 := frozen_of_row _ _ 4 _ _ hg1
      have HF : Hid (InPost w ⟨⟨name, CA, cc, tc, PA, pc, pk⟩, XA, xc, cols, EA, ec, ents⟩ D (.returned (.tuple #[Ix.val ⟨⟨n', CA', cc', tc', PA', pc', pk'⟩, XA', xc', cols', EA', ec', ents'⟩, .int .i64 0])) (((((wc.setCell ⟨w.heap.size + 1, 0, none⟩ (.string n')).setCell ⟨w.heap.size + 1, 1, none⟩ (.slice CA' tc'.length cc')).setCell ⟨w.heap.size + 1, 2, none⟩ (.slice PA' pk'.length pc')).setCell ⟨w.heap.size + 1, 3, none⟩ (.slice XA' cols'.length xc')).setCell ⟨w.heap.size + 1, 4, none⟩ (.slice EA' ents'.length ec'))
          ∧ (((((wc.setCell ⟨w.heap.size + 1, 0, none⟩ (.string n')).setCell ⟨w.heap.size + 1, 1, none⟩ (.slice CA' tc'.length cc')).setCell ⟨w.heap.size + 1, 2, none⟩ (.slice PA' pk'.length pc')).setCell ⟨w.heap.size + 1, 3, none⟩ (.slice XA' cols'.length xc')).setCell ⟨w.heap.size + 1, 4, none⟩ (.slice EA' ents'.length ec')).heap[w.heap.size + 1]? = some (.cells (Ix.cells ⟨⟨n', CA', cc', tc', PA', pc', pk'⟩, XA', xc', cols', EA', ec', ents'⟩) 30 (0, 0))) := Lib.hid (by
        have h4 : w.heap.size + 1 < w4.heap.size := by have := HB4.out.size; omega
        have hR : ¬ R3 (w.heap.size + 1) := fun h => by have := hfin.lo _ h; omega
        have hown := ((((hfin.cb.own.setCell (p := ⟨w.heap.size + 1, 0, none⟩) h4 hR (.string n')).setCell (p := ⟨w.heap.size + 1, 1, none⟩) h4 hR (.slice CA' tc'.length cc')).setCell (p := ⟨w.heap.size + 1, 2, none⟩) h4 hR (.slice PA' pk'.length pc')).setCell (p := ⟨w.heap.size + 1, 3, none⟩) h4 hR (.slice XA' cols'.length xc')).setCell (p := ⟨w.heap.size + 1, 4, none⟩) h4 hR (.slice EA' ents'.length ec')
        refine ⟨⟨_, rfl, (hown.okLo hfin.lo).more (fun g hg => ⟨by omega, hg.2⟩), hfin.data, hfin.cols, hfin.tc, hfin.pk, hfin.xcap, ?_⟩, ?_⟩
        · have hbww : Below w.heap.size w wc := (HG.out.1.trans (HB4.out.mono HG.out.1.size)).trans (hbw.mono (by omega))
          exact ((((hbww.setCell (p := ⟨w.heap.size + 1, 0, none⟩) (Nat.le_succ _) _).setCell (p := ⟨w.heap.size + 1, 1, none⟩) (Nat.le_succ _) _).setCell (p := ⟨w.heap.size + 1, 2, none⟩) (Nat.le_succ _) _).setCell (p := ⟨w.heap.size + 1, 3, none⟩) (Nat.le_succ _) _).setCell (p := ⟨w.heap.size + 1, 4, none⟩) (Nat.le_succ _) _
        · rw [heap_setCell_at (heap_setCell_at (heap_setCell_at (heap_setCell_at (heap_setCell_at hg1 _) _) _) _)]
          rfl)
      clear hg1 hfin hb hbw
      go_wp2_with fail
      refine bodyPost_ret (ret_ins _ rfl rfl HF.out.2) rfl ?_
      exact HF.out.1
end Go.Proofs.Ytakbabkcidioaaa
