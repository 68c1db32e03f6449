/-
  The walk of secondary.Delete, where the row is there.
-/
import Derived.Test.YtakbabkcidioaaaYf
import Derived.Test.YtakbabkcidioaaaYu
import Derived.Deep.RegionLaw
namespace Go.Proofs.Ytakbabkcidioaaa
open Go.RowKit Go.Sort

/-- Behind the first deletion. -/
def DMid (base b9 : Nat) (W : World) (D : XD) (i : Nat) (ks : List Row) (x : Ix) (wx : World) : Prop := ∃ x2 R2 e2, CB base b9 wx x2 R2 ∧ (∀ g, R2 g → base ≤ g) ∧ x2.xd = D ∧ x2.ents[i]? = some e2 ∧ e2.keys.map Key.row = ks ∧ x2.ents.length ≤ 100 ∧ x2.cols = x.cols ∧ x2.t.cols = x.t.cols ∧ x2.t.pk = x.t.pk ∧ x2.cols.length ≤ x2.xc ∧ Below base W wx
theorem ret_del {x : Ix} {g : Nat} {w : World} (tmps : Array Value) (hp : tmps.getD 4 undef = .pointer (some ⟨g, 0, none⟩)) (h5 : tmps.getD 5 undef = .int .i64 0) (hg : w.heap[g]? = some (.cells x.cells 30 (0, 0))) :
    (results Try.f18 tmps).run Try.prog w = .ok (.tuple #[x.val, .int .i64 0]) w :=
  results_cell_tmp (P := Try.prog) Try.results18 tmps w g 30 _ (0, 0) _ _ hp h5 hg Try.underlying30 rfl (by kernel_rfl)
theorem take_set {α : Type} : ∀ {xs : List α} {i : Nat} {y : α}, (xs.set i y).take i ++ (xs.set i y).drop (i + 1) = xs.take i ++ xs.drop (i + 1)
  | [], i, y => by simp
  | x :: xs, 0, y => rfl
  | x :: xs, i + 1, y => by
    show x :: ((xs.set i y).take i ++ (xs.set i y).drop (i + 1)) = x :: (xs.take i ++ xs.drop (i + 1))
    rw [take_set]
theorem mem_cut {α : Type} {xs : List α} {i : Nat} {y : α} (h : y ∈ xs.take i ++ xs.drop (i + 1)) : y ∈ xs := by
  rcases List.mem_append.1 h with h | h
  · exact List.mem_of_mem_take h
  · exact List.mem_of_mem_drop h
theorem cut_sub {α : Type} (xs : List α) (i : Nat) : (xs.take i ++ xs.drop (i + 1)).Sublist xs := by
  conv => rhs; rw [← List.take_append_drop i xs]
  exact (List.Sublist.refl _).append (List.drop_sublist_drop_left xs (Nat.le_succ i))

set_option maxRecDepth 100000 in
set_option maxHeartbeats 4000000 in
theorem deleteW (x : Ix) (A : Option Addr) (c : Nat) (r : Row) (w : World) (hx : IOk (· < w.heap.size) w x) (hv : XVal x) (hr : Elems 3 Val.cs w (· < w.heap.size) A r) (hrow : RowOk x.t r) (hpk : x.t.pk.length ≤ 12) (hcl : x.cols.length ≤ 12) (hm : (keyOf x.cols r, keyOf x.t.pk r) ∈ flatX x.xd) :
    Calls Try.prog 18 #[x.val, .slice A r.length c] w (InPost w x (delX (keyOf x.cols r) (keyOf x.t.pk r) x.xd)) := by
  obtain ⟨W0, hW0⟩ : ∃ W0, W0 = (w.alloc (.cells x.cells 30)).alloc (.cells #[.string ⟨#[]⟩, .slice none 0 0, .slice none 0 0, .slice none 0 0, .slice none 0 0] 30) := ⟨_, rfl⟩
  have hbW : Below w.heap.size w W0 := by rw [hW0]; exact ((Below.refl _ _).alloc (Nat.le_refl _) _).alloc (le_size1 (Nat.le_refl _) _) _
  have hg0 : W0.heap[w.heap.size]? = some (.cells x.cells 30 (0, 0)) := by rw [hW0, Below.heap_alloc _ _ _ (by simp)]; exact heap_alloc_new w _
  have hg1 : W0.heap[w.heap.size + 1]? = some (.cells #[.string ⟨#[]⟩, .slice none 0 0, .slice none 0 0, .slice none 0 0, .slice none 0 0] 30 (0, 0)) := by rw [hW0]; exact alloc2_at w _ _
  have hsz : w.heap.size + 2 = W0.heap.size := by rw [hW0]; simp
  have hx0 := hx.on hbW
  have hr0 := hr.on hbW
  have HBX : Hid (∀ W, Below W0.heap.size W0 W → W.cell? ⟨w.heap.size, 0, none⟩ = some (.string x.t.name) ∧ W.cell? ⟨w.heap.size, 1, none⟩ = some (.slice x.t.CA x.t.cols.length x.t.cc) ∧ W.cell? ⟨w.heap.size, 2, none⟩ = some (.slice x.t.PA x.t.pk.length x.t.pc) ∧ W.cell? ⟨w.heap.size, 3, none⟩ = some (.slice x.XA x.cols.length x.xc) ∧ W.cell? ⟨w.heap.size, 4, none⟩ = some (.slice x.EA x.ents.length x.ec)) := Lib.hid fun W hW => Ix.box (w' := W) hg0 (hW.block _ (by omega))
  have HCK := Lib.hid (checkW x W0 hx0 hv)
  have HCR := Lib.hid fun (W : World) (hW : Below W0.heap.size W0 W) => secCheckRow x.t A c r W (hx0.on hW).t (hr0.on hW) (by have := hv.tab.ncols; omega) hrow
  have HLC := Lib.hid fun (W : World) (hW : Below W0.heap.size W0 W) => locateW x A c r W (hx0.on hW) hv (hr0.on hW) hrow hpk hcl hm
  have HCN := Lib.hid fun (W : World) (hW : Below W0.heap.size W0 W) => cloneIx x W (hx0.on hW) hv.sz
  have HV := Lib.hid hv
  have HW := Lib.hid hW0
  have HG := Lib.hid (And.intro hbW (And.intro hg1 hsz))
  obtain ⟨vals, hvals⟩ : ∃ vals, vals = keyOf x.cols r := ⟨_, rfl⟩
  obtain ⟨kr, hkr⟩ : ∃ kr, kr = keyOf x.t.pk r := ⟨_, rfl⟩
  rw [← hvals, ← hkr]
  rw [← hvals, ← hkr] at HLC
  clear hx hv hr hrow hW0 hbW hg0 hg1 hsz hx0 hr0 hpk hcl hvals hkr hm
  generalize r.length = rn at *
  obtain ⟨D, hD⟩ : ∃ D, D = delX vals kr x.xd := ⟨_, rfl⟩
  rw [← hD]
  have HD := Lib.hid hD
  clear hD
  obtain ⟨⟨name, CA, cc, tc, PA, pc, pk⟩, XA, xc, cols, EA, ec, ents⟩ := x
  unfold Ix.val
  unfold Ix.cells at HW ⊢
  simp only [Tbl.val, Ix.val, Ix.cells] at HBX HCK HCR HLC HCN HW HG ⊢
  go_enter Try.func18, Try.ntmps18
  go_upto_region 1 with fail
  rw [← HW.out]
  obtain ⟨x0, x1, x2, x3, x4⟩ := HBX.out W0 (Below.refl _ _)
  go_wp2_with fail
  refine HCK.out.mono ?_
  rintro e w1 ⟨rfl, hb1⟩
  clear x0 x1 x2 x3 x4 HCK
  obtain ⟨x0, x1, x2, x3, x4⟩ := HBX.out w1 hb1
  have HB1 := Lib.hid hb1
  clear hb1
  go_wp2_with fail
  refine (HCR.out w1 HB1.out).mono ?_
  rintro e w2 ⟨rfl, hb2⟩
  have HB2 := Lib.hid (HB1.out.trans (hb2.mono HB1.out.size))
  clear x0 x1 x2 x3 x4 hb2 HCR
  obtain ⟨x0, x1, x2, x3, x4⟩ := HBX.out w2 HB2.out
  go_wp2_with fail
  refine (HLC.out w2 HB2.out).mono ?_
  rintro e w4 ⟨i, k, e0, rfl, hei, hat, hatk, hb4⟩
  have HB4 := Lib.hid (HB2.out.trans (hb4.mono HB2.out.size))
  have HLO4 := Lib.hid (And.intro hei (And.intro hat hatk))
  clear x0 x1 x2 x3 x4 hb4 HLC hei hat hatk
  obtain ⟨x0, x1, x2, x3, x4⟩ := HBX.out w4 HB4.out
  go_wp2_with fail
  refine (HCN.out w4 HB4.out).mono ?_
  rintro e w5 ⟨y, R, rfl, hown, hlo5, hlike, hb5⟩
  clear x0 x1 x2 x3 x4 HCN
  have hlt9 : ∀ g, R g → g < w5.heap.size := hown.lt
  obtain ⟨W9, hW9⟩ : ∃ W9, W9 = w5.alloc (.cells y.cells 30) := ⟨_, rfl⟩
  have hb9 : Below w5.heap.size w5 W9 := by rw [hW9]; exact (Below.refl _ _).alloc (Nat.le_refl _) _
  have hcb : CB w4.heap.size w5.heap.size W9 y R := ⟨by rw [hW9]; exact heap_alloc_new w5 _, hown.below hb9, fun h => by have := hlt9 _ h; omega, hb5.size, fun e => by have := (Own.lt hown.ents _ e).2; omega, fun e he e2 => by have := (Own.lt (hown.keys e he).1 _ e2).2; omega⟩
  have hb49 : Below w4.heap.size w4 W9 := hb5.trans (hb9.mono hb5.size)
  have HCB := Lib.hid hcb
  have HB49 := Lib.hid hb49
  have HLK := Lib.hid hlike
  have HLO := Lib.hid hlo5
  have HW9 := Lib.hid hW9
  clear hlo5 hlt9 hb9 hcb hb49 hlike hown hb5 hW9
  obtain ⟨⟨n9, CA9, cc9, tc9, PA9, pc9, pk9⟩, XA9, xc9, cols9, EA9, ec9, ents9⟩ := y
  unfold Ix.val
  unfold Ix.cells at HW9 ⊢
  simp only at HW9 ⊢
  -- the copy's entry
  have hxd9 : ents9.map EntM.xe = ents.map EntM.xe := HLK.out.xd
  have hl9 : ents9.length = ents.length := by have := congrArg List.length hxd9; simpa using this
  have hei0 := HLO4.out.1
  have hi9 : i < ents9.length := by rw [hl9]; exact (List.getElem?_eq_some_iff.1 hei0).1
  obtain ⟨e9, he9⟩ : ∃ e9, ents9[i]? = some e9 := ⟨_, List.getElem?_eq_getElem hi9⟩
  have hxe : e9.xe = e0.xe := by
    have h := congrArg (fun l => l[i]?) hxd9
    simp only [List.getElem?_map, he9, hei0, Option.map_some] at h
    exact Option.some.inj h
  have hks9 : e9.keys.map Key.row = e0.keys.map Key.row := congrArg Prod.snd hxe
  have hvl9 : e9.vals.row = e0.vals.row := congrArg Prod.fst hxe
  have hat9 : At (fun x : XE => x.1) (ents9.map EntM.xe) vals i true := by rw [hxd9]; exact At.mapTo (row' := fun x : XE => x.1) (f := EntM.xe) (fun a => rfl) HLO4.out.2.1
  have hatk9 : At (fun x : Row => x) (e9.keys.map Key.row) kr k true := by rw [hks9]; exact At.mapTo (row' := fun x : Row => x) (f := Key.row) (fun a => rfl) HLO4.out.2.2
  have hdk : delL kr (e9.keys.map Key.row) = (e9.keys.take k ++ e9.keys.drop (k + 1)).map Key.row := by rw [delL_at hatk9, List.map_append, List.map_take, List.map_drop]
  have hkl : k < e9.keys.length := by
    obtain ⟨a, r, h1, -⟩ := hatk9.eq.1 rfl
    rcases Nat.lt_or_ge k e9.keys.length with h | h
    · exact h
    · rw [List.drop_eq_nil_of_le (by rw [List.length_map]; exact h)] at h1
      cases h1
  have hD9 : Hid (D = (ents9.map EntM.xe).take i ++ (if delL kr (e9.keys.map Key.row) = [] then (ents9.map EntM.xe).drop (i + 1) else (vals, delL kr (e9.keys.map Key.row)) :: (ents9.map EntM.xe).drop (i + 1)) ∧ e9.vals.row = vals) := Lib.hid (by
    obtain ⟨a, r, h1, h2, h3⟩ := delX_at (k := kr) hat9
    have ha : a = e9.xe := by
      have h := congrArg (fun l => l[0]?) h1
      simp only [List.getElem?_drop, Nat.add_zero, List.getElem?_map, he9, Option.map_some, List.getElem?_cons_zero] at h
      exact (Option.some.inj h).symm
    have hr : (ents9.map EntM.xe).drop (i + 1) = r := by
      have h := congrArg (List.drop 1) h1
      rw [List.drop_drop] at h
      exact h
    subst ha
    refine ⟨?_, h2⟩
    rw [HD.out, hr]
    have h4 : (Ix.xd ⟨⟨name, CA, cc, tc, PA, pc, pk⟩, XA, xc, cols, EA, ec, ents⟩) = ents9.map EntM.xe := hxd9.symm
    rw [h4, h3]
    rfl)
  have hk100 : e9.keys.length ≤ 100 := by
    have h1 := HV.out.sz.keys e0 (List.mem_of_getElem? hei0)
    have h2 := congrArg List.length hks9
    rw [List.length_map, List.length_map] at h2
    omega
  have hel9 : ents9.length ≤ 100 := by rw [hl9]; exact HV.out.sz.ents
  have HE9 := Lib.hid (And.intro he9 hel9)
  -- the entry's keys cell
  obtain ⟨eb, ecap, ecur, hev, -, -, -, -, -, -⟩ := HCB.out.own.ents.open_ (by show 0 < ents9.length; omega)
  injection hev with hEA hE2 hE3
  clear hE2 hE3
  subst hEA
  have he1 := (HCB.out.own.ok.ents.entM hi9)
  obtain ⟨eb', eo', hEA', hebl, -, e1⟩ := he1
  try simp only at hEA'
  injection hEA' with hEA'
  injection hEA' with q1 q2
  subst q1 q2
  have hg9 : ents9[i] = e9 := (List.getElem?_eq_some_iff.1 he9).2
  rw [show (Ix.ents ⟨⟨n9, CA9, cc9, tc9, PA9, pc9, pk9⟩, XA9, xc9, cols9, some ⟨eb, 0, none⟩, ec9, ents9⟩)[i] = e9 from hg9] at e1
  simp only [Nat.zero_add] at e1
  have z4 := (Ix.box HCB.out.box rfl).2.2.2.2
  simp only at z4
  have HDL : Hid (Calls Try.prog 37 #[.slice e9.KA e9.keys.length e9.kc, .int .i64 k, .int .i64 ((k : Int) + 1)] W9.drew fun e w15 => ∃ A' n' c', e = .returned (.slice A' n' c') ∧ w15.cell? ⟨w5.heap.size, 4, none⟩ = some (.slice (some ⟨eb, 0, none⟩) ents9.length ec9) ∧ (∃ q, w15.cell? ⟨eb, i * 2 + 1, none⟩ = some q) ∧ w15.frozen? ⟨eb, i * 2 + 1, none⟩ = false
      ∧ Hid (DMid w4.heap.size w5.heap.size w4 ((ents9.map EntM.xe).set i (e9.vals.row, delL kr (e9.keys.map Key.row))) i (delL kr (e9.keys.map Key.row)) ⟨⟨name, CA, cc, tc, PA, pc, pk⟩, XA, xc, cols, EA, ec, ents⟩ (w15.setCell ⟨eb, i * 2 + 1, none⟩ (.slice A' n' c')))) := Lib.hid (by
    have hd : Below W9.heap.size W9 W9.drew := (Below.refl _ _).drew
    have hcb := HCB.out.below hd
    have hmem := List.mem_of_getElem? he9
    have hko : Own 1 Key.cs 37 w4.heap.size W9.drew (.slice e9.KA e9.keys.length e9.kc) e9.keys := (hcb.own.keys _ hmem).1
    refine (delKey e9.KA e9.kc e9.keys k W9.drew (hko.mono (Nat.zero_le _)) hkl (by omega)).mono ?_
    rintro e w15 ⟨v', rfl, hown', hext⟩
    obtain ⟨A', c', eb2, hv', hEA2, k1, k2, k3, k4⟩ := cs_keys (R2 := fun _ => False) hcb he9 hext hown' (fun g hg => hg.elim) (fun y hy => .inl (mem_cut hy))
    simp only at hEA2
    injection hEA2 with hEA2
    injection hEA2 with hEA2
    subst hEA2
    have hb4 := (Ix.box (w' := w15) (g := w5.heap.size) (x := ⟨⟨n9, CA9, cc9, tc9, PA9, pc9, pk9⟩, XA9, xc9, cols9, some ⟨eb, 0, none⟩, ec9, ents9⟩) (w := W9.drew) hcb.box (hext.grown.block _ hcb.lt (fun e => hcb.nk _ hmem e.symm))).2.2.2.2
    simp only at hb4
    subst hv'
    refine ⟨A', _, c', rfl, hb4, ⟨_, k1⟩, k2, Lib.hid ⟨_, _, ⟨e9.vals, A', c', e9.keys.take k ++ e9.keys.drop (k + 1)⟩, k3, fun g hg => hg.elim (HLO.out g) fun h => h.elim, ?_, ?_, ?_, ?_, HLK.out.cols, HLK.out.tc, HLK.out.pk, HLK.out.xcap, ?_⟩⟩
    · show (ents9.set i _).map EntM.xe = _
      rw [List.map_set, hdk]
      rfl
    · show (ents9.set i _)[i]? = _
      rw [List.getElem?_set, if_pos rfl, if_pos hi9]
    · exact hdk.symm
    · show (ents9.set i _).length ≤ 100
      rw [List.length_set]; exact hel9
    · exact HB49.out.trans ((hd.mono (Nat.le_trans HB49.out.size (Nat.le_refl _))).trans k4))
  have hil : (i : Int) < (ents9.length : Int) := by omega
  have hi0 : (0 : Int) ≤ (i : Int) := by omega
  have hwk : IntKind.i64.wrap ((k : Int) + 1) = (k : Int) + 1 := by rw [IntKind.wrap_i64]; omega
  clear hxd9 hl9 hei0 hi9 he9 hxe hks9 hvl9 hat9 hatk9 hdk hkl hg9 hk100 hel9 hebl HLO4 HE9
  obtain ⟨⟨evA, evc, evr⟩, eKA, ekc, eks⟩ := e9
  simp only at e1 HDL hD9
  go_upto_region 11 with fail
  rw [← HW9.out]
  go_cut [] from 38 to 52 (DMid w4.heap.size w5.heap.size w4 ((ents9.map EntM.xe).set i (evr, delL kr (eks.map Key.row))) i (delL kr (eks.map Key.row)) ⟨⟨name, CA, cc, tc, PA, pc, pk⟩, XA, xc, cols, EA, ec, ents⟩)
  case first =>
    go_region_law (first
      | (go_simp; go_at_call 37; refine HDL.out.mono ?_; rintro e w15 ⟨A', n', c', rfl, s1, ⟨q, s2⟩, s3, HF⟩))
    all_goals (go_wp2_with fail; go_meet; exact HF.out)
  case rest =>
    obtain ⟨x2, R2, e2, hcb, hlo, hxd, he2, hk2, hl2, hc2, ht2, hp2, hcap2, hbc⟩ := hcut
    obtain ⟨⟨n2, CA2, cc2, tc2, PA2, pc2, pk2⟩, XA2, xc2, cols2, EA2, ec2, ents2⟩ := x2
    have hin : i < ents2.length := (List.getElem?_eq_some_iff.1 he2).1
    have hei2 : ents2[i] = e2 := (List.getElem?_eq_some_iff.1 he2).2
    have z4' := (Ix.box hcb.box rfl).2.2.2.2
    simp only at z4'
    obtain ⟨eb2, eo2, hEA2, -, -, e1'⟩ := hcb.own.ok.ents.entM hin
    rw [show (Ix.ents ⟨⟨n2, CA2, cc2, tc2, PA2, pc2, pk2⟩, XA2, xc2, cols2, EA2, ec2, ents2⟩)[i] = e2 from hei2] at e1'
    simp only at hEA2
    subst hEA2
    have HM2 := Lib.hid (And.intro hcb (And.intro hlo (And.intro hxd (And.intro he2 (And.intro hl2 hbc)))))
    have HC2 := Lib.hid (And.intro hc2 (And.intro ht2 (And.intro hp2 hcap2)))
    have hil2 : (i : Int) < (ents2.length : Int) := by omega
    have hin2 : i < ents2.length := hin
    clear hcb hlo hxd he2 hl2 hc2 ht2 hp2 hcap2 hbc hin hei2 z4 e1 HDL
    obtain ⟨⟨fvA, fvc, fvr⟩, fKA, fkc, fks⟩ := e2
    simp only at e1' hk2
    obtain ⟨wo, rfl⟩ : ∃ wo, wo = wc := ⟨_, rfl⟩
    have HFN : Hid (delL kr (eks.map Key.row) ≠ [] → FinPost w4.heap.size w5.heap.size w4 D ⟨⟨name, CA, cc, tc, PA, pc, pk⟩, XA, xc, cols, EA, ec, ents⟩ wo) := Lib.hid fun hne => by
      obtain ⟨h1, h2, h3, h4, h5, h6⟩ := HM2.out
      refine ⟨_, _, ⟨h1, h2, ?_, HC2.out.1, HC2.out.2.1, HC2.out.2.2.1, HC2.out.2.2.2⟩, h6⟩
      rw [h3, hD9.out.1, if_neg hne, hD9.out.2]
      have hix : i < (ents9.map EntM.xe).length := by
        have h7 := congrArg List.length h3
        have h8 : (Ix.xd ⟨⟨n2, CA2, cc2, tc2, PA2, pc2, pk2⟩, XA2, xc2, cols2, some ⟨eb2, eo2, none⟩, ec2, ents2⟩).length = ents2.length := List.length_map _
        rw [h8, List.length_set] at h7
        omega
      exact set_at _ (List.drop_eq_getElem_cons hix)
    have HFD : Hid (delL kr (eks.map Key.row) = [] → Calls Try.prog 38 #[.slice (some ⟨eb2, eo2, none⟩) ents2.length ec2, .int .i64 i, .int .i64 ((i : Int) + 1)] wo fun e w' => ∃ A' n' c', e = .returned (.slice A' n' c') ∧ w'.cell? ⟨w5.heap.size, 4, none⟩ = some (.slice (some ⟨eb2, eo2, none⟩) ents2.length ec2) ∧ w'.frozen? ⟨w5.heap.size, 4, none⟩ = false ∧ Hid (FinPost w4.heap.size w5.heap.size w4 D ⟨⟨name, CA, cc, tc, PA, pc, pk⟩, XA, xc, cols, EA, ec, ents⟩ (w'.setCell ⟨w5.heap.size, 4, none⟩ (.slice A' n' c')))) := Lib.hid fun hnil => by
      obtain ⟨h1, h2, h3, h4, h5, h6⟩ := HM2.out
      refine (delEntM (some ⟨eb2, eo2, none⟩) ec2 ents2 i wo (h1.own.ents.mono (Nat.zero_le _)) hin2 (by have : ents2.length ≤ 100 := h5; omega)).mono ?_
      rintro e w' ⟨v', rfl, hown', hext⟩
      obtain ⟨A', c', hv', k1, k2, k3, k4⟩ := cs_ents (R2 := fun _ => False) h1 hext hown' (fun g hg => hg.elim) (fun y hy => .inl (mem_cut hy)) (h1.own.sep.sublist (cut_sub _ _))
      subst hv'
      refine ⟨A', _, c', rfl, k1, k2, Lib.hid ⟨_, _, ⟨k3, fun g hg => hg.elim (h2 g) fun h => h.elim, ?_, HC2.out.1, HC2.out.2.1, HC2.out.2.2.1, HC2.out.2.2.2⟩, h6.trans k4⟩⟩
      show (ents2.take i ++ ents2.drop (i + 1)).map EntM.xe = D
      rw [hD9.out.1, if_pos hnil, List.map_append, List.map_take, List.map_drop]
      have h3' : ents2.map EntM.xe = (ents9.map EntM.xe).set i (evr, delL kr (eks.map Key.row)) := h3
      rw [h3', take_set]
    have hwi : IntKind.i64.wrap ((i : Int) + 1) = (i : Int) + 1 := by
      have h5 : ents2.length ≤ 100 := HM2.out.2.2.2.2.1
      rw [IntKind.wrap_i64]; omega
    obtain ⟨L, hL⟩ : ∃ L, L = delL kr (eks.map Key.row) := ⟨_, rfl⟩
    rw [← hL] at hk2 HFN HFD
    clear hL hD9 HM2 HC2
    go_upto_if 60 with fail
    go_cut [] from 53 to 67 (FinPost w4.heap.size w5.heap.size w4 D ⟨⟨name, CA, cc, tc, PA, pc, pk⟩, XA, xc, cols, EA, ec, ents⟩)
    case first =>
      cases fks with
      | nil =>
        have HF := Lib.hid (HFD.out hk2.symm)
        clear hk2 HFN HFD
        simp only [List.length_nil] at e1'
        go_wp2_with fail
        refine HF.out.mono ?_
        rintro e w' ⟨A', n', c', rfl, k1, k2, HFF⟩
        clear z4' HF
        go_wp2_with fail
        go_meet
        exact HFF.out
      | cons f fr =>
        have HF := Lib.hid (HFN.out fun h => by rw [h] at hk2; cases hk2)
        obtain ⟨q, hq⟩ : ∃ q, (f :: fr).length = q := ⟨_, rfl⟩
        rw [hq] at e1'
        have hq0 : ((q : Int) == 0) = false := by
          have : q ≠ 0 := by rw [← hq]; simp
          rw [beq_eq_false_iff_ne]; omega
        clear hk2 HFN HFD hq
        go_wp2_with fail
        go_meet
        exact HF.out
    case rest =>
      obtain ⟨x3, R3, hfin, hb⟩ := hcut
      clear z4' e1' HFN HFD
      have hbw : Below w4.heap.size w4 wc := hb
      have hsz2 := HG.out.2.2
      have hg1 : wc.heap[w.heap.size + 1]? = some (.cells #[.string ⟨#[]⟩, .slice none 0 0, .slice none 0 0, .slice none 0 0, .slice none 0 0] 30 (0, 0)) := (hbw.block _ (by have := HB4.out.size; omega)).trans ((HB4.out.block _ (by omega)).trans HG.out.2.1)
      obtain ⟨⟨n', CA', cc', tc', PA', pc', pk'⟩, XA', xc', cols', EA', ec', ents'⟩ := x3
      obtain ⟨z0, z1, z2, z3, z4⟩ := Ix.box hfin.cb.box rfl
      simp only at z0 z1 z2 z3 z4
      have n0 := cell_of_row _ _ 0 _ _ _ hg1
      have n1 := cell_of_row _ _ 1 _ _ _ hg1
      have n2 := cell_of_row _ _ 2 _ _ _ hg1
      have n3 := cell_of_row _ _ 3 _ _ _ hg1
      have n4 := cell_of_row _ _ 4 _ _ _ hg1
      have f0 := frozen_of_row _ _ 0 _ _ hg1
      have f1 := frozen_of_row _ _ 1 _ _ hg1
      have f2 := frozen_of_row _ _ 2 _ _ hg1
      have f3 := frozen_of_row _ _ 3 _ _ hg1
      have f4 := frozen_of_row _ _ 4 _ _ hg1
      have HF : Hid (InPost w ⟨⟨name, CA, cc, tc, PA, pc, pk⟩, XA, xc, cols, EA, ec, ents⟩ D (.returned (.tuple #[Ix.val ⟨⟨n', CA', cc', tc', PA', pc', pk'⟩, XA', xc', cols', EA', ec', ents'⟩, .int .i64 0])) (((((wc.setCell ⟨w.heap.size + 1, 0, none⟩ (.string n')).setCell ⟨w.heap.size + 1, 1, none⟩ (.slice CA' tc'.length cc')).setCell ⟨w.heap.size + 1, 2, none⟩ (.slice PA' pk'.length pc')).setCell ⟨w.heap.size + 1, 3, none⟩ (.slice XA' cols'.length xc')).setCell ⟨w.heap.size + 1, 4, none⟩ (.slice EA' ents'.length ec'))
          ∧ (((((wc.setCell ⟨w.heap.size + 1, 0, none⟩ (.string n')).setCell ⟨w.heap.size + 1, 1, none⟩ (.slice CA' tc'.length cc')).setCell ⟨w.heap.size + 1, 2, none⟩ (.slice PA' pk'.length pc')).setCell ⟨w.heap.size + 1, 3, none⟩ (.slice XA' cols'.length xc')).setCell ⟨w.heap.size + 1, 4, none⟩ (.slice EA' ents'.length ec')).heap[w.heap.size + 1]? = some (.cells (Ix.cells ⟨⟨n', CA', cc', tc', PA', pc', pk'⟩, XA', xc', cols', EA', ec', ents'⟩) 30 (0, 0))) := Lib.hid (by
        have h4 : w.heap.size + 1 < w4.heap.size := by have := HB4.out.size; omega
        have hR : ¬ R3 (w.heap.size + 1) := fun h => by have := hfin.lo _ h; omega
        have hown := ((((hfin.cb.own.setCell (p := ⟨w.heap.size + 1, 0, none⟩) h4 hR (.string n')).setCell (p := ⟨w.heap.size + 1, 1, none⟩) h4 hR (.slice CA' tc'.length cc')).setCell (p := ⟨w.heap.size + 1, 2, none⟩) h4 hR (.slice PA' pk'.length pc')).setCell (p := ⟨w.heap.size + 1, 3, none⟩) h4 hR (.slice XA' cols'.length xc')).setCell (p := ⟨w.heap.size + 1, 4, none⟩) h4 hR (.slice EA' ents'.length ec')
        refine ⟨⟨_, rfl, (hown.okLo hfin.lo).more (fun g hg => ⟨by omega, hg.2⟩), hfin.data, hfin.cols, hfin.tc, hfin.pk, hfin.xcap, ?_⟩, ?_⟩
        · have hbww : Below w.heap.size w wc := (HG.out.1.trans (HB4.out.mono HG.out.1.size)).trans (hbw.mono (by omega))
          exact ((((hbww.setCell (p := ⟨w.heap.size + 1, 0, none⟩) (Nat.le_succ _) _).setCell (p := ⟨w.heap.size + 1, 1, none⟩) (Nat.le_succ _) _).setCell (p := ⟨w.heap.size + 1, 2, none⟩) (Nat.le_succ _) _).setCell (p := ⟨w.heap.size + 1, 3, none⟩) (Nat.le_succ _) _).setCell (p := ⟨w.heap.size + 1, 4, none⟩) (Nat.le_succ _) _
        · rw [heap_setCell_at (heap_setCell_at (heap_setCell_at (heap_setCell_at (heap_setCell_at hg1 _) _) _) _)]
          rfl)
      clear hg1 hfin hb hbw
      go_wp2_with fail
      refine bodyPost_ret (ret_del _ rfl rfl HF.out.2) rfl ?_
      exact HF.out.1
end Go.Proofs.Ytakbabkcidioaaa
