/-
  The walks of merge (over trees), rebalance, remove.
-/
import Derived.Test.YtjdcnkbkbcfhfaaHm12
import Derived.Test.YtjdcnkbkbcfhfaaHm09
namespace Go.Proofs.Ytjdcnkbkbcfhfaa
open Go.RowKit Go.Sort

theorem two_foot {a i : Nat} {fps : List (List Nat)} {f g : List Nat} (hn : (a :: fps.flatten).Nodup) (hf : fps[i]? = some f) (hg : fps[i + 1]? = some g) : a ∉ f ∧ a ∉ g ∧ (f ++ g).Nodup := by
  obtain ⟨n1, n2⟩ := List.nodup_cons.1 hn
  obtain ⟨p1, p2⟩ := List.pairwise_flatten.1 n2
  refine ⟨fun h => n1 (List.mem_flatten.2 ⟨f, List.mem_of_getElem? hf, h⟩), fun h => n1 (List.mem_flatten.2 ⟨g, List.mem_of_getElem? hg, h⟩), List.nodup_append.2 ⟨p1 f (List.mem_of_getElem? hf), p1 g (List.mem_of_getElem? hg), fun x hx y hy => ?_⟩⟩
  obtain ⟨h1, e1⟩ := List.getElem?_eq_some_iff.1 hf
  obtain ⟨h2, e2⟩ := List.getElem?_eq_some_iff.1 hg
  have := (List.pairwise_iff_getElem.1 p2) i (i + 1) h1 h2 (Nat.lt_succ_self _)
  rw [e1, e2] at this
  exact this x hx y hy

/-- The entries' rows. -/
theorem Rep.row {w : World} {M : Nodes} {O : Own'} (hs : Store w M O) : ∀ {d a : Nat} {t : T d} {fp : List Nat}, Rep M d a t fp → ∀ x ∈ flat d t, KOk (fun k => O k = .row) w x.key
  | 0, a, t, fp, ⟨es, h1, hm, _⟩, x, hx => by
    obtain ⟨V, hV⟩ := hs.at_ a _ hm
    refine hV.rowe x ?_
    rw [h1]; exact hx
  | d + 1, a, t, fp, ⟨cs, fps, hm, hz, _⟩, x, hx => by
    obtain ⟨c, hc, hx⟩ := List.mem_flatMap.1 (show x ∈ List.flatMap (flat d) t.2 from hx)
    obtain ⟨i, hi⟩ := List.getElem?_of_mem hc
    obtain ⟨_, _, _, _, hr⟩ := hz.at_ hi
    exact hr.row hs x hx

/-- What merge leaves. -/
def MgPost (w : World) (M : Nodes) (O : Own') (d i a : Nat) (t : T (d + 1)) (fp : List Nat) (e : Ending) (w' : World) : Prop :=
  e = .returned (.tuple #[]) ∧ ∃ (M' : Nodes) (O' : Own') (t' : T (d + 1)) (fp' : List Nat), St w O w' M' O' ∧ Rep M' (d + 1) a t' fp' ∧ Chg w.heap.size M M' fp fp' ∧ MgC d i t t'

theorem merge_rep {M : Nodes} {H d a b i : Nat} {t : T (d + 1)} {cs : List Nat} {fps : List (List Nat)} (hz : Z3 (Rep M d) cs t.2 fps) (hn : (a :: fps.flatten).Nodup) (hH : ∀ x ∈ a :: fps.flatten, x < H) {f g G : List Nat} (hf : fps[i]? = some f) (hg : fps[i + 1]? = some g)
    (hb : cs[i]? = some b) (hbf : b ∈ f) {n' : NC} {ks' : List Key} {c : T d} (hr : Rep (upd (upd M b (some n')) a (some ⟨[], ks', cs.take (i + 1) ++ cs.drop (i + 2)⟩)) d b c G) (hG : G.Nodup) (hGs : ∀ x ∈ G, x ∈ f ++ g) :
    ∃ fp', Rep (upd (upd M b (some n')) a (some ⟨[], ks', cs.take (i + 1) ++ cs.drop (i + 2)⟩)) (d + 1) a (ks', t.2.take i ++ c :: t.2.drop (i + 2)) fp' ∧ Chg H M (upd (upd M b (some n')) a (some ⟨[], ks', cs.take (i + 1) ++ cs.drop (i + 2)⟩)) (a :: fps.flatten) fp' := by
  have hmid : ((fps.drop i).take (i + 2 - i)).flatten = f ++ g := by rw [mid_two hf hg]; simp
  have hlen := hz.len
  have hil := (List.getElem?_eq_some_iff.1 hg).1
  have hsub : ∀ x ∈ f ++ g, x ∈ fps.flatten := fun x hx => by
    rcases List.mem_append.1 hx with h | h
    · exact List.mem_flatten.2 ⟨f, List.mem_of_getElem? hf, h⟩
    · exact List.mem_flatten.2 ⟨g, List.mem_of_getElem? hg, h⟩
  have hout : ∀ x, x ∉ f ++ g → x ≠ a → upd (upd M b (some n')) a (some ⟨[], ks', cs.take (i + 1) ++ cs.drop (i + 2)⟩) x = M x := fun x h1 h2 => by
    rw [upd_ne h2, upd_ne (show x ≠ b from fun e => h1 (by rw [e]; exact List.mem_append_left _ hbf))]
  obtain ⟨z1, z2, z3⟩ := z3_mid (H := H) (a := a) (i := i) (j := i + 2) hz (by omega) (by omega) hn hH (Z3.one hr) (by simpa using hG) (by rw [hmid]; intro x hx; exact .inl (hGs x (by simpa using hx))) (by rw [hmid]; exact fun x h1 h2 _ => hout x h1 h2)
  refine ⟨_, ⟨_, _, upd_same _ _ _, ?_, rfl⟩, z2, fun x hx _ => hout x (fun h => hx (List.mem_cons_of_mem _ (hsub x h))) (fun e => hx (e ▸ List.mem_cons_self)), z3⟩
  have e : cs.take i ++ [b] ++ cs.drop (i + 2) = cs.take (i + 1) ++ cs.drop (i + 2) := by
    rw [List.take_add_one, hb]; simp
  rw [e] at z1
  simpa using z1

theorem mergeW {m o d i a : Nat} {t : T (d + 1)} {fp : List Nat} (w : World) (M : Nodes) (O : Own') (hs : Store w M O) (hO : Order m o) (hr : Rep M (d + 1) a t fp) (hn : fp.Nodup) {l r : T d} {z : Ent} (hl : t.2[i]? = some l) (hr' : t.2[i + 1]? = some r)
    (okl : Ok m o d l) (okr : Ok m o d r) (hz : (flat d r).head? = some z) (fl : d = 0 ∨ 1 ≤ fill d l) (fr : d = 0 ∨ 1 ≤ fill d r) (hb : fill d l + fill d r ≤ 100) (hlen : t.1.length + 1 = t.2.length) (ht : t.2.length ≤ 40) :
    Calls Try.prog 87 #[ptr a, .int .i64 i] w (MgPost w M O d i a t fp) := by
  have hlt := hr.lt hs
  obtain ⟨cs, fps, hm, hz3, rfl⟩ := hr
  have hzl := hz3.len
  obtain ⟨b, f, hbi, hfi, hrb⟩ : ∃ b f, cs[i]? = some b ∧ fps[i]? = some f ∧ Rep M d b l f := by
    obtain ⟨b, f, q1, q2, q3⟩ := hz3.at_ hl
    exact ⟨b, f, q1, q2, q3⟩
  obtain ⟨c, g, hci, hgi, hrc⟩ : ∃ c g, cs[i + 1]? = some c ∧ fps[i + 1]? = some g ∧ Rep M d c r g := by
    obtain ⟨b, f, q1, q2, q3⟩ := hz3.at_ hr'
    exact ⟨b, f, q1, q2, q3⟩
  obtain ⟨haf, hag, hfg⟩ := two_foot hn hfi hgi
  have hbf := hrb.top
  have hcg := hrc.top
  have hab : b ≠ a := fun e => haf (e ▸ hbf)
  have hac : c ≠ a := fun e => hag (e ▸ hcg)
  have hbc : c ≠ b := fun e => (List.nodup_append.1 hfg).2.2 b hbf c hcg e.symm
  have hzk := hrc.row hs z (List.mem_of_mem_head? (by rw [hz]; rfl))
  have hmk : ∀ W, Below w.heap.size w W → Calls Try.prog 98 #[ptr c] W fun e w' => e = .returned (.slice z.key.A z.key.row.length z.key.c) ∧ W = w' := fun W hW => minKeyW hO (hs.below hW) hrc okr fr hz
  cases d with
  | zero =>
    obtain ⟨el, rfl, hmb, rfl⟩ := hrb
    obtain ⟨er, rfl, hmc, rfl⟩ := hrc
    have hb : el.length + er.length ≤ 100 := hb
    refine (mergeN w M O hs hm hbi hci hmb hmc hab hbc hac true rfl z.key hzk (fun h => by cases h) (by omega) (by simp) (by simp) (by omega) (by omega)).mono ?_
    rintro e w' ⟨rfl, O', hS⟩
    obtain ⟨fp', h1, h2⟩ := merge_rep (d := 0) (t := t) (c := (el ++ er : List Ent)) (G := [b]) hz3 hn hlt hfi hgi hbi hbf ⟨_, rfl, (upd_ne hab).trans (upd_same _ _ _), rfl⟩ (by simp) (by simp)
    exact ⟨rfl, _, _, _, _, hS, h1, h2, el, er, z, hl, hr', hz, rfl⟩
  | succ d =>
    obtain ⟨csl, fpl, hmb, hzl3, rfl⟩ := hrb
    obtain ⟨csr, fpr, hmc, hzr3, rfl⟩ := hrc
    have hb : l.2.length + r.2.length ≤ 100 := hb
    have l1 := okl.1.1
    have l2 := okr.1.1
    have l3 := hzl3.len
    have l4 := hzr3.len
    have hcl : (csl.length == 0) = false := by
      have : 1 ≤ fill (d + 1) l := by
        rcases fl with h | h
        · cases h
        · exact h
      have : 1 ≤ l.2.length := this
      rw [beq_eq_false_iff_ne]; omega
    refine (mergeN w M O hs hm hbi hci hmb hmc hab hbc hac false hcl z.key hzk (fun _ => hmk) (by simp) (by omega) (by omega) (by omega) (by omega)).mono ?_
    rintro e w' ⟨rfl, O', hS⟩
    have hnd := hfg
    have hpre : ∀ x, x ∈ fpl.flatten ∨ x ∈ fpr.flatten → x ≠ a ∧ x ≠ b := fun x hx => by
      rcases hx with hx | hx
      · refine ⟨fun e => haf (e ▸ List.mem_cons_of_mem _ hx), fun e => ?_⟩
        exact (List.nodup_cons.1 (List.nodup_append.1 hnd).1).1 (e ▸ hx)
      · refine ⟨fun e => hag (e ▸ List.mem_cons_of_mem _ hx), fun e => ?_⟩
        exact (List.nodup_append.1 hnd).2.2 b List.mem_cons_self x (List.mem_cons_of_mem _ hx) e.symm
    have hkeep : ∀ (n1 n2 : Option NC) x, x ∈ fpl.flatten ∨ x ∈ fpr.flatten → upd (upd M b n1) a n2 x = M x := fun n1 n2 x hx => by
      rw [upd_ne (hpre x hx).1, upd_ne (hpre x hx).2]
    have g1 : upd (upd M b (some ⟨[] ++ [], inKs false l.1 z.key ++ r.1, csl ++ csr⟩)) a (some ⟨[], t.1.take i ++ t.1.drop (i + 1), cs.take (i + 1) ++ cs.drop (i + 2)⟩) b = some ⟨[], (mrg (d + 1) l z.key r).1, csl ++ csr⟩ := by
      rw [upd_ne hab, upd_same]
      refine congrArg some ?_
      simp [mrg, inKs]
    have g2 : (b :: (fpl ++ fpr).flatten).Nodup := by
      rw [List.flatten_append]
      have h3 : (b :: fpl.flatten ++ fpr.flatten).Nodup := List.Pairwise.sublist (List.Sublist.append_left (List.sublist_cons_self _ _) _) hnd
      exact h3
    have g3 : ∀ x ∈ b :: (fpl ++ fpr).flatten, x ∈ b :: fpl.flatten ++ c :: fpr.flatten := by
      intro x hx
      rw [List.flatten_append] at hx
      rcases List.mem_cons.1 hx with rfl | hx
      · exact List.mem_append_left _ List.mem_cons_self
      · rcases List.mem_append.1 hx with hx | hx
        · exact List.mem_append_left _ (List.mem_cons_of_mem _ hx)
        · exact List.mem_append_right _ (List.mem_cons_of_mem _ hx)
    obtain ⟨fp', h1, h2⟩ := merge_rep (t := t) (c := (mrg (d + 1) l z.key r)) (G := b :: (fpl ++ fpr).flatten) (n' := ⟨[] ++ [], inKs false l.1 z.key ++ r.1, csl ++ csr⟩) (ks' := t.1.take i ++ t.1.drop (i + 1)) hz3 hn hlt hfi hgi hbi hbf
      ⟨csl ++ csr, fpl ++ fpr, g1, (hzl3.mono fun x y f hf hr => hr.frame fun z hz => hkeep _ _ z (.inl (List.mem_flatten.2 ⟨f, hf, hz⟩))).append (hzr3.mono fun x y f hf hr => hr.frame fun z hz => hkeep _ _ z (.inr (List.mem_flatten.2 ⟨f, hf, hz⟩))), rfl⟩ g2 g3
    exact ⟨rfl, _, _, _, _, hS, h1, h2, l, r, z, hl, hr', hz, rfl⟩

/-- What rebalance leaves. -/
def RbPost (w : World) (M : Nodes) (O : Own') (m o d i a : Nat) (t : T (d + 1)) (fp : List Nat) (e : Ending) (w' : World) : Prop :=
  e = .returned (.tuple #[]) ∧ ∃ (M' : Nodes) (O' : Own') (t' : T (d + 1)) (fp' : List Nat), St w O w' M' O' ∧ Rep M' (d + 1) a t' fp' ∧ Chg w.heap.size M M' fp fp' ∧ RbC m o d i t t'

/-- Behind merge: the two children are one, that may be split. -/
theorem mend {m o d j a tb : Nat} {t : T (d + 1)} {fp : List Nat} (hO : Order m o) {w : World} {M : Nodes} {O : Own'} (hs : Store w M O) (htb : O tb = .top) (ht : w.cell? ⟨tb, 0, none⟩ = some (.int .i64 o)) (hr : Rep M (d + 1) a t fp) (hn : fp.Nodup) (hj : j + 1 < t.2.length) (hl : t.2.length ≤ 40)
    (hsep : Sep (flat d) t.1 t.2) (hc : ∀ (n : Nat) (c : T d), t.2[n]? = some c → Ok m o d c ∧ fill d c ≤ o ∧ 1 ≤ fill d c) :
    Calls Try.prog 87 #[ptr a, .int .i64 j] w fun e w1 => e = .returned (.tuple #[]) ∧ Calls Try.prog 65 #[ptr tb, ptr a, .int .i64 j] w1 fun e w2 => e = .returned (.tuple #[]) ∧ ∃ (t1 : T (d + 1)) (M' : Nodes) (O' : Own') (t' : T (d + 1)) (fp' : List Nat), MgC d j t t1 ∧ SpC o d j t1 t' ∧ St w O w2 M' O' ∧ Rep M' (d + 1) a t' fp' ∧ Chg w.heap.size M M' fp fp' := by
  have hm1 : 1 ≤ m := by have := hO.lo; have := hO.eq; omega
  have hoh := hO.hi
  obtain ⟨l, hlc⟩ : ∃ c, t.2[j]? = some c := ⟨_, List.getElem?_eq_getElem (by omega)⟩
  obtain ⟨r, hrc⟩ : ∃ c, t.2[j + 1]? = some c := ⟨_, List.getElem?_eq_getElem (by omega)⟩
  have hl1 := hc j l hlc
  have hr1 := hc (j + 1) r hrc
  obtain ⟨z, hz⟩ : ∃ z, (flat d r).head? = some z := by
    have := flat_ne hr1.1 hm1 hr1.2.2
    cases h : flat d r with
    | nil => exact absurd h this
    | cons x xs => exact ⟨x, rfl⟩
  have hlen : t.1.length + 1 = t.2.length := hsep.1
  refine (mergeW w M O hs hO hr hn hlc hrc hl1.1 hr1.1 hz (.inr hl1.2.2) (.inr hr1.2.2) (by omega) hlen hl).mono ?_
  rintro e w1 ⟨rfl, M1, O1, t1, fp1, hS1, hr1', hch1, hmg⟩
  refine ⟨rfl, ?_⟩
  have hmg' := hmg
  obtain ⟨l', r', z', q1, q2, q3, rfl⟩ := hmg'
  rw [hlc] at q1
  rw [hrc] at q2
  injection q1 with q1
  injection q2 with q2
  subst q1 q2
  rw [hz] at q3
  injection q3 with q3
  subst q3
  have hjk : j < t.1.length := by omega
  have hlr : ∀ x ∈ flat d l, ∀ y ∈ flat d r, rl x.key.row y.key.row := fun x hx y hy =>
    rl_lt_le ((hsep.2 j j _ _ (List.getElem?_eq_getElem hjk) hlc x hx).1 (Nat.le_refl _)) ((hsep.2 j (j + 1) _ _ (List.getElem?_eq_getElem hjk) hrc y hy).2 (Nat.lt_succ_self _))
  have hmo := mrg_ok hm1 hl1.1 hr1.1 hlr hz
  have hfil := hmo.fil
  have hcj : (t.2.take j ++ mrg d l z.key r :: t.2.drop (j + 2))[j]? = some (mrg d l z.key r) := by
    rw [one_lookup (by omega), if_neg (by omega), if_pos rfl]
  refine (splitChildW (tb := tb) (o := o) w1 M1 O1 hS1.store ((hS1.cell hs (.inl htb)).trans ht) hO hr1' hch1.nd hcj hmo.ok (by omega) (.inr (by omega)) (by show (t.1.take j ++ t.1.drop (j + 1)).length + 1 = (t.2.take j ++ _ :: t.2.drop (j + 2)).length; simp only [List.length_append, List.length_cons, List.length_take, List.length_drop]; omega) (by show (t.2.take j ++ _ :: t.2.drop (j + 2)).length ≤ 40; simp only [List.length_append, List.length_cons, List.length_take, List.length_drop]; omega)).mono ?_
  rintro e w2 ⟨rfl, M2, O2, t2, fp2, hS2, hr2, hch2, hsp⟩
  exact ⟨rfl, _, M2, O2, t2, fp2, hmg, hsp, hS1.trans hS2, hr2, hch1.trans hch2 hS1.size⟩

set_option maxRecDepth 100000 in
set_option maxHeartbeats 4000000 in
theorem rebalanceW {m o d i a tb : Nat} {t : T (d + 1)} {fp : List Nat} (hO : Order m o) (w : World) (M : Nodes) (O : Own') (hs : Store w M O) (htb : O tb = .top) (ht : w.cell? ⟨tb, 0, none⟩ = some (.int .i64 o)) (hr : Rep M (d + 1) a t fp) (hn : fp.Nodup) {c : T d} (hi : t.2[i]? = some c) (h2 : 2 ≤ t.2.length) (hl : t.2.length ≤ 40)
    (hsep : Sep (flat d) t.1 t.2) (hc : ∀ (n : Nat) (c : T d), t.2[n]? = some c → Ok m o d c ∧ fill d c ≤ o ∧ 1 ≤ fill d c) :
    Calls Try.prog 76 #[ptr tb, ptr a, .int .i64 i] w (RbPost w M O m o d i a t fp) := by
  have hr0 := hr
  obtain ⟨cs, fps, hm, hz, hfp⟩ := hr
  have hzl := hz.len
  have hil := (List.getElem?_eq_some_iff.1 hi).1
  obtain ⟨b, hb⟩ : ∃ b, cs[i]? = some b := ⟨_, List.getElem?_eq_getElem (by omega)⟩
  obtain ⟨V, hV⟩ := hs.at_ a _ hm
  obtain ⟨g2, c2, e2, q2, qi, -, hcl2, hcm2⟩ := hV.child hb
  obtain ⟨f, hrb⟩ : ∃ f, Rep M d b c f := by
    obtain ⟨a', f, q1, q2, q3⟩ := hz.at_ hi
    rw [hb] at q1
    injection q1 with q1
    subst q1
    exact ⟨f, q3⟩
  simp only at q2 hcl2
  have hci := hc i c hi
  have HFL : Hid (Calls Try.prog 41 #[ptr b] w fun e w' => e = .returned (.int .i64 (fill d c : Nat)) ∧ w = w') := Lib.hid (fillT hs hrb (.inr hci.2.2) 0)
  have HMF := Lib.hid (minFillW hO w ht)
  have hin : (i : Int) < (cs.length : Int) := by omega
  have hi0 : (0 : Int) ≤ (i : Int) := by omega
  have hi40 : i ≤ 40 := by omega
  have hof := hO.hi
  have hfo : fill d c ≤ o := hci.2.1
  obtain ⟨n, hnn⟩ : ∃ n, n = cs.length := ⟨_, rfl⟩
  have hn2 : n = t.2.length := by omega
  have hin' : i < n := by omega
  have hn40 : n ≤ 40 := by omega
  rw [← hnn] at q2 hin hcl2
  rcases Nat.lt_or_ge (fill d c) m with hlt | hge
  · have hcmp : decide ((m : Int) ≤ ((fill d c : Nat) : Int)) = false := by rw [decide_eq_false_iff_not]; omega
    have hcmp2 : decide (m ≤ fill d c) = false := by rw [decide_eq_false_iff_not]; omega
    have hcmp3 : ¬ m ≤ fill d c := by omega
    have HC : Hid (t.2[i]? = some c ∧ fill d c < m) := Lib.hid ⟨hi, hlt⟩
    rcases Nat.eq_or_lt_of_le (show i + 1 ≤ n from hin') with he | hne
    · obtain ⟨j, hj⟩ : ∃ j, j = i - 1 := ⟨_, rfl⟩
      have HM := Lib.hid (mend (j := j) hO hs htb ht hr0 hn (by omega) hl hsep hc)
      have hi1 : 1 ≤ i := by omega
      have hw1 : (i : Int) - 1 = (j : Int) := by omega
      have hw2 : IntKind.i64.wrap ((i : Int) - 1) = (j : Int) := by rw [IntKind.wrap_i64]; omega
      have hw3 : (n : Int) - 1 = (i : Int) := by omega
      have hw4 : IntKind.i64.wrap ((n : Int) - 1) = (i : Int) := by rw [IntKind.wrap_i64]; omega
      have HJ : Hid ((if i + 1 = t.2.length then i - 1 else i) = j) := Lib.hid (by rw [if_pos (by omega)]; exact hj.symm)
      clear hV hm hz hr0 hrb hs hc hi hzl hfp hn2 he hnn hsep hci hb hj hlt hfo
      generalize hfc : fill d c = fc at *
      have HFC := Lib.hid hfc
      clear hfc
      go_enter Try.func76, Try.ntmps76
      go_wp2_with fail
      refine HFL.out.mono ?_
      rintro e w' ⟨rfl, rfl⟩
      go_wp2_with fail
      refine HMF.out.mono ?_
      rintro e w' ⟨rfl, rfl⟩
      go_wp2_with fail
      refine HM.out.mono ?_
      rintro e w1 ⟨rfl, hsp⟩
      have HSP := Lib.hid hsp
      clear hsp
      go_wp2_with fail
      refine HSP.out.mono ?_
      rintro e w2 ⟨rfl, t1, M', O', t', fp', k1, k2, k3, k4, k5⟩
      have HE : Hid (RbPost w M O m o d i a t fp (.returned (.tuple #[])) w2) := Lib.hid ⟨rfl, M', O', t', fp', k3, k4, k5, c, HC.out.1, .inr ⟨by rw [HFC.out]; exact HC.out.2, t1, by rw [HJ.out]; exact k1, by rw [HJ.out]; exact k2⟩⟩
      clear k1 k2 k3 k4 k5
      go_wp2_with fail
      go_end0
      exact HE.out
    · have HM := Lib.hid (mend (j := i) hO hs htb ht hr0 hn (by omega) hl hsep hc)
      obtain ⟨n1, hn1⟩ : ∃ n1, n1 = n - 1 := ⟨_, rfl⟩
      have hw3 : (n : Int) - 1 = (n1 : Int) := by omega
      have hw4 : IntKind.i64.wrap ((n : Int) - 1) = (n1 : Int) := by rw [IntKind.wrap_i64]; omega
      have hx1 : ¬ (i : Int) = (n1 : Int) := by omega
      have hx2 : ((i : Int) == (n1 : Int)) = false := by rw [beq_eq_false_iff_ne]; exact hx1
      have hx3 : ¬ i = n1 := by omega
      have hx4 : (i == n1) = false := by rw [beq_eq_false_iff_ne]; exact hx3
      have HJ : Hid ((if i + 1 = t.2.length then i - 1 else i) = i) := Lib.hid (by rw [if_neg (by omega)])
      clear hV hm hz hr0 hrb hs hc hi hzl hfp hn2 hne hnn hsep hci hb hlt hfo hn1
      generalize hfc : fill d c = fc at *
      have HFC := Lib.hid hfc
      clear hfc
      go_enter Try.func76, Try.ntmps76
      go_wp2_with fail
      refine HFL.out.mono ?_
      rintro e w' ⟨rfl, rfl⟩
      go_wp2_with fail
      refine HMF.out.mono ?_
      rintro e w' ⟨rfl, rfl⟩
      go_wp2_with fail
      refine HM.out.mono ?_
      rintro e w1 ⟨rfl, hsp⟩
      have HSP := Lib.hid hsp
      clear hsp
      go_wp2_with fail
      refine HSP.out.mono ?_
      rintro e w2 ⟨rfl, t1, M', O', t', fp', k1, k2, k3, k4, k5⟩
      have HE : Hid (RbPost w M O m o d i a t fp (.returned (.tuple #[])) w2) := Lib.hid ⟨rfl, M', O', t', fp', k3, k4, k5, c, HC.out.1, .inr ⟨by rw [HFC.out]; exact HC.out.2, t1, by rw [HJ.out]; exact k1, by rw [HJ.out]; exact k2⟩⟩
      clear k1 k2 k3 k4 k5
      go_wp2_with fail
      go_end0
      exact HE.out
  · have hcmp : decide ((m : Int) ≤ ((fill d c : Nat) : Int)) = true := by rw [decide_eq_true_iff]; omega
    have hcmp2 : decide (m ≤ fill d c) = true := by rw [decide_eq_true_iff]; omega
    have hcmp3 : m ≤ fill d c := hge
    have HE : Hid (RbPost w M O m o d i a t fp (.returned (.tuple #[])) w) := Lib.hid ⟨rfl, M, O, t, fp, St.refl hs, hr0, Chg.refl hn, c, hi, .inl ⟨hge, rfl⟩⟩
    clear hV hm hz hr0 hrb hs hc hi hzl hfp hn2 hnn hsep hci hb hfo hge
    generalize fill d c = fc at *
    go_enter Try.func76, Try.ntmps76
    go_wp2_with fail
    refine HFL.out.mono ?_
    rintro e w' ⟨rfl, rfl⟩
    go_wp2_with fail
    refine HMF.out.mono ?_
    rintro e w' ⟨rfl, rfl⟩
    go_wp2_with fail
    go_end0
    exact HE.out

/-- What remove leaves. -/
def RemPost (w : World) (M : Nodes) (O : Own') (m o d a : Nat) (t : T d) (fp : List Nat) (key : Row) (e : Ending) (w' : World) : Prop :=
  ∃ (M' : Nodes) (O' : Own') (t' : T d) (fp' : List Nat), e = .returned (.bool (getF key (flat d t)).isSome) ∧ St w O w' M' O' ∧ Rep M' d a t' fp' ∧ Chg w.heap.size M M' fp fp'
    ∧ Ok m o d t' ∧ flat d t' = delF key (flat d t) ∧ fill d t' ≤ fill d t ∧ fill d t ≤ fill d t' + 1 ∧ (getF key (flat d t) = none → t' = t)

set_option maxRecDepth 100000 in
set_option maxHeartbeats 4000000 in
theorem remLeafW {m o a tb : Nat} {K : Nat → Prop} {es : List Ent} {fp : List Nat} (w : World) (M : Nodes) (O : Own') (hs : Store w M O) (hr : Rep M 0 a es fp) (hn' : fp.Nodup) (hK : ∀ k, K k → k < w.heap.size ∧ ¬ (O k).mine) (A : Option Addr) (c : Nat) (key : Row) (hk : Elems 3 Val.cs w K A key) (ho : Ord es) (hl : es.length ≤ 40) :
    Calls Try.prog 53 #[ptr tb, ptr a, .slice A key.length c] w (RemPost w M O m o 0 a es fp key) := by
  obtain ⟨es', he', hm, rfl⟩ := hr
  rw [show es' = es from he'] at hm
  clear he'
  have hal := hs.lt hm
  obtain ⟨V, hV⟩ := hs.at_ a _ hm
  obtain ⟨A0, c0, A1, c1, A2, c2, e0, e1, e2, h0, h1, h2, hfr, o0, o1, o2⟩ := hV.cells
  simp only at h0 h2 o0 e0
  have hrl : ∀ k, O k = .row → k < w.heap.size := fun k hk => hs.lt' (by rw [hk]; simp)
  have HLF : Hid (Calls Try.prog 37 #[ptr a] w fun e w' => e = .returned (.bool true) ∧ w = w') := Lib.hid (leafW a w A2 0 c2 h2)
  have HSE := Lib.hid (searchW a w A0 c0 es A c key _ _ h0 ((o0.elems entLay.len rfl).more fun k hk => (Own.lt o0 k hk).2) hrl (fun k hk => (hK k hk).1) hV.rowe ho hk (by omega))
  have HS := Lib.hid hs
  have HV := Lib.hid hV
  have HE0 := Lib.hid e0
  have HM := Lib.hid hm
  have HO := Lib.hid ho
  clear hV hs hm hk hK ho o0 o1 o2 e0 e1 e2 hrl hfr h1 h0 h2
  go_enter Try.func53, Try.ntmps53
  go_wp2_with fail
  refine HLF.out.mono ?_
  rintro e w' ⟨rfl, rfl⟩
  go_wp2_with fail
  refine HSE.out.mono ?_
  rintro e w1 ⟨i, fnd, rfl, hA, hb1⟩
  have hil := hA.le
  have HA := Lib.hid hA
  have HV1 : Hid (NodeAt w1 O a ⟨es, [], []⟩ V) := Lib.hid (HV.out.below HS.out.free hb1 fun _ _ => rfl)
  have HS1 : Hid (St w O w1 M O) := Lib.hid ((St.refl HS.out).below hb1)
  have h0a : w1.cell? ⟨a, 0, none⟩ = some (.slice A0 es.length c0) := HV1.out.cell (i := 0) (by omega) HE0.out
  clear hA hb1 HLF HSE HV
  cases fnd with
  | true =>
    have hlt : i < es.length := by
      obtain ⟨z, r, hd, -⟩ := HA.out.eq.1 rfl
      have := congrArg List.length hd
      simp at this
      omega
    obtain ⟨y, hy, -, -, hdel, hget⟩ := at_upd (e := ⟨⟨none, 0, key⟩, 0⟩) HA.out
    have hdel : delF key es = es.take i ++ es.drop (i + 1) := hdel
    have hget : getF key es = some y.val := hget
    have ho1 : Own 2 Ent.cs 81 0 w1 (.slice A0 es.length c0) es := by
      have := HV1.out.fld 0 (by omega)
      rw [HE0.out] at this
      exact this
    have hdk := delEnt A0 c0 es i w1 ho1 hlt (by omega)
    have HD := Lib.hid (hdk.mono (fun e w' ⟨v', he, ho, hx⟩ => ⟨v', he, HS1.out.grow1 (n' := ⟨es.take i ++ es.drop (i + 1), [], []⟩) HM.out HV1.out (i := 0) (by omega) (Below.refl _ _) HE0.out hx ho same0 (fun k hk => by
      rcases List.mem_append.1 hk with h | h
      · exact HV1.out.rowe k (List.mem_of_mem_take h)
      · exact HV1.out.rowe k (List.mem_of_mem_drop h)) HV1.out.rowk⟩ : ∀ e w', _ → ∃ v', e = .returned v' ∧ Grown w O M a 0 ⟨es.take i ++ es.drop (i + 1), [], []⟩ (.slice A0 es.length c0) v' w'))
    have hw1 : IntKind.i64.wrap ((i : Int) + 1) = (i : Int) + 1 := by rw [IntKind.wrap_i64]; omega
    have hi40 : i ≤ 40 := by omega
    have HE : Hid (∀ w' O', St w O w' (upd M a (some ⟨es.take i ++ es.drop (i + 1), [], []⟩)) O' → RemPost w M O m o 0 a es [a] key (.returned (.bool true)) w') := Lib.hid fun w' O' h => by
      refine ⟨_, _, (es.take i ++ es.drop (i + 1) : List Ent), [a], ?_, h, ⟨_, rfl, upd_same _ _ _, rfl⟩, ⟨hn', fun z hz _ => upd_ne (by simpa using hz), fun z hz => .inl hz⟩, ?_, hdel.symm, ?_⟩
      · show _ = Ending.returned (.bool (getF key es).isSome)
        rw [hget]; rfl
      · show Ord _
        rw [← hdel]
        exact ord_del HO.out
      · have hlen : (es.take i ++ es.drop (i + 1)).length + 1 = es.length := by
          simp only [List.length_append, List.length_take, List.length_drop]; omega
        exact ⟨by show List.length _ ≤ List.length es; omega, by show List.length es ≤ List.length _ + 1; omega, fun h => by
          have h : getF key es = none := h
          rw [hget] at h; cases h⟩
    clear hdk ho1 hdel hget hy
    go_wp2_with fail
    refine HD.out.mono ?_
    rintro e w2 ⟨_, rfl, ⟨A4, n4, c4, rfl⟩, f1, f2, F3⟩
    go_wp2_with fail
    go_ret
    obtain ⟨O', h⟩ := F3.out
    exact HE.out _ _ h
  | false =>
    obtain ⟨hdel, hget⟩ := at_none HA.out
    have HE : Hid (RemPost w M O m o 0 a es [a] key (.returned (.bool false)) w1) := Lib.hid (by
      refine ⟨M, O, es, [a], ?_, HS1.out, ⟨es, rfl, HM.out, rfl⟩, Chg.refl hn', HO.out, hdel.symm, Nat.le_refl _, Nat.le_succ _, fun _ => rfl⟩
      show _ = Ending.returned (.bool (getF key es).isSome)
      rw [hget]; rfl)
    clear hdel hget
    go_wp2_with fail
    go_ret
    exact HE.out

set_option maxRecDepth 100000 in
set_option maxHeartbeats 4000000 in
theorem removeW {m o tb : Nat} {K : Nat → Prop} (hO : Order m o) (A : Option Addr) (cc : Nat) (key : Row) (hkl : key.length ≤ 12) : ∀ {d a : Nat} {t : T d} {fp : List Nat} (w : World) (M : Nodes) (O : Own') (_ : Store w M O) (_ : O tb = .top) (_ : w.cell? ⟨tb, 0, none⟩ = some (.int .i64 o)) (_ : Rep M d a t fp) (_ : fp.Nodup)
    (_ : ∀ k, K k → k < w.heap.size ∧ ¬ (O k).mine) (_ : Elems 3 Val.cs w K A key) (_ : Ok m o d t) (_ : d = 0 ∨ 2 ≤ fill d t) (_ : fill d t ≤ o),
    Calls Try.prog 53 #[ptr tb, ptr a, .slice A key.length cc] w (RemPost w M O m o d a t fp key)
  | 0, a, t, fp, w, M, O, hs, htb, ht, hr, hn, hK, hk, hok, hd, hf => remLeafW w M O hs hr hn hK A cc key hk hok (by have := hO.hi; have : List.length (α := Ent) t ≤ o := hf; omega)
  | d + 1, a, t, fp, w, M, O, hs, htb, ht, hr, hn, hK, hk, hok, hd, hf => by
    have hm1 : 1 ≤ m := by have := hO.lo; have := hO.eq; omega
    have hd1 : 2 ≤ t.2.length := by
      rcases hd with h | h
      · cases h
      · exact h
    have hf' : t.2.length ≤ o := hf
    have hlen := hok.1.1
    have hlt := hr.lt hs
    have hLF := leafT hs hr (.inr (show 1 ≤ t.2.length by omega)) 0
    obtain ⟨cs, fps, hm, hz, hfp⟩ := hr
    have hzl := hz.len
    have hal := hs.lt hm
    obtain ⟨V, hV⟩ := hs.at_ a _ hm
    obtain ⟨A0, c0, A1, c1, A2, c2, e0, e1, e2, h0, h1, h2, hfr, o0, o1, o2⟩ := hV.cells
    simp only at h1 h2 o1 e1
    have hrl : ∀ k, O k = .row → k < w.heap.size := fun k hk => hs.lt' (by rw [hk]; simp)
    have HLF : Hid (Calls Try.prog 37 #[ptr a] w fun e w' => e = .returned (.bool false) ∧ w = w') := Lib.hid hLF
    have HCI := Lib.hid (childIdxW a w A1 c1 t.1 A cc key _ _ h1 ((o1.elems keyLay.len rfl).more fun k hk => (Own.lt o1 k hk).2) hrl (fun k hk => (hK k hk).1) hV.rowk (keys_ord hok hm1) hk (by have := hO.hi; omega))
    have HS := Lib.hid hs
    have HM := Lib.hid hm
    have HZ := Lib.hid hz
    have HZL := Lib.hid hzl
    have HFP := Lib.hid hfp
    have HNN := Lib.hid hn
    have HLT := Lib.hid hlt
    have HOK := Lib.hid hok
    have HV0 := Lib.hid hV
    have HTB := Lib.hid htb
    have HT := Lib.hid ht
    have HKK := Lib.hid hK
    have HK := Lib.hid hk
    have HLE : Hid (t.1.length + 1 = t.2.length ∧ 2 ≤ t.2.length ∧ t.2.length ≤ o ∧ o ≤ 16) := Lib.hid ⟨hlen, hd1, hf', hO.hi⟩
    clear hLF hs hm hz hzl hfp hn hlt hok hV htb ht hlen hd1 hf' hf hd h0 h1 h2 hfr o0 o1 o2 e0 e1 e2 hrl hK hk
    go_enter Try.func53, Try.ntmps53
    go_wp2_with fail
    refine HLF.out.mono ?_
    rintro e w' ⟨rfl, rfl⟩
    go_wp2_with fail
    refine HCI.out.mono ?_
    rintro e w1 ⟨j, rfl, hcov, hb1⟩
    have HCOV := Lib.hid hcov
    have hjl : j < t.2.length := by have := hcov.1; have := HLE.out; omega
    obtain ⟨c, hc⟩ : ∃ c, t.2[j]? = some c := ⟨_, List.getElem?_eq_getElem hjl⟩
    obtain ⟨b, hb⟩ : ∃ b, cs[j]? = some b := ⟨_, List.getElem?_eq_getElem (by have := HZL.out; omega)⟩
    obtain ⟨f, hff, hrb⟩ : ∃ f, fps[j]? = some f ∧ Rep M d b c f := by
      obtain ⟨a', c', q1, q2, q3⟩ := HZ.out.at_ hc
      rw [hb] at q1
      injection q1 with q1
      subst q1
      exact ⟨_, q2, q3⟩
    have hS1 : St w O w1 M O := (St.refl HS.out).below hb1
    have HS1 := Lib.hid hS1
    have HV1 : Hid (NodeAt w1 O a ⟨[], t.1, cs⟩ V) := Lib.hid (HV0.out.below HS.out.free hb1 fun _ _ => rfl)
    obtain ⟨g2, c2', e2, q2, qi, -, hcl2, hcm2⟩ := HV1.out.child hb
    simp only at q2
    have hcok := HOK.out.2 c (List.mem_of_getElem? hc)
    have hm2 : 2 ≤ m := by have := hO.lo; have := hO.eq; omega
    have hnf : f.Nodup := by
      have := HNN.out
      rw [HFP.out] at this
      exact (List.pairwise_flatten.1 (List.nodup_cons.1 this).2).1 f (List.mem_of_getElem? hff)
    have HIH : Hid (Calls Try.prog 53 #[ptr tb, ptr b, .slice A key.length cc] w1 (RemPost w1 M O m o d b c f key)) := Lib.hid (removeW hO A cc key hkl w1 M O hS1.store HTB.out ((hS1.cell HS.out (.inl HTB.out)).trans HT.out) hrb hnf (fun k hk => ⟨Nat.lt_of_lt_of_le (HKK.out k hk).1 hb1.size, (HKK.out k hk).2⟩)
      (HK.out.keep (Keeps.of_below hb1 fun k hk => (HKK.out k hk).1)) hcok.1 (.inr (by omega)) hcok.2.2)
    have hin : (j : Int) < (cs.length : Int) := by have := HZL.out; omega
    have hj0 : (0 : Int) ≤ (j : Int) := by omega
    have HC := Lib.hid hc
    have HB := Lib.hid hb
    have HF := Lib.hid hff
    have HCK := Lib.hid hcok
    clear hcov hc hb hff hrb hb1 hcok hnf hS1 e2 hcl2 hcm2 HLF HCI
    go_wp2_with fail
    refine HIH.out.mono ?_
    rintro e w2 ⟨M2, O2, c', f', rfl, hS2, hr2, hch2, hok2, hfl2, hf1, hf2, hsm⟩
    have hsz : w.heap.size ≤ w1.heap.size := HS1.out.size
    obtain ⟨fps', u1, u2, u3, u4⟩ := Rep.set_child (t := t) (i := j) HM.out HZ.out HFP.out HNN.out (fun x hx => Nat.lt_of_lt_of_le (HLT.out x hx) hsz) HB.out HF.out hr2 (hch2 : Chg w1.heap.size M M2 f f')
    have HR2 : Rep M2 (d + 1) a (t.1, t.2.set j c') (a :: fps'.flatten) := ⟨cs, fps', u1, u2, rfl⟩
    have hcj : (t.1, t.2.set j c').2[j]? = some c' := by
      show (t.2.set j c')[j]? = _
      rw [List.getElem?_set]
      simp [hjl]
    have hSx : St w O w2 M2 O2 := HS1.out.trans hS2
    have hsep : Sep (flat d) t.1 (t.2.set j c') := sep_set HOK.out.1 HCOV.out HC.out fun y hy => by
      rw [hfl2] at hy
      exact .inr ⟨y, mem_delF hy, rfl⟩
    have hall : ∀ n c0, (t.2.set j c')[n]? = some c0 → Ok m o d c0 ∧ fill d c0 ≤ o ∧ 1 ≤ fill d c0 := fun n c0 hn => by
      rw [List.getElem?_set] at hn
      have h3 := HCK.out
      split at hn
      · injection hn with hn
        subst hn
        exact ⟨hok2, by omega, by omega⟩
      · have := HOK.out.2 c0 (List.mem_of_getElem? hn)
        exact ⟨this.1, this.2.2, by omega⟩
    have HSC := Lib.hid (rebalanceW (tb := tb) hO w2 M2 O2 hS2.store (hSx.ownTop HS.out HTB.out) ((hSx.cell HS.out (.inl HTB.out)).trans HT.out) HR2 u3.nd hcj (by show 2 ≤ (t.2.set j c').length; rw [List.length_set]; exact HLE.out.2.1) (by show (t.2.set j c').length ≤ 40; rw [List.length_set]; have := HLE.out; omega) hsep hall)
    have HG : Hid (getF key (flat d c) = getF key (flat (d + 1) t)) := Lib.hid (by
      have hs := cov_sides HOK.out.1 HCOV.out
      rw [show flat (d + 1) t = flat (d + 1) (t.1, t.2) from rfl, flat_at HC.out, getF_mid hs.1 hs.2])
    have HSX := Lib.hid hSx
    have HU3 := Lib.hid u3
    have HOK2 := Lib.hid hok2
    have HFL2 := Lib.hid hfl2
    have HSM := Lib.hid hsm
    have HF12 : Hid (fill d c' ≤ fill d c ∧ fill d c ≤ fill d c' + 1) := Lib.hid ⟨hf1, hf2⟩
    clear hSx u3 hok2 hfl2 hf1 hf2 hsm hS2 hr2 hch2 u1 u2 u4 HR2 hcj hsep hall
    rw [HG.out]
    obtain ⟨gf, hgf⟩ : ∃ gf, gf = getF key (flat (d + 1) t) := ⟨_, rfl⟩
    rw [← hgf]
    have HGF := Lib.hid hgf
    clear hgf
    go_wp2_with fail
    refine HSC.out.mono ?_
    rintro e w3 ⟨rfl, M3, O3, t', fp', hS3, hr3, hch3, hsp⟩
    have HE : Hid (RemPost w M O m o (d + 1) a t fp key (.returned (.bool gf.isSome)) w3) := Lib.hid (by
      obtain ⟨v1, v2, v3, v4⟩ := del_ok hO HOK.out HLE.out.2.1 HCOV.out HC.out HOK2.out HFL2.out HF12.out.1 HF12.out.2 hsp
      refine ⟨M3, O3, t', fp', ?_, HSX.out.trans hS3, hr3, ?_, v1, v2, v3, v4, fun hgn => ?_⟩
      · rw [HGF.out]
      · exact (HU3.out.mono hsz).trans hch3 HSX.out.size
      · have hcc : c' = c := HSM.out (HG.out.trans hgn)
        subst hcc
        obtain ⟨q1, q2⟩ := List.getElem?_eq_some_iff.1 HC.out
        have hset : t.2.set j c' = t.2 := by rw [← q2]; exact List.set_getElem_self q1
        rw [hset] at hsp
        obtain ⟨c1, h1, h2⟩ := hsp
        rw [HC.out] at h1
        injection h1 with h1
        subst h1
        rcases h2 with ⟨-, h2⟩ | ⟨h2, -⟩
        · exact h2
        · exact absurd HCK.out.2.1 (by omega))
    clear hS3 hr3 hch3 hsp
    go_wp2_with fail
    go_ret
    exact HE.out
end Go.Proofs.Ytjdcnkbkbcfhfaa
