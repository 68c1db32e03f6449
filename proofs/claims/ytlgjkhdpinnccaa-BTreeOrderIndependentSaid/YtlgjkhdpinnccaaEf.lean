/-
  The walks of slices.EqualFunc over entries, and of the three comparisons.
-/
import Derived.Test.YtlgjkhdpinnccaaTe2
import Derived.Test.YtlgjkhdpinnccaaEqw
namespace Go.Proofs.Ytlgjkhdpinnccaa
open Go.RowKit Go.Sort

/-- A comparison that says yes of entries with equal rows (and values). -/
structure EqC (fid : FuncId) (vals : Bool) : Prop where
  ent : ∀ (args : Array Value) (w : World), (callFunc fid args).run Try.prog w = .ok (.enter fid args) w
  run : ∀ (x y : Ent) (W : World) (K L : Nat → Prop), KOk K W x.key → KOk L W y.key → (∀ k, K k → k < W.heap.size) → (∀ k, L k → k < W.heap.size) → x.key.row = y.key.row → (vals = true → x.val = y.val) →
    Calls Try.prog fid #[entV x, entV y] W fun e w' => e = .returned (.bool true) ∧ Below W.heap.size W w'

set_option maxRecDepth 100000 in
set_option maxHeartbeats 4000000 in
theorem eqOrder : EqC 19 false := by
  refine ⟨fun args w => by kernel_rfl, fun x y W K L hx hy hK hL hr _ => ?_⟩
  have HB : Hid (∀ o o', Below W.heap.size W ((W.alloc o).alloc o')) := Lib.hid fun o o' => ((Below.refl _ _).alloc (Nat.le_refl _) o).alloc (le_size1 (Nat.le_refl _) _) o'
  have HE : Hid (∀ o o', Calls Try.prog 20 #[.slice x.key.A x.key.row.length x.key.c, .slice y.key.A y.key.row.length y.key.c] ((W.alloc o).alloc o') fun e w' => e = .returned (.bool true) ∧ ∃ n, w' = ((W.alloc o).alloc o').drewN n) := Lib.hid fun o o' => by
    have hb : Below W.heap.size W ((W.alloc o).alloc o') := ((Below.refl _ _).alloc (Nat.le_refl _) o).alloc (le_size1 (Nat.le_refl _) _) o'
    have := rowsEqual x.key.A y.key.A x.key.c y.key.c x.key.row y.key.row _ _ _ (hx.el.keep (Keeps.of_below hb hK)) (hy.el.keep (Keeps.of_below hb hL)) (by have := hx.len; unfold maxLen; omega) (by have := hy.len; unfold maxLen; omega)
    rwa [show decide (x.key.row = y.key.row) = true from by simp [hr]] at this
  clear hx hy hK hL hr
  go_enter Try.func19, Try.ntmps19
  go_wp2_with fail
  refine (HE.out _ _).mono ?_
  rintro e w' ⟨rfl, n, rfl⟩
  go_wp2_with fail
  go_ret
  exact ⟨rfl, (HB.out _ _).trans (below_drewN (Below.refl _ _) n)⟩

set_option maxRecDepth 100000 in
set_option maxHeartbeats 4000000 in
theorem eqRange : EqC 24 true := by
  refine ⟨fun args w => by kernel_rfl, fun x y W K L hx hy hK hL hr hv => ?_⟩
  have HB : Hid (∀ o o', Below W.heap.size W ((W.alloc o).alloc o')) := Lib.hid fun o o' => ((Below.refl _ _).alloc (Nat.le_refl _) o).alloc (le_size1 (Nat.le_refl _) _) o'
  have HE : Hid (∀ o o', Calls Try.prog 20 #[.slice x.key.A x.key.row.length x.key.c, .slice y.key.A y.key.row.length y.key.c] ((W.alloc o).alloc o') fun e w' => e = .returned (.bool true) ∧ ∃ n, w' = ((W.alloc o).alloc o').drewN n) := Lib.hid fun o o' => by
    have hb : Below W.heap.size W ((W.alloc o).alloc o') := ((Below.refl _ _).alloc (Nat.le_refl _) o).alloc (le_size1 (Nat.le_refl _) _) o'
    have := rowsEqual x.key.A y.key.A x.key.c y.key.c x.key.row y.key.row _ _ _ (hx.el.keep (Keeps.of_below hb hK)) (hy.el.keep (Keeps.of_below hb hL)) (by have := hx.len; unfold maxLen; omega) (by have := hy.len; unfold maxLen; omega)
    rwa [show decide (x.key.row = y.key.row) = true from by simp [hr]] at this
  have hv := hv rfl
  have hvb : (x.val == y.val) = true := by simp [hv]
  clear hx hy hK hL hr
  go_enter Try.func24, Try.ntmps24
  go_wp2_with fail
  refine (HE.out _ _).mono ?_
  rintro e w' ⟨rfl, n, rfl⟩
  go_wp2_with fail
  go_ret
  exact ⟨by simp, (HB.out _ _).trans (below_drewN (Below.refl _ _) n)⟩

set_option maxRecDepth 100000 in
set_option maxHeartbeats 4000000 in
theorem eqDelete : EqC 26 true := by
  refine ⟨fun args w => by kernel_rfl, fun x y W K L hx hy hK hL hr hv => ?_⟩
  have HB : Hid (∀ o o', Below W.heap.size W ((W.alloc o).alloc o')) := Lib.hid fun o o' => ((Below.refl _ _).alloc (Nat.le_refl _) o).alloc (le_size1 (Nat.le_refl _) _) o'
  have HE : Hid (∀ o o', Calls Try.prog 20 #[.slice x.key.A x.key.row.length x.key.c, .slice y.key.A y.key.row.length y.key.c] ((W.alloc o).alloc o') fun e w' => e = .returned (.bool true) ∧ ∃ n, w' = ((W.alloc o).alloc o').drewN n) := Lib.hid fun o o' => by
    have hb : Below W.heap.size W ((W.alloc o).alloc o') := ((Below.refl _ _).alloc (Nat.le_refl _) o).alloc (le_size1 (Nat.le_refl _) _) o'
    have := rowsEqual x.key.A y.key.A x.key.c y.key.c x.key.row y.key.row _ _ _ (hx.el.keep (Keeps.of_below hb hK)) (hy.el.keep (Keeps.of_below hb hL)) (by have := hx.len; unfold maxLen; omega) (by have := hy.len; unfold maxLen; omega)
    rwa [show decide (x.key.row = y.key.row) = true from by simp [hr]] at this
  have hv := hv rfl
  have hvb : (x.val == y.val) = true := by simp [hv]
  clear hx hy hK hL hr
  go_enter Try.func26, Try.ntmps26
  go_wp2_with fail
  refine (HE.out _ _).mono ?_
  rintro e w' ⟨rfl, n, rfl⟩
  go_wp2_with fail
  go_ret
  exact ⟨by simp, (HB.out _ _).trans (below_drewN (Below.refl _ _) n)⟩

/-- Entries in memory, as a comparison reads them. -/
structure EnR (w : World) (A : Option Addr) (es : List Ent) : Prop where
  el : Elems 2 Ent.cs w (· < w.heap.size) A es
  row : ∀ e ∈ es, KOk (· < w.heap.size) w e.key
theorem EnR.below {w w' : World} {A : Option Addr} {es : List Ent} (h : EnR w A es) (hb : Below w.heap.size w w') : EnR w' A es :=
  ⟨(h.el.keep (Keeps.of_below hb fun _ h => h)).more fun _ hk => Nat.lt_of_lt_of_le hk hb.size, fun e he => (h.row e he).of fun _ hk => ⟨hb.block _ hk, Nat.lt_of_lt_of_le hk hb.size⟩⟩
theorem Cop.enr {ob : Nat} {w : World} {A : Option Addr} {n c : Nat} {s : List PE} {es : List Ent} (h : Cop ob w (.slice A n c) s es) : EnR w A es :=
  ⟨(h.own.elems entLay.len rfl).more fun k hk => (Own.lt h.own k hk).2, fun e he => (h.row e he).more fun _ hk => hk.2.1⟩

set_option maxRecDepth 100000 in
set_option maxHeartbeats 4000000 in
theorem equalFuncW {fid : FuncId} {vals : Bool} (hC : EqC fid vals) (A B : Option Addr) (c d : Nat) (xs ys : List Ent) (w : World) (hx : EnR w A xs) (hy : EnR w B ys) (hl : xs.length = ys.length) (hl2 : xs.length ≤ 1000) (hr : xs.map er = ys.map er) (hv : vals = true → xs.map Ent.val = ys.map Ent.val) :
    Calls Try.prog 17 #[.slice A xs.length c, .slice B ys.length d, .func (.func fid) #[] #[]] w fun e w' => e = .returned (.bool true) ∧ Below w.heap.size w w' := by
  have HX := Lib.hid hx
  have HY := Lib.hid hy
  have HC := Lib.hid hC
  have HRV : Hid (∀ (i : Nat) (x y : Ent), xs[i]? = some x → ys[i]? = some y → x.key.row = y.key.row ∧ (vals = true → x.val = y.val)) := Lib.hid fun i x y h1 h2 => by
    refine ⟨?_, fun hv1 => ?_⟩
    · have := congrArg (fun l => l[i]?) hr
      simp only [List.getElem?_map, h1, h2, Option.map_some] at this
      exact Option.some.inj this
    · have := congrArg (fun l => l[i]?) (hv hv1)
      simp only [List.getElem?_map, h1, h2, Option.map_some] at this
      exact Option.some.inj this
  obtain ⟨n, hn⟩ : ∃ n, xs.length = n := ⟨_, rfl⟩
  have hn2 : ys.length = n := by omega
  rw [hn, hn2]
  have hn3 : n ≤ 1000 := by omega
  have HN := Lib.hid hn2
  have HNX := Lib.hid hn
  clear hx hy hC hr hv hn hl hn2 hl2
  have hent := HC.out.ent
  go_enter Try.func17, Try.ntmps17
  go_wp2_with fail
  go_loopw [17] (fun vi wr => ∃ i : Nat, vi = .int .i64 (i : Int) ∧ i ≤ n ∧ Below w.heap.size w wr) (fun vi _ => n - (intOf vi).toNat)
  case atStart => exact ⟨0, rfl, by omega, Below.refl _ _⟩
  case round =>
    obtain ⟨i, rfl, hin, hb⟩ := hrel
    have HB := Lib.hid hb
    clear hb
    by_cases hlt : i < n
    · have hix : i < xs.length := by have := HNX.out; omega
      have hiy : i < ys.length := by have := HN.out; omega
      have hxr := HX.out.below HB.out
      have hyr := HY.out.below HB.out
      obtain ⟨b, off, rfl, -, p0, p1⟩ := hxr.el.ent hix
      obtain ⟨b', off', rfl, hb', q0, q1⟩ := hyr.el.ent hiy
      have hrv := HRV.out i xs[i] ys[i] (List.getElem?_eq_getElem hix) (List.getElem?_eq_getElem hiy)
      have hkx := hxr.row _ (List.getElem_mem hix)
      have hky := hyr.row _ (List.getElem_mem hiy)
      generalize xs[i] = x at *
      generalize ys[i] = y at *
      have HRUN : Hid (∀ o o', Calls Try.prog fid #[entV x, entV y] ((wr.alloc o).alloc o') fun e w' => e = .returned (.bool true) ∧ Below w.heap.size w w') := Lib.hid fun o o' => by
        have hba : Below wr.heap.size wr ((wr.alloc o).alloc o') := ((Below.refl _ _).alloc (Nat.le_refl _) o).alloc (le_size1 (Nat.le_refl _) _) o'
        refine (HC.out.run x y _ (fun k => k < wr.heap.size) (fun k => k < wr.heap.size) (hkx.keep (Keeps.of_below hba fun _ h => h)) (hky.keep (Keeps.of_below hba fun _ h => h)) (fun k hk => Nat.lt_of_lt_of_le hk hba.size) (fun k hk => Nat.lt_of_lt_of_le hk hba.size) hrv.1 hrv.2).mono ?_
        rintro e w' ⟨rfl, hb'⟩
        exact ⟨rfl, (HB.out.trans (hba.mono HB.out.size)).trans (hb'.mono (Nat.le_trans HB.out.size hba.size))⟩
      have hli : (i : Int) < (n : Int) := by omega
      have hg : (0 : Int) ≤ (i : Int) := by omega
      have q0a : ∀ o, (wr.alloc o).cell? ⟨b', off' + i * 2, none⟩ = some (.slice y.key.A y.key.row.length y.key.c) := fun o => (((Below.refl _ _).alloc (Nat.le_refl _) o).cell (p := ⟨b', off' + i * 2, none⟩) hb').trans q0
      have q1a : ∀ o, (wr.alloc o).cell? ⟨b', off' + i * 2 + 1, none⟩ = some (.int .i64 y.val) := fun o => (((Below.refl _ _).alloc (Nat.le_refl _) o).cell (p := ⟨b', off' + i * 2 + 1, none⟩) hb').trans q1
      clear hxr hyr hrv hkx hky
      go_wp2_with fail
      refine (HRUN.out _ _).mono ?_
      rintro e w2 ⟨rfl, hb2⟩
      have HB2 := Lib.hid hb2
      clear hb2 HRUN
      go_wp2_with fail
      go_roundw
      case rel => exact ⟨i + 1, by go_num, by omega, HB2.out⟩
      case measure => simp [intOf]; omega
    · have hie : i = n := by omega
      subst hie
      have hli : ¬ ((i : Int) < (i : Int)) := by omega
      go_wp2_with fail
      go_ret
      exact ⟨rfl, HB.out⟩
end Go.Proofs.Ytlgjkhdpinnccaa
