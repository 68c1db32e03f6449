/-
  The walk of bitmap.combine.
-/
import Derived.Test.YthobibjbpbnhnaaChk
namespace Go.Proofs.Ythobibjbpbnhnaa
open Go.RowKit

/-- A bitmap in memory: its value, its groups. -/
structure Bm (w : World) (S : Nat → Prop) (v : Value) (n : Nat) (gs : List Nat) : Prop where
  val : ∃ A c, v = .agg #[.int .i64 n, .slice A (comp gs).length c] ∧ Elems 1 intCs w S A (comp gs)
  good : Good n gs

theorem Bm.keep {w w' : World} {S : Nat → Prop} {v : Value} {n : Nat} {gs : List Nat} (h : Bm w S v n gs) (hk : Keeps S w w') : Bm w' S v n gs := by
  obtain ⟨⟨A, c, h1, h2⟩, h3⟩ := h
  exact ⟨⟨A, c, h1, h2.keep hk⟩, h3⟩
theorem Bm.more {w : World} {S S' : Nat → Prop} {v : Value} {n : Nat} {gs : List Nat} (h : Bm w S v n gs) (hk : ∀ k, S k → S' k) : Bm w S' v n gs := by
  obtain ⟨⟨A, c, h1, h2⟩, h3⟩ := h
  exact ⟨⟨A, c, h1, h2.more hk⟩, h3⟩

/-- What a function leaves that makes a bitmap. -/
def BmPost (w : World) (n : Nat) (gs : List Nat) (e : Ending) (w' : World) : Prop := ∃ v, e = .returned (.tuple #[v, .int .i64 0]) ∧ Bm w' (fun k => w.heap.size ≤ k ∧ k < w'.heap.size) v n gs ∧ Below w.heap.size w w'

def zipOp (op : Nat → Nat → Nat) (a b : List Nat) : List Nat := List.zipWith op a b

theorem Nats.at_ {base : Nat} {w : World} {v : Value} {xs : List Nat} (h : Nats base w v xs) {k : Nat} (hk : k < xs.length) :
    ∃ g c, v = .slice (some ⟨g, 0, none⟩) xs.length c ∧ base ≤ g ∧ g < w.heap.size ∧ w.cell? ⟨g, k, none⟩ = some (.int .i64 (xs[k] : Int)) ∧ w.frozen? ⟨g, k, none⟩ = false := by
  obtain ⟨A, c, hv, hc, hm⟩ := h.form
  have he := h.elems natLay.len hv
  obtain ⟨b, off, hA, hb, hcell⟩ := he.nat hk
  subst hA
  rw [hv] at h
  rcases h.2 with ⟨h1, _⟩ | ⟨g, cap, cur, h1, h2, h3, _⟩
  · cases h1
  · injection h1 with h1 _ h5
    injection h1 with h1
    injection h1 with h1 h6
    subst h1 h5 h6
    exact ⟨b, c, hv, h2, (Array.getElem?_eq_some_iff.1 h3).1, by simpa using hcell, frozen_of_row w b _ _ _ h3⟩
theorem flatMap_set (xs : List Nat) (k m : Nat) : (xs.flatMap natCs).set k (.int .i64 (m : Int)) = (xs.set k m).flatMap natCs := by
  induction xs generalizing k with
  | nil => rfl
  | cons x xs ih =>
    cases k with
    | zero => rfl
    | succ k =>
      show Value.int .i64 (x : Int) :: (xs.flatMap natCs).set k _ = _
      rw [ih]
      rfl
theorem Nats.set {base : Nat} {w : World} {g n c : Nat} {xs : List Nat} (h : Nats base w (.slice (some ⟨g, 0, none⟩) n c) xs) (k m : Nat) :
    Nats base (w.setCell ⟨g, k, none⟩ (.int .i64 (m : Int))) (.slice (some ⟨g, 0, none⟩) n c) (xs.set k m) := by
  have hn : xs.length = n := by
    obtain ⟨A, c', hv, _, _⟩ := h.form
    injection hv with _ h2 _
    exact h2.symm
  have h' : w.ownsRow base 3 1 (.slice (some ⟨g, 0, none⟩) n c) n (xs.flatMap natCs) := by
    have := h
    unfold Nats Own at this
    rwa [hn] at this
  obtain ⟨h1, _⟩ := h'.stored k (.int .i64 (m : Int))
  unfold Nats Own
  rw [List.length_set, hn, ← flatMap_set]
  exact h1

theorem zip_set {op : Nat → Nat → Nat} {a b : List Nat} {k : Nat} (hl : a.length = b.length) (hk : k < a.length) :
    ((zipOp op a b).take k ++ a.drop k).set k (op a[k] (b[k]'(by omega))) = (zipOp op a b).take (k + 1) ++ a.drop (k + 1) := by
  have hz : (zipOp op a b).length = a.length := by unfold zipOp; rw [List.length_zipWith]; omega
  have ht : ((zipOp op a b).take k).length = k := by rw [List.length_take]; omega
  rw [List.set_append_right _ _ (by omega), ht, Nat.sub_self, List.drop_eq_getElem_cons hk, List.set_cons_zero, List.take_succ_eq_append_getElem (by omega), List.append_assoc]
  unfold zipOp
  rw [List.getElem_zipWith]
  rfl

/-- The boxes of combine. -/
structure KInv (w : World) (n : Nat) (sa sb : Value) (wr : World) : Prop where
  below : Below w.heap.size w wr
  b3 : wr.heap[w.heap.size]? = some (.cells #[.int .i64 n, sa] 24 (0, 0))
  b4 : wr.heap[w.heap.size + 1]? = some (.cells #[.int .i64 n, sb] 24 (0, 0))
  b6 : wr.heap[w.heap.size + 2]? = some (.cells #[.int .i64 0, .slice none 0 0] 24 (0, 0))
theorem KInv.lb {w wr : World} {n : Nat} {sa sb : Value} (h : KInv w n sa sb wr) : w.heap.size + 3 ≤ wr.heap.size := (Array.getElem?_eq_some_iff.1 h.b6).1
theorem KInv.keep {w wr w1 : World} {n B : Nat} {sa sb : Value} (h : KInv w n sa sb wr) (hb : Below B wr w1) (hB : w.heap.size + 3 ≤ B) : KInv w n sa sb w1 :=
  ⟨h.below.trans (hb.mono (by omega)), (hb.block _ (by omega)).trans h.b3, (hb.block _ (by omega)).trans h.b4, (hb.block _ (by omega)).trans h.b6⟩
theorem KInv.first (w : World) (n : Nat) (sa sb : Value) : KInv w n sa sb (((w.alloc (.cells #[.int .i64 n, sa] 24)).alloc (.cells #[.int .i64 n, sb] 24)).alloc (.cells #[.int .i64 0, .slice none 0 0] 24)) := by
  have s1 := size1 w (.cells #[.int .i64 n, sa] 24)
  have s2 := size1 (w.alloc (.cells #[.int .i64 n, sa] 24)) (.cells #[.int .i64 n, sb] 24)
  refine ⟨(((Below.refl _ _).alloc (Nat.le_refl _) _).alloc (by omega) _).alloc (by omega) _, ?_, ?_, ?_⟩
  · rw [Below.heap_alloc _ _ _ (by omega), Below.heap_alloc _ _ _ (by omega)]
    exact heap_alloc_new w _
  · rw [Below.heap_alloc _ _ _ (by omega)]
    exact alloc2_at w _ _
  · have := heap_alloc_new ((w.alloc (.cells #[.int .i64 n, sa] 24)).alloc (.cells #[.int .i64 n, sb] 24)) (.cells #[.int .i64 0, .slice none 0 0] 24)
    rwa [s2, s1] at this

set_option maxRecDepth 100000 in
set_option maxHeartbeats 1000000 in
theorem combine (f : FuncId) (op : Nat → Nat → Nat) (va vb : Value) (n : Nat) (a b : List Nat) (w : World) (HOp : Opn f op) (ha : Bm w (· < w.heap.size) va n a) (hb : Bm w (· < w.heap.size) vb n b) (hg : Good n (zipOp op a b)) (hn : n ≤ 100000) (hn1 : 1 ≤ n) :
    Calls Try.prog 17 #[va, vb, .func (.func f) #[] #[]] w (BmPost w n (zipOp op a b)) := by
  obtain ⟨⟨A, c, rfl, hA⟩, gA⟩ := ha
  obtain ⟨⟨B, d, rfl, hB⟩, gB⟩ := hb
  have HGA := Lib.hid gA
  have HGB := Lib.hid gB
  have HG := Lib.hid hg
  have HO := Lib.hid HOp
  have i0 : ∀ w : World, (Instr.index 47 (.agg #[.int .i64 n, .slice A (comp a).length c, .int .i64 n, .slice B (comp b).length d]) (.int .i64 0)).run Try.prog w = .ok (.agg #[.int .i64 n, .slice A (comp a).length c]) w := fun _ => by kernel_rfl
  have i1 : ∀ w : World, (Instr.index 47 (.agg #[.int .i64 n, .slice A (comp a).length c, .int .i64 n, .slice B (comp b).length d]) (.int .i64 1)).run Try.prog w = .ok (.agg #[.int .i64 n, .slice B (comp b).length d]) w := fun _ => by kernel_rfl
  have HN := Lib.hid hn
  have HN1 := Lib.hid hn1
  have HK := Lib.hid (KInv.first w n (.slice A (comp a).length c) (.slice B (comp b).length d))
  clear gA gB hg HOp hn hn1
  go_enter Try.func17, Try.ntmps17
  go_wp2_with fail
  go_loopw [20] (fun i wr => (i = .int .i64 0 ∨ i = .int .i64 1 ∨ i = .int .i64 2) ∧ KInv w n (.slice A (comp a).length c) (.slice B (comp b).length d) wr) (fun i _ => 2 - (intOf i).toNat)
  case atStart => exact ⟨.inl rfl, HK.out⟩
  case round =>
    obtain ⟨hq, HI0⟩ := hrel
    clear HK
    have HI := Lib.hid HI0
    have hkA := Lib.hid (hA.keep (Keeps.of_below HI0.below fun _ h => h))
    have hkB := Lib.hid (hB.keep (Keeps.of_below HI0.below fun _ h => h))
    have hsz := HI0.lb
    have HS : Hid (∀ o : Obj, Keeps (· < w.heap.size) wr (wr.alloc o)) := Lib.hid fun o k hk => Below.heap_alloc _ _ _ (by have h : k < w.heap.size := hk; omega)
    have HM : Hid (∀ o : Obj, ∀ k, k < w.heap.size → k < (wr.alloc o).heap.size) := Lib.hid fun o k hk => by rw [size1]; omega
    clear HI0
    rcases hq with rfl | rfl | rfl
    · go_wp2_with fail
      refine (checkB n A c a _ ((hkA.out.keep (HS.out _)).more (HM.out _)) HGA.out HN.out HN1.out).mono ?_
      rintro e w1 ⟨rfl, hb1⟩
      go_wp2_with fail
      go_roundw
      case rel => exact ⟨.inr (.inl rfl), (HI.out.keep ((Below.refl _ _).alloc (Nat.le_refl _) _) hsz).keep hb1 (by rw [size1]; omega)⟩
      case measure => simp [intOf]
    · go_wp2_with fail
      refine (checkB n B d b _ ((hkB.out.keep (HS.out _)).more (HM.out _)) HGB.out HN.out HN1.out).mono ?_
      rintro e w1 ⟨rfl, hb1⟩
      go_wp2_with fail
      go_roundw
      case rel => exact ⟨.inr (.inr rfl), (HI.out.keep ((Below.refl _ _).alloc (Nat.le_refl _) _) hsz).keep hb1 (by rw [size1]; omega)⟩
      case measure => simp [intOf]
    · clear HS HM hA hB
      have c30 := cell_of_row _ _ 0 _ _ _ HI.out.b3
      have c31 := cell_of_row _ _ 1 _ _ _ HI.out.b3
      have c40 := cell_of_row _ _ 0 _ _ _ HI.out.b4
      have c41 := cell_of_row _ _ 1 _ _ _ HI.out.b4
      go_wp2_with fail
      have hxA := (hkA.out.more (S' := (· < wr.heap.size)) fun k (hk : k < w.heap.size) => by omega)
      refine (expand n A c a wr hxA HGA.out HN.out HN1.out).mono ?_
      rintro e w1 ⟨vx, rfl, hox, hb1⟩
      have HI1 := HI.out.keep hb1 hsz
      have e40 := cell_of_row _ _ 0 _ _ _ HI1.b4
      have e41 := cell_of_row _ _ 1 _ _ _ HI1.b4
      have hxB := ((hkB.out.more (S' := (· < wr.heap.size)) fun k (hk : k < w.heap.size) => by omega).keep (Keeps.of_below hb1 fun _ h => h)).more (S' := (· < w1.heap.size)) fun k (hk : k < wr.heap.size) => Nat.lt_of_lt_of_le hk hb1.size
      clear hxA
      go_wp2_with fail
      refine (expand n B d b w1 hxB HGB.out HN.out HN1.out).mono ?_
      rintro e w2 ⟨vy, rfl, hoy, hb2⟩
      have HI2 := HI1.keep hb2 (Nat.le_trans hsz hb1.size)
      have hx2 := (hox.below hb2)
      obtain ⟨Ax, nx, cx, rfl, hnx⟩ := hx2.form'
      obtain ⟨Ay, ny, cy, rfl, hny⟩ := hoy.form'
      subst hnx hny
      have helx := (hx2.elems natLay.len rfl).more (S' := (· < w2.heap.size)) fun k hk => (hx2.lt k hk).2
      have hely := (hoy.elems natLay.len rfl).more (S' := (· < w2.heap.size)) fun k hk => (hoy.lt k hk).2
      have hla : a.length ≤ 4000 := by rw [HGA.out.len]; exact gc_le HN.out
      clear hxB e40 e41
      go_wp2_with fail
      refine (clone_ints natLay Ax _ cx a w2 _ helx (fun _ h => h) rfl (by omega)).mono ?_
      rintro e w3 ⟨vo, rfl, hoo, hb3⟩
      have HI3 := Lib.hid HI2
      have hlb : b.length = a.length := HGB.out.len.trans HGA.out.len.symm
      have HLB := Lib.hid hlb
      have hpos : 1 ≤ a.length := by have h1 := HGA.out.len; have h2 := HN1.out; unfold gc at h1; omega
      obtain ⟨g0, c0, rfl, hg0, hgw, _, _⟩ := Nats.at_ hoo (k := 0) hpos
      have hs2 : w.heap.size + 3 ≤ w2.heap.size := Nat.le_trans hsz (Nat.le_trans hb1.size hb2.size)
      have HEX := Lib.hid helx
      have HEY := Lib.hid hely
      have hso : Nats w2.heap.size w3 (.slice (some ⟨g0, 0, none⟩) a.length c0) ((zipOp op a b).take 0 ++ a.drop 0) := by simpa using hoo
      have HSO := Lib.hid hso
      clear hlb HI2 HI1 HI hx2 helx hely hox hoy hoo hso hb1 c30 c31 c40 c41 hgw hg0
      go_wp2_with fail
      go_loopw [50] (fun i w4 => ∃ k : Nat, k ≤ a.length ∧ i = .int .i64 k ∧ Nats w2.heap.size w4 (.slice (some ⟨g0, 0, none⟩) a.length c0) ((zipOp op a b).take k ++ a.drop k) ∧ Below w2.heap.size w2 w4) (fun i _ => a.length - (intOf i).toNat)
      case atStart => exact ⟨0, by omega, rfl, HSO.out, hb3⟩
      case round =>
        clear HSO hb3
        obtain ⟨k, hk, rfl, hok, hbk⟩ := hrel
        by_cases hlt : k < a.length
        · have hlb := HLB.out
          have hkb : k < b.length := by omega
          obtain ⟨bx, ox, rfl, hbx, px⟩ := (HEX.out.keep (Keeps.of_below hbk fun _ h => h)).nat hlt
          obtain ⟨by_, oy, rfl, hby, py⟩ := (HEY.out.keep (Keeps.of_below hbk fun _ h => h)).nat (k := k) hkb
          have hml : ((zipOp op a b).take k ++ a.drop k).length = a.length := by
            have : (zipOp op a b).length = a.length := by unfold zipOp; rw [List.length_zipWith]; omega
            simp
            omega
          obtain ⟨g1, c1, e1, hg1, hgw1, pz, zz⟩ := Nats.at_ hok (k := k) (by omega)
          injection e1 with e1 e3 e2
          clear e3
          injection e1 with e1
          injection e1 with e1
          subst e1 e2
          have hset := Nats.set hok k (op a[k] (b[k]'hkb))
          rw [zip_set hlb.symm hlt] at hset
          have HSET := Lib.hid hset
          have HR : Hid (∀ W, Calls Try.prog f #[.int .i64 (a[k] : Nat), .int .i64 ((b[k]'hkb : Nat))] W fun e w' => e = .returned (.int .i64 (op a[k] (b[k]'hkb) : Nat)) ∧ w' = W) := Lib.hid fun W => (HO.out.run a[k] (b[k]'hkb) W (HGA.out.le _ (List.getElem_mem _)) (HGB.out.le _ (List.getElem_mem _))).mono fun _ _ h => ⟨h.1, h.2.symm⟩
          have hi0 : (0 : Int) ≤ (k : Int) := by omega
          have hi1 : (k : Int) < (a.length : Int) := by omega
          have hi2 : (k : Int) < (b.length : Int) := by omega
          have HBK := Lib.hid hbk
          obtain ⟨zo, pzo⟩ : ∃ zo : Value, wr.cell? ⟨g0, k, none⟩ = some zo := ⟨_, pz⟩
          clear pz
          clear hok hset hml hbk hlb
          generalize op a[k] (b[k]'hkb) = z at *
          generalize ((a[k] : Nat) : Int) = x at *
          generalize ((b[k]'hkb : Nat) : Int) = y at *
          generalize ((z : Nat) : Int) = zi at *
          go_wp2_with fail
          go_still_tail 13, (by kernel_rfl)
          have hent := HO.out.ent
          still_call (HR.out _)
          repeat still_step
          refine wpStill_nil ?_
          change wpList _ _ _ _ _ wr.drew
          go_wp2_with fail
          go_roundw
          case rel => exact ⟨k + 1, by omega, by go_num, HSET.out.drew, (HBK.out.setCell (p := ⟨g0, k, none⟩) hg1 _).drew⟩
          case measure => simp [intOf]; omega
        · have hka : k = a.length := by omega
          subst hka
          have hz : (zipOp op a b).length = a.length := by have := HLB.out; unfold zipOp; rw [List.length_zipWith]; omega
          have hfin : (zipOp op a b).take a.length ++ a.drop a.length = zipOp op a b := by
            rw [← hz, List.take_length, hz, List.drop_length, List.append_nil]
          rw [hfin] at hok
          have hel := (hok.elems natLay.len rfl).more (S' := (· < wr.heap.size)) fun k hk => (hok.lt k hk).2
          have HCP := compress n _ c0 (zipOp op a b) wr hel (by omega) HG.out.le
          rw [hz] at HCP
          have HCP := Lib.hid HCP
          have HI4 := Lib.hid (HI3.out.keep hbk hs2)
          have c30 := cell_of_row _ _ 0 _ _ _ HI4.out.b3
          have hwr : w.heap.size + 3 ≤ wr.heap.size := Nat.le_trans hs2 hbk.size
          clear hel hok hfin hz hbk
          go_wp2_with fail
          refine HCP.out.mono ?_
          rintro e w5 ⟨v5, rfl, ho5, hb5⟩
          have HI5 := HI4.out.keep hb5 hwr
          obtain ⟨A5, m5, c5, rfl, hm5⟩ := ho5.form'
          have y0 := cell_of_row _ _ 0 _ _ _ HI5.b6
          have y1 := cell_of_row _ _ 1 _ _ _ HI5.b6
          have x0 := frozen_of_row _ _ 0 _ _ HI5.b6
          have x1 := frozen_of_row _ _ 1 _ _ HI5.b6
          have H5 := Lib.hid HI5
          clear HI5 c30
          go_wp2_with fail
          have e0 := heap_setCell_same _ (w.heap.size + 2) 0 _ _ (.int .i64 n) H5.out.b6
          have e1 := heap_setCell_same _ (w.heap.size + 2) 1 _ _ (.slice A5 m5 c5) e0
          have r0 := cell_of_row _ (w.heap.size + 2) 0 _ _ _ e1
          have r1 := cell_of_row _ (w.heap.size + 2) 1 _ _ _ e1
          simp at r0 r1
          refine bodyPost_ret (v := .tuple #[.agg #[.int .i64 n, .slice A5 m5 c5], .int .i64 0]) (by simp [results, Try.results17, go_sem, r0, r1]) rfl ?_
          have hne : ∀ i g, (Value.slice A5 m5 c5).ownBlock = some g → g ≠ (⟨w.heap.size + 2, i, none⟩ : Addr).block := fun i g hg => by have := (ho5.lt g hg).1; show g ≠ w.heap.size + 2; omega
          have ho6 := (ho5.setCell (hne 0) (.int .i64 n)).setCell (hne 1) (.slice A5 m5 c5)
          subst hm5
          exact ⟨_, rfl, ⟨⟨A5, c5, rfl, (ho6.elems intLay.len rfl).more fun k hk => ⟨by have := (ho6.lt k hk).1; omega, (ho6.lt k hk).2⟩⟩, HG.out⟩, (H5.out.below.setCell (p := ⟨w.heap.size + 2, 0, none⟩) (by show _ ≤ w.heap.size + 2; omega) _).setCell (p := ⟨w.heap.size + 2, 1, none⟩) (by show _ ≤ w.heap.size + 2; omega) _⟩

end Go.Proofs.Ythobibjbpbnhnaa
