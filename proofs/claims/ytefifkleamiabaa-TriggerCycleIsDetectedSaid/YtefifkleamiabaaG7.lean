/-
  Instances in memory; the walk of instance.ConformsRow, where the row fits.
-/
import Derived.Test.YtefifkleamiabaaG6
import Derived.Test.YtefifkleamiabaaYb
namespace Go.Proofs.Ytefifkleamiabaa
open Go.RowKit Go.Sort

/-- A relation: its table's name and its rows. -/
structure RelM where
  name : ByteArray
  A : Option Addr
  c : Nat
  rows : List Key
def RelM.cs (r : RelM) : List Value := [.string r.name, .slice r.A r.rows.length r.c]
theorem relLay : Lay 2 RelM.cs := ⟨fun _ => rfl, fun x c hc => by simp [RelM.cs] at hc; rcases hc with rfl | rfl <;> rfl⟩
/-- Its data. -/
def RelM.d (r : RelM) : ByteArray × List Row := (r.name, r.rows.map Key.row)
theorem Elems.rel {w : World} {S : Nat → Prop} {A : Option Addr} {r : List RelM} {k : Nat} (h : Elems 2 RelM.cs w S A r) (hk : k < r.length) : ∃ b off, A = some ⟨b, off, none⟩ ∧ S b ∧ w.cell? ⟨b, off + k * 2, none⟩ = some (.string r[k].name) ∧ w.cell? ⟨b, off + k * 2 + 1, none⟩ = some (.slice r[k].A r[k].rows.length r[k].c) := by
  obtain ⟨b, off, e, hb, hc⟩ := h.at_ hk
  exact ⟨b, off, e, hb, hc 0 _ rfl, hc 1 _ rfl⟩
/-- The rows of a table in memory. -/
structure RsOk (S : Nat → Prop) (w : World) (A : Option Addr) (ks : List Key) : Prop where
  el : Elems 1 Key.cs w S A ks
  row : ∀ k ∈ ks, KOk S w k
structure InOk (S : Nat → Prop) (w : World) (A : Option Addr) (rs : List RelM) : Prop where
  el : Elems 2 RelM.cs w S A rs
  rel : ∀ r ∈ rs, RsOk S w r.A r.rows
section
variable {S S' : Nat → Prop} {w w' : World} {A : Option Addr} {ks : List Key} {rs : List RelM}
theorem RsOk.keep (h : RsOk S w A ks) (hk : Keeps S w w') : RsOk S w' A ks := ⟨h.el.keep hk, fun k hm => (h.row k hm).keep hk⟩
theorem RsOk.more (h : RsOk S w A ks) (hs : ∀ k, S k → S' k) : RsOk S' w A ks := ⟨h.el.more hs, fun k hm => (h.row k hm).more hs⟩
theorem RsOk.on (h : RsOk (· < w.heap.size) w A ks) (hb : Below w.heap.size w w') : RsOk (· < w'.heap.size) w' A ks := (h.keep (Keeps.of_below hb fun _ h => h)).more fun _ hk => Nat.lt_of_lt_of_le hk hb.size
theorem InOk.keep (h : InOk S w A rs) (hk : Keeps S w w') : InOk S w' A rs := ⟨h.el.keep hk, fun r hm => (h.rel r hm).keep hk⟩
theorem InOk.more (h : InOk S w A rs) (hs : ∀ k, S k → S' k) : InOk S' w A rs := ⟨h.el.more hs, fun r hm => (h.rel r hm).more hs⟩
theorem InOk.on (h : InOk (· < w.heap.size) w A rs) (hb : Below w.heap.size w w') : InOk (· < w'.heap.size) w' A rs := (h.keep (Keeps.of_below hb fun _ h => h)).more fun _ hk => Nat.lt_of_lt_of_le hk hb.size
end

/-- A row that fits the columns. -/
structure RowC (cols : List Col) (r : Row) : Prop where
  len : r.length = cols.length
  err : ∀ v ∈ r, v.err = 0
  col : ∀ (i : Nat) (h : i < r.length), colOk (cols.getD i col0) r[i]

set_option maxRecDepth 100000 in
set_option maxHeartbeats 4000000 in
theorem conformsRow (t : Tbl) (A : Option Addr) (c : Nat) (r : Row) (w : World) (ht : TOk (· < w.heap.size) w t) (hx : Elems 3 Val.cs w (· < w.heap.size) A r) (h6 : t.cols.length ≤ 1000) (hr : RowC t.cols r) :
    Calls Try.prog 17 #[t.val, .slice A r.length c] w fun e w' => e = .returned (.int .i64 0) ∧ Below w.heap.size w w' := by
  obtain ⟨name, CA, cc, tc, PA, pc, pk⟩ := t
  have HC := Lib.hid ht.cols
  have HX := Lib.hid hx
  have HR := Lib.hid hr
  obtain ⟨n, hn⟩ : ∃ n, tc.length = n := ⟨_, rfl⟩
  have hrn : r.length = n := by rw [← hn]; exact hr.len
  have h6 : n ≤ 1000 := by rw [← hn]; exact h6
  unfold Tbl.val
  simp only
  rw [hrn, hn]
  have HN := Lib.hid (And.intro hn hrn)
  obtain ⟨w1, hw1⟩ : ∃ w1, w1 = w.alloc (.cells #[.string name, .slice CA n cc, .slice PA pk.length pc] 58) := ⟨_, rfl⟩
  have hbx := heap_alloc_new w (.cells #[.string name, .slice CA n cc, .slice PA pk.length pc] 58)
  rw [← hw1] at hbx
  have hb1 : Below w.heap.size w w1 := by rw [hw1]; exact (Below.refl _ _).alloc (Nat.le_refl _) _
  have hs1 : w.heap.size < w1.heap.size := by rw [hw1]; simp
  have HBK : Hid (∀ W, Below w1.heap.size w1 W → W.cell? ⟨w.heap.size, 1, none⟩ = some (.slice CA n cc)) := Lib.hid fun W hW => by
    rw [cell_of_row _ _ _ _ _ _ ((hW.block w.heap.size hs1).trans hbx)]
    rfl
  have HB1 := Lib.hid hb1
  have HW1 := Lib.hid hw1
  have c1 := HBK.out w1 (Below.refl _ _)
  have HVL := Lib.hid fun k n s W => validate k n s W
  clear ht hx hr hn hrn hw1 hbx hb1 hs1
  go_enter Try.func17, Try.ntmps17
  go_upto_region 1 with fail
  rw [← HW1.out]
  go_wp2_with fail
  go_loopw [16] (fun vi wr => ∃ k : Nat, vi = .int .i64 (k : Int) ∧ k ≤ n ∧ Below w1.heap.size w1 wr) (fun vi _ => n - (intOf vi).toNat)
  case atStart => exact ⟨0, rfl, by omega, Below.refl _ _⟩
  case round =>
    obtain ⟨k, rfl, hkn, hb⟩ := hrel
    obtain ⟨wo, rfl⟩ : ∃ wo, wo = wr := ⟨_, rfl⟩
    have hbw : Below w.heap.size w wo := HB1.out.trans (hb.mono HB1.out.size)
    by_cases hlt : k < n
    · have hkr : k < r.length := by have := HN.out; omega
      have hkc : k < tc.length := by have := HN.out; omega
      have hxr := HX.out.on hbw
      have hco := HR.out.col k hkr
      have hgd : tc.getD k col0 = tc[k] := by rw [List.getD_eq_getElem?_getD, List.getElem?_eq_getElem hkc]; rfl
      have hco : colOk tc[k] r[k] := hgd ▸ hco
      have her : vErr r[k].kind r[k].int r[k].text = 0 := HR.out.err _ (List.getElem_mem hkr)
      obtain ⟨b', off', hA', -, p0, p1, p2⟩ := hxr.val hkr
      have hba : ∀ o, Below wo.heap.size wo (wo.alloc o) := fun o => (Below.refl _ _).alloc (Nat.le_refl _) o
      have HCC : Hid (∀ W, Below wo.heap.size wo W → ∃ b off, CA = some ⟨b, off, none⟩ ∧ W.cell? ⟨b, off + k * 3 + 1, none⟩ = some (.int .i64 tc[k].kind) ∧ W.cell? ⟨b, off + k * 3 + 2, none⟩ = some (.bool tc[k].null) ∧ W.cell? ⟨w.heap.size, 1, none⟩ = some (.slice CA n cc)) := Lib.hid fun W hW => by
        obtain ⟨b, off, hA, -, q0, q1, q2⟩ := (HC.out.on (hbw.trans (hW.mono hbw.size))).col hkc
        exact ⟨b, off, hA, q1, q2, HBK.out W (hb.trans (hW.mono hb.size))⟩
      have HV := Lib.hid fun o => HVL.out r[k].kind r[k].int r[k].text (wo.alloc o)
      rw [her] at HV
      have hkn' : (k : Int) < (n : Int) := by omega
      have HBO := Lib.hid hb
      have HBA := Lib.hid hba
      rw [hA']
      clear hb hbw hxr hgd her hA' hba HVL
      generalize tc[k] = cl at *
      generalize r[k] = v at *
      have hcl : (v.kind ≠ 0 ∧ v.kind = cl.kind) ∨ (v.kind = 0 ∧ cl.null = true) := by
        rcases hco with ⟨h1, h2⟩ | ⟨h1, h2⟩
        · exact .inl ⟨h2, h1⟩
        · exact .inr ⟨h1, h2⟩
      clear hco
      rcases hcl with ⟨h1, h2⟩ | ⟨h1, h2⟩
      · have g1 : (v.kind == 0) = false := by simp [h1]
        have g2 : (v.kind != 0) = true := by simp [h1]
        have g3 : (v.kind != cl.kind) = false := by simp [h2]
        clear h1 h2
        go_wp2_with fail
        refine (HV.out _).mono ?_
        rintro e w3 ⟨rfl, hb3⟩
        have hbo : Below wo.heap.size wo w3 := (HBA.out _).trans (hb3.mono (HBA.out _).size)
        have hcv : w3.heap[wo.heap.size]? = some (.cells #[.int .i64 v.kind, .int .i64 v.int, .string v.text] 26 (0, 0)) := (hb3.block wo.heap.size (by simp)).trans (heap_alloc_new wo _)
        have v0 : w3.cell? ⟨wo.heap.size, 0, none⟩ = some (.int .i64 v.kind) := by rw [cell_of_row _ _ _ _ _ _ hcv]; rfl
        obtain ⟨b, off, rfl, q1, q2, q3⟩ := HCC.out w3 hbo
        have HB3 := Lib.hid (HBO.out.trans (hbo.mono HBO.out.size))
        clear hb3 hbo hcv
        go_wp2_with fail
        go_quiet (fail)
        go_wp2_with fail
        go_roundw
        case rel => exact ⟨k + 1, by go_num, by omega, below_drewN HB3.out _⟩
        case measure => simp [intOf]; omega
      · have g1 : (v.kind == 0) = true := by simp [h1]
        have g2 : (v.kind != 0) = false := by simp [h1]
        clear h1
        go_wp2_with fail
        refine (HV.out _).mono ?_
        rintro e w3 ⟨rfl, hb3⟩
        have hbo : Below wo.heap.size wo w3 := (HBA.out _).trans (hb3.mono (HBA.out _).size)
        have hcv : w3.heap[wo.heap.size]? = some (.cells #[.int .i64 v.kind, .int .i64 v.int, .string v.text] 26 (0, 0)) := (hb3.block wo.heap.size (by simp)).trans (heap_alloc_new wo _)
        have v0 : w3.cell? ⟨wo.heap.size, 0, none⟩ = some (.int .i64 v.kind) := by rw [cell_of_row _ _ _ _ _ _ hcv]; rfl
        obtain ⟨b, off, rfl, q1, q2, q3⟩ := HCC.out w3 hbo
        rw [h2] at q2
        have HB3 := Lib.hid (HBO.out.trans (hbo.mono HBO.out.size))
        clear hb3 hbo hcv h2
        go_wp2_with fail
        go_quiet (fail)
        go_wp2_with fail
        go_roundw
        case rel => exact ⟨k + 1, by go_num, by omega, below_drewN HB3.out _⟩
        case measure => simp [intOf]; omega
    · have hkn' : k = n := by omega
      subst hkn'
      have HE := Lib.hid hbw
      clear hb hbw
      go_wp2_with fail
      go_ret
      exact ⟨rfl, HE.out⟩
end Go.Proofs.Ytefifkleamiabaa
