/-
  The walk of reads.
-/
import Derived.Test.YtalgocjhcgmdlaaPf
namespace Go.Proofs.Ytalgocjhcgmdlaa
open Go.RowKit

theorem bs_isEmpty {r : List Nat} (h : 1 ≤ r.length) : (bs r).toList.isEmpty = false := by
  rw [ByteArray.toList_eq, bs_toList]
  cases r with
  | nil => simp at h
  | cons _ _ => rfl
theorem Mp.len {w : World} {b n : Nat} {p : List Nat} (h : Mp w b n p) (ty : TypeId) : (Builtin.len_ #[24] ty #[.map (some b)]).run Try.prog w = .ok (.int .i64 ((us p (B p 0)).length : Nat)) w := by
  obtain ⟨D, h1, _, h3⟩ := h.ex
  rw [← h3]
  exact h1.len Try.underlying24 ty
theorem Mp.heap {w : World} {b n : Nat} {p : List Nat} (h : Mp w b n p) : ∃ es clock, w.heap[b]? = some (.map es clock) ∧ es.size = (us p (B p 0)).length := by
  obtain ⟨D, ⟨es, clock, hb, F, hs, hD⟩, _, h3⟩ := h.ex
  refine ⟨es, clock, hb, ?_⟩
  rw [← h3, hD]
  simp [Maps.size, length_sorted]

set_option maxRecDepth 100000 in
set_option maxHeartbeats 2000000 in
theorem readsPage {base g c b n : Nat} {p : List Nat} (w : World) (h : Pg base w g c p) (hw : WF p) (hm : Mp w b n p) :
    Calls Try.prog 11 #[.slice (some ⟨g, 0, none⟩) 256 c, .map (some b)] w fun e w' => e = .returned (.bool true) ∧ Below w.heap.size w w' := by
  have HSL := Lib.hid (slotsPage w h hw)
  have HMW := Lib.hid fun W (hW : Below w.heap.size w W) => hm.below hW
  have HGT := Lib.hid fun (i : Nat) (hi : i ≤ 1000) W (hW : Below w.heap.size w W) => getPage W (h.below hW) hw i hi
  have HUS : Hid (∀ i, i ∈ us p (B p 0) → i ≤ 127 ∧ ∃ r, cont p i = some r ∧ 1 ≤ r.length ∧ ∀ t, r.getD t 0 < 256) := Lib.hid fun i hi => by
    have h1 := us_mem'.1 hi
    have h2 := us_mem.1 hi
    have h3 := hw.n_le
    cases hc : cont p i with
    | none => rw [hc] at h1; cases h1
    | some r =>
      refine ⟨by omega, r, rfl, (cont_len hw hc).1, ?_⟩
      obtain ⟨_, _, rfl⟩ := cont_of hc
      exact rc_byte hw.byte i
  have HLN := Lib.hid fun W (hW : Below w.heap.size w W) => (hm.below hW).len
  have hul := us_len p (B p 0)
  have hnl := hw.n_le
  generalize us p (B p 0) = used at *
  clear h hm hw
  go_enter Try.func11, Try.ntmps11
  go_wp2_with fail
  refine HSL.out.mono ?_
  rintro e w1 ⟨v1, rfl, ho1, hb1⟩
  obtain ⟨A1, m1, c1, rfl, hm1⟩ := ho1.form'
  subst hm1
  have hln := HLN.out w1 hb1
  have HE1 := Lib.hid (ho1.elems natLay.len rfl)
  have HLT := Lib.hid fun k hk => (ho1.lt k hk).2
  have HB1 := Lib.hid hb1
  clear ho1 hb1
  go_wp2_with fail
  go_loopw [27] (fun i wr => ∃ k : Nat, k ≤ used.length ∧ i = .int .i64 k ∧ Below w.heap.size w wr ∧ Below w1.heap.size w1 wr) (fun i _ => used.length - (intOf i).toNat)
  case atStart => exact ⟨0, by omega, rfl, HB1.out, Below.refl _ _⟩
  case round =>
    obtain ⟨k, hk, rfl, hbw, hbk⟩ := hrel
    clear hln
    by_cases hlt : k < used.length
    · obtain ⟨bx, off, rfl, hbs, c0⟩ := (HE1.out.keep (Keeps.of_below hbk fun k hk => HLT.out k hk)).nat hlt
      obtain ⟨hi, r, hcr, hrl, hrb⟩ := HUS.out _ (List.getElem_mem hlt)
      have HG := Lib.hid (HGT.out used[k] (by omega) wr hbw)
      rw [hcr] at HG
      have HLK := Lib.hid fun W (hW : Below w.heap.size w W) => (HMW.out W hW).look used[k] (by omega)
      rw [hcr] at HLK
      have HCV := Lib.hid fun W (v : Value) (hv : Byt wr.heap.size W v r) => (Rw.of_own hv hrl)
      have HRB := Lib.hid hrb
      have HRL := Lib.hid hrl
      have HBW := Lib.hid hbw
      have HBK := Lib.hid hbk
      have HNE := Lib.hid (bs_ne hrl)
      have hem := bs_isEmpty hrl
      clear hcr hrl hrb hbw hbk hbs
      generalize used[k]'hlt = i at *
      go_wp2_with fail
      refine HG.out.mono ?_
      rintro e w2 ⟨hb2, v, rfl, hv⟩
      obtain ⟨g2, c2, rfl, hr2⟩ := HCV.out w2 v hv
      have hb02 := HBW.out.trans (hb2.mono HBW.out.size)
      have hlk : (Instr.lookup 24 (.map (some b)) (.int .i64 i) false).run Try.prog w2 = .ok (.string (bs r)) w2 := HLK.out w2 hb02
      have hcv := conv_rec (w := w2) c2 hr2.elems HRB.out
      have HB2 := Lib.hid hb02
      have HB12 := Lib.hid (HBK.out.trans (hb2.mono HBK.out.size))
      have hne : bs r ≠ ⟨#[]⟩ := HNE.out
      clear hv hr2 hb2 hb02 HCV HLK HG
      generalize bs r = str at *
      generalize r.length = rl at *
      go_wp2_with fail
      exact ⟨⟨k + 1, by omega, by go_num, HB2.out, HB12.out⟩, by simp [intOf]; omega⟩
    · have hkl : k = used.length := by omega
      subst hkl
      go_wp2_with fail
      go_ret
      exact ⟨rfl, hbw⟩

end Go.Proofs.Ytalgocjhcgmdlaa
