/-
  The walk of hasKey, where there is no such key; the keys' binary search.
-/
import Derived.Test.YtakbabkcidioaaaYe
namespace Go.Proofs.Ytakbabkcidioaaa
open Go.RowKit Go.Sort

theorem At.not {α : Type} {row : α → Row} {xs : List α} {t : Row} {i : Nat} {fnd : Bool} (h : At row xs t i fnd) (hn : ∀ x ∈ xs, row x ≠ t) : fnd = false := by
  cases fnd with
  | false => rfl
  | true =>
    obtain ⟨x, r, h1, h2⟩ := h.eq.1 rfl
    exact absurd h2 (hn x (List.mem_of_mem_drop (by rw [h1]; exact List.mem_cons_self)))

set_option maxRecDepth 100000 in
set_option maxHeartbeats 1000000 in
theorem hasKey1W (e : EntM) (kb : Nat) (key : Key) (w : World) (hcell : w.cell? ⟨kb, 0, none⟩ = some (.slice key.A key.row.length key.c)) (hkb : kb < w.heap.size) (he : EOk (· < w.heap.size) w e) (hk : KOk (· < w.heap.size) w key) (hs : (e.keys.map Key.row).Pairwise rl) (hl : e.keys.length ≤ 1000) (hn : ∀ k ∈ e.keys, k.row ≠ key.row) :
    Calls Try.prog 49 #[.agg #[.slice e.vals.A e.vals.row.length e.vals.c, .slice e.KA e.keys.length e.kc], .pointer (some ⟨kb, 0, none⟩)] w fun e w' => e = .returned (.bool false) ∧ Below w.heap.size w w' := by
  have HBS : Hid (∀ o, Calls Try.prog 33 #[.slice e.KA e.keys.length e.kc, .slice key.A key.row.length key.c, .func (.func 26) #[] #[]] (w.alloc o) fun e w' => ∃ i : Nat, e = .returned (.tuple #[.int .i64 i, .bool false]) ∧ Below w.heap.size w w') := Lib.hid fun o => by
    have hb : Below w.heap.size w (w.alloc o) := (Below.refl _ _).alloc (Nat.le_refl _) o
    refine (bsKeys e.KA e.kc e.keys key.A key.c key.row (w.alloc o) _ _ (he.keys.on hb) (fun _ h => h) (fun _ h => h) (fun k hk => (he.key k hk).on hb) (List.pairwise_map.1 hs) (hk.on hb).el hl).mono ?_
    rintro e w' ⟨i, fnd, rfl, h, hb'⟩
    have hf := h.not hn
    subst hf
    exact ⟨i, rfl, hb.trans (hb'.mono hb.size)⟩
  have hc1 : ∀ o, (w.alloc o).cell? ⟨kb, 0, none⟩ = some (.slice key.A key.row.length key.c) := fun o => (((Below.refl w.heap.size w).alloc (Nat.le_refl _) o).cell (p := ⟨kb, 0, none⟩) hkb).trans hcell
  clear hcell hkb he hk hs hl hn
  go_enter Try.func49, Try.ntmps49
  go_wp2_with fail
  refine (HBS.out _).mono ?_
  rintro e w' ⟨i, rfl, hb⟩
  have HB := Lib.hid hb
  clear hb HBS
  go_wp2_with fail
  go_ret
  exact ⟨rfl, HB.out⟩

set_option maxRecDepth 100000 in
set_option maxHeartbeats 1000000 in
theorem hasKeyW (x : Ix) (key : Key) (w : World) (hx : IOk (· < w.heap.size) w x) (hk : KOk (· < w.heap.size) w key) (hs : ∀ e ∈ x.ents, (e.keys.map Key.row).Pairwise rl) (hz : ISz x) (hn : ∀ e ∈ x.ents, ∀ k ∈ e.keys, k.row ≠ key.row) :
    Calls Try.prog 29 #[x.val, .slice key.A key.row.length key.c] w fun e w' => e = .returned (.bool false) ∧ Below w.heap.size w w' := by
  obtain ⟨W2, hW2⟩ : ∃ W2, W2 = (w.alloc (.cells x.cells 30)).alloc (.cells #[.slice key.A key.row.length key.c] 37) := ⟨_, rfl⟩
  have hb2 : Below w.heap.size w W2 := by rw [hW2]; exact ((Below.refl _ _).alloc (Nat.le_refl _) _).alloc (le_size1 (Nat.le_refl _) _) _
  have hg0 : W2.heap[w.heap.size]? = some (.cells x.cells 30 (0, 0)) := by rw [hW2, Below.heap_alloc _ _ _ (by simp)]; exact heap_alloc_new w _
  have hg1 : W2.heap[w.heap.size + 1]? = some (.cells #[.slice key.A key.row.length key.c] 37 (0, 0)) := by rw [hW2]; exact alloc2_at w _ _
  have hsz : w.heap.size + 2 = W2.heap.size := by rw [hW2]; simp
  have hCF : Calls Try.prog 48 #[.slice x.EA x.ents.length x.ec, .func (.func 49) #[] #[.pointer (some ⟨w.heap.size + 1, 0, none⟩)]] W2 fun e w' => e = .returned (.bool false) ∧ Below W2.heap.size W2 w' := by
    have HCL : Hid (∀ W, Below W2.heap.size W2 W → ∀ e ∈ x.ents, Calls Try.prog 49 #[.agg #[.slice e.vals.A e.vals.row.length e.vals.c, .slice e.KA e.keys.length e.kc], .pointer (some ⟨w.heap.size + 1, 0, none⟩)] W fun e w' => e = .returned (.bool false) ∧ Below W.heap.size W w') := Lib.hid fun W hW e he => by
      have hbw : Below w.heap.size w W := hb2.trans (hW.mono hb2.size)
      have hbk := (hW.block _ (by omega)).trans hg1
      exact hasKey1W e _ key W (by rw [cell_of_row _ _ _ _ _ _ hbk]; rfl) (by have := hW.size; omega) ((hx.on hbw).ent e he) (hk.on hbw) (hs e he) (by have := hz.keys e he; omega) (hn e he)
    have HX := Lib.hid (hx.on hb2).ents
    obtain ⟨n, hn⟩ : ∃ n, x.ents.length = n := ⟨_, rfl⟩
    have hn100 : n ≤ 100 := by rw [← hn]; exact hz.ents
    rw [hn]
    have HN := Lib.hid hn
    have hIF : Hid (Calls Try.prog 61 #[.slice x.EA n x.ec, .func (.func 49) #[] #[.pointer (some ⟨w.heap.size + 1, 0, none⟩)]] W2 fun e w' => e = .returned (.int .i64 (-1)) ∧ Below W2.heap.size W2 w') := Lib.hid (by
      have hent : ∀ args w, (callFunc 49 args).run Try.prog w = .ok (.enter 49 args) w := fun args w => by kernel_rfl
      clear hx hk hs hz hW2 hb2 hg0 hg1 hsz hn
      go_enter Try.func61, Try.ntmps61
      go_wp2_with fail
      go_loopw [8] (fun vi wr => ∃ k : Nat, vi = .int .i64 (k : Int) ∧ k ≤ n ∧ Below W2.heap.size W2 wr) (fun vi _ => n - (intOf vi).toNat)
      case atStart => exact ⟨0, rfl, by omega, Below.refl _ _⟩
      case round =>
        obtain ⟨k, rfl, hkn, hb⟩ := hrel
        have HB := Lib.hid hb
        by_cases hlt : k < n
        · have hki : k < x.ents.length := by have := HN.out; omega
          obtain ⟨b, off, hA, hbs, e0, e1⟩ := (HX.out.on hb).entM hki
          have HC := Lib.hid (HCL.out wr hb _ (List.getElem_mem hki))
          have hkn' : (k : Int) < (n : Int) := by omega
          rw [hA]
          generalize x.ents[k] = e at *
          clear hb hA
          go_wp2_with fail
          refine HC.out.mono ?_
          rintro e2 w2 ⟨rfl, hb2⟩
          have HB2 := Lib.hid (HB.out.trans (hb2.mono HB.out.size))
          clear hb2 HC
          go_wp2_with fail
          go_roundw
          case rel => exact ⟨k + 1, by go_num, by omega, HB2.out⟩
          case measure => simp [intOf]; omega
        · have hkn' : k = n := by omega
          subst hkn'
          clear hb
          go_wp2_with fail
          go_ret
          exact ⟨rfl, HB.out⟩)
    clear HCL HX hx hk hs hz hW2 hb2 hg0 hg1 hsz hn
    go_enter Try.func48, Try.ntmps48
    go_wp2_with fail
    refine hIF.out.mono ?_
    rintro e w' ⟨rfl, hb⟩
    have HB := Lib.hid hb
    clear hb
    go_wp2_with fail
    go_ret
    exact ⟨rfl, HB.out⟩
  have HCF := Lib.hid hCF
  have h4 := (Ix.box (w' := W2) hg0 rfl).2.2.2.2
  have HW := Lib.hid hW2
  have HB := Lib.hid hb2
  clear hCF hx hk hs hz hW2 hb2 hg0 hg1 hsz hn
  obtain ⟨⟨name, CA, cc, tc, PA, pc, pk⟩, XA, xc, cols, EA, ec, ents⟩ := x
  unfold Ix.val
  unfold Ix.cells at HW ⊢
  simp only at HCF HW h4 ⊢
  go_enter Try.func29, Try.ntmps29
  go_upto_region 1 with fail
  rw [← HW.out]
  go_wp2_with fail
  refine HCF.out.mono ?_
  rintro e w' ⟨rfl, hb⟩
  have HF := Lib.hid (HB.out.trans (hb.mono HB.out.size))
  clear hb HCF
  go_wp2_with fail
  go_ret
  exact ⟨rfl, HF.out⟩
end Go.Proofs.Ytakbabkcidioaaa
