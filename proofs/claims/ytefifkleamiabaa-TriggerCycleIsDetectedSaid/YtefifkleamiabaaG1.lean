/-
  The walks of FindTable, FindColumn.
-/
import Derived.Test.YtefifkleamiabaaG0
import Derived.Deep.QuietTactic
namespace Go.Proofs.Ytefifkleamiabaa
open Go.RowKit

/-- A test by its contract: with captures that stand from w0 on. -/
structure TestC (w0 : World) (fid : FuncId) (caps : Array Value) {α : Type} (val : α → Value) (K : World → α → Prop) (p : α → Bool) : Prop where
  ent : ∀ (args : Array Value) (w : World), (callFunc fid args).run Try.prog w = .ok (.enter fid args) w
  run : ∀ (x : α) (W : World), Below w0.heap.size w0 W → K W x → Calls Try.prog fid (#[val x] ++ caps) W fun e w' => e = .returned (.bool (p x)) ∧ Below W.heap.size W w'

set_option maxRecDepth 100000 in
set_option maxHeartbeats 1000000 in
theorem findTable1 (t : Tbl) (g : Nat) (name : ByteArray) (w : World) (hg : w.cell? ⟨g, 0, none⟩ = some (.string name)) (hgl : g < w.heap.size) :
    Calls Try.prog 34 #[t.val, ptr g] w fun e w' => e = .returned (.bool (t.name.toList == name.toList)) ∧ Below w.heap.size w w' := by
  obtain ⟨nm, CA, cc, cols, PA, pc, pk⟩ := t
  unfold Tbl.val
  simp only
  have hga : ∀ o, (w.alloc o).cell? ⟨g, 0, none⟩ = some (.string name) := fun o => (((Below.refl _ _).alloc (Nat.le_refl _) o).cell (p := ⟨g, 0, none⟩) hgl).trans hg
  have HB : Hid (∀ o, Below w.heap.size w (w.alloc o)) := Lib.hid fun o => (Below.refl _ _).alloc (Nat.le_refl _) _
  clear hg
  go_enter Try.func34, Try.ntmps34
  go_wp2_with fail
  go_ret
  exact ⟨rfl, HB.out _⟩

def Col.val (c : Col) : Value := .agg #[.string c.name, .int .i64 c.kind, .bool c.null]
set_option maxRecDepth 100000 in
set_option maxHeartbeats 1000000 in
theorem findColumn1 (t : Col) (g : Nat) (name : ByteArray) (w : World) (hg : w.cell? ⟨g, 0, none⟩ = some (.string name)) (hgl : g < w.heap.size) :
    Calls Try.prog 54 #[t.val, ptr g] w fun e w' => e = .returned (.bool (t.name.toList == name.toList)) ∧ Below w.heap.size w w' := by
  obtain ⟨nm, k, nl⟩ := t
  unfold Col.val
  simp only
  have hga : ∀ o, (w.alloc o).cell? ⟨g, 0, none⟩ = some (.string name) := fun o => (((Below.refl _ _).alloc (Nat.le_refl _) o).cell (p := ⟨g, 0, none⟩) hgl).trans hg
  have HB : Hid (∀ o, Below w.heap.size w (w.alloc o)) := Lib.hid fun o => (Below.refl _ _).alloc (Nat.le_refl _) _
  clear hg
  go_enter Try.func54, Try.ntmps54
  go_wp2_with fail
  go_ret
  exact ⟨rfl, HB.out _⟩

set_option maxRecDepth 100000 in
set_option maxHeartbeats 1000000 in
theorem indexFuncTab {w0 : World} {fid : FuncId} {caps : Array Value} {p : Tbl → Bool} (A : Option Addr) (c : Nat) (xs : List Tbl) (w : World) (hT : TestC w0 fid caps Tbl.val (fun _ _ => True) p) (hb : Below w0.heap.size w0 w) (hx : Elems 3 Tbl.cs w (· < w.heap.size) A xs) (hl : xs.length ≤ 1000) :
    Calls Try.prog 33 #[.slice A xs.length c, .func (.func fid) #[] caps] w fun e w' => e = .returned (.int .i64 (fidx p xs)) ∧ Below w.heap.size w w' := by
  have HX := Lib.hid hx
  have HT := Lib.hid hT
  have HB0 := Lib.hid hb
  have hent := hT.ent
  obtain ⟨n, hn⟩ : ∃ n, xs.length = n := ⟨_, rfl⟩
  rw [hn] at hl ⊢
  have HN := Lib.hid hn
  clear hx hn hT hb
  go_enter Try.func33, Try.ntmps33
  go_wp2_with fail
  go_loopw [8] (fun vi wr => ∃ k : Nat, vi = .int .i64 (k : Int) ∧ k ≤ n ∧ (∀ x ∈ xs.take k, p x = false) ∧ Below w.heap.size w wr) (fun vi _ => n - (intOf vi).toNat)
  case atStart => exact ⟨0, rfl, by omega, (by intro x hx; simp at hx), Below.refl _ _⟩
  case round =>
    obtain ⟨k, rfl, hkn, hbef, hb⟩ := hrel
    by_cases hlt : k < n
    · have hki : k < xs.length := by have := HN.out; omega
      obtain ⟨b, off, rfl, -, p0, p1, p2⟩ := (HX.out.on hb).tbl hki
      have HR := Lib.hid (HT.out.run xs[k] wr (HB0.out.trans (hb.mono HB0.out.size)) (trivial))
      have hlt' : (k : Int) < (n : Int) := by omega
      have HSUC : Hid (p xs[k] = false → ∀ x ∈ xs.take (k + 1), p x = false) := Lib.hid fun hp x hx => by
        rw [List.take_succ_eq_append_getElem hki] at hx
        rcases List.mem_append.1 hx with hx | hx
        · exact hbef x hx
        · rw [List.mem_singleton.1 hx]; exact hp
      have HAT : Hid (p xs[k] = true → fidx p xs = (k : Int)) := Lib.hid fun hp => fidx_at hki hp hbef
      have HB := Lib.hid hb
      clear hbef hb
      cases hp : p xs[k] with
      | true =>
        have HF := Lib.hid (HAT.out hp)
        rw [hp] at HR
        clear hp HSUC HAT
        generalize xs[k] = x at *
        go_wp2_with fail
        refine HR.out.mono ?_
        rintro e w1 ⟨rfl, hb1⟩
        have HB1 := Lib.hid (HB.out.trans (hb1.mono HB.out.size))
        clear hb1
        go_wp2_with fail
        go_ret
        exact ⟨ret_int HF.out.symm, HB1.out⟩
      | false =>
        have HF := Lib.hid (HSUC.out hp)
        rw [hp] at HR
        clear hp HSUC HAT
        generalize xs[k] = x at *
        go_wp2_with fail
        refine HR.out.mono ?_
        rintro e w1 ⟨rfl, hb1⟩
        have HB1 := Lib.hid (HB.out.trans (hb1.mono HB.out.size))
        clear hb1
        go_wp2_with fail
        go_roundw
        case rel => exact ⟨k + 1, by go_num, by omega, HF.out, HB1.out⟩
        case measure => simp [intOf]; omega
    · have hkn' : k = n := by omega
      subst hkn'
      have HF := Lib.hid (fidx_no (p := p) (xs := xs) (by rwa [List.take_of_length_le (by have := HN.out; omega)] at hbef))
      have HB := Lib.hid hb
      clear hbef hb
      go_wp2_with fail
      go_ret
      exact ⟨ret_int HF.out.symm, HB.out⟩


set_option maxRecDepth 100000 in
set_option maxHeartbeats 1000000 in
theorem indexFuncCol {w0 : World} {fid : FuncId} {caps : Array Value} {p : Col → Bool} (A : Option Addr) (c : Nat) (xs : List Col) (w : World) (hT : TestC w0 fid caps Col.val (fun _ _ => True) p) (hb : Below w0.heap.size w0 w) (hx : Elems 3 Col.cs w (· < w.heap.size) A xs) (hl : xs.length ≤ 1000) :
    Calls Try.prog 53 #[.slice A xs.length c, .func (.func fid) #[] caps] w fun e w' => e = .returned (.int .i64 (fidx p xs)) ∧ Below w.heap.size w w' := by
  have HX := Lib.hid hx
  have HT := Lib.hid hT
  have HB0 := Lib.hid hb
  have hent := hT.ent
  obtain ⟨n, hn⟩ : ∃ n, xs.length = n := ⟨_, rfl⟩
  rw [hn] at hl ⊢
  have HN := Lib.hid hn
  clear hx hn hT hb
  go_enter Try.func53, Try.ntmps53
  go_wp2_with fail
  go_loopw [8] (fun vi wr => ∃ k : Nat, vi = .int .i64 (k : Int) ∧ k ≤ n ∧ (∀ x ∈ xs.take k, p x = false) ∧ Below w.heap.size w wr) (fun vi _ => n - (intOf vi).toNat)
  case atStart => exact ⟨0, rfl, by omega, (by intro x hx; simp at hx), Below.refl _ _⟩
  case round =>
    obtain ⟨k, rfl, hkn, hbef, hb⟩ := hrel
    by_cases hlt : k < n
    · have hki : k < xs.length := by have := HN.out; omega
      obtain ⟨b, off, rfl, -, p0, p1, p2⟩ := (HX.out.on hb).col hki
      have HR := Lib.hid (HT.out.run xs[k] wr (HB0.out.trans (hb.mono HB0.out.size)) (trivial))
      have hlt' : (k : Int) < (n : Int) := by omega
      have HSUC : Hid (p xs[k] = false → ∀ x ∈ xs.take (k + 1), p x = false) := Lib.hid fun hp x hx => by
        rw [List.take_succ_eq_append_getElem hki] at hx
        rcases List.mem_append.1 hx with hx | hx
        · exact hbef x hx
        · rw [List.mem_singleton.1 hx]; exact hp
      have HAT : Hid (p xs[k] = true → fidx p xs = (k : Int)) := Lib.hid fun hp => fidx_at hki hp hbef
      have HB := Lib.hid hb
      clear hbef hb
      cases hp : p xs[k] with
      | true =>
        have HF := Lib.hid (HAT.out hp)
        rw [hp] at HR
        clear hp HSUC HAT
        generalize xs[k] = x at *
        go_wp2_with fail
        refine HR.out.mono ?_
        rintro e w1 ⟨rfl, hb1⟩
        have HB1 := Lib.hid (HB.out.trans (hb1.mono HB.out.size))
        clear hb1
        go_wp2_with fail
        go_ret
        exact ⟨ret_int HF.out.symm, HB1.out⟩
      | false =>
        have HF := Lib.hid (HSUC.out hp)
        rw [hp] at HR
        clear hp HSUC HAT
        generalize xs[k] = x at *
        go_wp2_with fail
        refine HR.out.mono ?_
        rintro e w1 ⟨rfl, hb1⟩
        have HB1 := Lib.hid (HB.out.trans (hb1.mono HB.out.size))
        clear hb1
        go_wp2_with fail
        go_roundw
        case rel => exact ⟨k + 1, by go_num, by omega, HF.out, HB1.out⟩
        case measure => simp [intOf]; omega
    · have hkn' : k = n := by omega
      subst hkn'
      have HF := Lib.hid (fidx_no (p := p) (xs := xs) (by rwa [List.take_of_length_le (by have := HN.out; omega)] at hbef))
      have HB := Lib.hid hb
      clear hbef hb
      go_wp2_with fail
      go_ret
      exact ⟨ret_int HF.out.symm, HB.out⟩


set_option maxRecDepth 100000 in
set_option maxHeartbeats 1000000 in
theorem indexFuncFk {w0 : World} {fid : FuncId} {caps : Array Value} {p : FkM → Bool} (A : Option Addr) (c : Nat) (xs : List FkM) (w : World) (hT : TestC w0 fid caps FkM.val (fun W x => Elems 1 intCs W (· < W.heap.size) x.A x.cols) p) (hb : Below w0.heap.size w0 w) (hx : Elems 3 FkM.cs w (· < w.heap.size) A xs) (hk : ∀ x ∈ xs, (fun W x => Elems 1 intCs W (· < W.heap.size) x.A x.cols) w x) (hl : xs.length ≤ 1000) :
    Calls Try.prog 45 #[.slice A xs.length c, .func (.func fid) #[] caps] w fun e w' => e = .returned (.int .i64 (fidx p xs)) ∧ Below w.heap.size w w' := by
  have HX := Lib.hid hx
  have HK := Lib.hid hk
  have HT := Lib.hid hT
  have HB0 := Lib.hid hb
  have hent := hT.ent
  obtain ⟨n, hn⟩ : ∃ n, xs.length = n := ⟨_, rfl⟩
  rw [hn] at hl ⊢
  have HN := Lib.hid hn
  clear hx hn hk hT hb
  go_enter Try.func45, Try.ntmps45
  go_wp2_with fail
  go_loopw [8] (fun vi wr => ∃ k : Nat, vi = .int .i64 (k : Int) ∧ k ≤ n ∧ (∀ x ∈ xs.take k, p x = false) ∧ Below w.heap.size w wr) (fun vi _ => n - (intOf vi).toNat)
  case atStart => exact ⟨0, rfl, by omega, (by intro x hx; simp at hx), Below.refl _ _⟩
  case round =>
    obtain ⟨k, rfl, hkn, hbef, hb⟩ := hrel
    by_cases hlt : k < n
    · have hki : k < xs.length := by have := HN.out; omega
      obtain ⟨b, off, rfl, -, p0, p1, p2⟩ := (HX.out.on hb).fkm hki
      have HR := Lib.hid (HT.out.run xs[k] wr (HB0.out.trans (hb.mono HB0.out.size)) ((HK.out _ (List.getElem_mem hki)).on hb))
      have hlt' : (k : Int) < (n : Int) := by omega
      have HSUC : Hid (p xs[k] = false → ∀ x ∈ xs.take (k + 1), p x = false) := Lib.hid fun hp x hx => by
        rw [List.take_succ_eq_append_getElem hki] at hx
        rcases List.mem_append.1 hx with hx | hx
        · exact hbef x hx
        · rw [List.mem_singleton.1 hx]; exact hp
      have HAT : Hid (p xs[k] = true → fidx p xs = (k : Int)) := Lib.hid fun hp => fidx_at hki hp hbef
      have HB := Lib.hid hb
      clear hbef hb
      cases hp : p xs[k] with
      | true =>
        have HF := Lib.hid (HAT.out hp)
        rw [hp] at HR
        clear hp HSUC HAT
        generalize xs[k] = x at *
        go_wp2_with fail
        refine HR.out.mono ?_
        rintro e w1 ⟨rfl, hb1⟩
        have HB1 := Lib.hid (HB.out.trans (hb1.mono HB.out.size))
        clear hb1
        go_wp2_with fail
        go_ret
        exact ⟨ret_int HF.out.symm, HB1.out⟩
      | false =>
        have HF := Lib.hid (HSUC.out hp)
        rw [hp] at HR
        clear hp HSUC HAT
        generalize xs[k] = x at *
        go_wp2_with fail
        refine HR.out.mono ?_
        rintro e w1 ⟨rfl, hb1⟩
        have HB1 := Lib.hid (HB.out.trans (hb1.mono HB.out.size))
        clear hb1
        go_wp2_with fail
        go_roundw
        case rel => exact ⟨k + 1, by go_num, by omega, HF.out, HB1.out⟩
        case measure => simp [intOf]; omega
    · have hkn' : k = n := by omega
      subst hkn'
      have HF := Lib.hid (fidx_no (p := p) (xs := xs) (by rwa [List.take_of_length_le (by have := HN.out; omega)] at hbef))
      have HB := Lib.hid hb
      clear hbef hb
      go_wp2_with fail
      go_ret
      exact ⟨ret_int HF.out.symm, HB.out⟩


/-- What FindTable answers. -/
def findV (i : Int) : Value := .tuple #[.int .i64 (max i 0), .bool (decide (0 ≤ i))]
def tabI (name : ByteArray) (ts : List Tbl) : Int := fidx (fun t => t.name.toList == name.toList) ts
def colI (name : ByteArray) (cs : List Col) : Int := fidx (fun c => c.name.toList == name.toList) cs

set_option maxRecDepth 100000 in
set_option maxHeartbeats 1000000 in
theorem findTable (s : Sc) (name : ByteArray) (w : World) (hs : ScOk (· < w.heap.size) w s) (hl : s.tabs.length ≤ 1000) :
    Calls Try.prog 15 #[s.v, .string name] w fun e w' => e = .returned (findV (tabI name s.tabs)) ∧ Below w.heap.size w w' := by
  obtain ⟨w1, hw1⟩ : ∃ w1, w1 = (w.alloc (.cells s.cells 39)).alloc (.cells #[.string name] 9) := ⟨_, rfl⟩
  have hb1 : Below w.heap.size w w1 := by rw [hw1]; exact ((Below.refl _ _).alloc (Nat.le_refl _) _).alloc (le_size1 (Nat.le_refl _) _) _
  have hg0 : w1.heap[w.heap.size]? = some (.cells s.cells 39 (0, 0)) := by
    rw [hw1, Below.heap_alloc _ _ _ (by simp)]
    exact heap_alloc_new w _
  have hg1 : w1.heap[w.heap.size + 1]? = some (.cells #[.string name] 9 (0, 0)) := by rw [hw1]; exact alloc2_at w _ _
  have hs1 : w1.heap.size = w.heap.size + 2 := by rw [hw1]; simp
  have hT : TestC w1 34 #[ptr (w.heap.size + 1)] Tbl.val (fun _ _ => True) (fun t => t.name.toList == name.toList) :=
    ⟨fun args w => by kernel_rfl, fun x W hW _ => findTable1 x _ name W (by rw [hW.cell (p := ⟨w.heap.size + 1, 0, none⟩) (by show w.heap.size + 1 < _; omega), cell_of_row _ _ _ _ _ _ hg1]; rfl) (by have := hW.size; omega)⟩
  have HI := Lib.hid (indexFuncTab s.TA s.tc s.tabs w1 hT (Below.refl _ _) (hs.on hb1).tabs hl)
  have HB1 := Lib.hid hb1
  have HW1 := Lib.hid hw1
  obtain ⟨TA, tc, tabs, FA, fc, fks, NA, nc, cns⟩ := s
  unfold Sc.v
  unfold Sc.cells at hg0 HW1 ⊢
  simp only at hg0 HW1 HI hl ⊢
  have c0 : w1.cell? ⟨w.heap.size, 0, none⟩ = some (.slice TA tabs.length tc) := by rw [cell_of_row _ _ _ _ _ _ hg0]; rfl
  have HR : Hid (tabI name tabs = fidx (fun t => t.name.toList == name.toList) tabs) := Lib.hid rfl
  have hlt := fidx_lt (fun t : Tbl => t.name.toList == name.toList) tabs
  obtain ⟨r, hr⟩ : ∃ r, r = fidx (fun t : Tbl => t.name.toList == name.toList) tabs := ⟨_, rfl⟩
  rw [← hr] at HI HR hlt
  obtain ⟨hlt1, hlt2, -⟩ := hlt
  clear hs hb1 hg1 hs1 hT hw1 hg0 hr
  go_enter Try.func15, Try.ntmps15
  go_upto_region 1 with fail
  rw [← HW1.out]
  go_wp2_with fail
  refine HI.out.mono ?_
  rintro e w2 ⟨rfl, hb2⟩
  have HB2 := Lib.hid (HB1.out.trans (hb2.mono HB1.out.size))
  clear hb2
  by_cases h0 : 0 ≤ r
  · have hm : max r 0 = r := by omega
    go_wp2_with fail
    go_ret2
    refine ⟨?_, HB2.out⟩
    rw [HR.out]
    unfold findV
    simp [hm, h0]
  · have hm : max r 0 = 0 := by omega
    go_wp2_with fail
    go_ret2
    refine ⟨?_, HB2.out⟩
    rw [HR.out]
    unfold findV
    simp [hm]

set_option maxRecDepth 100000 in
set_option maxHeartbeats 1000000 in
theorem findColumn (t : Tbl) (name : ByteArray) (w : World) (hs : TOk (· < w.heap.size) w t) (hl : t.cols.length ≤ 1000) :
    Calls Try.prog 44 #[t.val, .string name] w fun e w' => e = .returned (findV (colI name t.cols)) ∧ Below w.heap.size w w' := by
  obtain ⟨w1, hw1⟩ : ∃ w1, w1 = (w.alloc (.cells #[.string t.name, .slice t.CA t.cols.length t.cc, .slice t.PA t.pk.length t.pc] 58)).alloc (.cells #[.string name] 9) := ⟨_, rfl⟩
  have hb1 : Below w.heap.size w w1 := by rw [hw1]; exact ((Below.refl _ _).alloc (Nat.le_refl _) _).alloc (le_size1 (Nat.le_refl _) _) _
  have hg0 : w1.heap[w.heap.size]? = some (.cells #[.string t.name, .slice t.CA t.cols.length t.cc, .slice t.PA t.pk.length t.pc] 58 (0, 0)) := by
    rw [hw1, Below.heap_alloc _ _ _ (by simp)]
    exact heap_alloc_new w _
  have hg1 : w1.heap[w.heap.size + 1]? = some (.cells #[.string name] 9 (0, 0)) := by rw [hw1]; exact alloc2_at w _ _
  have hs1 : w1.heap.size = w.heap.size + 2 := by rw [hw1]; simp
  have hT : TestC w1 54 #[ptr (w.heap.size + 1)] Col.val (fun _ _ => True) (fun t => t.name.toList == name.toList) :=
    ⟨fun args w => by kernel_rfl, fun x W hW _ => findColumn1 x _ name W (by rw [hW.cell (p := ⟨w.heap.size + 1, 0, none⟩) (by show w.heap.size + 1 < _; omega), cell_of_row _ _ _ _ _ _ hg1]; rfl) (by have := hW.size; omega)⟩
  have HI := Lib.hid (indexFuncCol t.CA t.cc t.cols w1 hT (Below.refl _ _) (hs.on hb1).cols hl)
  have HB1 := Lib.hid hb1
  have HW1 := Lib.hid hw1
  obtain ⟨nm, CA, cc, cols, PA, pc, pk⟩ := t
  unfold Tbl.val
  simp only at hg0 HW1 HI hl ⊢
  have c0 : w1.cell? ⟨w.heap.size, 1, none⟩ = some (.slice CA cols.length cc) := by rw [cell_of_row _ _ _ _ _ _ hg0]; rfl
  have HR : Hid (colI name cols = fidx (fun t => t.name.toList == name.toList) cols) := Lib.hid rfl
  have hlt := fidx_lt (fun t : Col => t.name.toList == name.toList) cols
  obtain ⟨r, hr⟩ : ∃ r, r = fidx (fun t : Col => t.name.toList == name.toList) cols := ⟨_, rfl⟩
  rw [← hr] at HI HR hlt
  obtain ⟨hlt1, hlt2, -⟩ := hlt
  clear hs hb1 hg1 hs1 hT hw1 hg0 hr
  go_enter Try.func44, Try.ntmps44
  go_upto_region 1 with fail
  rw [← HW1.out]
  go_wp2_with fail
  refine HI.out.mono ?_
  rintro e w2 ⟨rfl, hb2⟩
  have HB2 := Lib.hid (HB1.out.trans (hb2.mono HB1.out.size))
  clear hb2
  by_cases h0 : 0 ≤ r
  · have hm : max r 0 = r := by omega
    go_wp2_with fail
    go_ret2
    refine ⟨?_, HB2.out⟩
    rw [HR.out]
    unfold findV
    simp [hm, h0]
  · have hm : max r 0 = 0 := by omega
    go_wp2_with fail
    go_ret2
    refine ⟨?_, HB2.out⟩
    rw [HR.out]
    unfold findV
    simp [hm]
end Go.Proofs.Ytefifkleamiabaa
