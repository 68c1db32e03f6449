/-
  What a secondary index holds, plain. No program in sight.
  Tables, columns and the entries of a secondary index in memory. No program's walk.
  Schemas in memory; the first index at which a test holds. No program's walk.
  The walks of FindTable, FindColumn.
  The walk of schema.ValidName, where the name is valid.
  The walk of schema.ValidateTable, where the table is valid.
  The walk of schema.validateForeignKey, where the key is valid.
-/
import Derived.Test.YtefifkleamiabaaGreatDoorUm01
import Derived.Deep.QuietTactic
import Derived.Lib.ConvBytes
import Derived.Deep.CutRange
import Derived.Deep.RegionLaw
import Derived.Deep.RegionHeld3
import Derived.BigRegion
namespace Go.Proofs.YtefifkleamiabaaGreatDoor
open Go.RowKit

/-- Two lists sorted by one strict order with the same members are one. -/
theorem sorted_ext {α : Type} {R : α → α → Prop} (hi : ∀ a, ¬ R a a) (ha : ∀ a b, R a b → ¬ R b a) : ∀ {xs ys : List α}, xs.Pairwise R → ys.Pairwise R → (∀ k, k ∈ xs ↔ k ∈ ys) → xs = ys
  | [], [], _, _, _ => rfl
  | [], y :: ys, _, _, h => absurd ((h y).2 List.mem_cons_self) (by simp)
  | x :: xs, [], _, _, h => absurd ((h x).1 List.mem_cons_self) (by simp)
  | x :: xs, y :: ys, hx, hy, h => by
    obtain ⟨x1, x2⟩ := List.pairwise_cons.1 hx
    obtain ⟨y1, y2⟩ := List.pairwise_cons.1 hy
    have hxy : x = y := by
      rcases List.mem_cons.1 ((h x).1 List.mem_cons_self) with e | h1
      · exact e
      · rcases List.mem_cons.1 ((h y).2 List.mem_cons_self) with e | h2
        · exact e.symm
        · exact absurd (y1 x h1) (ha _ _ (x1 y h2))
    subst hxy
    rw [sorted_ext hi ha x2 y2 fun k => ⟨fun hk => ?_, fun hk => ?_⟩]
    · rcases List.mem_cons.1 ((h k).1 (List.mem_cons_of_mem _ hk)) with e | h1
      · exact absurd (e ▸ x1 k hk) (hi _)
      · exact h1
    · rcases List.mem_cons.1 ((h k).2 (List.mem_cons_of_mem _ hk)) with e | h1
      · exact absurd (e ▸ y1 k hk) (hi _)
      · exact h1
/-- An entry: values, keys. -/
abbrev XE := Row × List Row
abbrev XD := List XE
def flatX (d : XD) : List (Row × Row) := d.flatMap fun e => e.2.map (Prod.mk e.1)
structure SrtX (d : XD) : Prop where
  vals : d.Pairwise fun a b => rl a.1 b.1
  keys : ∀ e ∈ d, e.2 ≠ [] ∧ e.2.Pairwise rl
theorem flatX_cons (e : XE) (d : XD) : flatX (e :: d) = e.2.map (Prod.mk e.1) ++ flatX d := rfl
theorem SrtX.tail {e : XE} {d : XD} (h : SrtX (e :: d)) : SrtX d := ⟨(List.pairwise_cons.1 h.vals).2, fun x hx => h.keys x (List.mem_cons_of_mem _ hx)⟩
theorem SrtX.len {d : XD} (h : SrtX d) : d.length ≤ (flatX d).length := by
  induction d with
  | nil => simp [flatX]
  | cons e d ih =>
    have h1 := (h.keys e List.mem_cons_self).1
    have h2 : 0 < e.2.length := List.length_pos_iff.2 h1
    have h3 := ih h.tail
    rw [flatX_cons, List.length_append, List.length_map, List.length_cons]
    omega
end Go.Proofs.YtefifkleamiabaaGreatDoor

namespace Go.Proofs.YtefifkleamiabaaGreatDoor
open Go.RowKit

structure Col where
  name : ByteArray
  kind : Int
  null : Bool
def Col.cs (c : Col) : List Value := [.string c.name, .int .i64 c.kind, .bool c.null]
theorem colLay : Lay 3 Col.cs := ⟨fun _ => rfl, fun x c hc => by simp [Col.cs] at hc; rcases hc with rfl | rfl | rfl <;> rfl⟩
theorem valLay : Lay 3 Val.cs := ⟨fun _ => rfl, fun x c hc => by simp [Val.cs] at hc; rcases hc with rfl | rfl | rfl <;> rfl⟩
theorem Elems.col {w : World} {S : Nat → Prop} {A : Option Addr} {r : List Col} {k : Nat} (h : Elems 3 Col.cs w S A r) (hk : k < r.length) :
    ∃ b off, A = some ⟨b, off, none⟩ ∧ S b ∧ w.cell? ⟨b, off + k * 3, none⟩ = some (.string r[k].name) ∧ w.cell? ⟨b, off + k * 3 + 1, none⟩ = some (.int .i64 r[k].kind) ∧ w.cell? ⟨b, off + k * 3 + 2, none⟩ = some (.bool r[k].null) := by
  obtain ⟨b, off, e, hb, hc⟩ := h.at_ hk
  exact ⟨b, off, e, hb, hc 0 _ rfl, hc 1 _ rfl, hc 2 _ rfl⟩
theorem Elems.int {w : World} {S : Nat → Prop} {A : Option Addr} {xs : List Int} {k : Nat} (h : Elems 1 intCs w S A xs) (hk : k < xs.length) :
    ∃ b off, A = some ⟨b, off, none⟩ ∧ S b ∧ w.cell? ⟨b, off + k, none⟩ = some (.int .i64 xs[k]) := by
  obtain ⟨b, off, e, hb, hc⟩ := h.at_ hk
  exact ⟨b, off, e, hb, by simpa using hc 0 _ rfl⟩
theorem Elems.on {α : Type} {sz : Nat} {cs : α → List Value} {w w' : World} {A : Option Addr} {xs : List α} (h : Elems sz cs w (· < w.heap.size) A xs) (hb : Below w.heap.size w w') : Elems sz cs w' (· < w'.heap.size) A xs :=
  (h.keep (Keeps.of_below hb fun _ h => h)).more fun _ hk => Nat.lt_of_lt_of_le hk hb.size

/-- A table's description: its name, its columns and its primary key, and where they lie. -/
structure Tbl where
  name : ByteArray
  CA : Option Addr
  cc : Nat
  cols : List Col
  PA : Option Addr
  pc : Nat
  pk : List Int
def Tbl.val (t : Tbl) : Value := .agg #[.string t.name, .slice t.CA t.cols.length t.cc, .slice t.PA t.pk.length t.pc]
structure TOk (S : Nat → Prop) (w : World) (t : Tbl) : Prop where
  cols : Elems 3 Col.cs w S t.CA t.cols
  pk : Elems 1 intCs w S t.PA t.pk
section
variable {S S' : Nat → Prop} {w w' : World} {t : Tbl}
theorem TOk.keep (h : TOk S w t) (hk : Keeps S w w') : TOk S w' t := ⟨h.cols.keep hk, h.pk.keep hk⟩
theorem TOk.more (h : TOk S w t) (hs : ∀ k, S k → S' k) : TOk S' w t := ⟨h.cols.more hs, h.pk.more hs⟩
theorem TOk.on (h : TOk (· < w.heap.size) w t) (hb : Below w.heap.size w w') : TOk (· < w'.heap.size) w' t := ⟨h.cols.on hb, h.pk.on hb⟩
end

def zeroV : Val := ⟨0, 0, ByteArray.empty⟩
/-- What Key answers. -/
def keyAt (row : Row) (c : Int) : Val := if 0 ≤ c ∧ c < (row.length : Int) then row.getD c.toNat zeroV else zeroV
def keyOf (pk : List Int) (row : Row) : Row := pk.map (keyAt row)

/-- An entry of an index. -/
structure EntM where
  vals : Key
  KA : Option Addr
  kc : Nat
  keys : List Key
def EntM.cs (e : EntM) : List Value := [.slice e.vals.A e.vals.row.length e.vals.c, .slice e.KA e.keys.length e.kc]
/-- An entry's parts in memory. -/
structure EOk (S : Nat → Prop) (w : World) (e : EntM) : Prop where
  vals : KOk S w e.vals
  keys : Elems 1 Key.cs w S e.KA e.keys
  key : ∀ k ∈ e.keys, KOk S w k
/-- An index: its table, columns and entries, and where they lie. -/
structure Ix where
  t : Tbl
  XA : Option Addr
  xc : Nat
  cols : List Int
  EA : Option Addr
  ec : Nat
  ents : List EntM
/-- Its cells (a struct within a struct lies flat). -/
def Ix.cells (x : Ix) : Array Value := #[.string x.t.name, .slice x.t.CA x.t.cols.length x.t.cc, .slice x.t.PA x.t.pk.length x.t.pc, .slice x.XA x.cols.length x.xc, .slice x.EA x.ents.length x.ec]
def Ix.val (x : Ix) : Value := .agg x.cells
structure IOk (S : Nat → Prop) (w : World) (x : Ix) : Prop where
  t : TOk S w x.t
  cols : Elems 1 intCs w S x.XA x.cols
  ents : Elems 2 EntM.cs w S x.EA x.ents
  ent : ∀ e ∈ x.ents, EOk S w e
section
variable {S S' : Nat → Prop} {w w' : World} {e : EntM} {x : Ix}
theorem EOk.keep (h : EOk S w e) (hk : Keeps S w w') : EOk S w' e := ⟨h.vals.keep hk, h.keys.keep hk, fun k hm => (h.key k hm).keep hk⟩
theorem EOk.more (h : EOk S w e) (hs : ∀ k, S k → S' k) : EOk S' w e := ⟨h.vals.more hs, h.keys.more hs, fun k hm => (h.key k hm).more hs⟩
theorem EOk.on (h : EOk (· < w.heap.size) w e) (hb : Below w.heap.size w w') : EOk (· < w'.heap.size) w' e := (h.keep (Keeps.of_below hb fun _ h => h)).more fun _ hk => Nat.lt_of_lt_of_le hk hb.size
theorem IOk.keep (h : IOk S w x) (hk : Keeps S w w') : IOk S w' x := ⟨h.t.keep hk, h.cols.keep hk, h.ents.keep hk, fun k hm => (h.ent k hm).keep hk⟩
theorem IOk.more (h : IOk S w x) (hs : ∀ k, S k → S' k) : IOk S' w x := ⟨h.t.more hs, h.cols.more hs, h.ents.more hs, fun k hm => (h.ent k hm).more hs⟩
theorem IOk.on (h : IOk (· < w.heap.size) w x) (hb : Below w.heap.size w w') : IOk (· < w'.heap.size) w' x := (h.keep (Keeps.of_below hb fun _ h => h)).more fun _ hk => Nat.lt_of_lt_of_le hk hb.size
theorem KOk.on {k : Key} (h : KOk (· < w.heap.size) w k) (hb : Below w.heap.size w w') : KOk (· < w'.heap.size) w' k := (h.keep (Keeps.of_below hb fun _ h => h)).more fun _ hk => Nat.lt_of_lt_of_le hk hb.size
end
end Go.Proofs.YtefifkleamiabaaGreatDoor

namespace Go.Proofs.YtefifkleamiabaaGreatDoor
open Go.RowKit

abbrev ptr (a : Nat) : Value := .pointer (some ⟨a, 0, none⟩)
/-- The first index at which p holds, or -1. -/
def fidx {α : Type} (p : α → Bool) (xs : List α) : Int := if xs.any p = true then (xs.findIdx p : Nat) else -1
theorem fidx_at {α : Type} {p : α → Bool} {xs : List α} {k : Nat} (hk : k < xs.length) (hp : p xs[k] = true) (hb : ∀ x ∈ xs.take k, p x = false) : fidx p xs = (k : Int) := by
  have hf : xs.findIdx p = k := by
    rw [List.findIdx_eq hk]
    refine ⟨hp, fun j hj => ?_⟩
    exact hb _ (by rw [List.mem_take_iff_getElem]; exact ⟨j, by omega, rfl⟩)
  unfold fidx
  rw [if_pos (List.any_eq_true.2 ⟨_, List.getElem_mem hk, hp⟩), hf]
theorem fidx_no {α : Type} {p : α → Bool} {xs : List α} (hb : ∀ x ∈ xs, p x = false) : fidx p xs = -1 := by
  unfold fidx
  rw [if_neg]
  rw [List.any_eq_true]
  rintro ⟨x, hx, h⟩
  rw [hb x hx] at h
  cases h
theorem fidx_lt {α : Type} (p : α → Bool) (xs : List α) : -1 ≤ fidx p xs ∧ fidx p xs < (xs.length : Int) ∧ (0 ≤ fidx p xs ↔ xs.any p = true) := by
  unfold fidx
  by_cases h : xs.any p = true
  · rw [if_pos h]
    have : xs.findIdx p < xs.length := List.findIdx_lt_length.2 (by
      obtain ⟨x, hx, h2⟩ := List.any_eq_true.1 h
      exact ⟨x, hx, h2⟩)
    exact ⟨by omega, by omega, fun _ => h, fun _ => by omega⟩
  · rw [if_neg h]
    exact ⟨by omega, by omega, fun h' => by omega, fun h' => absurd h' h⟩

def Tbl.cs (t : Tbl) : List Value := [.string t.name, .slice t.CA t.cols.length t.cc, .slice t.PA t.pk.length t.pc]
theorem tblLay : Lay 3 Tbl.cs := ⟨fun _ => rfl, fun x c hc => by simp [Tbl.cs] at hc; rcases hc with rfl | rfl | rfl <;> rfl⟩
/-- A foreign key. -/
structure FkM where
  name : ByteArray
  A : Option Addr
  c : Nat
  cols : List Int
  ref : ByteArray
def FkM.cs (f : FkM) : List Value := [.string f.name, .slice f.A f.cols.length f.c, .string f.ref]
def FkM.val (f : FkM) : Value := .agg #[.string f.name, .slice f.A f.cols.length f.c, .string f.ref]
theorem fkLay : Lay 3 FkM.cs := ⟨fun _ => rfl, fun x c hc => by simp [FkM.cs] at hc; rcases hc with rfl | rfl | rfl <;> rfl⟩
/-- A check constraint. -/
structure Cn where
  name : ByteArray
  left : Int
  op : ByteArray
  right : Int
  val : Val
def Cn.cs (c : Cn) : List Value := [.string c.name, .int .i64 c.left, .string c.op, .int .i64 c.right, .int .i64 c.val.kind, .int .i64 c.val.int, .string c.val.text]
def Cn.cells (c : Cn) : Array Value := #[.string c.name, .int .i64 c.left, .string c.op, .int .i64 c.right, .int .i64 c.val.kind, .int .i64 c.val.int, .string c.val.text]
theorem cnLay : Lay 7 Cn.cs := ⟨fun _ => rfl, fun x c hc => by simp [Cn.cs] at hc; rcases hc with rfl | rfl | rfl | rfl | rfl | rfl | rfl <;> rfl⟩
/-- A schema, and where its parts lie. -/
structure Sc where
  TA : Option Addr
  tc : Nat
  tabs : List Tbl
  FA : Option Addr
  fc : Nat
  fks : List FkM
  NA : Option Addr
  nc : Nat
  cns : List Cn
def Sc.cells (s : Sc) : Array Value := #[.slice s.TA s.tabs.length s.tc, .slice s.FA s.fks.length s.fc, .slice s.NA s.cns.length s.nc]
def Sc.v (s : Sc) : Value := .agg s.cells
structure ScOk (S : Nat → Prop) (w : World) (s : Sc) : Prop where
  tabs : Elems 3 Tbl.cs w S s.TA s.tabs
  tab : ∀ t ∈ s.tabs, TOk S w t
  fks : Elems 3 FkM.cs w S s.FA s.fks
  fk : ∀ f ∈ s.fks, Elems 1 intCs w S f.A f.cols
  cns : Elems 7 Cn.cs w S s.NA s.cns
section
variable {S S' : Nat → Prop} {w w' : World} {s : Sc}
theorem ScOk.keep (h : ScOk S w s) (hk : Keeps S w w') : ScOk S w' s := ⟨h.tabs.keep hk, fun t ht => (h.tab t ht).keep hk, h.fks.keep hk, fun f hf => (h.fk f hf).keep hk, h.cns.keep hk⟩
theorem ScOk.more (h : ScOk S w s) (hs : ∀ k, S k → S' k) : ScOk S' w s := ⟨h.tabs.more hs, fun t ht => (h.tab t ht).more hs, h.fks.more hs, fun f hf => (h.fk f hf).more hs, h.cns.more hs⟩
theorem ScOk.on (h : ScOk (· < w.heap.size) w s) (hb : Below w.heap.size w w') : ScOk (· < w'.heap.size) w' s := (h.keep (Keeps.of_below hb fun _ h => h)).more fun _ hk => Nat.lt_of_lt_of_le hk hb.size
theorem Elems.tbl {A : Option Addr} {r : List Tbl} {k : Nat} (h : Elems 3 Tbl.cs w S A r) (hk : k < r.length) : ∃ b off, A = some ⟨b, off, none⟩ ∧ S b ∧ w.cell? ⟨b, off + k * 3, none⟩ = some (.string r[k].name) ∧ w.cell? ⟨b, off + k * 3 + 1, none⟩ = some (.slice r[k].CA r[k].cols.length r[k].cc) ∧ w.cell? ⟨b, off + k * 3 + 2, none⟩ = some (.slice r[k].PA r[k].pk.length r[k].pc) := by
  obtain ⟨b, off, e, hb, hc⟩ := h.at_ hk
  exact ⟨b, off, e, hb, hc 0 _ rfl, hc 1 _ rfl, hc 2 _ rfl⟩
theorem Elems.fkm {A : Option Addr} {r : List FkM} {k : Nat} (h : Elems 3 FkM.cs w S A r) (hk : k < r.length) : ∃ b off, A = some ⟨b, off, none⟩ ∧ S b ∧ w.cell? ⟨b, off + k * 3, none⟩ = some (.string r[k].name) ∧ w.cell? ⟨b, off + k * 3 + 1, none⟩ = some (.slice r[k].A r[k].cols.length r[k].c) ∧ w.cell? ⟨b, off + k * 3 + 2, none⟩ = some (.string r[k].ref) := by
  obtain ⟨b, off, e, hb, hc⟩ := h.at_ hk
  exact ⟨b, off, e, hb, hc 0 _ rfl, hc 1 _ rfl, hc 2 _ rfl⟩
theorem Elems.cn {A : Option Addr} {r : List Cn} {k : Nat} (h : Elems 7 Cn.cs w S A r) (hk : k < r.length) : ∃ b off, A = some ⟨b, off, none⟩ ∧ S b ∧ w.cell? ⟨b, off + k * 7, none⟩ = some (.string r[k].name) ∧ w.cell? ⟨b, off + k * 7 + 1, none⟩ = some (.int .i64 r[k].left) ∧ w.cell? ⟨b, off + k * 7 + 2, none⟩ = some (.string r[k].op) ∧ w.cell? ⟨b, off + k * 7 + 3, none⟩ = some (.int .i64 r[k].right)
    ∧ w.cell? ⟨b, off + k * 7 + 4, none⟩ = some (.int .i64 r[k].val.kind) ∧ w.cell? ⟨b, off + k * 7 + 5, none⟩ = some (.int .i64 r[k].val.int) ∧ w.cell? ⟨b, off + k * 7 + 6, none⟩ = some (.string r[k].val.text) := by
  obtain ⟨b, off, e, hb, hc⟩ := h.at_ hk
  exact ⟨b, off, e, hb, hc 0 _ rfl, hc 1 _ rfl, hc 2 _ rfl, hc 3 _ rfl, hc 4 _ rfl, hc 5 _ rfl, hc 6 _ rfl⟩
end
end Go.Proofs.YtefifkleamiabaaGreatDoor

namespace Go.Proofs.YtefifkleamiabaaGreatDoor
open Go.RowKit

/-- A test by its contract: with captures that stand from w0 on. -/
structure TestC (w0 : World) (fid : FuncId) (caps : Array Value) {α : Type} (val : α → Value) (K : World → α → Prop) (p : α → Bool) : Prop where
  ent : ∀ (args : Array Value) (w : World), (callFunc fid args).run Tryz.prog w = .ok (.enter fid args) w
  run : ∀ (x : α) (W : World), Below w0.heap.size w0 W → K W x → Calls Tryz.prog fid (#[val x] ++ caps) W fun e w' => e = .returned (.bool (p x)) ∧ Below W.heap.size W w'

set_option maxRecDepth 100000 in
set_option maxHeartbeats 1000000 in
theorem findTable1 (t : Tbl) (g : Nat) (name : ByteArray) (w : World) (hg : w.cell? ⟨g, 0, none⟩ = some (.string name)) (hgl : g < w.heap.size) :
    Calls Tryz.prog 101 #[t.val, ptr g] w fun e w' => e = .returned (.bool (t.name.toList == name.toList)) ∧ Below w.heap.size w w' := by
  obtain ⟨nm, CA, cc, cols, PA, pc, pk⟩ := t
  unfold Tbl.val
  simp only
  have hga : ∀ o, (w.alloc o).cell? ⟨g, 0, none⟩ = some (.string name) := fun o => (((Below.refl _ _).alloc (Nat.le_refl _) o).cell (p := ⟨g, 0, none⟩) hgl).trans hg
  have HB : Hid (∀ o, Below w.heap.size w (w.alloc o)) := Lib.hid fun o => (Below.refl _ _).alloc (Nat.le_refl _) _
  clear hg
  go_enter Tryz.func101, Tryz.ntmps101
  go_wp2_with fail
  go_ret
  exact ⟨rfl, HB.out _⟩

def Col.val (c : Col) : Value := .agg #[.string c.name, .int .i64 c.kind, .bool c.null]
set_option maxRecDepth 100000 in
set_option maxHeartbeats 1000000 in
theorem findColumn1 (t : Col) (g : Nat) (name : ByteArray) (w : World) (hg : w.cell? ⟨g, 0, none⟩ = some (.string name)) (hgl : g < w.heap.size) :
    Calls Tryz.prog 129 #[t.val, ptr g] w fun e w' => e = .returned (.bool (t.name.toList == name.toList)) ∧ Below w.heap.size w w' := by
  obtain ⟨nm, k, nl⟩ := t
  unfold Col.val
  simp only
  have hga : ∀ o, (w.alloc o).cell? ⟨g, 0, none⟩ = some (.string name) := fun o => (((Below.refl _ _).alloc (Nat.le_refl _) o).cell (p := ⟨g, 0, none⟩) hgl).trans hg
  have HB : Hid (∀ o, Below w.heap.size w (w.alloc o)) := Lib.hid fun o => (Below.refl _ _).alloc (Nat.le_refl _) _
  clear hg
  go_enter Tryz.func129, Tryz.ntmps129
  go_wp2_with fail
  go_ret
  exact ⟨rfl, HB.out _⟩

set_option maxRecDepth 100000 in
set_option maxHeartbeats 1000000 in
theorem indexFuncTab {w0 : World} {fid : FuncId} {caps : Array Value} {p : Tbl → Bool} (A : Option Addr) (c : Nat) (xs : List Tbl) (w : World) (hT : TestC w0 fid caps Tbl.val (fun _ _ => True) p) (hb : Below w0.heap.size w0 w) (hx : Elems 3 Tbl.cs w (· < w.heap.size) A xs) (hl : xs.length ≤ 1000) :
    Calls Tryz.prog 100 #[.slice A xs.length c, .func (.func fid) #[] caps] w fun e w' => e = .returned (.int .i64 (fidx p xs)) ∧ Below w.heap.size w w' := by
  have HX := Lib.hid hx
  have HT := Lib.hid hT
  have HB0 := Lib.hid hb
  have hent := hT.ent
  obtain ⟨n, hn⟩ : ∃ n, xs.length = n := ⟨_, rfl⟩
  rw [hn] at hl ⊢
  have HN := Lib.hid hn
  clear hx hn hT hb
  go_enter Tryz.func100, Tryz.ntmps100
  go_wp2_with fail
  go_loopw [8] (fun vi wr => ∃ k : Nat, vi = .int .i64 (k : Int) ∧ k ≤ n ∧ (∀ x ∈ xs.take k, p x = false) ∧ Below w.heap.size w wr) (fun vi _ => n - (intOf vi).toNat)
  case atStart => exact ⟨0, rfl, by omega, (by intro x hx; simp at hx), Below.refl _ _⟩
  case round =>
    obtain ⟨k, rfl, hkn, hbef, hb⟩ := hrel
    by_cases hlt : k < n
    · have hki : k < xs.length := by have := HN.out; omega
      obtain ⟨b, off, rfl, -, p0, p1, p2⟩ := (HX.out.on hb).tbl hki
      have HR := Lib.hid (HT.out.run xs[k] wr (HB0.out.trans (hb.mono HB0.out.size)) (trivial))
      have hlt' : (k : Int) < (n : Int) := by omega
      have HSUC : Hid (p xs[k] = false → ∀ x ∈ xs.take (k + 1), p x = false) := Lib.hid fun hp x hx => by
        rw [List.take_succ_eq_append_getElem hki] at hx
        rcases List.mem_append.1 hx with hx | hx
        · exact hbef x hx
        · rw [List.mem_singleton.1 hx]; exact hp
      have HAT : Hid (p xs[k] = true → fidx p xs = (k : Int)) := Lib.hid fun hp => fidx_at hki hp hbef
      have HB := Lib.hid hb
      clear hbef hb
      cases hp : p xs[k] with
      | true =>
        have HF := Lib.hid (HAT.out hp)
        rw [hp] at HR
        clear hp HSUC HAT
        generalize xs[k] = x at *
        go_wp2_with fail
        refine HR.out.mono ?_
        rintro e w1 ⟨rfl, hb1⟩
        have HB1 := Lib.hid (HB.out.trans (hb1.mono HB.out.size))
        clear hb1
        go_wp2_with fail
        go_ret
        exact ⟨ret_int HF.out.symm, HB1.out⟩
      | false =>
        have HF := Lib.hid (HSUC.out hp)
        rw [hp] at HR
        clear hp HSUC HAT
        generalize xs[k] = x at *
        go_wp2_with fail
        refine HR.out.mono ?_
        rintro e w1 ⟨rfl, hb1⟩
        have HB1 := Lib.hid (HB.out.trans (hb1.mono HB.out.size))
        clear hb1
        go_wp2_with fail
        go_roundw
        case rel => exact ⟨k + 1, by go_num, by omega, HF.out, HB1.out⟩
        case measure => simp [intOf]; omega
    · have hkn' : k = n := by omega
      subst hkn'
      have HF := Lib.hid (fidx_no (p := p) (xs := xs) (by rwa [List.take_of_length_le (by have := HN.out; omega)] at hbef))
      have HB := Lib.hid hb
      clear hbef hb
      go_wp2_with fail
      go_ret
      exact ⟨ret_int HF.out.symm, HB.out⟩


set_option maxRecDepth 100000 in
set_option maxHeartbeats 1000000 in
theorem indexFuncCol {w0 : World} {fid : FuncId} {caps : Array Value} {p : Col → Bool} (A : Option Addr) (c : Nat) (xs : List Col) (w : World) (hT : TestC w0 fid caps Col.val (fun _ _ => True) p) (hb : Below w0.heap.size w0 w) (hx : Elems 3 Col.cs w (· < w.heap.size) A xs) (hl : xs.length ≤ 1000) :
    Calls Tryz.prog 128 #[.slice A xs.length c, .func (.func fid) #[] caps] w fun e w' => e = .returned (.int .i64 (fidx p xs)) ∧ Below w.heap.size w w' := by
  have HX := Lib.hid hx
  have HT := Lib.hid hT
  have HB0 := Lib.hid hb
  have hent := hT.ent
  obtain ⟨n, hn⟩ : ∃ n, xs.length = n := ⟨_, rfl⟩
  rw [hn] at hl ⊢
  have HN := Lib.hid hn
  clear hx hn hT hb
  go_enter Tryz.func128, Tryz.ntmps128
  go_wp2_with fail
  go_loopw [8] (fun vi wr => ∃ k : Nat, vi = .int .i64 (k : Int) ∧ k ≤ n ∧ (∀ x ∈ xs.take k, p x = false) ∧ Below w.heap.size w wr) (fun vi _ => n - (intOf vi).toNat)
  case atStart => exact ⟨0, rfl, by omega, (by intro x hx; simp at hx), Below.refl _ _⟩
  case round =>
    obtain ⟨k, rfl, hkn, hbef, hb⟩ := hrel
    by_cases hlt : k < n
    · have hki : k < xs.length := by have := HN.out; omega
      obtain ⟨b, off, rfl, -, p0, p1, p2⟩ := (HX.out.on hb).col hki
      have HR := Lib.hid (HT.out.run xs[k] wr (HB0.out.trans (hb.mono HB0.out.size)) (trivial))
      have hlt' : (k : Int) < (n : Int) := by omega
      have HSUC : Hid (p xs[k] = false → ∀ x ∈ xs.take (k + 1), p x = false) := Lib.hid fun hp x hx => by
        rw [List.take_succ_eq_append_getElem hki] at hx
        rcases List.mem_append.1 hx with hx | hx
        · exact hbef x hx
        · rw [List.mem_singleton.1 hx]; exact hp
      have HAT : Hid (p xs[k] = true → fidx p xs = (k : Int)) := Lib.hid fun hp => fidx_at hki hp hbef
      have HB := Lib.hid hb
      clear hbef hb
      cases hp : p xs[k] with
      | true =>
        have HF := Lib.hid (HAT.out hp)
        rw [hp] at HR
        clear hp HSUC HAT
        generalize xs[k] = x at *
        go_wp2_with fail
        refine HR.out.mono ?_
        rintro e w1 ⟨rfl, hb1⟩
        have HB1 := Lib.hid (HB.out.trans (hb1.mono HB.out.size))
        clear hb1
        go_wp2_with fail
        go_ret
        exact ⟨ret_int HF.out.symm, HB1.out⟩
      | false =>
        have HF := Lib.hid (HSUC.out hp)
        rw [hp] at HR
        clear hp HSUC HAT
        generalize xs[k] = x at *
        go_wp2_with fail
        refine HR.out.mono ?_
        rintro e w1 ⟨rfl, hb1⟩
        have HB1 := Lib.hid (HB.out.trans (hb1.mono HB.out.size))
        clear hb1
        go_wp2_with fail
        go_roundw
        case rel => exact ⟨k + 1, by go_num, by omega, HF.out, HB1.out⟩
        case measure => simp [intOf]; omega
    · have hkn' : k = n := by omega
      subst hkn'
      have HF := Lib.hid (fidx_no (p := p) (xs := xs) (by rwa [List.take_of_length_le (by have := HN.out; omega)] at hbef))
      have HB := Lib.hid hb
      clear hbef hb
      go_wp2_with fail
      go_ret
      exact ⟨ret_int HF.out.symm, HB.out⟩


/-- What FindTable answers. -/
def findV (i : Int) : Value := .tuple #[.int .i64 (max i 0), .bool (decide (0 ≤ i))]
def tabI (name : ByteArray) (ts : List Tbl) : Int := fidx (fun t => t.name.toList == name.toList) ts
def colI (name : ByteArray) (cs : List Col) : Int := fidx (fun c => c.name.toList == name.toList) cs

set_option maxRecDepth 100000 in
set_option maxHeartbeats 1000000 in
theorem findTable (s : Sc) (name : ByteArray) (w : World) (hs : ScOk (· < w.heap.size) w s) (hl : s.tabs.length ≤ 1000) :
    Calls Tryz.prog 66 #[s.v, .string name] w fun e w' => e = .returned (findV (tabI name s.tabs)) ∧ Below w.heap.size w w' := by
  obtain ⟨w1, hw1⟩ : ∃ w1, w1 = (w.alloc (.cells s.cells 27)).alloc (.cells #[.string name] 9) := ⟨_, rfl⟩
  have hb1 : Below w.heap.size w w1 := by rw [hw1]; exact ((Below.refl _ _).alloc (Nat.le_refl _) _).alloc (le_size1 (Nat.le_refl _) _) _
  have hg0 : w1.heap[w.heap.size]? = some (.cells s.cells 27 (0, 0)) := by
    rw [hw1, Below.heap_alloc _ _ _ (by simp)]
    exact heap_alloc_new w _
  have hg1 : w1.heap[w.heap.size + 1]? = some (.cells #[.string name] 9 (0, 0)) := by rw [hw1]; exact alloc2_at w _ _
  have hs1 : w1.heap.size = w.heap.size + 2 := by rw [hw1]; simp
  have hT : TestC w1 101 #[ptr (w.heap.size + 1)] Tbl.val (fun _ _ => True) (fun t => t.name.toList == name.toList) :=
    ⟨fun args w => by kernel_rfl, fun x W hW _ => findTable1 x _ name W (by rw [hW.cell (p := ⟨w.heap.size + 1, 0, none⟩) (by show w.heap.size + 1 < _; omega), cell_of_row _ _ _ _ _ _ hg1]; rfl) (by have := hW.size; omega)⟩
  have HI := Lib.hid (indexFuncTab s.TA s.tc s.tabs w1 hT (Below.refl _ _) (hs.on hb1).tabs hl)
  have HB1 := Lib.hid hb1
  have HW1 := Lib.hid hw1
  obtain ⟨TA, tc, tabs, FA, fc, fks, NA, nc, cns⟩ := s
  unfold Sc.v
  unfold Sc.cells at hg0 HW1 ⊢
  simp only at hg0 HW1 HI hl ⊢
  have c0 : w1.cell? ⟨w.heap.size, 0, none⟩ = some (.slice TA tabs.length tc) := by rw [cell_of_row _ _ _ _ _ _ hg0]; rfl
  have HR : Hid (tabI name tabs = fidx (fun t => t.name.toList == name.toList) tabs) := Lib.hid rfl
  have hlt := fidx_lt (fun t : Tbl => t.name.toList == name.toList) tabs
  obtain ⟨r, hr⟩ : ∃ r, r = fidx (fun t : Tbl => t.name.toList == name.toList) tabs := ⟨_, rfl⟩
  rw [← hr] at HI HR hlt
  obtain ⟨hlt1, hlt2, -⟩ := hlt
  clear hs hb1 hg1 hs1 hT hw1 hg0 hr
  go_enter Tryz.func66, Tryz.ntmps66
  go_upto_region 1 with fail
  rw [← HW1.out]
  go_wp2_with fail
  refine HI.out.mono ?_
  rintro e w2 ⟨rfl, hb2⟩
  have HB2 := Lib.hid (HB1.out.trans (hb2.mono HB1.out.size))
  clear hb2
  by_cases h0 : 0 ≤ r
  · have hm : max r 0 = r := by omega
    go_wp2_with fail
    go_ret2
    refine ⟨?_, HB2.out⟩
    rw [HR.out]
    unfold findV
    simp [hm, h0]
  · have hm : max r 0 = 0 := by omega
    go_wp2_with fail
    go_ret2
    refine ⟨?_, HB2.out⟩
    rw [HR.out]
    unfold findV
    simp [hm]

set_option maxRecDepth 100000 in
set_option maxHeartbeats 1000000 in
theorem findColumn (t : Tbl) (name : ByteArray) (w : World) (hs : TOk (· < w.heap.size) w t) (hl : t.cols.length ≤ 1000) :
    Calls Tryz.prog 111 #[t.val, .string name] w fun e w' => e = .returned (findV (colI name t.cols)) ∧ Below w.heap.size w w' := by
  obtain ⟨w1, hw1⟩ : ∃ w1, w1 = (w.alloc (.cells #[.string t.name, .slice t.CA t.cols.length t.cc, .slice t.PA t.pk.length t.pc] 71)).alloc (.cells #[.string name] 9) := ⟨_, rfl⟩
  have hb1 : Below w.heap.size w w1 := by rw [hw1]; exact ((Below.refl _ _).alloc (Nat.le_refl _) _).alloc (le_size1 (Nat.le_refl _) _) _
  have hg0 : w1.heap[w.heap.size]? = some (.cells #[.string t.name, .slice t.CA t.cols.length t.cc, .slice t.PA t.pk.length t.pc] 71 (0, 0)) := by
    rw [hw1, Below.heap_alloc _ _ _ (by simp)]
    exact heap_alloc_new w _
  have hg1 : w1.heap[w.heap.size + 1]? = some (.cells #[.string name] 9 (0, 0)) := by rw [hw1]; exact alloc2_at w _ _
  have hs1 : w1.heap.size = w.heap.size + 2 := by rw [hw1]; simp
  have hT : TestC w1 129 #[ptr (w.heap.size + 1)] Col.val (fun _ _ => True) (fun t => t.name.toList == name.toList) :=
    ⟨fun args w => by kernel_rfl, fun x W hW _ => findColumn1 x _ name W (by rw [hW.cell (p := ⟨w.heap.size + 1, 0, none⟩) (by show w.heap.size + 1 < _; omega), cell_of_row _ _ _ _ _ _ hg1]; rfl) (by have := hW.size; omega)⟩
  have HI := Lib.hid (indexFuncCol t.CA t.cc t.cols w1 hT (Below.refl _ _) (hs.on hb1).cols hl)
  have HB1 := Lib.hid hb1
  have HW1 := Lib.hid hw1
  obtain ⟨nm, CA, cc, cols, PA, pc, pk⟩ := t
  unfold Tbl.val
  simp only at hg0 HW1 HI hl ⊢
  have c0 : w1.cell? ⟨w.heap.size, 1, none⟩ = some (.slice CA cols.length cc) := by rw [cell_of_row _ _ _ _ _ _ hg0]; rfl
  have HR : Hid (colI name cols = fidx (fun t => t.name.toList == name.toList) cols) := Lib.hid rfl
  have hlt := fidx_lt (fun t : Col => t.name.toList == name.toList) cols
  obtain ⟨r, hr⟩ : ∃ r, r = fidx (fun t : Col => t.name.toList == name.toList) cols := ⟨_, rfl⟩
  rw [← hr] at HI HR hlt
  obtain ⟨hlt1, hlt2, -⟩ := hlt
  clear hs hb1 hg1 hs1 hT hw1 hg0 hr
  go_enter Tryz.func111, Tryz.ntmps111
  go_upto_region 1 with fail
  rw [← HW1.out]
  go_wp2_with fail
  refine HI.out.mono ?_
  rintro e w2 ⟨rfl, hb2⟩
  have HB2 := Lib.hid (HB1.out.trans (hb2.mono HB1.out.size))
  clear hb2
  by_cases h0 : 0 ≤ r
  · have hm : max r 0 = r := by omega
    go_wp2_with fail
    go_ret2
    refine ⟨?_, HB2.out⟩
    rw [HR.out]
    unfold findV
    simp [hm, h0]
  · have hm : max r 0 = 0 := by omega
    go_wp2_with fail
    go_ret2
    refine ⟨?_, HB2.out⟩
    rw [HR.out]
    unfold findV
    simp [hm]
end Go.Proofs.YtefifkleamiabaaGreatDoor

namespace Go.Proofs.YtefifkleamiabaaGreatDoor
open Go.RowKit

/-- A valid name. -/
structure NameV (s : ByteArray) : Prop where
  pos : 1 ≤ s.size
  len : s.size ≤ 12
  fst : ¬ (48 ≤ (s.data.toList.getD 0 0).toNat ∧ (s.data.toList.getD 0 0).toNat ≤ 57)
  chr : ∀ j, j < s.size → (97 ≤ (s.data.toList.getD j 0).toNat ∧ (s.data.toList.getD j 0).toNat ≤ 122) ∨ (48 ≤ (s.data.toList.getD j 0).toNat ∧ (s.data.toList.getD j 0).toNat ≤ 57)

theorem below_bytes (w : World) (e : TypeId) (s : ByteArray) : Below w.heap.size w (Lib.bytesWorld w e s) :=
  ⟨rfl, rfl, rfl, by rw [Lib.bytesWorld_size]; omega, fun k hk => Lib.bytesWorld_at_old w e s k hk⟩

set_option maxRecDepth 100000 in
set_option maxHeartbeats 1000000 in
theorem validNameS (s : ByteArray) (w : World) (h : NameV s) :
    Calls Tryz.prog 110 #[.string s] w fun e w' => e = .returned (.bool true) ∧ Below w.heap.size w w' := by
  have hp := h.pos
  have hl := h.len
  have hf := h.fst
  have hcv := Lib.run_convert_string_bytes (P := Tryz.prog) w 9 123 5 s Tryz.underlying9 Tryz.underlying123 Tryz.underlying5
  have HBW := Lib.hid (below_bytes w 5 s)
  have HCL := Lib.hid fun j hj => Lib.bytesWorld_cell w 5 s j hj
  have HCH := Lib.hid h.chr
  have hx : (s[0]'hp).toNat = (s.data.toList.getD 0 0).toNat := by
    rw [List.getD_eq_getElem?_getD, Array.getElem?_toList, Array.getElem?_eq_getElem hp]
    rfl
  rw [← hx] at hf
  generalize Lib.bytesWorld w 5 s = w1 at *
  generalize grownCap w s.size 0 5 = gc at *
  have hl0 : ¬ ((s.size : Int) < 1) := by omega
  have hl1 : (s.size : Int) ≤ 12 := by omega
  clear h hx
  rcases (by omega : (s[0]'hp).toNat < 48 ∨ (48 ≤ (s[0]'hp).toNat ∧ 57 < (s[0]'hp).toNat)) with g | ⟨g, g'⟩
  all_goals
    clear hf
    go_enter Tryz.func110, Tryz.ntmps110
    go_wp2_with fail
    go_loopw [26] (fun vi wr => ∃ k : Nat, vi = .int .i64 (k : Int) ∧ k ≤ s.size ∧ w1 = wr) (fun vi _ => s.size - (intOf vi).toNat)
    case atStart => exact ⟨0, rfl, by omega, rfl⟩
    case round =>
      obtain ⟨k, rfl, hk, rfl⟩ := hrel
      by_cases hlt : k < s.size
      · have hlt' : (k : Int) < (s.size : Int) := by omega
        have c0 := HCL.out k hlt
        have hch := HCH.out k hlt
        generalize (s.data.toList.getD k 0).toNat = x at *
        rcases (by omega : (97 ≤ x ∧ x ≤ 122) ∨ (x < 97 ∧ 48 ≤ x ∧ x ≤ 57)) with ⟨e1, e2⟩ | ⟨e1, e2, e3⟩
        all_goals
          clear hch
          go_wp2_with fail
          go_roundw
          case rel => exact ⟨k + 1, by go_num, by omega, by trivial⟩
          case measure => simp [intOf]; omega
      · have hks : k = s.size := by omega
        subst hks
        go_wp2_with fail
        go_ret
        exact ⟨rfl, HBW.out⟩
end Go.Proofs.YtefifkleamiabaaGreatDoor

namespace Go.Proofs.YtefifkleamiabaaGreatDoor
open Go.RowKit

/-- A valid table. -/
structure TabV (t : Tbl) : Prop where
  name : NameV t.name
  ncols : 0 < t.cols.length ∧ t.cols.length ≤ 6
  cname : ∀ c ∈ t.cols, NameV c.name
  first : ∀ (i : Nat) (h : i < t.cols.length), max (colI t.cols[i].name t.cols) 0 = (i : Int)
  kind : ∀ c ∈ t.cols, 1 ≤ c.kind ∧ c.kind ≤ 3
  npk : 0 < t.pk.length ∧ t.pk.length ≤ 1000
  pk : ∀ (j : Nat) (h : j < t.pk.length), 0 ≤ t.pk[j] ∧ ∃ (h2 : t.pk[j].toNat < t.cols.length), t.cols[t.pk[j].toNat].null = false
  ord : t.pk.Pairwise (· < ·)

set_option maxRecDepth 100000 in
set_option maxHeartbeats 4000000 in
theorem validateTable (t : Tbl) (w : World) (ht : TOk (· < w.heap.size) w t) (hv : TabV t) :
    Calls Tryz.prog 77 #[t.val] w fun e w' => e = .returned (.int .i64 0) ∧ Below w.heap.size w w' := by
  have HTO := Lib.hid ht
  have HV := Lib.hid hv
  have HFC := Lib.hid fun W (hW : Below w.heap.size w W) nm => findColumn t nm W (ht.on hW) (by have := hv.ncols; omega)
  obtain ⟨name, CA, cc, cols, PA, pc, pk⟩ := t
  obtain ⟨w1, hw1⟩ : ∃ w1, w1 = w.alloc (.cells #[.string name, .slice CA cols.length cc, .slice PA pk.length pc] 71) := ⟨_, rfl⟩
  have hbx := heap_alloc_new w (.cells #[.string name, .slice CA cols.length cc, .slice PA pk.length pc] 71)
  rw [← hw1] at hbx
  have hb1 : Below w.heap.size w w1 := by rw [hw1]; exact (Below.refl _ _).alloc (Nat.le_refl _) _
  have hs1 : w.heap.size < w1.heap.size := by rw [hw1]; simp
  obtain ⟨n, hn⟩ : ∃ n, cols.length = n := ⟨_, rfl⟩
  obtain ⟨m, hm⟩ : ∃ m, pk.length = m := ⟨_, rfl⟩
  have hn0 : 0 < n ∧ n ≤ 6 := by rw [← hn]; exact hv.ncols
  have hm0 : 0 < m ∧ m ≤ 1000 := by rw [← hm]; exact hv.npk
  have HBK : Hid (∀ W, Below w1.heap.size w1 W → W.cell? ⟨w.heap.size, 0, none⟩ = some (.string name) ∧ W.cell? ⟨w.heap.size, 1, none⟩ = some (.slice CA n cc) ∧ W.cell? ⟨w.heap.size, 2, none⟩ = some (.slice PA m pc)) := Lib.hid fun W hW => by
    have h := (hW.block w.heap.size hs1).trans hbx
    rw [hn, hm] at h
    exact ⟨by rw [cell_of_row _ _ _ _ _ _ h]; rfl, by rw [cell_of_row _ _ _ _ _ _ h]; rfl, by rw [cell_of_row _ _ _ _ _ _ h]; rfl⟩
  have HB1 := Lib.hid hb1
  have HW1 : Hid (w1 = w.alloc (.cells #[.string name, .slice CA n cc, .slice PA m pc] 71)) := Lib.hid (by rw [hw1, hn, hm])
  have HN := Lib.hid (And.intro hn hm)
  unfold Tbl.val at HFC ⊢
  simp only at HFC ⊢
  rw [hn, hm] at HFC ⊢
  have HVN := Lib.hid fun W nm (h : NameV nm) => validNameS nm W h
  have HNM := Lib.hid hv.name
  simp only at HNM
  obtain ⟨hn1, hn6⟩ := hn0
  obtain ⟨hm1, hm1000⟩ := hm0
  have hnz : ((n : Int) == 0) = false := by simp; omega
  have hmz : ((m : Int) == 0) = false := by simp; omega
  obtain ⟨c0, c1, c2⟩ := HBK.out w1 (Below.refl _ _)
  clear ht hv hw1 hbx hb1 hs1 hn hm
  go_enter Tryz.func77, Tryz.ntmps77
  go_upto_region 1 with fail
  rw [← HW1.out]
  go_wp2_with fail
  refine (HVN.out w1 name HNM.out).mono ?_
  rintro e w2 ⟨rfl, hb2⟩
  obtain ⟨d0, d1, d2⟩ := HBK.out w2 hb2
  have HB2 := Lib.hid hb2
  clear hb2 c0 c1 c2
  go_wp2_with fail
  go_loopw [24] (fun vi wr => ∃ k : Nat, vi = .int .i64 (k : Int) ∧ k ≤ n ∧ Below w1.heap.size w1 wr) (fun vi _ => n - (intOf vi).toNat)
  case atStart => exact ⟨0, rfl, by omega, HB2.out⟩
  case round =>
    obtain ⟨k, rfl, hkn, hb⟩ := hrel
    obtain ⟨wo, rfl⟩ : ∃ wo, wo = wr := ⟨_, rfl⟩
    have hbw : Below w.heap.size w wo := HB1.out.trans (hb.mono HB1.out.size)
    by_cases hlt : k < n
    · have hki : k < cols.length := by have := HN.out.1; omega
      obtain ⟨b, off, hA, hbl, e0, e1, e2⟩ := (HTO.out.on hbw).cols.col hki
      have hA : CA = some ⟨b, off, none⟩ := hA
      have hcn := HV.out.cname _ (List.getElem_mem hki)
      have hfi := HV.out.first k hki
      have hkd := HV.out.kind _ (List.getElem_mem hki)
      simp only at hfi
      have HF := Lib.hid hfi
      have HCN := Lib.hid (HVN.out (wo.alloc (.cells #[.string cols[k].name, .int .i64 cols[k].kind, .bool cols[k].null] 68)) cols[k].name hcn)
      obtain ⟨f0, f1, f2⟩ := HBK.out wo hb
      obtain ⟨hkd1, hkd2⟩ := hkd
      have hlt' : (k : Int) < (n : Int) := by omega
      have hba : ∀ o, Below wo.heap.size wo (wo.alloc o) := fun o => (Below.refl _ _).alloc (Nat.le_refl _) o
      have HBO := Lib.hid hb
      have HBA := Lib.hid hba
      rw [hA] at f1 ⊢
      rw [hA] at HBK HFC HW1
      have HA := Lib.hid hA
      clear hcn hfi hbw hba hb hA hbl
      generalize cols[k].name = cn at *
      generalize cols[k].kind = ck at *
      generalize cols[k].null = cnull at *
      go_wp2_with fail
      refine HCN.out.mono ?_
      rintro e w3 ⟨rfl, hb3⟩
      have hbo : Below wo.heap.size wo w3 := (HBA.out _).trans (hb3.mono (HBA.out _).size)
      have hb13 := HBO.out.trans (hbo.mono HBO.out.size)
      obtain ⟨g0, g1, g2⟩ := HBK.out w3 hb13
      have hcv : w3.heap[wo.heap.size]? = some (.cells #[.string cn, .int .i64 ck, .bool cnull] 68 (0, 0)) := (hb3.block wo.heap.size (by simp)).trans (heap_alloc_new wo _)
      have v0 : w3.cell? ⟨wo.heap.size, 0, none⟩ = some (.string cn) := by rw [cell_of_row _ _ _ _ _ _ hcv]; rfl
      have v1 : w3.cell? ⟨wo.heap.size, 1, none⟩ = some (.int .i64 ck) := by rw [cell_of_row _ _ _ _ _ _ hcv]; rfl
      have HL3 : Hid (wo.heap.size < w3.heap.size) := Lib.hid ((Array.getElem?_eq_some_iff.1 hcv).1)
      have HFC3 := Lib.hid (HFC.out w3 (HB1.out.trans (hb13.mono HB1.out.size)) cn)
      have HB13 := Lib.hid hb13
      clear hb3 hbo hb13 hcv
      go_wp2_with fail
      refine HFC3.out.mono ?_
      rintro e w4 ⟨rfl, hb4⟩
      have v1' : w4.cell? ⟨wo.heap.size, 1, none⟩ = some (.int .i64 ck) := (hb4.cell (p := ⟨wo.heap.size, 1, none⟩) HL3.out).trans v1
      have HB14 := Lib.hid (HB13.out.trans (hb4.mono HB13.out.size))
      unfold findV
      have hmx : max (colI cn cols) 0 = (k : Int) := HF.out
      rw [hmx]
      generalize colI cn cols = ci at *
      clear hb4 v0 v1 g0 g1 g2 hmx
      go_wp2_with fail
      go_roundw
      case rel => exact ⟨k + 1, by go_num, by omega, HB14.out⟩
      case measure => simp [intOf]; omega
    · have hkn' : k = n := by omega
      subst hkn'
      obtain ⟨f0, f1, f2⟩ := HBK.out wo hb
      have HBO := Lib.hid hb
      clear hb hbw
      go_wp2_with fail
      go_loopw [55] (fun vi wr => ∃ j : Nat, vi = .int .i64 (j : Int) ∧ j ≤ m ∧ wo = wr) (fun vi _ => m - (intOf vi).toNat)
      case atStart => exact ⟨0, rfl, by omega, rfl⟩
      case round =>
        obtain ⟨j, rfl, hjm, rfl⟩ := hrel
        have hbw : Below w.heap.size w wo := HB1.out.trans (HBO.out.mono HB1.out.size)
        by_cases hlt : j < m
        · have hji : j < pk.length := by have := HN.out.2; omega
          obtain ⟨b, off, hA, -, e0x⟩ := (HTO.out.on hbw).pk.int hji
          obtain ⟨hp0, hp1, hp2⟩ := HV.out.pk j hji
          obtain ⟨p, hp⟩ := Int.eq_ofNat_of_zero_le hp0
          have hA : PA = some ⟨b, off, none⟩ := hA
          have hpp : pk[j] = (p : Int) := hp
          have hpl : p < cols.length := by
            have h : pk[j].toNat < cols.length := hp1
            rw [hpp, Int.toNat_natCast] at h
            exact h
          have hpn : cols[p].null = false := by
            have h : (cols[pk[j].toNat]'hp1).null = false := hp2
            have e : pk[j].toNat = p := by rw [hpp, Int.toNat_natCast]
            simpa [e] using h
          obtain ⟨b2, off2, hA2, -, q0, q1, q2x⟩ := (HTO.out.on hbw).cols.col hpl
          have hA2 : CA = some ⟨b2, off2, none⟩ := hA2
          have e0 : wo.cell? ⟨b, off + j, none⟩ = some (.int .i64 pk[j]) := e0x
          rw [hpp] at e0
          have q2 : wo.cell? ⟨b2, off2 + p * 3 + 2, none⟩ = some (.bool cols[p].null) := q2x
          rw [hpn] at q2
          have hpk' : (p : Int) < (k : Int) := by have := HN.out.1; omega
          have hjm' : (j : Int) < (m : Int) := by omega
          have hf1 := f1
          have hf2 := f2
          rw [hA2] at hf1
          rw [hA] at hf2 ⊢
          have HPP := Lib.hid hpp
          clear e0x hp0 hp1 hp2 hp q2x q0 q1 hpn hpl hbw f1 f2
          by_cases hj0 : j = 0
          · subst hj0
            rw [Nat.add_zero] at e0
            clear HPP hpp hA hA2
            go_wp2_with fail
            go_roundw
            case rel => exact ⟨1, by go_num, by omega, by trivial⟩
            case measure => simp [intOf]; omega
          · obtain ⟨i, rfl⟩ : ∃ i, j = i + 1 := ⟨j - 1, by omega⟩
            have hlt2 := List.pairwise_iff_getElem.1 HV.out.ord i (i + 1) (show i < pk.length from by omega) hji (by omega)
            obtain ⟨b', off', e', -, c1'⟩ := (HTO.out.on (HB1.out.trans (HBO.out.mono HB1.out.size))).pk.int (k := i) (show i < pk.length from by omega)
            have e' : PA = some ⟨b', off', none⟩ := e'
            rw [hA] at e'
            injection e' with e'
            injection e' with e1 e2
            subst e1 e2
            have hlt3 : pk[i]'(show i < pk.length from by omega) < (p : Int) := by
              have h : pk[i]'(show i < pk.length from by omega) < pk[i + 1] := hlt2
              rw [HPP.out] at h
              exact h
            have c1'' : wo.cell? ⟨b, off + i, none⟩ = some (.int .i64 (pk[i]'(show i < pk.length from by omega))) := c1'
            have hj1 : (0 : Int) < ((i + 1 : Nat) : Int) := by omega
            have hj2 : ((i + 1 : Nat) : Int) - 1 = (i : Int) := by omega
            have hj3 : (i : Int) < (m : Int) := by omega
            clear hlt2 c1' HPP hpp hA hA2
            generalize pk[i]'(show i < pk.length from by omega) = z at *
            go_wp2_with fail
            go_roundw
            case rel => exact ⟨i + 1 + 1, by go_num, by omega, by trivial⟩
            case measure => simp [intOf]; omega
        · have hjm' : j = m := by omega
          subst hjm'
          clear hbw
          go_wp2_with fail
          go_ret
          exact ⟨rfl, HB1.out.trans (HBO.out.mono HB1.out.size)⟩
end Go.Proofs.YtefifkleamiabaaGreatDoor

namespace Go.Proofs.YtefifkleamiabaaGreatDoor
open Go.RowKit

theorem two_new (w : World) (a b : Obj) : ((w.alloc a).alloc b).drew.heap[w.heap.size]? = some a ∧ ((w.alloc a).alloc b).drew.heap[w.heap.size + 1]? = some b ∧ Below w.heap.size w ((w.alloc a).alloc b).drew := by
  refine ⟨?_, alloc2_at w a b, (((Below.refl _ _).alloc (Nat.le_refl _) _).alloc (le_size1 (Nat.le_refl _) _) _).drew⟩
  show ((w.alloc a).alloc b).heap[w.heap.size]? = some a
  rw [Below.heap_alloc _ _ _ (by simp)]
  exact heap_alloc_new w a

/-- A valid foreign key: from table i to table k. -/
structure FkV (s : Sc) (f : FkM) (i k : Nat) : Prop where
  il : i < s.tabs.length
  kl : k < s.tabs.length
  fi : tabI f.name s.tabs = (i : Int)
  fk : tabI f.ref s.tabs = (k : Int)
  len : f.cols.length = s.tabs[k].pk.length
  col : ∀ (j : Nat) (h : j < f.cols.length) (h' : j < s.tabs[k].pk.length), 0 ≤ f.cols[j] ∧ f.cols[j] < (s.tabs[i].cols.length : Int) ∧ 0 ≤ s.tabs[k].pk[j] ∧ s.tabs[k].pk[j] < (s.tabs[k].cols.length : Int) ∧ (s.tabs[i].cols.getD f.cols[j].toNat ⟨⟨#[]⟩, 0, false⟩).kind = (s.tabs[k].cols.getD s.tabs[k].pk[j].toNat ⟨⟨#[]⟩, 0, false⟩).kind

set_option maxRecDepth 100000 in
set_option maxHeartbeats 4000000 in
theorem validateFk (s : Sc) (f : FkM) (i k : Nat) (w : World) (hs : ScOk (· < w.heap.size) w s) (hf : Elems 1 intCs w (· < w.heap.size) f.A f.cols) (hv : FkV s f i k) (hl : s.tabs.length ≤ 1000) (hfl : f.cols.length ≤ 1000) :
    Calls Tryz.prog 78 #[s.v, f.val] w fun e w' => e = .returned (.int .i64 0) ∧ Below w.heap.size w w' := by
  have hil := hv.il
  have hkl := hv.kl
  have HFT := Lib.hid fun W (hW : Below w.heap.size w W) nm => findTable s nm W (hs.on hW) hl
  have HTI := Lib.hid fun W (hW : Below w.heap.size w W) => (hs.on hW).tab _ (List.getElem_mem hil)
  have HTK := Lib.hid fun W (hW : Below w.heap.size w W) => (hs.on hW).tab _ (List.getElem_mem hkl)
  have HFA := Lib.hid fun W (hW : Below w.heap.size w W) => hf.on hW
  obtain ⟨w1, hw1⟩ : ∃ w1, w1 = (w.alloc (.cells s.cells 27)).alloc (.cells #[.string f.name, .slice f.A f.cols.length f.c, .string f.ref] 73) := ⟨_, rfl⟩
  have hb1 : Below w.heap.size w w1 := by rw [hw1]; exact ((Below.refl _ _).alloc (Nat.le_refl _) _).alloc (le_size1 (Nat.le_refl _) _) _
  have hg0 : w1.heap[w.heap.size]? = some (.cells s.cells 27 (0, 0)) := by
    rw [hw1, Below.heap_alloc _ _ _ (by simp)]
    exact heap_alloc_new w _
  have hg1 : w1.heap[w.heap.size + 1]? = some (.cells #[.string f.name, .slice f.A f.cols.length f.c, .string f.ref] 73 (0, 0)) := by rw [hw1]; exact alloc2_at w _ _
  have hs1 : w1.heap.size = w.heap.size + 2 := by rw [hw1]; simp
  obtain ⟨n, hn⟩ : ∃ n, s.tabs.length = n := ⟨_, rfl⟩
  have HBK : Hid (∀ W, Below w1.heap.size w1 W → W.cell? ⟨w.heap.size, 0, none⟩ = some (.slice s.TA n s.tc) ∧ W.cell? ⟨w.heap.size, 1, none⟩ = some (.slice s.FA s.fks.length s.fc) ∧ W.cell? ⟨w.heap.size, 2, none⟩ = some (.slice s.NA s.cns.length s.nc)
      ∧ W.cell? ⟨w.heap.size + 1, 0, none⟩ = some (.string f.name) ∧ W.cell? ⟨w.heap.size + 1, 1, none⟩ = some (.slice f.A f.cols.length f.c) ∧ W.cell? ⟨w.heap.size + 1, 2, none⟩ = some (.string f.ref)) := Lib.hid fun W hW => by
    have h0 := (hW.block w.heap.size (by omega)).trans hg0
    have h1 := (hW.block (w.heap.size + 1) (by omega)).trans hg1
    unfold Sc.cells at h0
    rw [hn] at h0
    exact ⟨by rw [cell_of_row _ _ _ _ _ _ h0]; rfl, by rw [cell_of_row _ _ _ _ _ _ h0]; rfl, by rw [cell_of_row _ _ _ _ _ _ h0]; rfl, by rw [cell_of_row _ _ _ _ _ _ h1]; rfl, by rw [cell_of_row _ _ _ _ _ _ h1]; rfl, by rw [cell_of_row _ _ _ _ _ _ h1]; rfl⟩
  have HTB := Lib.hid fun W (hW : Below w.heap.size w W) => And.intro ((hs.on hW).tabs.tbl hil) ((hs.on hW).tabs.tbl hkl)
  have HB1 := Lib.hid hb1
  have HW1 := Lib.hid hw1
  have hin : (i : Int) < (n : Int) := by omega
  have hkn : (k : Int) < (n : Int) := by omega
  have HFI := Lib.hid hv.fi
  have HFK := Lib.hid hv.fk
  have HCL : Hid (f.cols.length = (s.tabs[k]'hkl).pk.length) := Lib.hid hv.len
  have HCO : Hid (∀ (j : Nat) (h : j < f.cols.length) (h' : j < (s.tabs[k]'hkl).pk.length), 0 ≤ f.cols[j] ∧ f.cols[j] < ((s.tabs[i]'hil).cols.length : Int) ∧ 0 ≤ (s.tabs[k]'hkl).pk[j] ∧ (s.tabs[k]'hkl).pk[j] < ((s.tabs[k]'hkl).cols.length : Int) ∧ ((s.tabs[i]'hil).cols.getD f.cols[j].toNat ⟨⟨#[]⟩, 0, false⟩).kind = ((s.tabs[k]'hkl).cols.getD (s.tabs[k]'hkl).pk[j].toNat ⟨⟨#[]⟩, 0, false⟩).kind) := Lib.hid hv.col
  obtain ⟨c0, c1, c2, c3, c4, c5⟩ := HBK.out w1 (Below.refl _ _)
  unfold Sc.cells at HW1
  unfold Sc.v Sc.cells at HFT ⊢
  unfold FkM.val
  rw [hn] at HFT HW1 ⊢
  clear hs hf hv hw1 hb1 hg0 hg1 hs1 hn
  obtain ⟨TA, tc, tabs, FA, fc, fks, NA, nc, cns⟩ := s
  simp only at *
  generalize tabs[i]'hil = ti at *
  generalize tabs[k]'hkl = tk at *
  obtain ⟨m, hm⟩ : ∃ m, f.cols.length = m := ⟨_, rfl⟩
  rw [hm] at hfl HW1 c4 ⊢
  have HM := Lib.hid hm
  clear hm
  go_enter Tryz.func78, Tryz.ntmps78
  go_upto_region 1 with fail
  rw [← HW1.out]
  go_wp2_with fail
  refine (HFT.out w1 HB1.out f.name).mono ?_
  rintro e w2 ⟨rfl, hb2⟩
  rw [HFI.out]
  have hmi : max (i : Int) 0 = (i : Int) := by omega
  have hdi : decide (0 ≤ (i : Int)) = true := decide_eq_true (by omega)
  unfold findV
  rw [hmi, hdi]
  have HB2 := Lib.hid hb2
  obtain ⟨d0, d1, d2, d3, d4, d5⟩ := HBK.out w2 hb2
  clear hb2 c0 c1 c2 c3 c4 c5 hmi hdi
  go_wp2_with fail
  refine (HFT.out w2 (HB1.out.trans (HB2.out.mono HB1.out.size)) f.ref).mono ?_
  rintro e w3 ⟨rfl, hb3⟩
  rw [HFK.out]
  have hmk : max (k : Int) 0 = (k : Int) := by omega
  have hdk : decide (0 ≤ (k : Int)) = true := decide_eq_true (by omega)
  unfold findV
  rw [hmk, hdk]
  have hb3' := HB2.out.trans (hb3.mono HB2.out.size)
  have HB3 := Lib.hid hb3'
  have HB03 := Lib.hid (HB1.out.trans (hb3'.mono HB1.out.size))
  obtain ⟨e0, e1, e2, e3, e4, e5⟩ := HBK.out w3 hb3'
  clear hb3 hb3' d0 d1 d2 d3 d4 d5 hmk hdk
  obtain ⟨⟨b, off, hA, hbl, p0, p1, p2⟩, ⟨b', off', hA', -, q0, q1, q2⟩⟩ := HTB.out w3 HB03.out
  rw [hA] at hA'
  injection hA' with hA'
  injection hA' with h1 h2
  subst h1 h2
  rw [hA] at e0
  rw [HM.out] at e4
  clear hA
  have n0 := World.new_ne w3 _ e0
  have n1 := World.new_ne w3 _ p0
  have n2 := World.new_ne w3 _ p1
  have n3 := World.new_ne w3 _ p2
  have n4 := World.new_ne w3 _ q0
  have n5 := World.new_ne w3 _ q1
  have n6 := World.new_ne w3 _ q2
  go_upto_region 5 with fail
  go_cut [9, 10] from 33 to 42 (fun v9 v10 wx => ∃ g9 g10, v9 = ptr g9 ∧ v10 = ptr g10 ∧ wx.heap[g9]? = some (.cells #[.string ti.name, .slice ti.CA ti.cols.length ti.cc, .slice ti.PA ti.pk.length ti.pc] 71 (0, 0)) ∧ wx.heap[g10]? = some (.cells #[.string tk.name, .slice tk.CA tk.cols.length tk.cc, .slice tk.PA tk.pk.length tk.pc] 71 (0, 0)) ∧ Below w3.heap.size w3 wx)
  case first =>
    go_region_held3 (fun w' => w'.cell? ⟨w.heap.size, 0, none⟩ = some (.slice (some ⟨b, off, none⟩) n tc) ∧ w'.cell? ⟨b, off + i * 3, none⟩ = some (.string ti.name) ∧ w'.cell? ⟨b, off + i * 3 + 1, none⟩ = some (.slice ti.CA ti.cols.length ti.cc) ∧ w'.cell? ⟨b, off + i * 3 + 2, none⟩ = some (.slice ti.PA ti.pk.length ti.pc) ∧ w'.cell? ⟨b, off + k * 3, none⟩ = some (.string tk.name) ∧ w'.cell? ⟨b, off + k * 3 + 1, none⟩ = some (.slice tk.CA tk.cols.length tk.cc) ∧ w'.cell? ⟨b, off + k * 3 + 2, none⟩ = some (.slice tk.PA tk.pk.length tk.pc)) (go_keep) (fail)
    all_goals
      go_wp2_with fail
      go_meet
      first
        | exact ⟨w3.heap.size, w3.heap.size + 1, rfl, rfl, (two_new w3 _ _).1, (two_new w3 _ _).2.1, (two_new w3 _ _).2.2⟩
        | exact ⟨w3.heap.size + 1, w3.heap.size, rfl, rfl, (two_new w3 _ _).2.1, (two_new w3 _ _).1, (two_new w3 _ _).2.2⟩
  case rest =>
    obtain ⟨g9, g10, rfl, rfl, h9, h10, hbc⟩ := hcut
    obtain ⟨-, -, -, -, f4, -⟩ := HBK.out wc (HB3.out.trans (hbc.mono HB3.out.size))
    rw [HM.out] at f4
    have a1 : wc.cell? ⟨g9, 1, none⟩ = some (.slice ti.CA ti.cols.length ti.cc) := by rw [cell_of_row _ _ _ _ _ _ h9]; rfl
    have b1 : wc.cell? ⟨g10, 1, none⟩ = some (.slice tk.CA tk.cols.length tk.cc) := by rw [cell_of_row _ _ _ _ _ _ h10]; rfl
    have b2 : wc.cell? ⟨g10, 2, none⟩ = some (.slice tk.PA tk.pk.length tk.pc) := by rw [cell_of_row _ _ _ _ _ _ h10]; rfl
    have hpl : tk.pk.length = m := by rw [← HCL.out, HM.out]
    have HPL := Lib.hid hpl
    rw [hpl] at b2
    have HBC := Lib.hid (HB03.out.trans (hbc.mono HB03.out.size))
    clear h9 h10 hbc hpl p0 p1 p2 q0 q1 q2 e0 e1 e2 e3 e4 e5 n0 n1 n2 n3 n4 n5 n6 HFT HTB HBK
    obtain ⟨nti, hnti⟩ : ∃ nti, ti.cols.length = nti := ⟨_, rfl⟩
    obtain ⟨ntk, hntk⟩ : ∃ ntk, tk.cols.length = ntk := ⟨_, rfl⟩
    rw [hnti] at a1
    rw [hntk] at b1
    have HL := Lib.hid (And.intro hnti hntk)
    clear hnti hntk
    obtain ⟨wd, rfl⟩ : ∃ wd, wd = wc := ⟨_, rfl⟩
    go_wp2_with fail
    go_loopw [53] (fun vi wr => ∃ j : Nat, vi = .int .i64 (j : Int) ∧ j ≤ m ∧ ∃ nd, wr = wd.drewN nd) (fun vi _ => m - (intOf vi).toNat)
    case atStart => exact ⟨0, rfl, by omega, 0, rfl⟩
    case round =>
      obtain ⟨j, rfl, hjm, nd, rfl⟩ := hrel
      by_cases hlt : j < m
      · have hjc : j < f.cols.length := by have := HM.out; omega
        have hjp : j < tk.pk.length := by have := HPL.out; omega
        obtain ⟨x0, x1, y0, y1, hkk⟩ := HCO.out j hjc hjp
        have hBn : Below w.heap.size w (wd.drewN nd) := below_drewN HBC.out nd
        obtain ⟨b, off, hA, -, r0⟩ := (HFA.out _ hBn).int hjc
        obtain ⟨b2', off2, hA2, -, r1⟩ := (HTK.out _ hBn).pk.int hjp
        obtain ⟨x, hx⟩ := Int.eq_ofNat_of_zero_le x0
        obtain ⟨y, hy⟩ := Int.eq_ofNat_of_zero_le y0
        rw [hx] at x1 hkk r0
        rw [hy] at y1 hkk r1
        rw [Int.toNat_natCast, Int.toNat_natCast] at hkk
        have hxl : x < ti.cols.length := by omega
        have hyl : y < tk.cols.length := by omega
        obtain ⟨b3, off3, hA3, -, s0, s1, s2⟩ := (HTI.out _ hBn).cols.col hxl
        obtain ⟨b4, off4, hA4, -, t0, t1, t2⟩ := (HTK.out _ hBn).cols.col hyl
        have hkk' : ti.cols[x].kind = tk.cols[y].kind := by
          rw [List.getD_eq_getElem?_getD, List.getD_eq_getElem?_getD, List.getElem?_eq_getElem hxl, List.getElem?_eq_getElem hyl] at hkk
          exact hkk
        have a1n : (wd.drewN nd).cell? ⟨g9, 1, none⟩ = some (.slice ti.CA nti ti.cc) := a1
        have b1n : (wd.drewN nd).cell? ⟨g10, 1, none⟩ = some (.slice tk.CA ntk tk.cc) := b1
        have b2n : (wd.drewN nd).cell? ⟨g10, 2, none⟩ = some (.slice tk.PA m tk.pc) := b2
        rw [hA3] at a1n
        rw [hA4] at b1n
        rw [hA2] at b2n
        rw [hA]
        have hxn : (x : Int) < (nti : Int) := by have := HL.out.1; omega
        have hyn : (y : Int) < (ntk : Int) := by have := HL.out.2; omega
        have hjm' : (j : Int) < (m : Int) := by omega
        rw [hkk'] at s1
        have hne : (tk.cols[y].kind != tk.cols[y].kind) = false := by simp
        clear x0 x1 y0 y1 hkk hkk' hA hA2 hA3 hA4 hx hy s0 s2 t0 t2 hBn
        generalize tk.cols[y].kind = kd at *
        clear hxl hyl hjc hjp
        obtain ⟨we, hwe⟩ : ∃ we, we = wd.drewN nd := ⟨_, rfl⟩
        have HWE : Hid (∀ nq, we.drewN nq = wd.drewN (nd + nq)) := Lib.hid fun nq => by rw [hwe, World.drewN_drewN]
        rw [← hwe] at r0 r1 s1 t1 a1n b1n b2n ⊢
        clear hwe a1 b1 b2 f4
        go_wp2_with fail
        go_quiet (fail)
        go_wp2_with fail
        go_roundw
        case rel => exact ⟨j + 1, by go_num, by omega, _, HWE.out _⟩
        case measure => simp [intOf]; omega
      · have hjm' : j = m := by omega
        subst hjm'
        go_wp2_with fail
        go_ret
        exact ⟨rfl, below_drewN HBC.out nd⟩
end Go.Proofs.YtefifkleamiabaaGreatDoor
