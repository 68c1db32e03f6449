/-
  Schemas in memory; the first index at which a test holds. No program's walk.
-/
import Derived.Test.YtefifkleamiabaaSb
namespace Go.Proofs.Ytefifkleamiabaa
open Go.RowKit

abbrev ptr (a : Nat) : Value := .pointer (some ⟨a, 0, none⟩)
/-- The first index at which p holds, or -1. -/
def fidx {α : Type} (p : α → Bool) (xs : List α) : Int := if xs.any p = true then (xs.findIdx p : Nat) else -1
theorem fidx_at {α : Type} {p : α → Bool} {xs : List α} {k : Nat} (hk : k < xs.length) (hp : p xs[k] = true) (hb : ∀ x ∈ xs.take k, p x = false) : fidx p xs = (k : Int) := by
  have hf : xs.findIdx p = k := by
    rw [List.findIdx_eq hk]
    refine ⟨hp, fun j hj => ?_⟩
    exact hb _ (by rw [List.mem_take_iff_getElem]; exact ⟨j, by omega, rfl⟩)
  unfold fidx
  rw [if_pos (List.any_eq_true.2 ⟨_, List.getElem_mem hk, hp⟩), hf]
theorem fidx_no {α : Type} {p : α → Bool} {xs : List α} (hb : ∀ x ∈ xs, p x = false) : fidx p xs = -1 := by
  unfold fidx
  rw [if_neg]
  rw [List.any_eq_true]
  rintro ⟨x, hx, h⟩
  rw [hb x hx] at h
  cases h
theorem fidx_lt {α : Type} (p : α → Bool) (xs : List α) : -1 ≤ fidx p xs ∧ fidx p xs < (xs.length : Int) ∧ (0 ≤ fidx p xs ↔ xs.any p = true) := by
  unfold fidx
  by_cases h : xs.any p = true
  · rw [if_pos h]
    have : xs.findIdx p < xs.length := List.findIdx_lt_length.2 (by
      obtain ⟨x, hx, h2⟩ := List.any_eq_true.1 h
      exact ⟨x, hx, h2⟩)
    exact ⟨by omega, by omega, fun _ => h, fun _ => by omega⟩
  · rw [if_neg h]
    exact ⟨by omega, by omega, fun h' => by omega, fun h' => absurd h' h⟩

def Tbl.cs (t : Tbl) : List Value := [.string t.name, .slice t.CA t.cols.length t.cc, .slice t.PA t.pk.length t.pc]
theorem tblLay : Lay 3 Tbl.cs := ⟨fun _ => rfl, fun x c hc => by simp [Tbl.cs] at hc; rcases hc with rfl | rfl | rfl <;> rfl⟩
/-- A foreign key. -/
structure FkM where
  name : ByteArray
  A : Option Addr
  c : Nat
  cols : List Int
  ref : ByteArray
def FkM.cs (f : FkM) : List Value := [.string f.name, .slice f.A f.cols.length f.c, .string f.ref]
def FkM.val (f : FkM) : Value := .agg #[.string f.name, .slice f.A f.cols.length f.c, .string f.ref]
theorem fkLay : Lay 3 FkM.cs := ⟨fun _ => rfl, fun x c hc => by simp [FkM.cs] at hc; rcases hc with rfl | rfl | rfl <;> rfl⟩
/-- A check constraint. -/
structure Cn where
  name : ByteArray
  left : Int
  op : ByteArray
  right : Int
  val : Val
def Cn.cs (c : Cn) : List Value := [.string c.name, .int .i64 c.left, .string c.op, .int .i64 c.right, .int .i64 c.val.kind, .int .i64 c.val.int, .string c.val.text]
def Cn.cells (c : Cn) : Array Value := #[.string c.name, .int .i64 c.left, .string c.op, .int .i64 c.right, .int .i64 c.val.kind, .int .i64 c.val.int, .string c.val.text]
theorem cnLay : Lay 7 Cn.cs := ⟨fun _ => rfl, fun x c hc => by simp [Cn.cs] at hc; rcases hc with rfl | rfl | rfl | rfl | rfl | rfl | rfl <;> rfl⟩
/-- A schema, and where its parts lie. -/
structure Sc where
  TA : Option Addr
  tc : Nat
  tabs : List Tbl
  FA : Option Addr
  fc : Nat
  fks : List FkM
  NA : Option Addr
  nc : Nat
  cns : List Cn
def Sc.cells (s : Sc) : Array Value := #[.slice s.TA s.tabs.length s.tc, .slice s.FA s.fks.length s.fc, .slice s.NA s.cns.length s.nc]
def Sc.v (s : Sc) : Value := .agg s.cells
structure ScOk (S : Nat → Prop) (w : World) (s : Sc) : Prop where
  tabs : Elems 3 Tbl.cs w S s.TA s.tabs
  tab : ∀ t ∈ s.tabs, TOk S w t
  fks : Elems 3 FkM.cs w S s.FA s.fks
  fk : ∀ f ∈ s.fks, Elems 1 intCs w S f.A f.cols
  cns : Elems 7 Cn.cs w S s.NA s.cns
section
variable {S S' : Nat → Prop} {w w' : World} {s : Sc}
theorem ScOk.keep (h : ScOk S w s) (hk : Keeps S w w') : ScOk S w' s := ⟨h.tabs.keep hk, fun t ht => (h.tab t ht).keep hk, h.fks.keep hk, fun f hf => (h.fk f hf).keep hk, h.cns.keep hk⟩
theorem ScOk.more (h : ScOk S w s) (hs : ∀ k, S k → S' k) : ScOk S' w s := ⟨h.tabs.more hs, fun t ht => (h.tab t ht).more hs, h.fks.more hs, fun f hf => (h.fk f hf).more hs, h.cns.more hs⟩
theorem ScOk.on (h : ScOk (· < w.heap.size) w s) (hb : Below w.heap.size w w') : ScOk (· < w'.heap.size) w' s := (h.keep (Keeps.of_below hb fun _ h => h)).more fun _ hk => Nat.lt_of_lt_of_le hk hb.size
theorem Elems.tbl {A : Option Addr} {r : List Tbl} {k : Nat} (h : Elems 3 Tbl.cs w S A r) (hk : k < r.length) : ∃ b off, A = some ⟨b, off, none⟩ ∧ S b ∧ w.cell? ⟨b, off + k * 3, none⟩ = some (.string r[k].name) ∧ w.cell? ⟨b, off + k * 3 + 1, none⟩ = some (.slice r[k].CA r[k].cols.length r[k].cc) ∧ w.cell? ⟨b, off + k * 3 + 2, none⟩ = some (.slice r[k].PA r[k].pk.length r[k].pc) := by
  obtain ⟨b, off, e, hb, hc⟩ := h.at_ hk
  exact ⟨b, off, e, hb, hc 0 _ rfl, hc 1 _ rfl, hc 2 _ rfl⟩
theorem Elems.fkm {A : Option Addr} {r : List FkM} {k : Nat} (h : Elems 3 FkM.cs w S A r) (hk : k < r.length) : ∃ b off, A = some ⟨b, off, none⟩ ∧ S b ∧ w.cell? ⟨b, off + k * 3, none⟩ = some (.string r[k].name) ∧ w.cell? ⟨b, off + k * 3 + 1, none⟩ = some (.slice r[k].A r[k].cols.length r[k].c) ∧ w.cell? ⟨b, off + k * 3 + 2, none⟩ = some (.string r[k].ref) := by
  obtain ⟨b, off, e, hb, hc⟩ := h.at_ hk
  exact ⟨b, off, e, hb, hc 0 _ rfl, hc 1 _ rfl, hc 2 _ rfl⟩
theorem Elems.cn {A : Option Addr} {r : List Cn} {k : Nat} (h : Elems 7 Cn.cs w S A r) (hk : k < r.length) : ∃ b off, A = some ⟨b, off, none⟩ ∧ S b ∧ w.cell? ⟨b, off + k * 7, none⟩ = some (.string r[k].name) ∧ w.cell? ⟨b, off + k * 7 + 1, none⟩ = some (.int .i64 r[k].left) ∧ w.cell? ⟨b, off + k * 7 + 2, none⟩ = some (.string r[k].op) ∧ w.cell? ⟨b, off + k * 7 + 3, none⟩ = some (.int .i64 r[k].right)
    ∧ w.cell? ⟨b, off + k * 7 + 4, none⟩ = some (.int .i64 r[k].val.kind) ∧ w.cell? ⟨b, off + k * 7 + 5, none⟩ = some (.int .i64 r[k].val.int) ∧ w.cell? ⟨b, off + k * 7 + 6, none⟩ = some (.string r[k].val.text) := by
  obtain ⟨b, off, e, hb, hc⟩ := h.at_ hk
  exact ⟨b, off, e, hb, hc 0 _ rfl, hc 1 _ rfl, hc 2 _ rfl, hc 3 _ rfl, hc 4 _ rfl, hc 5 _ rfl, hc 6 _ rfl⟩
end
end Go.Proofs.Ytefifkleamiabaa
