/-
  Tables, columns and the entries of a secondary index in memory. No program's walk.
-/
import Derived.Test.YtefifkleamiabaaLaw
import Derived.Test.YtefifkleamiabaaSx
namespace Go.Proofs.Ytefifkleamiabaa
open Go.RowKit

structure Col where
  name : ByteArray
  kind : Int
  null : Bool
def Col.cs (c : Col) : List Value := [.string c.name, .int .i64 c.kind, .bool c.null]
theorem colLay : Lay 3 Col.cs := ⟨fun _ => rfl, fun x c hc => by simp [Col.cs] at hc; rcases hc with rfl | rfl | rfl <;> rfl⟩
theorem valLay : Lay 3 Val.cs := ⟨fun _ => rfl, fun x c hc => by simp [Val.cs] at hc; rcases hc with rfl | rfl | rfl <;> rfl⟩
theorem Elems.col {w : World} {S : Nat → Prop} {A : Option Addr} {r : List Col} {k : Nat} (h : Elems 3 Col.cs w S A r) (hk : k < r.length) :
    ∃ b off, A = some ⟨b, off, none⟩ ∧ S b ∧ w.cell? ⟨b, off + k * 3, none⟩ = some (.string r[k].name) ∧ w.cell? ⟨b, off + k * 3 + 1, none⟩ = some (.int .i64 r[k].kind) ∧ w.cell? ⟨b, off + k * 3 + 2, none⟩ = some (.bool r[k].null) := by
  obtain ⟨b, off, e, hb, hc⟩ := h.at_ hk
  exact ⟨b, off, e, hb, hc 0 _ rfl, hc 1 _ rfl, hc 2 _ rfl⟩
theorem Elems.int {w : World} {S : Nat → Prop} {A : Option Addr} {xs : List Int} {k : Nat} (h : Elems 1 intCs w S A xs) (hk : k < xs.length) :
    ∃ b off, A = some ⟨b, off, none⟩ ∧ S b ∧ w.cell? ⟨b, off + k, none⟩ = some (.int .i64 xs[k]) := by
  obtain ⟨b, off, e, hb, hc⟩ := h.at_ hk
  exact ⟨b, off, e, hb, by simpa using hc 0 _ rfl⟩
theorem Elems.on {α : Type} {sz : Nat} {cs : α → List Value} {w w' : World} {A : Option Addr} {xs : List α} (h : Elems sz cs w (· < w.heap.size) A xs) (hb : Below w.heap.size w w') : Elems sz cs w' (· < w'.heap.size) A xs :=
  (h.keep (Keeps.of_below hb fun _ h => h)).more fun _ hk => Nat.lt_of_lt_of_le hk hb.size

/-- A table's description: its name, its columns and its primary key, and where they lie. -/
structure Tbl where
  name : ByteArray
  CA : Option Addr
  cc : Nat
  cols : List Col
  PA : Option Addr
  pc : Nat
  pk : List Int
def Tbl.val (t : Tbl) : Value := .agg #[.string t.name, .slice t.CA t.cols.length t.cc, .slice t.PA t.pk.length t.pc]
structure TOk (S : Nat → Prop) (w : World) (t : Tbl) : Prop where
  cols : Elems 3 Col.cs w S t.CA t.cols
  pk : Elems 1 intCs w S t.PA t.pk
section
variable {S S' : Nat → Prop} {w w' : World} {t : Tbl}
theorem TOk.keep (h : TOk S w t) (hk : Keeps S w w') : TOk S w' t := ⟨h.cols.keep hk, h.pk.keep hk⟩
theorem TOk.more (h : TOk S w t) (hs : ∀ k, S k → S' k) : TOk S' w t := ⟨h.cols.more hs, h.pk.more hs⟩
theorem TOk.on (h : TOk (· < w.heap.size) w t) (hb : Below w.heap.size w w') : TOk (· < w'.heap.size) w' t := ⟨h.cols.on hb, h.pk.on hb⟩
end

def zeroV : Val := ⟨0, 0, ByteArray.empty⟩
/-- What Key answers. -/
def keyAt (row : Row) (c : Int) : Val := if 0 ≤ c ∧ c < (row.length : Int) then row.getD c.toNat zeroV else zeroV
def keyOf (pk : List Int) (row : Row) : Row := pk.map (keyAt row)

/-- An entry of an index. -/
structure EntM where
  vals : Key
  KA : Option Addr
  kc : Nat
  keys : List Key
def EntM.cs (e : EntM) : List Value := [.slice e.vals.A e.vals.row.length e.vals.c, .slice e.KA e.keys.length e.kc]
theorem entMLay : Lay 2 EntM.cs := ⟨fun _ => rfl, fun x c hc => by simp [EntM.cs] at hc; rcases hc with rfl | rfl <;> rfl⟩
/-- The entry as data. -/
def EntM.xe (e : EntM) : XE := (e.vals.row, e.keys.map Key.row)
theorem Elems.entM {w : World} {S : Nat → Prop} {A : Option Addr} {r : List EntM} {k : Nat} (h : Elems 2 EntM.cs w S A r) (hk : k < r.length) :
    ∃ b off, A = some ⟨b, off, none⟩ ∧ S b ∧ w.cell? ⟨b, off + k * 2, none⟩ = some (.slice r[k].vals.A r[k].vals.row.length r[k].vals.c) ∧ w.cell? ⟨b, off + k * 2 + 1, none⟩ = some (.slice r[k].KA r[k].keys.length r[k].kc) := by
  obtain ⟨b, off, e, hb, hc⟩ := h.at_ hk
  exact ⟨b, off, e, hb, hc 0 _ rfl, hc 1 _ rfl⟩
/-- An entry's parts in memory. -/
structure EOk (S : Nat → Prop) (w : World) (e : EntM) : Prop where
  vals : KOk S w e.vals
  keys : Elems 1 Key.cs w S e.KA e.keys
  key : ∀ k ∈ e.keys, KOk S w k
/-- An index: its table, columns and entries, and where they lie. -/
structure Ix where
  t : Tbl
  XA : Option Addr
  xc : Nat
  cols : List Int
  EA : Option Addr
  ec : Nat
  ents : List EntM
/-- Its cells (a struct within a struct lies flat). -/
def Ix.cells (x : Ix) : Array Value := #[.string x.t.name, .slice x.t.CA x.t.cols.length x.t.cc, .slice x.t.PA x.t.pk.length x.t.pc, .slice x.XA x.cols.length x.xc, .slice x.EA x.ents.length x.ec]
def Ix.val (x : Ix) : Value := .agg x.cells
def Ix.xd (x : Ix) : XD := x.ents.map EntM.xe
structure IOk (S : Nat → Prop) (w : World) (x : Ix) : Prop where
  t : TOk S w x.t
  cols : Elems 1 intCs w S x.XA x.cols
  ents : Elems 2 EntM.cs w S x.EA x.ents
  ent : ∀ e ∈ x.ents, EOk S w e
section
variable {S S' : Nat → Prop} {w w' : World} {e : EntM} {x : Ix}
theorem EOk.keep (h : EOk S w e) (hk : Keeps S w w') : EOk S w' e := ⟨h.vals.keep hk, h.keys.keep hk, fun k hm => (h.key k hm).keep hk⟩
theorem EOk.more (h : EOk S w e) (hs : ∀ k, S k → S' k) : EOk S' w e := ⟨h.vals.more hs, h.keys.more hs, fun k hm => (h.key k hm).more hs⟩
theorem EOk.on (h : EOk (· < w.heap.size) w e) (hb : Below w.heap.size w w') : EOk (· < w'.heap.size) w' e := (h.keep (Keeps.of_below hb fun _ h => h)).more fun _ hk => Nat.lt_of_lt_of_le hk hb.size
theorem IOk.keep (h : IOk S w x) (hk : Keeps S w w') : IOk S w' x := ⟨h.t.keep hk, h.cols.keep hk, h.ents.keep hk, fun k hm => (h.ent k hm).keep hk⟩
theorem IOk.more (h : IOk S w x) (hs : ∀ k, S k → S' k) : IOk S' w x := ⟨h.t.more hs, h.cols.more hs, h.ents.more hs, fun k hm => (h.ent k hm).more hs⟩
theorem IOk.on (h : IOk (· < w.heap.size) w x) (hb : Below w.heap.size w w') : IOk (· < w'.heap.size) w' x := (h.keep (Keeps.of_below hb fun _ h => h)).more fun _ hk => Nat.lt_of_lt_of_le hk hb.size
theorem KOk.on {k : Key} (h : KOk (· < w.heap.size) w k) (hb : Below w.heap.size w w') : KOk (· < w'.heap.size) w' k := (h.keep (Keeps.of_below hb fun _ h => h)).more fun _ hk => Nat.lt_of_lt_of_le hk hb.size
end
end Go.Proofs.Ytefifkleamiabaa
