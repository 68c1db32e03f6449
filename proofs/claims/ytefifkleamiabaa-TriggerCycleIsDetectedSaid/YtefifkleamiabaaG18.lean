/-
  Triggers in memory, and what Check asks of them here. No program's walk.
-/
import Derived.Test.YtefifkleamiabaaG15
namespace Go.Proofs.Ytefifkleamiabaa
open Go.RowKit Go.Sort

/-- An operand that names a column. -/
def opdCs (o : Int) : List Value := [.int .i64 o, .int .i64 0, .int .i64 0, .string ⟨#[]⟩]
theorem opdLay : Lay 4 opdCs := ⟨fun _ => rfl, fun x c hc => by simp [opdCs] at hc; rcases hc with rfl | rfl | rfl | rfl <;> rfl⟩
/-- An action. -/
structure Ac where
  kind : Int
  name : ByteArray
  A : Option Addr
  c : Nat
  ops : List Int
def Ac.cs (a : Ac) : List Value := [.int .i64 a.kind, .string a.name, .slice a.A a.ops.length a.c]
def Ac.val (a : Ac) : Value := .agg #[.int .i64 a.kind, .string a.name, .slice a.A a.ops.length a.c]
theorem acLay : Lay 3 Ac.cs := ⟨fun _ => rfl, fun x c hc => by simp [Ac.cs] at hc; rcases hc with rfl | rfl | rfl <;> rfl⟩
/-- A trigger. -/
structure Tr where
  kind : Int
  name : ByteArray
  A : Option Addr
  c : Nat
  acts : List Ac
def Tr.cs (t : Tr) : List Value := [.int .i64 t.kind, .string t.name, .slice t.A t.acts.length t.c]
theorem trLay : Lay 3 Tr.cs := ⟨fun _ => rfl, fun x c hc => by simp [Tr.cs] at hc; rcases hc with rfl | rfl | rfl <;> rfl⟩
structure TrOk (S : Nat → Prop) (w : World) (t : Tr) : Prop where
  el : Elems 3 Ac.cs w S t.A t.acts
  act : ∀ a ∈ t.acts, Elems 4 opdCs w S a.A a.ops
structure TgOk (S : Nat → Prop) (w : World) (A : Option Addr) (ts : List Tr) : Prop where
  el : Elems 3 Tr.cs w S A ts
  tr : ∀ t ∈ ts, TrOk S w t
section
variable {S S' : Nat → Prop} {w w' : World} {t : Tr} {A : Option Addr} {ts : List Tr}
theorem TrOk.keep (h : TrOk S w t) (hk : Keeps S w w') : TrOk S w' t := ⟨h.el.keep hk, fun a ha => (h.act a ha).keep hk⟩
theorem TrOk.more (h : TrOk S w t) (hs : ∀ k, S k → S' k) : TrOk S' w t := ⟨h.el.more hs, fun a ha => (h.act a ha).more hs⟩
theorem TrOk.on (h : TrOk (· < w.heap.size) w t) (hb : Below w.heap.size w w') : TrOk (· < w'.heap.size) w' t := ⟨h.el.on hb, fun a ha => (h.act a ha).on hb⟩
theorem TgOk.keep (h : TgOk S w A ts) (hk : Keeps S w w') : TgOk S w' A ts := ⟨h.el.keep hk, fun a ha => (h.tr a ha).keep hk⟩
theorem TgOk.more (h : TgOk S w A ts) (hs : ∀ k, S k → S' k) : TgOk S' w A ts := ⟨h.el.more hs, fun a ha => (h.tr a ha).more hs⟩
theorem TgOk.on (h : TgOk (· < w.heap.size) w A ts) (hb : Below w.heap.size w w') : TgOk (· < w'.heap.size) w' A ts := ⟨h.el.on hb, fun a ha => (h.tr a ha).on hb⟩
theorem Elems.opd {r : List Int} {k : Nat} (h : Elems 4 opdCs w S A r) (hk : k < r.length) : ∃ b off, A = some ⟨b, off, none⟩ ∧ S b ∧ w.cell? ⟨b, off + k * 4, none⟩ = some (.int .i64 r[k]) ∧ w.cell? ⟨b, off + k * 4 + 1, none⟩ = some (.int .i64 0) ∧ w.cell? ⟨b, off + k * 4 + 2, none⟩ = some (.int .i64 0) ∧ w.cell? ⟨b, off + k * 4 + 3, none⟩ = some (.string ⟨#[]⟩) := by
  obtain ⟨b, off, e, hb, hc⟩ := h.at_ hk
  exact ⟨b, off, e, hb, hc 0 _ rfl, hc 1 _ rfl, hc 2 _ rfl, hc 3 _ rfl⟩
theorem Elems.ac {r : List Ac} {k : Nat} (h : Elems 3 Ac.cs w S A r) (hk : k < r.length) : ∃ b off, A = some ⟨b, off, none⟩ ∧ S b ∧ w.cell? ⟨b, off + k * 3, none⟩ = some (.int .i64 r[k].kind) ∧ w.cell? ⟨b, off + k * 3 + 1, none⟩ = some (.string r[k].name) ∧ w.cell? ⟨b, off + k * 3 + 2, none⟩ = some (.slice r[k].A r[k].ops.length r[k].c) := by
  obtain ⟨b, off, e, hb, hc⟩ := h.at_ hk
  exact ⟨b, off, e, hb, hc 0 _ rfl, hc 1 _ rfl, hc 2 _ rfl⟩
theorem Elems.tr {r : List Tr} {k : Nat} (h : Elems 3 Tr.cs w S A r) (hk : k < r.length) : ∃ b off, A = some ⟨b, off, none⟩ ∧ S b ∧ w.cell? ⟨b, off + k * 3, none⟩ = some (.int .i64 r[k].kind) ∧ w.cell? ⟨b, off + k * 3 + 1, none⟩ = some (.string r[k].name) ∧ w.cell? ⟨b, off + k * 3 + 2, none⟩ = some (.slice r[k].A r[k].acts.length r[k].c) := by
  obtain ⟨b, off, e, hb, hc⟩ := h.at_ hk
  exact ⟨b, off, e, hb, hc 0 _ rfl, hc 1 _ rfl, hc 2 _ rfl⟩
end

/-- An operand that fits column c of the target. -/
structure OpC (t : Tbl) (o : Int) (c : Col) (nl : Bool) : Prop where
  pos : 0 ≤ o
  lt : o.toNat < t.cols.length
  kind : (t.cols.getD o.toNat col0).kind = c.kind
  null : (t.cols.getD o.toNat col0).null = false ∨ nl = true
/-- The columns that an action's operands go to. -/
def acCols (a : Ac) (t : Tbl) : List Col := if a.kind = 2 then t.pk.map fun k => t.cols.getD k.toNat col0 else t.cols
/-- An action that fits a trigger on table t. -/
structure AcC (s : Sc) (t : Tbl) (a : Ac) : Prop where
  kind : a.kind = 1 ∨ a.kind = 2
  tgt : ∃ j : Nat, ∃ h : j < s.tabs.length, tabI a.name s.tabs = (j : Int) ∧ a.ops.length = (acCols a s.tabs[j]).length ∧ a.ops.length ≤ 100
    ∧ (∀ k ∈ s.tabs[j].pk, 0 ≤ k ∧ k.toNat < s.tabs[j].cols.length)
    ∧ ∀ (k : Nat) (h1 : k < a.ops.length) (h2 : k < (acCols a s.tabs[j]).length), OpC t a.ops[k] (acCols a s.tabs[j])[k] (decide (a.kind = 1) && (acCols a s.tabs[j])[k].null)
/-- A trigger that fits. -/
structure TrC (s : Sc) (t : Tr) : Prop where
  kind : t.kind = 1 ∨ t.kind = 2
  tab : ∃ j : Nat, ∃ h : j < s.tabs.length, tabI t.name s.tabs = (j : Int) ∧ ∀ a ∈ t.acts, AcC s s.tabs[j] a
  len : t.acts.length ≤ 4
end Go.Proofs.Ytefifkleamiabaa
