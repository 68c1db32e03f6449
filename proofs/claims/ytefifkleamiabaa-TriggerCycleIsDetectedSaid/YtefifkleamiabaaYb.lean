/-
  The walks of secondary.CheckRow, matches, sortedKeys, where all is well.
-/
import Derived.Test.YtefifkleamiabaaYa
import Derived.Test.YtefifkleamiabaaCheck
import Derived.Test.YtefifkleamiabaaCvw
namespace Go.Proofs.Ytefifkleamiabaa
open Go.RowKit Go.Sort

def col0 : Col := ⟨ByteArray.empty, 0, false⟩
/-- The value fits the column. -/
def colOk (c : Col) (v : Val) : Prop := (v.kind = c.kind ∧ v.kind ≠ 0) ∨ (v.kind = 0 ∧ c.null = true)
/-- A row of the table. -/
structure RowOk (t : Tbl) (r : Row) : Prop where
  len : r.length = t.cols.length
  err : rErr r = 0
  col : ∀ (i : Nat) (h : i < r.length), colOk (t.cols.getD i col0) r[i]
/-- A value for each column. -/
structure VOk (t : Tbl) (cols : List Int) (r : Row) : Prop where
  len : r.length = cols.length
  err : rErr r = 0
  col : ∀ (i : Nat) (h : i < r.length), colOk (t.cols.getD (cols.getD i 0).toNat col0) r[i]

theorem cmpKeys (a b : Key) (w : World) (ha : KOk (· < w.heap.size) w a) (hb : KOk (· < w.heap.size) w b) :
    Calls Try.prog 18 #[.slice a.A a.row.length a.c, .slice b.A b.row.length b.c] w fun e w' => e = .returned (.int .i64 (cmpR a.row b.row)) ∧ Below w.heap.size w w' :=
  (cmpRows a.A b.A a.c b.c a.row b.row w _ _ ha.el hb.el (fun _ h => h) (fun _ h => h) (by have := ha.len; omega)).mono fun e w' ⟨h1, p, h2⟩ => ⟨h1, by rw [h2]; exact below_grow w p.n p.os⟩

end Go.Proofs.Ytefifkleamiabaa
