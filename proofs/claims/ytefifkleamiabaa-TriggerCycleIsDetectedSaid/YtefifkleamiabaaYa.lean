/-
  The walks of slices.Contains over ints and of secondary.CheckTable.
-/
import Derived.Test.YtefifkleamiabaaSk
namespace Go.Proofs.Ytefifkleamiabaa
open Go.RowKit

def IdxPost (xs : List Int) (x : Int) (w : World) (e : Ending) (w' : World) : Prop := ∃ i : Int, e = .returned (.int .i64 i) ∧ (0 ≤ i ↔ x ∈ xs) ∧ w = w'

/-- A table that may have an index. -/
structure TabOk (t : Tbl) : Prop where
  ncols : t.cols.length ≤ 6
  npk : 0 < t.pk.length ∧ t.pk.length ≤ 1000
  pk : ∀ k ∈ t.pk, 0 ≤ k ∧ k < (t.cols.length : Int)
  ord : t.pk.Pairwise (· < ·)
/-- .. over these columns. -/
structure ColsOk (t : Tbl) (cols : List Int) : Prop where
  pos : 0 < cols.length ∧ cols.length ≤ 1000
  rng : ∀ k ∈ cols, 0 ≤ k ∧ k < (t.cols.length : Int)
  nd : cols.Nodup

end Go.Proofs.Ytefifkleamiabaa
