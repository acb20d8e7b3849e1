/- Own text E28 of this claim: see the text that holds the theorem. -/
import Derived.Test.YtninikfblhoieaaGreatDoorE27
set_option linter.all false
set_option maxRecDepth 100000
namespace Go.Av
open Go Go.Proofs

theorem st2 {HY : Heap} {o : Nat} {cs : List AV} (y : Int × Int) (hy : HY o = some (.cells cs)) (hcs : cs.length = 2) : st 2 HY (.ptr o 0) (.agg [I y.1, I y.2]) = some (HY.upd o (.cells [I y.1, I y.2])) := by
 rw [st_at (n := 2) (v := .agg [I y.1, I y.2]) hy rfl (by rw [hcs]; decide) rfl]
 have : splice cs 0 (AV.cells (.agg [I y.1, I y.2])) = [I y.1, I y.2] := by
  unfold splice
  rw [List.take_zero, List.nil_append, Nat.zero_add, show (AV.cells (.agg [I y.1, I y.2])).length = 2 from rfl, List.drop_of_length_le (by omega), List.append_nil]; rfl
 rw [this]

end Go.Av
