/- Contracts: the reference of clocks. -/
import Derived.BigQuiet
import Derived.Deep.AppendLies
import Derived.Deep.Draws
import Derived.Deep.Quiet
import Derived.Deep.QuietTactic
import Derived.Lib.Hide
import Derived.StillTail
import Derived.Test.YtkahjpbnlclhhaaDoorProg
import Derived.WalkKit
import Derived.WalkLawsBesides
import Derived.WalkSpells
import Derived.Test.YtkahjpbnlclhhaaDoorC17J

namespace Go.Proofs.YtkahjpbnlclhhaaDoor
open Go.RowKit Go.Sky

theorem encX_one (x : Exch) : ∀ u ∈ encX x, u.oneCell' = true := by intro u hu; simp [encX] at hu; rcases hu with rfl | rfl | rfl <;> rfl
theorem infoExch : (Tryd.prog.info? 122).map (fun i => (i.zero, i.size, i.bytes)) = some (some (.agg #[.int .i64 0, .int .i64 0, .int .i64 0]), 3, 24) := by kernel_rfl

theorem exErr_of (x : Exch) : exErr x = if (tick x.s && tick x.t && tick x.r) = true then (if x.r < x.s then 9 else 0) else 2 := by
  unfold exErr
  rw [firstE_two]
  cases tick x.s && tick x.t && tick x.r
  · rfl
  · by_cases h : x.s ≤ x.r
    · rw [if_pos (by rfl), if_pos rfl, if_neg (by omega)]; simp [errU, h]
    · rw [if_pos (by rfl), if_pos rfl, if_pos (by omega)]; simp [errU, h]

theorem timeE_of (d t : Int) : timeE d t = if (inR d 0 1000 && tick t) = true then 0 else 2 := by
  unfold timeE
  rw [firstE_two]
  cases inR d 0 1000 <;> cases tick t <;> rfl

end Go.Proofs.YtkahjpbnlclhhaaDoor
