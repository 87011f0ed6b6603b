/- ChartLight: the cases joined. -/
import Derived.BigQuiet
import Derived.BigRegion
import Derived.Deep.AppendLies
import Derived.Deep.Draws
import Derived.Deep.Quiet
import Derived.Deep.QuietTactic
import Derived.DeepKeys4
import Derived.Laws.BitsAllLaws
import Derived.Laws.Rows
import Derived.Lib.Hide
import Derived.Lib.SliceRun
import Derived.LoopIn
import Derived.LoopNIn
import Derived.MapKept
import Derived.Maps.Keyed
import Derived.Maps.OwnIn
import Derived.Maps.OwnSet
import Derived.OrdersIn
import Derived.OwnWalkIn
import Derived.RangeFuncBound
import Derived.RangeFuncCalls
import Derived.RangeFuncLeaves
import Derived.RangeFuncNested
import Derived.Shelf.Abstract
import Derived.Shelf.GgSortFunc.InsertionK
import Derived.Shelf.RegionOpen
import Derived.Shelf.SlSortCmp.NoneTotal
import Derived.Shelf.SlSortCmp.QuietGrown
import Derived.Shelf.SlSortCmp.WholeK
import Derived.StillTail
import Derived.TacticsIn
import Derived.TacticsInMore
import Derived.Test.YtaogolnoiffgiaaProg
import Derived.WalkArith
import Derived.WalkKit
import Derived.WalkLawsBesides
import Derived.WalkSpells
import Derived.Test.YtaogolnoiffgiaaC18L
import Derived.Test.YtaogolnoiffgiaaC18ZC

namespace Go.Proofs.Ytaogolnoiffgiaa
open Go.RowKit Go.Sky Go.Sky.Ch

theorem light_any (a b : Ve) (t q : Int) (w : World) :
    Calls Try.prog 5 #[.agg #[.int .i64 a.x, .int .i64 a.y, .int .i64 a.z], .agg #[.int .i64 b.x, .int .i64 b.y, .int .i64 b.z], .agg #[.int .i64 t, .int .i64 q]] w fun e w' => e = .returned (.bool true) ∧ New w w' := by
  by_cases ha : vecE a = 0
  · by_cases ht : inR q 0 1000000000000 = true
    · by_cases hb : vecE b = 0
      · by_cases hw : inR t 0 4000000 = true
        · by_cases hl : 999999999996 < q
          · exact light_B3T1 a b t q w ha _ hb hw rfl _ rfl ht hl
          · have hq := inR_iff.1 ht
            have hh := half_of a q hq.1
            have h2 : vecE (sunS a ((q + 2) % 4).toNat) = 0 := by rw [vecE_sun]; exact ha
            have hu : vecE (sunS a (q % 4).toNat) = 0 := by rw [vecE_sun]; exact ha
            have l1 : litE (sunS a (q % 4).toNat) b 0 = 0 := by simp [litE, firstE, hu, hb, errU, inR]
            have l2 : litE (sunS a ((q + 2) % 4).toNat) b 0 = 0 := by simp [litE, firstE, h2, hb, errU, inR]
            by_cases hz : a.z ≠ 0 ∧ b.z ≠ 0
            · exact light_B3T2z a b t q w ha _ hb hw rfl _ rfl ht _ rfl (by omega) h2 hz
            · have hzz : a.z * b.z = 0 := by
                by_cases h : a.z = 0
                · rw [h, Int.zero_mul]
                · have : b.z = 0 := by
                    by_cases h' : b.z = 0
                    · exact h'
                    · exact absurd ⟨h, h'⟩ hz
                  rw [this, Int.mul_zero]
              obtain ⟨hs, hp3, hp4⟩ := lit_sum (dot_neg (b := b) hh.1 hh.2.1 (by rw [hh.2.2.1]; exact hzz) (by rw [hh.2.2.2]; exact hzz))
              by_cases h : a.z = 0
              · exact light_B3T2n a b t q w ha _ hb hw rfl _ rfl ht _ rfl (by omega) h2 h _ _ l1 rfl l2 rfl hp3 hp4 hs
              · exact light_B3T2m a b t q w ha _ hb hw rfl _ rfl ht _ rfl (by omega) h2 ⟨h, by
                  by_cases h' : b.z = 0
                  · exact h'
                  · exact absurd ⟨h, h'⟩ hz⟩ _ _ l1 rfl l2 rfl hp3 hp4 hs
        · exact light_B2T a b t q w ha hb (by simpa using hw) _ rfl ht
      · exact light_B1T a b t q w ha _ rfl hb _ rfl ht
    · have ht' : inR q 0 1000000000000 = false := by simpa using ht
      by_cases hb : vecE b = 0
      · by_cases hw : inR t 0 4000000 = true
        · exact light_B3U a b t q w ha _ hb hw rfl ht'
        · exact light_B2U a b t q w ha hb (by simpa using hw) ht'
      · exact light_B1U a b t q w ha _ rfl hb ht'
  · exact light_A a b t q w _ rfl ha
end Go.Proofs.Ytaogolnoiffgiaa
