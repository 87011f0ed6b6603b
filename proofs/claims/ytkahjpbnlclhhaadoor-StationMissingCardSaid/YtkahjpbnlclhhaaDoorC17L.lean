/- Contracts: names.
   Contracts: items: the search for a name, itemErr, CheckQueue, queueErr. -/
import Derived.BigQuiet
import Derived.Deep.AppendLies
import Derived.Deep.Draws
import Derived.Deep.Quiet
import Derived.Deep.QuietTactic
import Derived.Laws.BitsAllLaws
import Derived.Lib.Hide
import Derived.StillTail
import Derived.Test.YtkahjpbnlclhhaaDoorProg
import Derived.WalkKit
import Derived.WalkLawsBesides
import Derived.WalkSpells
import Derived.Test.YtkahjpbnlclhhaaDoorC17C
import Derived.Test.YtkahjpbnlclhhaaDoorC17I
import Derived.Test.YtkahjpbnlclhhaaDoorC17J

namespace Go.Proofs.YtkahjpbnlclhhaaDoor
open Go.RowKit Go.Sky

theorem name_cases (v : Nat) : ((v < 45) ∧ (decide ((97 : Int) ≤ (v : Int)) = false ∧ decide ((v : Int) ≤ 122) = true ∧ decide ((65 : Int) ≤ (v : Int)) = false ∧ decide ((v : Int) ≤ 90) = true ∧ ((v : Int) != 45) = true ∧ decide ((v : Int) < 48) = true ∧ decide ((57 : Int) < (v : Int)) = false)) ∨
    ((v = 45) ∧ (decide ((97 : Int) ≤ (v : Int)) = false ∧ decide ((v : Int) ≤ 122) = true ∧ decide ((65 : Int) ≤ (v : Int)) = false ∧ decide ((v : Int) ≤ 90) = true ∧ ((v : Int) != 45) = false ∧ decide ((v : Int) < 48) = true ∧ decide ((57 : Int) < (v : Int)) = false)) ∨
    ((45 < v ∧ v < 48) ∧ (decide ((97 : Int) ≤ (v : Int)) = false ∧ decide ((v : Int) ≤ 122) = true ∧ decide ((65 : Int) ≤ (v : Int)) = false ∧ decide ((v : Int) ≤ 90) = true ∧ ((v : Int) != 45) = true ∧ decide ((v : Int) < 48) = true ∧ decide ((57 : Int) < (v : Int)) = false)) ∨
    ((48 ≤ v ∧ v ≤ 57) ∧ (decide ((97 : Int) ≤ (v : Int)) = false ∧ decide ((v : Int) ≤ 122) = true ∧ decide ((65 : Int) ≤ (v : Int)) = false ∧ decide ((v : Int) ≤ 90) = true ∧ ((v : Int) != 45) = true ∧ decide ((v : Int) < 48) = false ∧ decide ((57 : Int) < (v : Int)) = false)) ∨
    ((57 < v ∧ v < 65) ∧ (decide ((97 : Int) ≤ (v : Int)) = false ∧ decide ((v : Int) ≤ 122) = true ∧ decide ((65 : Int) ≤ (v : Int)) = false ∧ decide ((v : Int) ≤ 90) = true ∧ ((v : Int) != 45) = true ∧ decide ((v : Int) < 48) = false ∧ decide ((57 : Int) < (v : Int)) = true)) ∨
    ((65 ≤ v ∧ v ≤ 90) ∧ (decide ((97 : Int) ≤ (v : Int)) = false ∧ decide ((v : Int) ≤ 122) = true ∧ decide ((65 : Int) ≤ (v : Int)) = true ∧ decide ((v : Int) ≤ 90) = true ∧ ((v : Int) != 45) = true ∧ decide ((v : Int) < 48) = false ∧ decide ((57 : Int) < (v : Int)) = true)) ∨
    ((90 < v ∧ v < 97) ∧ (decide ((97 : Int) ≤ (v : Int)) = false ∧ decide ((v : Int) ≤ 122) = true ∧ decide ((65 : Int) ≤ (v : Int)) = true ∧ decide ((v : Int) ≤ 90) = false ∧ ((v : Int) != 45) = true ∧ decide ((v : Int) < 48) = false ∧ decide ((57 : Int) < (v : Int)) = true)) ∨
    ((97 ≤ v ∧ v ≤ 122) ∧ (decide ((97 : Int) ≤ (v : Int)) = true ∧ decide ((v : Int) ≤ 122) = true ∧ decide ((65 : Int) ≤ (v : Int)) = true ∧ decide ((v : Int) ≤ 90) = false ∧ ((v : Int) != 45) = true ∧ decide ((v : Int) < 48) = false ∧ decide ((57 : Int) < (v : Int)) = true)) ∨
    ((122 < v) ∧ (decide ((97 : Int) ≤ (v : Int)) = true ∧ decide ((v : Int) ≤ 122) = false ∧ decide ((65 : Int) ≤ (v : Int)) = true ∧ decide ((v : Int) ≤ 90) = false ∧ ((v : Int) != 45) = true ∧ decide ((v : Int) < 48) = false ∧ decide ((57 : Int) < (v : Int)) = true)) := by
  rcases (show (v < 45) ∨ (v = 45) ∨ (45 < v ∧ v < 48) ∨ (48 ≤ v ∧ v ≤ 57) ∨ (57 < v ∧ v < 65) ∨ (65 ≤ v ∧ v ≤ 90) ∨ (90 < v ∧ v < 97) ∨ (97 ≤ v ∧ v ≤ 122) ∨ (122 < v) by omega) with h | h | h | h | h | h | h | h | h
  · exact Or.inl ⟨h, by simp; omega, by simp; omega, by simp; omega, by simp; omega, by simp; omega, by simp; omega, by simp; omega⟩
  · exact Or.inr (Or.inl ⟨h, by simp; omega, by simp; omega, by simp; omega, by simp; omega, by simp; omega, by simp; omega, by simp; omega⟩)
  · exact Or.inr (Or.inr (Or.inl ⟨h, by simp; omega, by simp; omega, by simp; omega, by simp; omega, by simp; omega, by simp; omega, by simp; omega⟩))
  · exact Or.inr (Or.inr (Or.inr (Or.inl ⟨h, by simp; omega, by simp; omega, by simp; omega, by simp; omega, by simp; omega, by simp; omega, by simp; omega⟩)))
  · exact Or.inr (Or.inr (Or.inr (Or.inr (Or.inl ⟨h, by simp; omega, by simp; omega, by simp; omega, by simp; omega, by simp; omega, by simp; omega, by simp; omega⟩))))
  · exact Or.inr (Or.inr (Or.inr (Or.inr (Or.inr (Or.inl ⟨h, by simp; omega, by simp; omega, by simp; omega, by simp; omega, by simp; omega, by simp; omega, by simp; omega⟩)))))
  · exact Or.inr (Or.inr (Or.inr (Or.inr (Or.inr (Or.inr (Or.inl ⟨h, by simp; omega, by simp; omega, by simp; omega, by simp; omega, by simp; omega, by simp; omega, by simp; omega⟩))))))
  · exact Or.inr (Or.inr (Or.inr (Or.inr (Or.inr (Or.inr (Or.inr (Or.inl ⟨h, by simp; omega, by simp; omega, by simp; omega, by simp; omega, by simp; omega, by simp; omega, by simp; omega⟩)))))))
  · exact Or.inr (Or.inr (Or.inr (Or.inr (Or.inr (Or.inr (Or.inr (Or.inr (⟨h, by simp; omega, by simp; omega, by simp; omega, by simp; omega, by simp; omega, by simp; omega, by simp; omega⟩))))))))

end Go.Proofs.YtkahjpbnlclhhaaDoor

namespace Go.Proofs.YtkahjpbnlclhhaaDoor
open Go.RowKit Go.Sky

end Go.Proofs.YtkahjpbnlclhhaaDoor
