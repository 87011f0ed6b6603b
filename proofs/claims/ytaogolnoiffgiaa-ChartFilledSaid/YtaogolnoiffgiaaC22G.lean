/- Contracts: names.
   Contracts: items: the search for a name, itemErr, CheckQueue, queueErr. -/
import Derived.BigQuiet
import Derived.Deep.AppendLies
import Derived.Deep.Draws
import Derived.Deep.Quiet
import Derived.Deep.QuietTactic
import Derived.Laws.BitsAllLaws
import Derived.Lib.Hide
import Derived.StillTail
import Derived.Test.YtaogolnoiffgiaaProg
import Derived.WalkKit
import Derived.WalkLawsBesides
import Derived.WalkSpells
import Derived.Test.YtaogolnoiffgiaaC22B
import Derived.Test.YtaogolnoiffgiaaC22F

namespace Go.Proofs.Ytaogolnoiffgiaa
open Go.RowKit Go.Sky

theorem name_cases (v : Nat) : ((v < 45) ∧ (decide ((97 : Int) ≤ (v : Int)) = false ∧ decide ((v : Int) ≤ 122) = true ∧ decide ((65 : Int) ≤ (v : Int)) = false ∧ decide ((v : Int) ≤ 90) = true ∧ ((v : Int) != 45) = true ∧ decide ((v : Int) < 48) = true ∧ decide ((57 : Int) < (v : Int)) = false)) ∨
    ((v = 45) ∧ (decide ((97 : Int) ≤ (v : Int)) = false ∧ decide ((v : Int) ≤ 122) = true ∧ decide ((65 : Int) ≤ (v : Int)) = false ∧ decide ((v : Int) ≤ 90) = true ∧ ((v : Int) != 45) = false ∧ decide ((v : Int) < 48) = true ∧ decide ((57 : Int) < (v : Int)) = false)) ∨
    ((45 < v ∧ v < 48) ∧ (decide ((97 : Int) ≤ (v : Int)) = false ∧ decide ((v : Int) ≤ 122) = true ∧ decide ((65 : Int) ≤ (v : Int)) = false ∧ decide ((v : Int) ≤ 90) = true ∧ ((v : Int) != 45) = true ∧ decide ((v : Int) < 48) = true ∧ decide ((57 : Int) < (v : Int)) = false)) ∨
    ((48 ≤ v ∧ v ≤ 57) ∧ (decide ((97 : Int) ≤ (v : Int)) = false ∧ decide ((v : Int) ≤ 122) = true ∧ decide ((65 : Int) ≤ (v : Int)) = false ∧ decide ((v : Int) ≤ 90) = true ∧ ((v : Int) != 45) = true ∧ decide ((v : Int) < 48) = false ∧ decide ((57 : Int) < (v : Int)) = false)) ∨
    ((57 < v ∧ v < 65) ∧ (decide ((97 : Int) ≤ (v : Int)) = false ∧ decide ((v : Int) ≤ 122) = true ∧ decide ((65 : Int) ≤ (v : Int)) = false ∧ decide ((v : Int) ≤ 90) = true ∧ ((v : Int) != 45) = true ∧ decide ((v : Int) < 48) = false ∧ decide ((57 : Int) < (v : Int)) = true)) ∨
    ((65 ≤ v ∧ v ≤ 90) ∧ (decide ((97 : Int) ≤ (v : Int)) = false ∧ decide ((v : Int) ≤ 122) = true ∧ decide ((65 : Int) ≤ (v : Int)) = true ∧ decide ((v : Int) ≤ 90) = true ∧ ((v : Int) != 45) = true ∧ decide ((v : Int) < 48) = false ∧ decide ((57 : Int) < (v : Int)) = true)) ∨
    ((90 < v ∧ v < 97) ∧ (decide ((97 : Int) ≤ (v : Int)) = false ∧ decide ((v : Int) ≤ 122) = true ∧ decide ((65 : Int) ≤ (v : Int)) = true ∧ decide ((v : Int) ≤ 90) = false ∧ ((v : Int) != 45) = true ∧ decide ((v : Int) < 48) = false ∧ decide ((57 : Int) < (v : Int)) = true)) ∨
    ((97 ≤ v ∧ v ≤ 122) ∧ (decide ((97 : Int) ≤ (v : Int)) = true ∧ decide ((v : Int) ≤ 122) = true ∧ decide ((65 : Int) ≤ (v : Int)) = true ∧ decide ((v : Int) ≤ 90) = false ∧ ((v : Int) != 45) = true ∧ decide ((v : Int) < 48) = false ∧ decide ((57 : Int) < (v : Int)) = true)) ∨
    ((122 < v) ∧ (decide ((97 : Int) ≤ (v : Int)) = true ∧ decide ((v : Int) ≤ 122) = false ∧ decide ((65 : Int) ≤ (v : Int)) = true ∧ decide ((v : Int) ≤ 90) = false ∧ ((v : Int) != 45) = true ∧ decide ((v : Int) < 48) = false ∧ decide ((57 : Int) < (v : Int)) = true)) := by
  rcases (show (v < 45) ∨ (v = 45) ∨ (45 < v ∧ v < 48) ∨ (48 ≤ v ∧ v ≤ 57) ∨ (57 < v ∧ v < 65) ∨ (65 ≤ v ∧ v ≤ 90) ∨ (90 < v ∧ v < 97) ∨ (97 ≤ v ∧ v ≤ 122) ∨ (122 < v) by omega) with h | h | h | h | h | h | h | h | h
  · exact Or.inl ⟨h, by simp; omega, by simp; omega, by simp; omega, by simp; omega, by simp; omega, by simp; omega, by simp; omega⟩
  · exact Or.inr (Or.inl ⟨h, by simp; omega, by simp; omega, by simp; omega, by simp; omega, by simp; omega, by simp; omega, by simp; omega⟩)
  · exact Or.inr (Or.inr (Or.inl ⟨h, by simp; omega, by simp; omega, by simp; omega, by simp; omega, by simp; omega, by simp; omega, by simp; omega⟩))
  · exact Or.inr (Or.inr (Or.inr (Or.inl ⟨h, by simp; omega, by simp; omega, by simp; omega, by simp; omega, by simp; omega, by simp; omega, by simp; omega⟩)))
  · exact Or.inr (Or.inr (Or.inr (Or.inr (Or.inl ⟨h, by simp; omega, by simp; omega, by simp; omega, by simp; omega, by simp; omega, by simp; omega, by simp; omega⟩))))
  · exact Or.inr (Or.inr (Or.inr (Or.inr (Or.inr (Or.inl ⟨h, by simp; omega, by simp; omega, by simp; omega, by simp; omega, by simp; omega, by simp; omega, by simp; omega⟩)))))
  · exact Or.inr (Or.inr (Or.inr (Or.inr (Or.inr (Or.inr (Or.inl ⟨h, by simp; omega, by simp; omega, by simp; omega, by simp; omega, by simp; omega, by simp; omega, by simp; omega⟩))))))
  · exact Or.inr (Or.inr (Or.inr (Or.inr (Or.inr (Or.inr (Or.inr (Or.inl ⟨h, by simp; omega, by simp; omega, by simp; omega, by simp; omega, by simp; omega, by simp; omega, by simp; omega⟩)))))))
  · exact Or.inr (Or.inr (Or.inr (Or.inr (Or.inr (Or.inr (Or.inr (Or.inr (⟨h, by simp; omega, by simp; omega, by simp; omega, by simp; omega, by simp; omega, by simp; omega, by simp; omega⟩))))))))

set_option maxRecDepth 100000 in
set_option maxHeartbeats 4000000 in
theorem bIsName_all (s : ByteArray) (w : World) :
    Calls Try.prog 118 #[.string s] w fun e w' => e = .returned (.bool (nameS s.data.toList)) ∧ w = w' := by
  have hl : s.data.toList.length = s.size := by simp
  have HL := Lib.hid hl
  clear hl
  by_cases h1 : s.size < 1
  · have HN := Lib.hid (show nameS s.data.toList = false by unfold nameS; rw [decide_eq_false (by rw [HL.out]; omega)]; rfl)
    go_enter Try.func118, Try.ntmps118
    go_wp2
    go_ret
    exact ⟨by rw [HN.out]; rfl, rfl⟩
  by_cases h2 : 12 < s.size
  · have HN := Lib.hid (show nameS s.data.toList = false by unfold nameS; rw [decide_eq_false (by rw [HL.out]; omega)]; rfl)
    go_enter Try.func118, Try.ntmps118
    go_wp2
    go_ret
    exact ⟨by rw [HN.out]; rfl, rfl⟩
  have hs : s.size ≤ 1000 := by omega
  go_enter Try.func118, Try.ntmps118
  go_wp2
  go_loopw [3] (fun i wr => ∃ k : Nat, k ≤ s.size ∧ i = .int .i64 (k : Int) ∧ Hid (badTo s.data.toList k = false) ∧ wr = w) (fun i _ => s.size - (intOf i).toNat)
  case atStart => exact ⟨0, by omega, rfl, rfl, rfl⟩
  case round =>
    obtain ⟨k, hk, rfl, HB, rfl⟩ := hrel
    by_cases hlt : k < s.size
    · obtain ⟨c, hc⟩ : ∃ c, s[k] = c := ⟨_, rfl⟩
      have hx : s.data.toList[k]? = some c := by
        rw [List.getElem?_eq_getElem (by rw [HL.out]; exact hlt), ← hc]
        rfl
      have HST := Lib.hid (show badTo s.data.toList (k + 1) = badB k c by
        rw [badTo_step, HB.out, List.getD_eq_getElem?_getD, hx]; rfl)
      have hc255 : c.toNat < 256 := c.toNat_lt
      clear hx
      obtain ⟨v, hv⟩ : ∃ v : Nat, c.toNat = v := ⟨_, rfl⟩
      have HV := Lib.hid hv
      rw [hv] at hc255
      have hcv : (s[k]).toNat = v := by rw [hc, hv]
      clear hv hc
      have HBAD := Lib.hid (show badB k c = (!(decide (97 ≤ v ∧ v ≤ 122) || decide (65 ≤ v ∧ v ≤ 90)) && (decide (k = 0) || (decide (v ≠ 45) && !decide (48 ≤ v ∧ v ≤ 57)))) by
        unfold badB letB digB; rw [HV.out])
      have i0 : (0 : Int) ≤ (v : Int) := by omega
      by_cases hk0 : k = 0
      · subst hk0
        rcases name_cases v with ⟨h, t1, t2, t3, t4, t5, t6, t7⟩ | ⟨h, t1, t2, t3, t4, t5, t6, t7⟩ | ⟨h, t1, t2, t3, t4, t5, t6, t7⟩ | ⟨h, t1, t2, t3, t4, t5, t6, t7⟩ | ⟨h, t1, t2, t3, t4, t5, t6, t7⟩ | ⟨h, t1, t2, t3, t4, t5, t6, t7⟩ | ⟨h, t1, t2, t3, t4, t5, t6, t7⟩ | ⟨h, t1, t2, t3, t4, t5, t6, t7⟩ | ⟨h, t1, t2, t3, t4, t5, t6, t7⟩
        all_goals
          first
          | (have HG : Hid (badTo s.data.toList (0 + 1) = false) := Lib.hid (by rw [HST.out, HBAD.out]; simp; omega)
             go_wp2_with fail
             go_roundw
             case rel => exact ⟨1, by omega, by go_num, HG, trivial⟩
             case measure => simp [intOf]; omega)
          | (have HN : Hid (nameS s.data.toList = false) := Lib.hid (name_bad (k := 0 + 1) (by rw [HL.out]; omega) (by rw [HST.out, HBAD.out]; simp; omega))
             go_wp2_with fail
             go_ret
             exact ⟨by rw [HN.out]; rfl, rfl⟩)
      · have dk : ((k : Int) == 0) = false := by simp; omega
        rcases name_cases v with ⟨h, t1, t2, t3, t4, t5, t6, t7⟩ | ⟨h, t1, t2, t3, t4, t5, t6, t7⟩ | ⟨h, t1, t2, t3, t4, t5, t6, t7⟩ | ⟨h, t1, t2, t3, t4, t5, t6, t7⟩ | ⟨h, t1, t2, t3, t4, t5, t6, t7⟩ | ⟨h, t1, t2, t3, t4, t5, t6, t7⟩ | ⟨h, t1, t2, t3, t4, t5, t6, t7⟩ | ⟨h, t1, t2, t3, t4, t5, t6, t7⟩ | ⟨h, t1, t2, t3, t4, t5, t6, t7⟩
        all_goals
          first
          | (have HG : Hid (badTo s.data.toList (k + 1) = false) := Lib.hid (by rw [HST.out, HBAD.out]; simp; omega)
             go_wp2_with fail
             go_roundw
             case rel => exact ⟨k + 1, by omega, by go_num, HG, trivial⟩
             case measure => simp [intOf]; omega)
          | (have HN : Hid (nameS s.data.toList = false) := Lib.hid (name_bad (k := k + 1) (by rw [HL.out]; omega) (by rw [HST.out, HBAD.out]; simp; omega))
             go_wp2_with fail
             go_ret
             exact ⟨by rw [HN.out]; rfl, rfl⟩)
    · have HN := Lib.hid (show nameS s.data.toList = true by
        rw [name_len (l := s.data.toList) (by rw [HL.out, show s.size = k by omega]; exact HB.out)]
        exact decide_eq_true (by rw [HL.out]; omega))
      go_wp2_with fail
      go_ret
      exact ⟨by rw [HN.out]; rfl, rfl⟩
theorem bIsName_any (s : ByteArray) (w : World) (_hs : s.size ≤ 1000) :
    Calls Try.prog 118 #[.string s] w fun e w' => e = .returned (.bool (nameS s.data.toList)) ∧ w = w' := bIsName_all s w
end Go.Proofs.Ytaogolnoiffgiaa

namespace Go.Proofs.Ytaogolnoiffgiaa
open Go.RowKit Go.Sky

end Go.Proofs.Ytaogolnoiffgiaa
