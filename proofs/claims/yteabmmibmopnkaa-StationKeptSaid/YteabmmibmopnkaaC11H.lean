/- Contracts: names.
   Contracts: items: the search for a name, itemErr, CheckQueue, queueErr. -/
import Derived.BigQuiet
import Derived.Deep.AppendLies
import Derived.Deep.Draws
import Derived.Deep.Quiet
import Derived.Deep.QuietTactic
import Derived.Laws.BitsAllLaws
import Derived.Lib.Hide
import Derived.StillTail
import Derived.Test.YteabmmibmopnkaaProg
import Derived.WalkKit
import Derived.WalkLawsBesides
import Derived.WalkSpells
import Derived.Test.YteabmmibmopnkaaC11B
import Derived.Test.YteabmmibmopnkaaC11F
import Derived.Test.YteabmmibmopnkaaC11G

namespace Go.Proofs.Yteabmmibmopnkaa
open Go.RowKit Go.Sky

set_option maxRecDepth 100000 in
set_option maxHeartbeats 1000000 in
theorem isName_any (s : ByteArray) (w : World) (hs : s.size ≤ 1000) :
    Calls Try.prog 115 #[.string s] w fun e w' => e = .returned (.bool (nameS s.data.toList)) ∧ New w w' := by
  go_enter Try.func115, Try.ntmps115
  go_wp2_with (refine wpList_bytes _ rfl _ 9 214 5 rfl Try.underlying9 Try.underlying214 Try.underlying5 s rfl ?_; intro g cap w2 hn2 hr2 hg2)
  have hl : s.data.toList.length = s.size := by simp
  have HL := Lib.hid hl
  clear hl
  have HR := Lib.hid hr2
  clear hr2
  go_loopw [9] (fun i wr => ∃ k : Nat, k ≤ s.size ∧ i = .int .i64 (k : Int) ∧ Hid (badTo s.data.toList k = false) ∧ wr = w2) (fun i _ => s.size - (intOf i).toNat)
  case atStart => exact ⟨0, by omega, rfl, rfl, rfl⟩
  case round =>
    obtain ⟨k, hk, rfl, HB, rfl⟩ := hrel
    by_cases hlt : k < s.size
    · obtain ⟨b, o, c, e, hb, hx, hc⟩ := HR.out.at_ hlt
      injection e with e
      injection e with e1 e2
      subst e1 e2
      have g0 := hc 0 _ rfl
      simp only [Nat.add_zero, Nat.mul_one, Nat.zero_add] at g0
      have hc255 : c.toNat < 256 := c.toNat_lt
      obtain ⟨d, hd⟩ : ∃ d, (c ||| 32).toNat = d := ⟨_, rfl⟩
      have hdb : d < 256 := by rw [← hd]; exact (c ||| 32).toNat_lt
      have hor : bits .or .u8 (c.toNat : Int) 32 = (d : Int) := by
        rw [← hd, UInt8.toNat_or]
        exact u8_or_nat c.toNat 32 hc255 (by omega)
      have HLE := Lib.hid (show letB c = inR (d : Int) 97 122 by
        rw [let_or, hd]
        unfold inR
        rw [Bool.eq_iff_iff, decide_eq_true_eq, decide_eq_true_eq]
        omega)
      have HST := Lib.hid (show badTo s.data.toList (k + 1) = badB k c by
        rw [badTo_step, HB.out, List.getD_eq_getElem?_getD, hx]; rfl)
      clear hx hc hd
      obtain ⟨v, hv⟩ : ∃ v : Nat, c.toNat = v := ⟨_, rfl⟩
      have HV := Lib.hid hv
      rw [hv] at g0 hor hc255
      clear hv
      go_wp2_with fail
      refine (within_any _ _ _ _).mono ?_
      rintro e w' ⟨rfl, rfl⟩
      obtain ⟨q, hq⟩ : ∃ q, inR (d : Int) 97 122 = q := ⟨_, rfl⟩
      rw [hq]
      rw [hq] at HLE
      clear hq
      cases q
      · by_cases hk0 : k = 0
        · subst hk0
          have HN := Lib.hid (show nameS s.data.toList = false from name_bad (k := 0 + 1) (by rw [HL.out]; omega) (by rw [HST.out]; unfold badB; rw [HLE.out]; rfl))
          go_wp2_with fail
          go_ret
          exact ⟨by rw [HN.out]; rfl, hn2⟩
        · have dk : ((k : Int) == 0) = false := by simp; omega
          by_cases h45 : v = 45
          · have d45 : ((v : Int) != 45) = false := by simp; omega
            have HG := Lib.hid (show badTo s.data.toList (k + 1) = false by rw [HST.out]; unfold badB; rw [HLE.out, decide_eq_false hk0, HV.out, decide_eq_false (by omega)]; rfl)
            clear h45 hk0
            go_wp2_with fail
            go_roundw
            case rel => exact ⟨k + 1, by omega, by go_num, HG, trivial⟩
            case measure => simp [intOf]; omega
          · have d45 : ((v : Int) != 45) = true := by simp; omega
            go_wp2_with fail
            refine (within_any _ _ _ _).mono ?_
            rintro e w' ⟨rfl, rfl⟩
            obtain ⟨q, hq⟩ : ∃ q, inR (v : Int) 48 57 = q := ⟨_, rfl⟩
            rw [hq]
            have HDG := Lib.hid (show digB c = q by
              rw [← hq]
              unfold digB inR
              rw [HV.out, Bool.eq_iff_iff, decide_eq_true_eq, decide_eq_true_eq]
              omega)
            have HBD := Lib.hid (show badTo s.data.toList (k + 1) = !q by
              rw [HST.out]; unfold badB; rw [HLE.out, decide_eq_false hk0, HV.out, decide_eq_true h45, HDG.out]; rfl)
            clear hq hk0 h45
            cases q
            · have HN := Lib.hid (show nameS s.data.toList = false from name_bad (k := k + 1) (by rw [HL.out]; omega) (by rw [HBD.out]; rfl))
              go_wp2_with fail
              go_ret
              exact ⟨by rw [HN.out]; rfl, hn2⟩
            · have HG := Lib.hid (show badTo s.data.toList (k + 1) = false by rw [HBD.out]; rfl)
              go_wp2_with fail
              go_roundw
              case rel => exact ⟨k + 1, by omega, by go_num, HG, trivial⟩
              case measure => simp [intOf]; omega
      · have HG := Lib.hid (show badTo s.data.toList (k + 1) = false by rw [HST.out]; unfold badB; rw [HLE.out]; rfl)
        go_wp2_with fail
        go_roundw
        case rel => exact ⟨k + 1, by omega, by go_num, HG, trivial⟩
        case measure => simp [intOf]; omega
    · obtain rfl : k = s.size := by omega
      have HV := Lib.hid (name_len (l := s.data.toList) (by rw [HL.out]; exact HB.out))
      have HW := Lib.hid (show inR (s.size : Int) 1 12 = nameS s.data.toList by
        rw [HV.out, HL.out]
        unfold inR
        rw [Bool.eq_iff_iff, decide_eq_true_eq, decide_eq_true_eq]
        omega)
      go_wp2_with fail
      refine (within_any _ _ _ _).mono ?_
      rintro e w' ⟨rfl, rfl⟩
      rw [HW.out]
      go_wp2_with fail
      go_ret
      exact ⟨rfl, hn2⟩

theorem name_cases (v : Nat) : ((v < 45) ∧ (decide ((97 : Int) ≤ (v : Int)) = false ∧ decide ((v : Int) ≤ 122) = true ∧ decide ((65 : Int) ≤ (v : Int)) = false ∧ decide ((v : Int) ≤ 90) = true ∧ ((v : Int) != 45) = true ∧ decide ((v : Int) < 48) = true ∧ decide ((57 : Int) < (v : Int)) = false)) ∨
    ((v = 45) ∧ (decide ((97 : Int) ≤ (v : Int)) = false ∧ decide ((v : Int) ≤ 122) = true ∧ decide ((65 : Int) ≤ (v : Int)) = false ∧ decide ((v : Int) ≤ 90) = true ∧ ((v : Int) != 45) = false ∧ decide ((v : Int) < 48) = true ∧ decide ((57 : Int) < (v : Int)) = false)) ∨
    ((45 < v ∧ v < 48) ∧ (decide ((97 : Int) ≤ (v : Int)) = false ∧ decide ((v : Int) ≤ 122) = true ∧ decide ((65 : Int) ≤ (v : Int)) = false ∧ decide ((v : Int) ≤ 90) = true ∧ ((v : Int) != 45) = true ∧ decide ((v : Int) < 48) = true ∧ decide ((57 : Int) < (v : Int)) = false)) ∨
    ((48 ≤ v ∧ v ≤ 57) ∧ (decide ((97 : Int) ≤ (v : Int)) = false ∧ decide ((v : Int) ≤ 122) = true ∧ decide ((65 : Int) ≤ (v : Int)) = false ∧ decide ((v : Int) ≤ 90) = true ∧ ((v : Int) != 45) = true ∧ decide ((v : Int) < 48) = false ∧ decide ((57 : Int) < (v : Int)) = false)) ∨
    ((57 < v ∧ v < 65) ∧ (decide ((97 : Int) ≤ (v : Int)) = false ∧ decide ((v : Int) ≤ 122) = true ∧ decide ((65 : Int) ≤ (v : Int)) = false ∧ decide ((v : Int) ≤ 90) = true ∧ ((v : Int) != 45) = true ∧ decide ((v : Int) < 48) = false ∧ decide ((57 : Int) < (v : Int)) = true)) ∨
    ((65 ≤ v ∧ v ≤ 90) ∧ (decide ((97 : Int) ≤ (v : Int)) = false ∧ decide ((v : Int) ≤ 122) = true ∧ decide ((65 : Int) ≤ (v : Int)) = true ∧ decide ((v : Int) ≤ 90) = true ∧ ((v : Int) != 45) = true ∧ decide ((v : Int) < 48) = false ∧ decide ((57 : Int) < (v : Int)) = true)) ∨
    ((90 < v ∧ v < 97) ∧ (decide ((97 : Int) ≤ (v : Int)) = false ∧ decide ((v : Int) ≤ 122) = true ∧ decide ((65 : Int) ≤ (v : Int)) = true ∧ decide ((v : Int) ≤ 90) = false ∧ ((v : Int) != 45) = true ∧ decide ((v : Int) < 48) = false ∧ decide ((57 : Int) < (v : Int)) = true)) ∨
    ((97 ≤ v ∧ v ≤ 122) ∧ (decide ((97 : Int) ≤ (v : Int)) = true ∧ decide ((v : Int) ≤ 122) = true ∧ decide ((65 : Int) ≤ (v : Int)) = true ∧ decide ((v : Int) ≤ 90) = false ∧ ((v : Int) != 45) = true ∧ decide ((v : Int) < 48) = false ∧ decide ((57 : Int) < (v : Int)) = true)) ∨
    ((122 < v) ∧ (decide ((97 : Int) ≤ (v : Int)) = true ∧ decide ((v : Int) ≤ 122) = false ∧ decide ((65 : Int) ≤ (v : Int)) = true ∧ decide ((v : Int) ≤ 90) = false ∧ ((v : Int) != 45) = true ∧ decide ((v : Int) < 48) = false ∧ decide ((57 : Int) < (v : Int)) = true)) := by
  rcases (show (v < 45) ∨ (v = 45) ∨ (45 < v ∧ v < 48) ∨ (48 ≤ v ∧ v ≤ 57) ∨ (57 < v ∧ v < 65) ∨ (65 ≤ v ∧ v ≤ 90) ∨ (90 < v ∧ v < 97) ∨ (97 ≤ v ∧ v ≤ 122) ∨ (122 < v) by omega) with h | h | h | h | h | h | h | h | h
  · exact Or.inl ⟨h, by simp; omega, by simp; omega, by simp; omega, by simp; omega, by simp; omega, by simp; omega, by simp; omega⟩
  · exact Or.inr (Or.inl ⟨h, by simp; omega, by simp; omega, by simp; omega, by simp; omega, by simp; omega, by simp; omega, by simp; omega⟩)
  · exact Or.inr (Or.inr (Or.inl ⟨h, by simp; omega, by simp; omega, by simp; omega, by simp; omega, by simp; omega, by simp; omega, by simp; omega⟩))
  · exact Or.inr (Or.inr (Or.inr (Or.inl ⟨h, by simp; omega, by simp; omega, by simp; omega, by simp; omega, by simp; omega, by simp; omega, by simp; omega⟩)))
  · exact Or.inr (Or.inr (Or.inr (Or.inr (Or.inl ⟨h, by simp; omega, by simp; omega, by simp; omega, by simp; omega, by simp; omega, by simp; omega, by simp; omega⟩))))
  · exact Or.inr (Or.inr (Or.inr (Or.inr (Or.inr (Or.inl ⟨h, by simp; omega, by simp; omega, by simp; omega, by simp; omega, by simp; omega, by simp; omega, by simp; omega⟩)))))
  · exact Or.inr (Or.inr (Or.inr (Or.inr (Or.inr (Or.inr (Or.inl ⟨h, by simp; omega, by simp; omega, by simp; omega, by simp; omega, by simp; omega, by simp; omega, by simp; omega⟩))))))
  · exact Or.inr (Or.inr (Or.inr (Or.inr (Or.inr (Or.inr (Or.inr (Or.inl ⟨h, by simp; omega, by simp; omega, by simp; omega, by simp; omega, by simp; omega, by simp; omega, by simp; omega⟩)))))))
  · exact Or.inr (Or.inr (Or.inr (Or.inr (Or.inr (Or.inr (Or.inr (Or.inr (⟨h, by simp; omega, by simp; omega, by simp; omega, by simp; omega, by simp; omega, by simp; omega, by simp; omega⟩))))))))

set_option maxRecDepth 100000 in
set_option maxHeartbeats 4000000 in
theorem bIsName_any (s : ByteArray) (w : World) (hs : s.size ≤ 1000) :
    Calls Try.prog 91 #[.string s] w fun e w' => e = .returned (.bool (nameS s.data.toList)) ∧ w = w' := by
  have hl : s.data.toList.length = s.size := by simp
  have HL := Lib.hid hl
  clear hl
  by_cases h1 : s.size < 1
  · have HN := Lib.hid (show nameS s.data.toList = false by unfold nameS; rw [decide_eq_false (by rw [HL.out]; omega)]; rfl)
    go_enter Try.func91, Try.ntmps91
    go_wp2
    go_ret
    exact ⟨by rw [HN.out]; rfl, rfl⟩
  by_cases h2 : 12 < s.size
  · have HN := Lib.hid (show nameS s.data.toList = false by unfold nameS; rw [decide_eq_false (by rw [HL.out]; omega)]; rfl)
    go_enter Try.func91, Try.ntmps91
    go_wp2
    go_ret
    exact ⟨by rw [HN.out]; rfl, rfl⟩
  go_enter Try.func91, Try.ntmps91
  go_wp2
  go_loopw [3] (fun i wr => ∃ k : Nat, k ≤ s.size ∧ i = .int .i64 (k : Int) ∧ Hid (badTo s.data.toList k = false) ∧ wr = w) (fun i _ => s.size - (intOf i).toNat)
  case atStart => exact ⟨0, by omega, rfl, rfl, rfl⟩
  case round =>
    obtain ⟨k, hk, rfl, HB, rfl⟩ := hrel
    by_cases hlt : k < s.size
    · obtain ⟨c, hc⟩ : ∃ c, s[k] = c := ⟨_, rfl⟩
      have hx : s.data.toList[k]? = some c := by
        rw [List.getElem?_eq_getElem (by rw [HL.out]; exact hlt), ← hc]
        rfl
      have HST := Lib.hid (show badTo s.data.toList (k + 1) = badB k c by
        rw [badTo_step, HB.out, List.getD_eq_getElem?_getD, hx]; rfl)
      have hc255 : c.toNat < 256 := c.toNat_lt
      clear hx
      obtain ⟨v, hv⟩ : ∃ v : Nat, c.toNat = v := ⟨_, rfl⟩
      have HV := Lib.hid hv
      rw [hv] at hc255
      have hcv : (s[k]).toNat = v := by rw [hc, hv]
      clear hv hc
      have HBAD := Lib.hid (show badB k c = (!(decide (97 ≤ v ∧ v ≤ 122) || decide (65 ≤ v ∧ v ≤ 90)) && (decide (k = 0) || (decide (v ≠ 45) && !decide (48 ≤ v ∧ v ≤ 57)))) by
        unfold badB letB digB; rw [HV.out])
      have i0 : (0 : Int) ≤ (v : Int) := by omega
      by_cases hk0 : k = 0
      · subst hk0
        rcases name_cases v with ⟨h, t1, t2, t3, t4, t5, t6, t7⟩ | ⟨h, t1, t2, t3, t4, t5, t6, t7⟩ | ⟨h, t1, t2, t3, t4, t5, t6, t7⟩ | ⟨h, t1, t2, t3, t4, t5, t6, t7⟩ | ⟨h, t1, t2, t3, t4, t5, t6, t7⟩ | ⟨h, t1, t2, t3, t4, t5, t6, t7⟩ | ⟨h, t1, t2, t3, t4, t5, t6, t7⟩ | ⟨h, t1, t2, t3, t4, t5, t6, t7⟩ | ⟨h, t1, t2, t3, t4, t5, t6, t7⟩
        all_goals
          first
          | (have HG : Hid (badTo s.data.toList (0 + 1) = false) := Lib.hid (by rw [HST.out, HBAD.out]; simp; omega)
             go_wp2_with fail
             go_roundw
             case rel => exact ⟨1, by omega, by go_num, HG, trivial⟩
             case measure => simp [intOf]; omega)
          | (have HN : Hid (nameS s.data.toList = false) := Lib.hid (name_bad (k := 0 + 1) (by rw [HL.out]; omega) (by rw [HST.out, HBAD.out]; simp; omega))
             go_wp2_with fail
             go_ret
             exact ⟨by rw [HN.out]; rfl, rfl⟩)
      · have dk : ((k : Int) == 0) = false := by simp; omega
        rcases name_cases v with ⟨h, t1, t2, t3, t4, t5, t6, t7⟩ | ⟨h, t1, t2, t3, t4, t5, t6, t7⟩ | ⟨h, t1, t2, t3, t4, t5, t6, t7⟩ | ⟨h, t1, t2, t3, t4, t5, t6, t7⟩ | ⟨h, t1, t2, t3, t4, t5, t6, t7⟩ | ⟨h, t1, t2, t3, t4, t5, t6, t7⟩ | ⟨h, t1, t2, t3, t4, t5, t6, t7⟩ | ⟨h, t1, t2, t3, t4, t5, t6, t7⟩ | ⟨h, t1, t2, t3, t4, t5, t6, t7⟩
        all_goals
          first
          | (have HG : Hid (badTo s.data.toList (k + 1) = false) := Lib.hid (by rw [HST.out, HBAD.out]; simp; omega)
             go_wp2_with fail
             go_roundw
             case rel => exact ⟨k + 1, by omega, by go_num, HG, trivial⟩
             case measure => simp [intOf]; omega)
          | (have HN : Hid (nameS s.data.toList = false) := Lib.hid (name_bad (k := k + 1) (by rw [HL.out]; omega) (by rw [HST.out, HBAD.out]; simp; omega))
             go_wp2_with fail
             go_ret
             exact ⟨by rw [HN.out]; rfl, rfl⟩)
    · have HN := Lib.hid (show nameS s.data.toList = true by
        rw [name_len (l := s.data.toList) (by rw [HL.out, show s.size = k by omega]; exact HB.out)]
        exact decide_eq_true (by rw [HL.out]; omega))
      go_wp2_with fail
      go_ret
      exact ⟨by rw [HN.out]; rfl, rfl⟩
end Go.Proofs.Yteabmmibmopnkaa

namespace Go.Proofs.Yteabmmibmopnkaa
open Go.RowKit Go.Sky

theorem itemClos (x y : Sky.Item) (B : Nat) (w : World) (hb : Bx w B 44 (encM x).toArray) :
    Calls Try.prog 113 #[.agg (encM y).toArray, .pointer (some ⟨B, 0, none⟩)] w fun e w' => e = .returned (.bool (sameN x y)) ∧ New w w' := by
  have c0 : w.cell? ⟨B, 0, none⟩ = some (.string x.n) := hb.cell 0
  have lB := hb.lt
  have nn := (New.refl w).alloc (.cells (encM y).toArray 44)
  have bn := Bx.mk w 44 (encM y).toArray
  have d0 : World.cell? _ ⟨w.heap.size, 0, none⟩ = some (.string y.n) := bn.cell 0
  have d1 := nn.cell c0
  have l2 := bn.lt
  have k1 : B < w.heap.size + 1 := by omega
  have HS := Lib.hid (show sameN x y = (y.n.toList == x.n.toList) from rfl)
  clear hb
  go_enter Try.func113, Try.ntmps113
  go_wp2
  go_ret
  exact ⟨by rw [HS.out]; rfl, nn⟩
set_option maxRecDepth 100000 in
set_option maxHeartbeats 1000000 in
theorem idxFuncT (g : Nat) (cb : Array Value) (p : Sky.Item → Bool) (A : Option Addr) (n cap : Nat) (xs : List (Sky.Item)) (w : World) (hn : n ≤ 1000000) (hr : Rd w 4 encM A n xs) (eg : ∀ (args : Array Value) (W : World), (callFunc g args).run Try.prog W = .ok (.enter g args) W)
    (hp : ∀ x, x ∈ xs → ∀ W, New w W → Calls Try.prog g (#[.agg #[.string x.n, .int .i64 x.p, .int .i64 x.z, .int .i64 x.t]] ++ cb) W fun e w' => e = .returned (.bool (p x)) ∧ New W w') :
    Calls Try.prog 152 #[.slice A n cap, .func (.func g) #[] cb] w fun e w' => e = .returned (.int .i64 (idxS p xs)) ∧ New w w' := by
  have HR := Lib.hid hr; clear hr
  have HP := Lib.hid hp; clear hp
  go_enter Try.func152, Try.ntmps152
  go_wp2
  go_loopw [5, 8] (fun _ i wr => ∃ k : Nat, k ≤ n ∧ i = .int .i64 k ∧ Hid (∀ j x, j < k → xs[j]? = some x → p x = false) ∧ New w wr) (fun _ i _ => n - (intOf i).toNat)
  case atStart => exact ⟨0, by omega, rfl, (fun j x hj => absurd hj (by omega)), New.refl _⟩
  case round =>
    obtain ⟨k, hk, rfl, HF, hN⟩ := hrel
    by_cases hlt : k < n
    · obtain ⟨b, o, x, rfl, hb, hx, hc⟩ := (HR.out.keep hN).at_ hlt
      have g0 := hc 0 _ rfl
      have g1 := hc 1 _ rfl
      have g2 := hc 2 _ rfl
      have g3 := hc 3 _ rfl
      simp only [Nat.add_zero] at g0
      have HX := Lib.hid hx
      clear hx hc
      obtain ⟨q, hq⟩ : ∃ q, p x = q := ⟨_, rfl⟩
      have HQ := Lib.hid hq
      cases q
      all_goals
        go_wp2_with fail
        refine (HP.out x (List.mem_of_getElem? HX.out) _ hN).mono ?_
        rintro e w1 ⟨he, hn1⟩
        rw [HQ.out] at he
        subst he
        clear hq
      · go_wp2
        go_roundw
        case rel => exact ⟨k + 1, by omega, by go_num, fun j y hj hy => by
          rcases Nat.lt_or_ge j k with h | h
          · exact HF.out j y h hy
          · obtain rfl : j = k := by omega
            have hxy := HX.out
            rw [hy] at hxy
            injection hxy with hxy
            rw [hxy]
            exact HQ.out, hN.trans hn1⟩
        case measure => simp [intOf]; omega
      · go_wp2
        go_ret
        exact ⟨by rw [idxS_hit p xs k x HX.out HQ.out HF.out]; rfl, hN.trans hn1⟩
    · go_wp2
      go_ret
      exact ⟨by rw [idxS_miss p xs n HR.out.len (fun j y hj hy => HF.out j y (by omega) hy)]; rfl, hN⟩

set_option maxRecDepth 100000 in
set_option maxHeartbeats 400000 in
theorem containsFuncT (g : Nat) (cb : Array Value) (p : Sky.Item → Bool) (A : Option Addr) (n cap : Nat) (xs : List Sky.Item) (w : World) (hn : n ≤ 1000000) (hr : Rd w 4 encM A n xs) (eg : ∀ (args : Array Value) (W : World), (callFunc g args).run Try.prog W = .ok (.enter g args) W)
    (hp : ∀ x, x ∈ xs → ∀ W, New w W → Calls Try.prog g (#[.agg #[.string x.n, .int .i64 x.p, .int .i64 x.z, .int .i64 x.t]] ++ cb) W fun e w' => e = .returned (.bool (p x)) ∧ New W w') :
    Calls Try.prog 112 #[.slice A n cap, .func (.func g) #[] cb] w fun e w' => e = .returned (.bool (xs.any p)) ∧ New w w' := by
  have HR := Lib.hid hr; clear hr
  have HP := Lib.hid hp; clear hp
  have HG := Lib.hid eg; clear eg
  have HA := Lib.hid (idxS_any p xs)
  go_enter Try.func112, Try.ntmps112
  go_wp2_with (go_at_call 152; refine (idxFuncT g cb p A n cap xs _ hn HR.out HG.out HP.out).mono ?_; rintro e w1 ⟨rfl, hn1⟩)
  go_ret
  exact ⟨by rw [← HA.out]; rfl, hn1⟩


set_option maxRecDepth 100000 in
set_option maxHeartbeats 2000000 in
theorem itemErr_any (x : Sky.Item) (A : Option Addr) (n cap : Nat) (q : List Sky.Item) (w : World) (hn : n ≤ 1000000) (hx : x.n.size ≤ 1000) (hr : Rd w 4 encM A n q) :
    Calls Try.prog 58 #[.slice A n cap, .agg #[.string x.n, .int .i64 x.p, .int .i64 x.z, .int .i64 x.t]] w fun e w' => e = .returned (.int .i64 (itemE q x)) ∧ New w w' := by
  have HR := Lib.hid hr; clear hr
  have HG := Lib.hid (enters_go (f := 113) Try.func113 (by kernel_rfl) rfl)
  have b1 := Bx.mk w 44 (encM x).toArray
  have hN := (New.refl w).alloc (.cells (encM x).toArray 44)
  have HV := Lib.hid (show itemE q x = firstE [errU (nameI x) 4, errU (!q.any (sameN x)) 5, errU (rangeI x) 2] from rfl)
  go_enter Try.func58, Try.ntmps58
  go_wp2_with fail
  refine (containsFuncT 113 #[.pointer (some ⟨w.heap.size, 0, none⟩)] (sameN x) A n cap q _ hn (HR.out.keep hN) HG.out (fun y _ W hW => itemClos x y w.heap.size W (b1.keep hW))).mono ?_
  rintro e w1 ⟨rfl, n1⟩
  have b2 := b1.keep n1
  have nw1 := hN.trans n1
  obtain ⟨kn, hkn⟩ : ∃ k, q.any (sameN x) = k := ⟨_, rfl⟩
  rw [hkn] at HV ⊢
  have HN := Lib.hid (show nameI x = nameS x.n.data.toList from rfl)
  have HX := Lib.hid hx
  have c0 : w1.cell? ⟨w.heap.size, 0, none⟩ = some (.string x.n) := b2.cell 0
  have c1 : w1.cell? ⟨w.heap.size, 1, none⟩ = some (.int .i64 x.p) := b2.cell 1
  have c2 : w1.cell? ⟨w.heap.size, 2, none⟩ = some (.int .i64 x.z) := b2.cell 2
  have c3 : w1.cell? ⟨w.heap.size, 3, none⟩ = some (.int .i64 x.t) := b2.cell 3
  have lb := b2.lt
  clear b1 hN hkn hx n1 b2
  obtain ⟨c, HC, hcase⟩ : ∃ c, Hid (rangeI x = c) ∧ ((c = false ∧ inR x.p 0 9 = false) ∨ (c = false ∧ inR x.p 0 9 = true ∧ inR x.z 1 10000 = false) ∨ (inR x.p 0 9 = true ∧ inR x.z 1 10000 = true ∧ tick x.t = c)) := by
    refine ⟨_, rfl, ?_⟩
    unfold rangeI
    cases inR x.p 0 9 <;> cases inR x.z 1 10000 <;> cases tick x.t <;> simp
  rcases hcase with ⟨rfl, h1⟩ | ⟨rfl, h1, h2⟩ | ⟨h1, h2, h3⟩
  all_goals
    go_wp2_with (first | (go_at_call 60; refine (within_is _ _ _ true _ (by assumption)).mono ?_; rintro e w' ⟨rfl, rfl⟩) | (go_at_call 60; refine (within_is _ _ _ false _ (by assumption)).mono ?_; rintro e w' ⟨rfl, rfl⟩) | (go_at_call 114; refine (isTick_is _ c _ (by assumption)).mono ?_; rintro e w' ⟨rfl, rfl⟩) | (go_at_call 59; refine (unless_any _ _ _).mono ?_; rintro e w' ⟨rfl, rfl⟩))
    refine (isName_any _ _ HX.out).mono ?_
    rintro e w2 ⟨rfl, n2⟩
    rw [← HN.out]
    go_wp2_with (first | (go_at_call 59; refine (unless_any _ _ _).mono ?_; rintro e w' ⟨rfl, rfl⟩))
    refine (first_any _ 3 3 [_, _, _] _ (by omega) rfl (cells_new _ _ _ _ (by simp) _ rfl)).mono ?_
    rintro e w3 ⟨rfl, hw3⟩
    rw [← HC.out, ← HV.out]
    go_wp2_with fail
    go_ret
    exact ⟨rfl, by rw [← hw3]; exact (nw1.trans n2).alloc _⟩

theorem itemErr_is (x : Sky.Item) (E : Int) (A : Option Addr) (n cap : Nat) (q : List Sky.Item) (w : World) (hn : n ≤ 1000000) (hx : x.n.size ≤ 1000) (hr : Rd w 4 encM A n q) (h : itemE q x = E) :
    Calls Try.prog 58 #[.slice A n cap, .agg #[.string x.n, .int .i64 x.p, .int .i64 x.z, .int .i64 x.t]] w fun e w' => e = .returned (.int .i64 E) ∧ New w w' := h ▸ itemErr_any x A n cap q w hn hx hr

set_option maxRecDepth 100000 in
set_option maxHeartbeats 4000000 in
theorem checkQ_any (A : Option Addr) (n cap : Nat) (q : List Sky.Item) (w : World) (hn : n ≤ 1000000) (hcap : n ≤ cap) (hx : ∀ x ∈ q, x.n.size ≤ 1000) (hr : Rd w 4 encM A n q) :
    Calls Try.prog 111 #[.slice A n cap] w fun e w' => e = .returned (.tuple #[.int .i64 (queueS q).1, .int .i64 (queueS q).2]) ∧ New w w' := by
  have HL := Lib.hid hr.len
  have HR := Lib.hid hr; clear hr
  have HX := Lib.hid hx; clear hx
  by_cases h20 : 20 < n
  · have HV := Lib.hid (show queueS q = (0, 8) by unfold queueS; rw [if_pos (by rw [HL.out]; exact h20)])
    go_enter Try.func111, Try.ntmps111
    go_wp2_with fail
    go_ret2
    exact ⟨by rw [HV.out]; rfl, New.refl _⟩
  have HV := Lib.hid (show queueS q = queueFrom (q.take 0) (q.drop 0) ((0 : Nat) : Int) by unfold queueS; rw [if_neg (by rw [HL.out]; exact h20)]; rfl)
  go_enter Try.func111, Try.ntmps111
  go_wp2_with fail
  go_loopw [4, 5, 6, 12] (fun _ _ _ i wr => ∃ k : Nat, k ≤ n ∧ i = .int .i64 (k : Int) ∧ Hid (queueS q = queueFrom (q.take k) (q.drop k) (k : Int)) ∧ New w wr) (fun _ _ _ i _ => n - (intOf i).toNat)
  case atStart => exact ⟨0, by omega, rfl, HV, New.refl _⟩
  case round =>
    clear HV
    obtain ⟨k, hk, rfl, HF, hN⟩ := hrel
    by_cases hlt : k < n
    · obtain ⟨b, o, x, rfl, hb, hx, hc⟩ := (HR.out.keep hN).at_ hlt
      have g0 := hc 0 _ rfl
      have g1 := hc 1 _ rfl
      have g2 := hc 2 _ rfl
      have g3 := hc 3 _ rfl
      simp only [Nat.add_zero] at g0
      have HST := Lib.hid (HF.out.trans (queueFrom_step hx))
      have HXS := Lib.hid (HX.out x (List.mem_of_getElem? hx))
      have HRT := Lib.hid ((HR.out.keep hN).take (m := k) (by omega))
      clear hx hc HF
      have nn := hN.alloc (.cells (encM x).toArray 44)
      have bx := Bx.mk wr 44 (encM x).toArray
      have nn1 := (New.refl wr).alloc (.cells (encM x).toArray 44)
      have d0 : World.cell? _ ⟨wr.heap.size, 0, none⟩ = some (.string x.n) := bx.cell 0
      have d1 : World.cell? _ ⟨wr.heap.size, 1, none⟩ = some (.int .i64 x.p) := bx.cell 1
      have d2 : World.cell? _ ⟨wr.heap.size, 2, none⟩ = some (.int .i64 x.z) := bx.cell 2
      have d3 : World.cell? _ ⟨wr.heap.size, 3, none⟩ = some (.int .i64 x.t) := bx.cell 3
      have lb := bx.lt
      have i0 : (0 : Int) ≤ (k : Int) := by omega
      have i1 : (k : Int) ≤ (cap : Int) := by omega
      obtain ⟨E, hE⟩ : ∃ E, itemE (q.take k) x = E := ⟨_, rfl⟩
      have HE := Lib.hid hE
      have hz : (E = 0 ∧ (E != 0) = false) ∨ (E ≠ 0 ∧ (E != 0) = true) := by
        by_cases h : E = 0
        · exact .inl ⟨h, by simpa using h⟩
        · exact .inr ⟨h, by simpa using h⟩
      clear hE
      rcases hz with ⟨hz0, b2⟩ | ⟨hz0, b2⟩
      all_goals
        have HZ := Lib.hid hz0
        clear hz0
        go_wp2
        (refine wp_region_new (by kernel_rfl) (by kernel_rfl) ?_; (repeat (go_big_quiet_step (((go_at_call 58; exact quiet_new (itemErr_is x E _ k cap (q.take k) _ (by omega) HXS.out (by exact HRT.out.keep (nn1.trans (plus_new _ _))) HE.out)))))); refine wpQuiet_nil ?_)
        intro w2 n2
        go_wp2
      · go_roundw
        case rel => exact ⟨k + 1, by omega, by go_num, by rw [HST.out, HE.out, if_pos HZ.out]; rfl, nn.trans n2⟩
        case measure => simp [intOf]; omega
      · go_ret2
        exact ⟨by rw [HST.out, HE.out, if_neg HZ.out]; rfl, nn.trans n2⟩
    · obtain rfl : k = n := by omega
      have HV := Lib.hid (show queueS q = (0, 0) by
        rw [HF.out, List.drop_of_length_le (by rw [HL.out]; exact Nat.le_refl _)]; rfl)
      go_wp2_with fail
      go_ret2
      exact ⟨by rw [HV.out]; rfl, hN⟩

theorem queueErr_any (A : Option Addr) (n cap : Nat) (q : List Sky.Item) (w : World) (hn : n ≤ 1000000) (hcap : n ≤ cap) (hx : ∀ x ∈ q, x.n.size ≤ 1000) (hr : Rd w 4 encM A n q) :
    Calls Try.prog 57 #[.slice A n cap] w fun e w' => e = .returned (.int .i64 (queueS q).2) ∧ New w w' := by
  have HR := Lib.hid hr; clear hr
  have HX := Lib.hid hx; clear hx
  go_enter Try.func57, Try.ntmps57
  go_wp2_with fail
  refine (checkQ_any A n cap q _ hn hcap HX.out HR.out).mono ?_
  rintro e w' ⟨rfl, n1⟩
  go_wp2
  go_ret
  exact ⟨rfl, n1⟩
end Go.Proofs.Yteabmmibmopnkaa
