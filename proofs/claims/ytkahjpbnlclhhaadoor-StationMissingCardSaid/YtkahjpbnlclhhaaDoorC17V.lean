/- Contracts: few blocks, blocks copied, the errors of blocks and a count; the program's and the reference's. -/
import Derived.BigQuiet
import Derived.BigRegion
import Derived.Deep.AppendLies
import Derived.Deep.Draws
import Derived.Deep.Quiet
import Derived.Deep.QuietTactic
import Derived.Laws.BitsAllLaws
import Derived.Laws.IdiomStrings
import Derived.Laws.Rows
import Derived.Lib.Hide
import Derived.Lib.ItoaLen
import Derived.Lib.ItoaNum
import Derived.OrdersIn
import Derived.OwnWalkIn
import Derived.RangeFuncCalls
import Derived.Shelf.SlSortCmp.Insertion
import Derived.Shelf.SlSortCmp.QuietGrown
import Derived.Shelf.Strconv.Itoa3
import Derived.Shelf.Strings.OnBuilder
import Derived.StillTail
import Derived.TacticsIn
import Derived.Test.YtkahjpbnlclhhaaDoorProg
import Derived.Test.YtkahjpbnlclhhaaDoorRows
import Derived.WalkKit
import Derived.WalkLawsBesides
import Derived.WalkSpells
import Derived.Test.YtkahjpbnlclhhaaDoorC17L
import Derived.Test.YtkahjpbnlclhhaaDoorC17S
import Derived.Test.YtkahjpbnlclhhaaDoorC17U

namespace Go.Proofs.YtkahjpbnlclhhaaDoor
open Go.RowKit Go.Sky

def fewK (x : Blk) : Bool := decide (x.b.size ≤ 30) || (!decide (x.b.size ≤ 1000) && decide (x.b.size ≤ 1005))
def fewB (q : List Blk) : Bool := decide (q.length ≤ 62) && q.all fewK
theorem fewK_cases (x : Blk) : (¬ (30 < (x.b.size : Int)) ∧ ¬ (1005 < (x.b.size : Int)) ∧ fewK x = true) ∨
    ((30 < (x.b.size : Int)) ∧ ((x.b.size : Int) ≤ 1000) ∧ fewK x = false) ∨
    ((30 < (x.b.size : Int)) ∧ ¬ ((x.b.size : Int) ≤ 1000) ∧ ¬ (1005 < (x.b.size : Int)) ∧ fewK x = true) ∨
    ((30 < (x.b.size : Int)) ∧ ¬ ((x.b.size : Int) ≤ 1000) ∧ (1005 < (x.b.size : Int)) ∧ fewK x = false) := by
  unfold fewK
  by_cases h1 : 30 < (x.b.size : Int)
  · right
    rw [decide_eq_false (show ¬ x.b.size ≤ 30 by omega)]
    by_cases h2 : (x.b.size : Int) ≤ 1000
    · left; exact ⟨h1, h2, by rw [decide_eq_true (by omega)]; rfl⟩
    · right
      rw [decide_eq_false (show ¬ x.b.size ≤ 1000 by omega)]
      by_cases h3 : 1005 < (x.b.size : Int)
      · right; exact ⟨h1, h2, h3, by rw [decide_eq_false (by omega)]; rfl⟩
      · left; exact ⟨h1, h2, h3, by rw [decide_eq_true (by omega)]; rfl⟩
  · left; exact ⟨h1, by omega, by rw [decide_eq_true (by omega)]; rfl⟩
theorem fewK_no {q : List Blk} {x : Blk} (h : x ∈ q) (hx : fewK x = false) : q.all fewK = false := by
  rw [List.all_eq_false]
  exact ⟨x, h, by rw [hx]; decide⟩

set_option maxRecDepth 100000 in
set_option maxHeartbeats 4000000 in
theorem fewBlocks_any (A : Option Addr) (n cap : Nat) (q : List Blk) (w : World) (hr : Rd w 4 encK A n q) :
    Calls Tryd.prog 7 #[.slice A n cap] w fun e w' => e = .returned (.bool (fewB q)) ∧ w = w' := by
  have HL := Lib.hid hr.len
  have HR := Lib.hid hr; clear hr
  by_cases h62 : 62 < n
  · have HV := Lib.hid (show fewB q = false by unfold fewB; rw [decide_eq_false (by rw [HL.out]; omega)]; rfl)
    go_enter Tryd.func7, Tryd.ntmps7
    go_wp2_with fail
    go_ret
    exact ⟨by rw [HV.out]; rfl, rfl⟩
  have HV := Lib.hid (show fewB q = q.all fewK by unfold fewB; rw [decide_eq_true (by rw [HL.out]; omega)]; rfl)
  go_enter Tryd.func7, Tryd.ntmps7
  go_wp2_with fail
  go_loopw [3] (fun i wr => ∃ k : Nat, k ≤ n ∧ i = .int .i64 (k : Int) ∧ Hid ((q.take k).all fewK = true) ∧ wr = w) (fun i _ => n - (intOf i).toNat)
  case atStart => exact ⟨0, by omega, rfl, rfl, rfl⟩
  case round =>
    obtain ⟨k, hk, rfl, HF, rfl⟩ := hrel
    by_cases hlt : k < n
    · obtain ⟨b, o, x, rfl, hb, hx, hc⟩ := HR.out.at_ hlt
      have g0 := hc 0 _ rfl
      have g1 := hc 1 _ rfl
      have g2 := hc 2 _ rfl
      have g3 := hc 3 _ rfl
      simp only [Nat.add_zero] at g0
      have HST := Lib.hid (show (q.take (k + 1)).all fewK = ((q.take k).all fewK && fewK x) by rw [take_snoc q k x hx, List.all_append]; simp)
      have HMEM := Lib.hid (List.mem_of_getElem? hx)
      have i0 : (0 : Int) ≤ (k : Int) := by omega
      have i1 : (k : Int) < (n : Int) := by omega
      clear hx hc
      rcases fewK_cases x with ⟨h1, h2, h4⟩ | ⟨h1, h2, h4⟩ | ⟨h1, h2, h3, h4⟩ | ⟨h1, h2, h3, h4⟩
      all_goals
        have HQ := Lib.hid h4
        clear h4
        go_wp2_with fail
      · go_roundw
        case rel => exact ⟨k + 1, by omega, by go_num, by unfold Hid; rw [HST.out, HF.out, HQ.out]; rfl, trivial⟩
        case measure => simp [intOf]; omega
      · go_ret
        exact ⟨by rw [HV.out, fewK_no HMEM.out HQ.out]; rfl, rfl⟩
      · go_roundw
        case rel => exact ⟨k + 1, by omega, by go_num, by unfold Hid; rw [HST.out, HF.out, HQ.out]; rfl, trivial⟩
        case measure => simp [intOf]; omega
      · go_ret
        exact ⟨by rw [HV.out, fewK_no HMEM.out HQ.out]; rfl, rfl⟩
    · have HW := Lib.hid (show fewB q = true by
        rw [HV.out]
        have h := HF.out
        rw [List.take_of_length_le (by rw [HL.out]; omega)] at h
        exact h)
      go_wp2_with fail
      go_ret
      exact ⟨by rw [HW.out]; rfl, rfl⟩

set_option maxHeartbeats 400000 in
theorem copyBlks_any (A : Option Addr) (n cap : Nat) (xs : List Blk) (w : World) (hn : n ≤ 1000000) (hr : Rd w 4 encK A n xs) :
    Calls Tryd.prog 9 #[.slice A n cap] w fun e w' => ∃ A' cap', e = .returned (.slice A' n cap') ∧ Sky.Own w' w.heap.size 54 4 encK A' n cap' xs ∧ New w w' := by
  obtain ⟨i0, hi, hz0, hz1, hz2⟩ := info_parts infoBlk
  have HR := Lib.hid hr; clear hr
  go_enter Tryd.func9, Tryd.ntmps9
  go_wp2_with (at_builtin; refine wpList_pour _ rfl _ _ 22 rfl 54 i0 _ 4 40 Tryd.underlying22 hi hz0 hz1 hz2 rfl (by omega) w.heap.size encK _ 0 0 [] rfl (by exact Sky.Own.empty _ _ _ _ encK_len _ (by simp) (by simp)) A n cap xs rfl (by exact HR.out.keep ((New.refl _).alloc _)) encK_one (by unfold maxLen; omega) (by omega) (by simp) ?_; intro A2 cap2 w2 hown2 hg2 hN2)
  go_ret
  refine ⟨A2, cap2, rfl, ?_, hN2 w ((New.refl w).alloc _) (Nat.le_refl _)⟩
  rw [Nat.zero_add] at hown2
  exact hown2

def largeK (x : Blk) : Bool := bodyE x != 0
theorem largeK_iff (x : Blk) : largeK x = false ↔ x.b.size ≤ 1000 := by
  unfold largeK bodyE
  by_cases h : 1000 < x.b.size
  · rw [if_pos h]; constructor
    · intro h; cases h
    · intro h; omega
  · rw [if_neg h]; constructor
    · intro _; omega
    · intro _; rfl
def blocksE (q : List Blk) (c : Int) : Int := if 60 < q.length then 8 else if q.any largeK = true then 8 else if inR c 1 30 = true then 0 else 2

theorem blkClos (x : Blk) (w : World) : Calls Tryd.prog 69 #[.agg #[.int .i64 x.n, .int .i64 x.c, .int .i64 x.k, .string x.b]] w fun e w' => e = .returned (.bool (largeK x)) ∧ New w w' := by
  have N0 := (New.refl w).alloc (.cells #[.int .i64 x.n, .int .i64 x.c, .int .i64 x.k, .string x.b] 54)
  have b0 := Bx.mk w 54 #[.int .i64 x.n, .int .i64 x.c, .int .i64 x.k, .string x.b]
  have HV := Lib.hid (show largeK x = (bodyE x != 0) from rfl)
  have c0 : World.cell? _ ⟨w.heap.size, 0, none⟩ = some (.int .i64 x.n) := b0.cell 0
  have c1 : World.cell? _ ⟨w.heap.size, 1, none⟩ = some (.int .i64 x.c) := b0.cell 1
  have c2 : World.cell? _ ⟨w.heap.size, 2, none⟩ = some (.int .i64 x.k) := b0.cell 2
  have c3 : World.cell? _ ⟨w.heap.size, 3, none⟩ = some (.string x.b) := b0.cell 3
  have l2 := b0.lt
  go_enter Tryd.func69, Tryd.ntmps69
  go_wp2_with fail
  refine (bodyErr_any x _).mono ?_
  rintro e w3 ⟨rfl, n3⟩
  go_wp2_with fail
  go_ret
  exact ⟨by rw [HV.out]; rfl, N0.trans n3⟩

set_option maxRecDepth 100000 in
set_option maxHeartbeats 1000000 in
theorem idxFuncB (g : Nat) (cb : Array Value) (p : Blk → Bool) (A : Option Addr) (n cap : Nat) (xs : List Blk) (w : World) (hn : n ≤ 1000000) (hr : Rd w 4 encK A n xs) (eg : ∀ (args : Array Value) (W : World), (callFunc g args).run Tryd.prog W = .ok (.enter g args) W)
    (hp : ∀ x, x ∈ xs → ∀ W, New w W → Calls Tryd.prog g (#[.agg #[.int .i64 x.n, .int .i64 x.c, .int .i64 x.k, .string x.b]] ++ cb) W fun e w' => e = .returned (.bool (p x)) ∧ New W w') :
    Calls Tryd.prog 88 #[.slice A n cap, .func (.func g) #[] cb] w fun e w' => e = .returned (.int .i64 (idxS p xs)) ∧ New w w' := by
  have HR := Lib.hid hr; clear hr
  have HP := Lib.hid hp; clear hp
  go_enter Tryd.func88, Tryd.ntmps88
  go_wp2
  go_loopw [5, 8] (fun _ i wr => ∃ k : Nat, k ≤ n ∧ i = .int .i64 k ∧ Hid (∀ j x, j < k → xs[j]? = some x → p x = false) ∧ New w wr) (fun _ i _ => n - (intOf i).toNat)
  case atStart => exact ⟨0, by omega, rfl, (fun j x hj => absurd hj (by omega)), New.refl _⟩
  case round =>
    obtain ⟨k, hk, rfl, HF, hN⟩ := hrel
    by_cases hlt : k < n
    · obtain ⟨b, o, x, rfl, hb, hx, hc⟩ := (HR.out.keep hN).at_ hlt
      have g0 := hc 0 _ rfl
      have g1 := hc 1 _ rfl
      have g2 := hc 2 _ rfl
      have g3 := hc 3 _ rfl
      simp only [Nat.add_zero] at g0
      have HX := Lib.hid hx
      clear hx hc
      obtain ⟨q, hq⟩ : ∃ q, p x = q := ⟨_, rfl⟩
      have HQ := Lib.hid hq
      cases q
      all_goals
        go_wp2_with fail
        refine (HP.out x (List.mem_of_getElem? HX.out) _ hN).mono ?_
        rintro e w1 ⟨he, hn1⟩
        rw [HQ.out] at he
        subst he
        clear hq
      · go_wp2
        go_roundw
        case rel => exact ⟨k + 1, by omega, by go_num, fun j y hj hy => by
          rcases Nat.lt_or_ge j k with h | h
          · exact HF.out j y h hy
          · obtain rfl : j = k := by omega
            have hxy := HX.out
            rw [hy] at hxy
            injection hxy with hxy
            rw [hxy]
            exact HQ.out, hN.trans hn1⟩
        case measure => simp [intOf]; omega
      · go_wp2
        go_ret
        exact ⟨by rw [idxS_hit p xs k x HX.out HQ.out HF.out]; rfl, hN.trans hn1⟩
    · go_wp2
      go_ret
      exact ⟨by rw [idxS_miss p xs n HR.out.len (fun j y hj hy => HF.out j y (by omega) hy)]; rfl, hN⟩

set_option maxRecDepth 100000 in
set_option maxHeartbeats 400000 in
theorem containsFuncB (g : Nat) (cb : Array Value) (p : Blk → Bool) (A : Option Addr) (n cap : Nat) (xs : List Blk) (w : World) (hn : n ≤ 1000000) (hr : Rd w 4 encK A n xs) (eg : ∀ (args : Array Value) (W : World), (callFunc g args).run Tryd.prog W = .ok (.enter g args) W)
    (hp : ∀ x, x ∈ xs → ∀ W, New w W → Calls Tryd.prog g (#[.agg #[.int .i64 x.n, .int .i64 x.c, .int .i64 x.k, .string x.b]] ++ cb) W fun e w' => e = .returned (.bool (p x)) ∧ New W w') :
    Calls Tryd.prog 68 #[.slice A n cap, .func (.func g) #[] cb] w fun e w' => e = .returned (.bool (xs.any p)) ∧ New w w' := by
  have HR := Lib.hid hr; clear hr
  have HP := Lib.hid hp; clear hp
  have HG := Lib.hid eg; clear eg
  have HA := Lib.hid (idxS_any p xs)
  go_enter Tryd.func68, Tryd.ntmps68
  go_wp2_with (go_at_call 88; refine (idxFuncB g cb p A n cap xs _ hn HR.out HG.out HP.out).mono ?_; rintro e w1 ⟨rfl, hn1⟩)
  go_ret
  exact ⟨by rw [← HA.out]; rfl, hn1⟩

theorem blocksE_eq (q : List Blk) (c : Int) : blocksE q c = firstE [errU (decide (q.length ≤ 60) && !q.any largeK) 8, errU (inR c 1 30) 2] := by
  unfold blocksE
  by_cases h : 60 < q.length
  · rw [if_pos h, decide_eq_false (by omega)]; rfl
  · rw [if_neg h, decide_eq_true (by omega)]
    cases q.any largeK
    · cases inR c 1 30 <;> rfl
    · rfl

set_option maxRecDepth 100000 in
set_option maxHeartbeats 2000000 in
theorem blocksErr_any (A : Option Addr) (n cap : Nat) (q : List Blk) (c : Int) (w : World) (hn : n ≤ 1000000) (hr : Rd w 4 encK A n q) :
    Calls Tryd.prog 38 #[.slice A n cap, .int .i64 c] w fun e w' => e = .returned (.int .i64 (blocksE q c)) ∧ New w w' := by
  have HL := Lib.hid hr.len
  have HR := Lib.hid hr; clear hr
  have HG := Lib.hid (enters_go (f := 69) Tryd.func69 (by kernel_rfl) rfl)
  have HV := Lib.hid (blocksE_eq q c)
  rw [HL.out] at HV
  go_enter Tryd.func38, Tryd.ntmps38
  go_wp2_with fail
  refine (containsFuncB 69 #[] largeK A n cap q _ hn HR.out HG.out (fun y _ W _ => blkClos y W)).mono ?_
  rintro e w1 ⟨rfl, n1⟩
  obtain ⟨kn, hkn⟩ : ∃ k, q.any largeK = k := ⟨_, rfl⟩
  rw [hkn] at HV ⊢
  clear hkn
  by_cases h60 : n ≤ 60
  · have d1 : decide ((n : Int) ≤ 60) = true := decide_eq_true (by omega)
    rw [decide_eq_true h60, Bool.true_and] at HV
    go_wp2_with (first | (go_at_call 42; refine (unless_any _ _ _).mono ?_; rintro e w' ⟨rfl, rfl⟩) | (go_at_call 53; refine (within_any _ _ _ _).mono ?_; rintro e w' ⟨rfl, rfl⟩) | (go_at_call 41; refine (first_any _ 2 2 [_, _] _ (by omega) rfl (cells_new _ _ _ _ (by simp) _ rfl)).mono ?_; rintro e w' ⟨rfl, rfl⟩; rw [← HV.out]))
    go_ret
    exact ⟨rfl, n1.alloc _⟩
  · have d1 : decide ((n : Int) ≤ 60) = false := decide_eq_false (by omega)
    rw [decide_eq_false h60, Bool.false_and] at HV
    go_wp2_with (first | (go_at_call 42; refine (unless_any _ _ _).mono ?_; rintro e w' ⟨rfl, rfl⟩) | (go_at_call 53; refine (within_any _ _ _ _).mono ?_; rintro e w' ⟨rfl, rfl⟩) | (go_at_call 41; refine (first_any _ 2 2 [_, _] _ (by omega) rfl (cells_new _ _ _ _ (by simp) _ rfl)).mono ?_; rintro e w' ⟨rfl, rfl⟩; rw [← HV.out]))
    go_ret
    exact ⟨rfl, n1.alloc _⟩

theorem large_hit {q : List Blk} {x : Blk} (h : x ∈ q) (hx : largeK x = true) : q.any largeK = true := List.any_eq_true.2 ⟨x, h, hx⟩

set_option maxRecDepth 100000 in
set_option maxHeartbeats 4000000 in
theorem refBlocksErr_any (A : Option Addr) (n cap : Nat) (q : List Blk) (c : Int) (w : World) (hr : Rd w 4 encK A n q) :
    Calls Tryd.prog 11 #[.slice A n cap, .int .i64 c] w fun e w' => e = .returned (.int .i64 (blocksE q c)) ∧ New w w' := by
  have HL := Lib.hid hr.len
  have HR := Lib.hid hr; clear hr
  by_cases h60 : 60 < n
  · have HV := Lib.hid (show blocksE q c = 8 by unfold blocksE; rw [if_pos (by rw [HL.out]; exact h60)])
    go_enter Tryd.func11, Tryd.ntmps11
    go_wp2_with fail
    go_ret
    exact ⟨by rw [HV.out]; rfl, New.refl _⟩
  have HV := Lib.hid (show blocksE q c = if q.any largeK = true then 8 else if inR c 1 30 = true then 0 else 2 by unfold blocksE; rw [if_neg (by rw [HL.out]; exact h60)])
  go_enter Tryd.func11, Tryd.ntmps11
  go_wp2_with fail
  go_loopw [5, 6] (fun i _ wr => ∃ k : Nat, k ≤ n ∧ i = .int .i64 (k : Int) ∧ Hid ((q.take k).any largeK = false) ∧ New w wr) (fun i _ _ => n - (intOf i).toNat)
  case atStart => exact ⟨0, by omega, rfl, rfl, New.refl _⟩
  case round =>
    obtain ⟨k, hk, rfl, HF, hN⟩ := hrel
    by_cases hlt : k < n
    · obtain ⟨b, o, x, rfl, hb, hx, hc⟩ := (HR.out.keep hN).at_ hlt
      have g0 := hc 0 _ rfl
      have g1 := hc 1 _ rfl
      have g2 := hc 2 _ rfl
      have g3 := hc 3 _ rfl
      simp only [Nat.add_zero] at g0
      have HST := Lib.hid (show (q.take (k + 1)).any largeK = ((q.take k).any largeK || largeK x) by rw [take_snoc q k x hx, List.any_append]; simp)
      have HMEM := Lib.hid (List.mem_of_getElem? hx)
      have i0 : (0 : Int) ≤ (k : Int) := by omega
      have i1 : (k : Int) < (n : Int) := by omega
      clear hx hc
      by_cases h1 : 1000 < x.b.size
      · have HB := Lib.hid (show bodyE x = 8 by unfold bodyE; rw [if_pos h1])
        have HQ := Lib.hid (show largeK x = true by unfold largeK; rw [HB.out]; rfl)
        go_wp2_with fail
        refine (blockErr_any x _).mono ?_
        rintro e w3 ⟨rfl, n3⟩
        rw [HB.out]
        go_wp2_with fail
        go_ret
        exact ⟨by rw [HV.out, large_hit HMEM.out HQ.out]; rfl, hN.trans n3⟩
      · have HB := Lib.hid (show bodyE x = 0 by unfold bodyE; rw [if_neg h1])
        have HQ := Lib.hid (show largeK x = false by unfold largeK; rw [HB.out]; rfl)
        go_wp2_with fail
        refine (blockErr_any x _).mono ?_
        rintro e w3 ⟨rfl, n3⟩
        rw [HB.out]
        go_wp2_with fail
        go_roundw
        case rel => exact ⟨k + 1, by omega, by go_num, by unfold Hid; rw [HST.out, HF.out, HQ.out]; rfl, hN.trans n3⟩
        case measure => simp [intOf]; omega
    · have HW := Lib.hid (show blocksE q c = if inR c 1 30 = true then 0 else 2 by
        rw [HV.out]
        have h := HF.out
        rw [List.take_of_length_le (by rw [HL.out]; omega)] at h
        rw [h]; rfl)
      clear HV
      obtain ⟨r, hr⟩ : ∃ r, inR c 1 30 = r := ⟨_, rfl⟩
      have HRR := Lib.hid hr
      rw [hr] at HW
      clear hr
      cases r
      all_goals
        go_wp2_with (go_at_call 17; refine (bWithin_any _ _ _ _).mono ?_; rintro e w' ⟨rfl, rfl⟩; rw [HRR.out])
        go_ret
        exact ⟨by rw [HW.out]; rfl, hN⟩
end Go.Proofs.YtkahjpbnlclhhaaDoor
