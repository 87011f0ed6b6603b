/- Contracts: Filled, by what it answers; one polygon alone.
   The walk of ChartFilled. -/
import Derived.BigQuiet
import Derived.BigRegion
import Derived.Deep.AppendLies
import Derived.Deep.Draws
import Derived.Deep.Quiet
import Derived.Deep.QuietTactic
import Derived.DeepKeys4
import Derived.Laws.BitsAllLaws
import Derived.Laws.Rows
import Derived.Lib.Hide
import Derived.Lib.SliceRun
import Derived.LoopIn
import Derived.LoopNIn
import Derived.MapKept
import Derived.Maps.Keyed
import Derived.Maps.OwnIn
import Derived.Maps.OwnSet
import Derived.OrdersIn
import Derived.OwnWalkIn
import Derived.RangeFuncBound
import Derived.RangeFuncCalls
import Derived.RangeFuncLeaves
import Derived.RangeFuncNested
import Derived.Shelf.Abstract
import Derived.Shelf.GgSortFunc.InsertionK
import Derived.Shelf.RegionOpen
import Derived.Shelf.SlSortCmp.NoneTotal
import Derived.Shelf.SlSortCmp.QuietGrown
import Derived.Shelf.SlSortCmp.WholeK
import Derived.StillTail
import Derived.TacticsIn
import Derived.TacticsInMore
import Derived.Test.YtaogolnoiffgiaaProg
import Derived.WalkArith
import Derived.WalkKit
import Derived.WalkLawsBesides
import Derived.WalkSpells
import Derived.Test.YtaogolnoiffgiaaC22I
import Derived.Test.YtaogolnoiffgiaaC22ZE

namespace Go.Sky.Ch
open Go.RowKit Go.Sky
theorem tdiv2_bd {a N : Int} (h : -N ≤ a ∧ a ≤ N) : -N ≤ a.tdiv 2 ∧ a.tdiv 2 ≤ N := by
  rcases Int.le_total 0 a with h0 | h0
  · rw [Int.tdiv_eq_ediv_of_nonneg h0]
    omega
  · have e : a.tdiv 2 = -((-a).tdiv 2) := by rw [Int.neg_tdiv, Int.neg_neg]
    rw [e, Int.tdiv_eq_ediv_of_nonneg (by omega)]
    omega
theorem fill_ok {W H : Int} {l : List (List Pl)} (h : fillE W H l = 0) : (1 ≤ W ∧ W ≤ 8) ∧ (1 ≤ H ∧ H ≤ 8) ∧ l.length ≤ 64 ∧ consE l = 0 := by
  unfold fillE at h
  split at h
  · cases h
  · rename_i hs
    have hs2 : sizeOk W H = true := by simpa using hs
    unfold sizeOk at hs2
    rw [Bool.and_eq_true] at hs2
    split at h
    · cases h
    · exact ⟨inR_iff.1 hs2.1, inR_iff.1 hs2.2, by omega, h⟩
theorem one_fill {c : List Pl} {x y : Int} : sumT [c] x y 1 = turnsS c x y := by
  rw [sumT, sumT]
  show 0 + turnsS c x y = turnsS c x y
  omega
def in8 (p : Pl) : Bool := decide (p.1 ≤ 8) && decide (p.2 ≤ 8)
theorem in8_box {c : List Pl} (h : ∀ p ∈ c, placeOk p.1 p.2 = true) (k : c.reverse.all in8 = true) : ∀ p ∈ c, InBox 8 8 p := by
  intro p hp
  have h1 := place_bd (h p hp)
  have h2 := List.all_eq_true.1 k p (List.mem_reverse.2 hp)
  unfold in8 at h2
  rw [Bool.and_eq_true] at h2
  have a := of_decide_eq_true h2.1
  have b := of_decide_eq_true h2.2
  exact ⟨⟨h1.1.1, a⟩, h1.2.1, b⟩
theorem turns_bd {c : List Pl} (h : (conS c).2 = 0) (x y : Int) : -200 ≤ turnsS c x y ∧ turnsS c x y ≤ 200 := by
  have h1 := turnsTo_bd (steps_ok h) x y _ (Nat.le_refl _)
  have h2 := (con_places h).2.1
  unfold turnsS
  omega
/-- The sum up to a cell. -/
def partS (c : List Pl) (y x : Nat) : Int := sumN (fun j => sumN (fun i => turnsS c (i : Int) (j : Int)) 8) y + sumN (fun i => turnsS c (i : Int) (y : Int)) x
theorem sumN_bd {f : Nat → Int} {B : Int} (h : ∀ i, -B ≤ f i ∧ f i ≤ B) : ∀ n : Nat, -((n : Int) * B) ≤ sumN f n ∧ sumN f n ≤ (n : Int) * B
  | 0 => by simp [sumN]
  | n + 1 => by
    have h1 := sumN_bd h n
    have h2 := h n
    rw [sumN, show ((n + 1 : Nat) : Int) * B = (n : Int) * B + B by rw [Int.natCast_add, Int.add_mul]; simp]
    omega
theorem partS_bd {c : List Pl} (h : (conS c).2 = 0) {y x : Nat} (hy : y ≤ 8) (hx : x ≤ 8) : -100000 ≤ partS c y x ∧ partS c y x ≤ 100000 := by
  have h1 := sumN_bd (f := fun i => turnsS c (i : Int) (y : Int)) (B := 200) (fun i => turns_bd h _ _) x
  have h2 := sumN_bd (f := fun j => sumN (fun i => turnsS c (i : Int) (j : Int)) 8) (B := 1600) (fun j => by
    have := sumN_bd (f := fun i => turnsS c (i : Int) (j : Int)) (B := 200) (fun i => turns_bd h _ _) 8
    omega) y
  unfold partS
  omega
theorem partS_row (c : List Pl) (y : Nat) : partS c y 8 = partS c (y + 1) 0 := by
  unfold partS
  show _ = sumN (fun j => sumN (fun i => turnsS c (i : Int) (j : Int)) 8) y + sumN (fun i => turnsS c (i : Int) (y : Int)) 8 + 0
  omega
theorem partS_step (c : List Pl) (y x : Nat) : partS c y (x + 1) = partS c y x + turnsS c (x : Int) (y : Int) := by
  unfold partS
  rw [sumN]
  omega
theorem partS_all {c : List Pl} (h : (conS c).2 = 0) (k : c.reverse.all in8 = true) : partS c 8 0 = areaS c := by
  have := sum2_area (w := 8) (h := 8) (steps_ok h) (in8_box (con_places h).2.2 k)
  unfold sum2 at this
  unfold partS
  rw [this]
  show areaS c + 0 = areaS c
  omega
end Go.Sky.Ch
namespace Go.Proofs.Ytaogolnoiffgiaa
open Go.RowKit Go.Sky Go.Sky.Ch

theorem area_bd {c : List Pl} (h : (conS c).2 = 0) : -180000 ≤ areaS c ∧ areaS c ≤ 180000 := by
  obtain ⟨h4, h200, hpl⟩ := conS_ok h
  have h1 := area2_bd hpl (fun e => by rw [e] at h4; simp at h4) c.length
  unfold areaS
  exact tdiv2_bd (N := 180000) (by omega)
theorem cFilled_bad {W H E : Int} {l : List (List Pl)} (h : fillE W H l = E) (h0 : E ≠ 0) (A : Option Addr) (n cap : Nat) (w : World) (hn : n ≤ 64) (hrl : ∀ c ∈ l, c.length ≤ 1000000) (hr : RowsL w 2 encPl A n l) :
    Calls Try.prog 57 #[.agg #[.int .i64 W, .int .i64 H], .slice A n cap] w fun e w' => e = .returned (.tuple #[.slice none 0 0, .int .i64 E]) ∧ New w w' := by
  have hl := hr.len
  cases hz : sizeOk W H
  · exact h ▸ cFilled_size W H A n cap l w (by omega) hl (.inl hz)
  · have hz2 := hz
    unfold sizeOk at hz2
    rw [Bool.and_eq_true] at hz2
    have hW := inR_iff.1 hz2.1
    have hH := inR_iff.1 hz2.2
    obtain ⟨Wn, rfl⟩ : ∃ k : Nat, W = (k : Int) := ⟨W.toNat, by omega⟩
    obtain ⟨Hn, rfl⟩ : ∃ k : Nat, H = (k : Int) := ⟨H.toNat, by omega⟩
    have hc : consE l = E := by
      rw [← h]
      unfold fillE
      rw [if_neg (by rw [hz]; decide), if_neg (by omega)]
    refine (cFilled_in Wn Hn A n cap l w (by omega) (by omega) hn hrl hr).mono ?_
    rintro e w' ⟨hn', ⟨v, h1, h2, he⟩ | ⟨h1, _⟩⟩
    · rw [hc] at h1; subst h1; exact ⟨he, hn'⟩
    · rw [hc] at h1; exact absurd h1 h0
theorem cFilled_ok {W H : Nat} {l : List (List Pl)} (h : consE l = 0) (A : Option Addr) (n cap : Nat) (w : World) (hW : 1 ≤ W ∧ W ≤ 8) (hH : 1 ≤ H ∧ H ≤ 8) (hn : n ≤ 64) (hrl : ∀ c ∈ l, c.length ≤ 1000000) (hr : RowsL w 2 encPl A n l) :
    Calls Try.prog 57 #[.agg #[.int .i64 (W : Int), .int .i64 (H : Int)], .slice A n cap] w fun e w' => New w w' ∧ ∃ C c, e = .returned (.tuple #[.slice C H c, .int .i64 0]) ∧ H ≤ c ∧ RowsL w' 1 encI C H (fillS l W H) := by
  refine (cFilled_in W H A n cap l w hW hH hn hrl hr).mono ?_
  rintro e w' ⟨hn', ⟨v, h1, h2, _⟩ | ⟨_, h2⟩⟩
  · rw [h] at h1; exact absurd h1.symm h2
  · exact ⟨hn', h2⟩
theorem cFilled_one {c : List Pl} (h : (conS c).2 = 0) (A : Option Addr) (cap : Nat) (w : World) (hr : RowsL w 2 encPl A 1 [c]) :
    Calls Try.prog 57 #[.agg #[.int .i64 8, .int .i64 8], .slice A 1 cap] w fun e w' => New w w' ∧ ∃ C k, e = .returned (.tuple #[.slice C 8 k, .int .i64 0]) ∧ 8 ≤ k ∧ RowsL w' 1 encI C 8 (fillS [c] 8 8) :=
  cFilled_ok (W := 8) (H := 8) (l := [c]) (by show (if (conS c).2 = 0 then 0 else (conS c).2) = 0; rw [if_pos h]) A 1 cap w (by omega) (by omega) (by omega) (fun d hd => by
    rw [List.mem_singleton] at hd
    subst hd
    have := (con_places h).2.1
    omega) hr
theorem one_row {c : List Pl} {w : World} {B : Option Addr} {n k : Nat} (hle : n ≤ k) (hr : Rd w 2 encPl B n c) : RowsL (w.alloc (.cells #[.slice B n k] 82)) 2 encPl (some ⟨w.heap.size, 0, none⟩) 1 [c] := by
  refine ⟨[⟨B, n, k⟩], rd_bx (Bx.mk _ _ _) encSl_len _ rfl 1 rfl, rfl, fun i r xs h1 h2 => ?_⟩
  cases i with
  | zero =>
    injection h1 with h1
    injection h2 with h2
    subst h1 h2
    exact ⟨hle, hr.keep ((New.refl w).alloc _)⟩
  | succ i => simp at h1
theorem refFilled_is {W H : Nat} {l : List (List Pl)} (h : consE l = 0) (A : Option Addr) (n cap : Nat) (w : World) (hW : 1 ≤ W ∧ W ≤ 8) (hH : 1 ≤ H ∧ H ≤ 8) (hn : n ≤ 64) (hr : RowsL w 2 encPl A n l) :
    Calls Try.prog 60 #[.agg #[.int .i64 (W : Int), .int .i64 (H : Int)], .slice A n cap] w fun e w' => New w w' ∧ ∃ C c, e = .returned (.slice C H c) ∧ H ≤ c ∧ RowsL w' 1 encI C H (fillS l W H) :=
  refFilled_any W H A n cap l w hW.2 hH.2 hn (consE_ok h) hr
end Go.Proofs.Ytaogolnoiffgiaa

namespace Go.Proofs.Ytaogolnoiffgiaa
open Go.RowKit Go.Sky Go.Sky.Ch

theorem rev_el {c : List Pl} {n m t : Nat} {p : Pl} (hn : c.length = n) (hm : n = m + 1 + t) (h : c[m]? = some p) : c.reverse[t]? = some p := by
  rw [List.getElem?_reverse (by omega), hn, show n - 1 - t = m by omega]
  exact h
theorem row_at8 {c : List Pl} {y : Nat} {xs : List Int} (hy : y < 8) (h : (fillS [c] 8 8)[y]? = some xs) : xs.length = 8 ∧ ∀ x : Nat, x < 8 → xs[x]? = some (turnsS c (x : Int) (y : Int)) := by
  rw [fillS_at hy] at h
  injection h with h
  subst h
  refine ⟨rowT_len _ _ _, fun x hx => ?_⟩
  rw [rowT_at hx]
  show some (sumT [c] (x : Int) (y : Int) 1) = _
  rw [one_fill]

set_option maxRecDepth 100000 in
set_option maxHeartbeats 32000000 in
theorem filled_any (W H : Int) (A : Option Addr) (n cap : Nat) (l : List (List Pl)) (w : World) (hr : RowsL w 2 encPl A n l) :
    Calls Try.prog 9 #[.agg #[.int .i64 W, .int .i64 H], .slice A n cap] w fun e w' => e = .returned (.bool true) ∧ New w w' := by
  obtain ⟨i0, hi, hz0, hz1, hz2⟩ := info_parts infoPl
  have HL := Lib.hid hr.len
  have HR := Lib.hid hr
  clear hr
  have N0 := (New.refl w).alloc (.cells #[.int .i64 W, .int .i64 H] 101)
  have b0 := Bx.mk w 101 #[.int .i64 W, .int .i64 H]
  obtain ⟨W0, hW0⟩ : ∃ X, w.alloc (.cells #[.int .i64 W, .int .i64 H] 101) = X := ⟨_, rfl⟩
  obtain ⟨sb, hsb⟩ : ∃ s, w.heap.size = s := ⟨_, rfl⟩
  rw [hW0] at N0 b0
  rw [hsb] at b0
  by_cases h12 : 12 < n
  · go_enter Try.func9, Try.ntmps9
    go_wp2_with fail
    try rw [hW0]
    try rw [hsb]
    clear hW0 hsb
    refine (awake6_any _).mono ?_
    rintro e w1 ⟨rfl, n1⟩
    go_wp2_with fail
    go_ret
    exact ⟨rfl, N0.trans n1⟩
  go_enter Try.func9, Try.ntmps9
  go_wp2_with fail
  try rw [hW0]
  try rw [hsb]
  clear hW0 hsb
  refine (awake6_any _).mono ?_
  rintro e w1 ⟨rfl, n1⟩
  have N1 := N0.trans n1
  have b1 := b0.keep n1
  clear N0 b0 n1
  go_wp2_with fail
  go_loopw [5] (fun i wr => ∃ k : Nat, k ≤ n ∧ i = .int .i64 (k : Int) ∧ Hid (∀ j c, j < k → l[j]? = some c → c.length ≤ 40) ∧ New w1 wr) (fun i _ => n - (intOf i).toNat)
  case atStart => exact ⟨0, by omega, rfl, fun j c hj => absurd hj (by omega), New.refl _⟩
  case round =>
    obtain ⟨k, hk, rfl, HF, hN⟩ := hrel
    by_cases hlt : k < n
    · as_aux_lemma =>
      obtain ⟨b, o, r, xs, rfl, hb, hx, hc, hrow⟩ := (HR.out.keep (N1.trans hN)).at_ hlt
      obtain ⟨RA, rn, rc⟩ := r
      have hxl : xs.length = rn := hrow.len
      have HX := Lib.hid hx
      have HXL := Lib.hid hxl
      dsimp only at hc
      have i0' : (0 : Int) ≤ (k : Int) := by omega
      have i1' : (k : Int) < (n : Int) := by omega
      clear hx hrow hxl
      by_cases h40 : 40 < rn
      · go_wp2_with fail
        go_ret
        exact ⟨rfl, N1.trans hN⟩
      · go_wp2_with fail
        go_roundw
        case rel => exact ⟨k + 1, by omega, by go_num, fun j z hj hz => by
          rcases Nat.lt_or_ge j k with h | h
          · exact HF.out j z h hz
          · obtain rfl : j = k := by omega
            have hxy := HX.out
            rw [hz] at hxy
            injection hxy with hxy
            rw [hxy, HXL.out]; omega, hN⟩
        case measure => simp [intOf]; omega
    obtain rfl : k = n := by omega
    have HRL := Lib.hid (show ∀ c ∈ l, c.length ≤ 40 from fun c hc => by
      obtain ⟨i, hi, rfl⟩ := List.getElem_of_mem hc
      exact HF.out i _ (by rw [← HL.out]; exact hi) (List.getElem?_eq_getElem hi))
    have HRB := Lib.hid (show ∀ c ∈ l, c.length ≤ 1000000 from fun c hc => by have := HRL.out c hc; omega)
    obtain ⟨W2, hW2⟩ : ∃ X, wr = X := ⟨_, rfl⟩
    rw [hW2] at hN ⊢
    have N2 := N1.trans hN
    have b2 := b1.keep hN
    clear hW2 hN HF
    have e0 : W2.cell? ⟨sb, 0, none⟩ = some (.int .i64 W) := b2.cell 0
    have e1 : W2.cell? ⟨sb, 1, none⟩ = some (.int .i64 H) := b2.cell 1
    have le := b2.lt
    obtain ⟨E, hE⟩ : ∃ E, fillE W H l = E := ⟨_, rfl⟩
    have HE := Lib.hid hE
    clear hE
    by_cases h0 : E = 0
    rotate_left
    · as_aux_lemma =>
      have HNE := Lib.hid h0
      have bE : (E != 0) = true := by simpa using h0
      have eEE : (E == E) = true := by simp
      clear h0
      go_wp2
      refine wp_region_takes0 W2 (New.refl _) 2 7 #[true, true, false, false, false, false, false, false, false] (by kernel_rfl) (by kernel_rfl) (by kernel_rfl) (by kernel_rfl) (by kernel_rfl) (by kernel_rfl) ?_
      simp only [List.take_succ_cons, List.take_zero]
      (repeat (go_big_quiet_step ((fail))))
      refine wpQuiet_nil ?_
      intro X1 n1
      refine one_next 2 (by kernel_rfl) (new_plus n1) (wpOpIn_list rfl ?_)
      gi_wp2_with fail
      refine ⟨trivial, callsIn_wide.2 ((refCopyCs_any A k cap l _ (by omega) HRB.out (HR.out.keep (N2.trans n1))).mono ?_)⟩
      rintro e X2 ⟨n2, A2, c2, rfl, _, r2⟩
      have nn2 := n1.trans n2
      have HR2 := Lib.hid r2
      clear n1 n2 r2
      gi_wp2
      refine one_next 3 (by kernel_rfl) (new_plus nn2) (wpOpIn_list rfl ?_)
      gi_wp2_with fail
      refine ⟨trivial, callsIn_wide.2 ((cFilled_bad HE.out HNE.out A2 k c2 _ (by omega) HRB.out HR2.out).mono ?_)⟩
      rintro e X3 ⟨rfl, n3⟩
      have nn3 := nn2.trans n3
      clear n3 nn2 HR2
      gi_wp2
      refine take_next 4 5 #[true, true, true, true, true, true, true, true, true] rfl (by kernel_rfl) (by kernel_rfl) (by kernel_rfl) (by kernel_rfl) (by decide) ?_
      simp only [List.take_succ_cons, List.take_zero, List.drop_succ_cons, List.drop_zero]
      (repeat (go_big_quiet_step ((fail))))
      refine wpQuiet_nil ?_
      refine end_any (new_plus nn3) (by kernel_rfl) ?_
      have N3 := N2.trans nn3
      have b3 := b2.keep nn3
      clear e0 e1 le nn3
      have e0 : X3.cell? ⟨sb, 0, none⟩ = some (.int .i64 W) := b3.cell 0
      have e1 : X3.cell? ⟨sb, 1, none⟩ = some (.int .i64 H) := b3.cell 1
      have le := b3.lt
      go_wp2_with fail
      refine (refFillErr_is HE.out A k cap _ (by omega) HRB.out (HR.out.keep N3)).mono ?_
      rintro e X4 ⟨rfl, n4⟩
      go_wp2_with fail
      go_ret
      exact ⟨rfl, N3.trans n4⟩
    subst h0
    obtain ⟨hW, hH, h64, hce⟩ := fill_ok HE.out
    obtain ⟨Wn, rfl⟩ : ∃ q : Nat, W = (q : Int) := ⟨W.toNat, by omega⟩
    obtain ⟨Hn, rfl⟩ : ∃ q : Nat, H = (q : Int) := ⟨H.toNat, by omega⟩
    have HCE := Lib.hid hce
    have HCO := Lib.hid (consE_ok hce)
    have HFR := Lib.hid (show ∀ r ∈ fillS l Wn Hn, r.length ≤ 1000000 from fun r hr => by
      unfold fillS at hr
      obtain ⟨y, _, rfl⟩ := List.mem_map.1 hr
      rw [rowT_len]; omega)
    clear hce h64
    go_wp2
    refine wp_region_takes0 W2 (New.refl _) 2 7 #[true, true, false, false, false, false, false, false, false] (by kernel_rfl) (by kernel_rfl) (by kernel_rfl) (by kernel_rfl) (by kernel_rfl) (by kernel_rfl) ?_
    simp only [List.take_succ_cons, List.take_zero]
    (repeat (go_big_quiet_step ((fail))))
    refine wpQuiet_nil ?_
    intro X1 n1
    refine one_next 2 (by kernel_rfl) (new_plus n1) (wpOpIn_list rfl ?_)
    gi_wp2_with fail
    refine ⟨trivial, callsIn_wide.2 ((refCopyCs_any A k cap l _ (by omega) HRB.out (HR.out.keep (N2.trans n1))).mono ?_)⟩
    rintro e X2 ⟨n2, A2, c2, rfl, _, r2⟩
    have nn2 := n1.trans n2
    have HR2 := Lib.hid r2
    clear n1 n2 r2
    gi_wp2
    refine one_next 3 (by kernel_rfl) (new_plus nn2) (wpOpIn_list rfl ?_)
    gi_wp2_with fail
    refine ⟨trivial, callsIn_wide.2 ((cFilled_ok HCE.out A2 k c2 _ (by omega) (by omega) (by omega) HRB.out HR2.out).mono ?_)⟩
    rintro e X3 ⟨n3, FA, fc, rfl, _, r3⟩
    have nn3 := nn2.trans n3
    have R3 := Lib.hid r3
    clear n3 nn2 HR2 r3
    gi_wp2
    refine take_next 4 5 #[true, true, true, true, true, true, true, true, true] rfl (by kernel_rfl) (by kernel_rfl) (by kernel_rfl) (by kernel_rfl) (by decide) ?_
    simp only [List.take_succ_cons, List.take_zero, List.drop_succ_cons, List.drop_zero]
    (repeat (go_big_quiet_step ((fail))))
    refine wpQuiet_nil ?_
    refine end_any (new_plus nn3) (by kernel_rfl) ?_
    have N3 := N2.trans nn3
    have b3 := b2.keep nn3
    clear e0 e1 le nn3
    have e0 : X3.cell? ⟨sb, 0, none⟩ = some (.int .i64 (Wn : Int)) := b3.cell 0
    have e1 : X3.cell? ⟨sb, 1, none⟩ = some (.int .i64 (Hn : Int)) := b3.cell 1
    have le := b3.lt
    go_wp2_with fail
    refine (refFillErr_is HE.out A k cap _ (by omega) HRB.out (HR.out.keep N3)).mono ?_
    rintro e X4 ⟨rfl, n4⟩
    have N4 := N3.trans n4
    have b4 := b3.keep n4
    have R4 := Lib.hid (R3.out.keep n4)
    clear N3 b3 n4 e0 e1 le R3
    have e0 : X4.cell? ⟨sb, 0, none⟩ = some (.int .i64 (Wn : Int)) := b4.cell 0
    have e1 : X4.cell? ⟨sb, 1, none⟩ = some (.int .i64 (Hn : Int)) := b4.cell 1
    have le := b4.lt
    go_wp2_with fail
    refine (refFilled_is HCE.out A k cap _ (by omega) (by omega) (by omega) (HR.out.keep N4)).mono ?_
    rintro e X5 ⟨n5, GA, gc, rfl, _, r5⟩
    have N5 := N4.trans n5
    have R5 := Lib.hid r5
    have R4b := Lib.hid (R4.out.keep n5)
    clear N4 b4 n5 e0 e1 le R4 r5
    go_wp2_with fail
    refine (bLists_same FA GA Hn fc gc _ _ (by omega) HFR.out R4b.out R5.out).mono ?_
    rintro e X6 ⟨rfl, n6⟩
    have N6 := N5.trans n6
    clear N5 n6 R4b R5
    go_wp2_with fail
    go_loopw [9] (fun i wr => ∃ q : Nat, q ≤ k ∧ i = .int .i64 (q : Int) ∧ New X6 wr) (fun i _ => k - (intOf i).toNat)
    case atStart => exact ⟨0, by omega, rfl, New.refl _⟩
    case round =>
      obtain ⟨q, hq, rfl, hM⟩ := hrel
      by_cases hql : q < k
      rotate_left
      · obtain rfl : q = k := by omega
        go_wp2_with fail
        go_ret
        exact ⟨rfl, N6.trans hM⟩
      have NA := N6.trans hM
      obtain ⟨b, o, r, c, rfl, hb, hx, hc, hrow⟩ := (HR.out.keep NA).at_ hql
      obtain ⟨RA, rn, rc⟩ := r
      have hcl : c.length = rn := hrow.len
      have HC := Lib.hid (HCO.out c (List.mem_of_getElem? hx))
      have hab := area_bd HC.out
      obtain ⟨hr4, hr200, hpl⟩ := con_places HC.out
      rw [hcl] at hr4 hr200
      have HPL := Lib.hid hpl
      have HRW := Lib.hid hrow.2
      have HCL := Lib.hid hcl
      have HRC := Lib.hid (con_rev HC.out)
      dsimp only at hc HRW
      obtain ⟨a, ha⟩ : ∃ a, areaS c = a := ⟨_, rfl⟩
      rw [ha] at hab
      have HAR := Lib.hid ha
      have HAV := Lib.hid (show arV c = a by unfold arV; rw [if_pos HC.out]; exact ha)
      have HAO := Lib.hid (show arV c.reverse = -a by unfold arV; rw [if_pos HRC.out, area_rev, ha])
      have q0 : (0 : Int) ≤ (q : Int) := by omega
      have q1 : (q : Int) < (k : Int) := by omega
      clear hx hrow hcl hpl ha
      obtain ⟨Y0, hY0⟩ : ∃ X, wr = X := ⟨_, rfl⟩
      rw [hY0] at hc hM NA hb HRW ⊢
      clear hY0
      go_wp2_with fail
      refine (cCopyContour_any RA rn rc c _ (by omega) HRW.out).mono ?_
      rintro e Y1 ⟨m1, D1, k1, rfl, _, p1⟩
      have P1 := Lib.hid p1
      clear p1
      go_wp2_with fail
      refine (cAreaOf_is HAV.out HC.out D1 rn k1 _ (by omega) P1.out).mono ?_
      rintro e Y2 ⟨rfl, m2⟩
      have M2 := m1.trans m2
      have HRW2 := Lib.hid (HRW.out.keep M2)
      have hc2 := M2.cell hc
      have hb2 : b < Y2.heap.size := Nat.lt_of_lt_of_le hb M2.size
      have NB := NA.trans M2
      have hMM := hM.trans M2
      clear m1 m2 P1 HRW hc hb NA hM M2
      go_wp2_with fail
      go_loopw [12, 13, 14] (fun bk ins kk wr => ∃ (t cd : Nat) (D : Option Addr), t ≤ rn ∧ kk = .int .i64 ((rn : Int) - 1 - (t : Int)) ∧ bk = .slice D t cd ∧ ins = .bool ((c.reverse.take t).all in8) ∧ Hid (Sky.Own wr Y2.heap.size 73 2 encPl D t cd (c.reverse.take t)) ∧ New Y2 wr) (fun _ _ kk _ => (intOf kk + 1).toNat)
      case atStart => exact ⟨0, 0, none, by omega, by congr 1; omega, rfl, rfl, Sky.Own.nil _ _ _ _ encPl_len, New.refl _⟩
      case round =>
        obtain ⟨t, cd, D, ht, rfl, rfl, rfl, HO, hZ⟩ := hrel
        have hc3 := hZ.cell hc2
        have hb3 : b < wr.heap.size := Nat.lt_of_lt_of_le hb2 hZ.size
        by_cases htl : t < rn
        · as_aux_lemma =>
          obtain ⟨m, hm⟩ : ∃ m, rn = m + 1 + t := ⟨rn - 1 - t, by omega⟩
          have hkm : (rn : Int) - 1 - (t : Int) = (m : Int) := by omega
          obtain ⟨b5, o5, p, hA5, hb5, hx5, hc5⟩ := HRW2.out.at_ (show m < rn by omega)
          subst hA5
          have G0 := hc5 0 _ rfl
          have G1 := hc5 1 _ rfl
          simp only [Nat.add_zero] at G0
          have g0 := hZ.cell G0
          have g1 := hZ.cell G1
          have HG0 := Lib.hid G0
          have HG1 := Lib.hid G1
          have hb6 : b5 < wr.heap.size := Nat.lt_of_lt_of_le hb5 hZ.size
          have HRE := Lib.hid (take_snoc c.reverse t p (rev_el HCL.out hm hx5))
          have HALL := Lib.hid (show (c.reverse.take (t + 1)).all in8 = ((c.reverse.take t).all in8 && (decide (p.1 ≤ 8) && decide (p.2 ≤ 8))) by rw [HRE.out, List.all_append]; simp [in8])
          have m0 : (0 : Int) ≤ (m : Int) := by omega
          have m1 : (m : Int) < (rn : Int) := by omega
          have HKM := Lib.hid (show (rn : Int) - 1 - ((t + 1 : Nat) : Int) = (m : Int) - 1 by omega)
          have HC2 := Lib.hid hc2
          clear hx5 hc5 hm G0 G1 hc2
          rw [hkm]
          clear hkm
          obtain ⟨ins, hins⟩ : ∃ v, (c.reverse.take t).all in8 = v := ⟨_, rfl⟩
          rw [hins] at HALL ⊢
          clear hins
          obtain ⟨d1, hd1⟩ : ∃ v, decide (p.1 ≤ 8) = v := ⟨_, rfl⟩
          obtain ⟨d2, hd2⟩ : ∃ v, decide (p.2 ≤ 8) = v := ⟨_, rfl⟩
          rw [hd1, hd2] at HALL
          cases ins <;> cases d1
          all_goals
            go_wp2_with ((at_builtin; refine wpList_pour _ rfl _ _ 82 rfl 73 i0 _ 2 16 Try.underlying82 hi hz0 hz1 hz2 rfl (by omega) Y2.heap.size encPl _ _ _ _ rfl (HO.out.alloc _) _ 1 1 [(p : Pl)] rfl (by exact rd_bx (Bx.mk _ _ _) encPl_len _ rfl 1 rfl) encPl_one (by simp only [maxLen]; omega) (by omega) (hZ.alloc _).size ?_; intro A3 cap3 w3 hown3 hgr3 hN3; have n3 := hN3 Y2 (hZ.alloc _) (Nat.le_refl _); have HO3 := Lib.hid hown3; have hc6 := n3.cell HC2.out; have hb7 : b < w3.heap.size := Nat.lt_of_lt_of_le hb2 n3.size; have g6 := n3.cell HG0.out; have g7 := n3.cell HG1.out; have hb8 : b5 < w3.heap.size := Nat.lt_of_lt_of_le hb5 n3.size; clear hown3 hgr3 hN3))
            (try go_wp2_with fail)
            go_roundw
            case rel => exact ⟨t + 1, cap3, A3, by omega, by rw [HKM.out], rfl, by rw [HALL.out]; rfl, by unfold Hid; rw [HRE.out]; exact HO3.out, n3⟩
            case measure => simp [intOf] <;> omega
        obtain rfl : t = rn := by omega
        have hkk : (t : Int) - 1 - (t : Int) = -1 := by omega
        have HBK := Lib.hid (show Rd wr 2 encPl D t c.reverse by
          have h := HO.out.rd
          rw [List.take_of_length_le (by rw [List.length_reverse, HCL.out]; exact Nat.le_refl _)] at h
          exact h)
        have HIN := Lib.hid (show (c.reverse.take t).all in8 = c.reverse.all in8 by rw [List.take_of_length_le (by rw [List.length_reverse, HCL.out]; exact Nat.le_refl _)])
        have hDle := HO.out.le.1
        rw [hkk, HIN.out]
        clear hkk HO HIN
        obtain ⟨ins, hins⟩ : ∃ v, c.reverse.all in8 = v := ⟨_, rfl⟩
        have HI8 := Lib.hid hins
        rw [hins]
        clear hins
        have hneg : (-a != -a) = false := by simp
        obtain ⟨Y3, hY3⟩ : ∃ X, wr = X := ⟨_, rfl⟩
        rw [hY3] at hc3 hb3 hZ HBK ⊢
        clear hY3 hc2
        go_wp2_with fail
        refine (cCopyContour_any D t cd c.reverse _ (by omega) HBK.out).mono ?_
        rintro e Y4 ⟨m4, D4, k4, rfl, _, p4⟩
        have P4 := Lib.hid p4
        clear p4
        go_wp2_with fail
        refine (cAreaOf_is HAO.out HRC.out D4 t k4 _ (by omega) P4.out).mono ?_
        rintro e Y5 ⟨rfl, m5⟩
        have M5 := m4.trans m5
        have hc5 := M5.cell hc3
        have hb5 : b < Y5.heap.size := Nat.lt_of_lt_of_le hb3 M5.size
        have Z5 := hZ.trans M5
        have HBK5 := Lib.hid (HBK.out.keep M5)
        have HRW5 := Lib.hid (HRW2.out.keep Z5)
        have hM5 := hMM.trans Z5
        clear hc3 hb3 hZ HBK m4 m5 P4 M5
        cases ins
        · as_aux_lemma =>
          go_wp2_with fail
          go_roundw
          case rel => exact ⟨q + 1, by omega, by go_num, hM5⟩
          case measure => simp [intOf]; omega
        go_wp2_with fail
        refine (cCopyContour_any RA t rc c _ (by omega) HRW5.out).mono ?_
        rintro e Y6 ⟨m6, D6, k6, rfl, hk6, p6⟩
        have R6 := Lib.hid (one_row hk6 p6)
        have n6 := m6.alloc (.cells #[.slice D6 t k6] 82)
        obtain ⟨Y7, hY7⟩ : ∃ X, Y6.alloc (.cells #[.slice D6 t k6] 82) = X := ⟨_, rfl⟩
        obtain ⟨rb, hrb⟩ : ∃ X, Y6.heap.size = X := ⟨_, rfl⟩
        rw [hY7] at R6 n6
        rw [hrb] at R6
        clear p6
        go_wp2_with fail
        try rw [hY7]
        try rw [hrb]
        clear hY7 hrb m6
        refine (cFilled_one HC.out _ _ _ R6.out).mono ?_
        rintro e Y8 ⟨m8, C1, j1, rfl, _, r8⟩
        have n8 := n6.trans m8
        have R8 := Lib.hid r8
        have HBK8 := Lib.hid (HBK5.out.keep n8)
        have R9 := Lib.hid (one_row (k := cd) hDle HBK8.out)
        clear r8 n6 m8 R6
        obtain ⟨Y9, hY9⟩ : ∃ X, Y8.alloc (.cells #[.slice D t cd] 82) = X := ⟨_, rfl⟩
        obtain ⟨rb2, hrb2⟩ : ∃ X, Y8.heap.size = X := ⟨_, rfl⟩
        have m9 := (New.refl Y8).alloc (.cells #[.slice D t cd] 82)
        rw [hY9] at R9 m9
        rw [hrb2] at R9
        go_wp2_with fail
        try rw [hY9]
        try rw [hrb2]
        clear hY9 hrb2
        refine (cFilled_one HRC.out _ _ _ R9.out).mono ?_
        rintro e Y10 ⟨m10, C2, j2, rfl, _, r10⟩
        have m11 := m9.trans m10
        have n10 := n8.trans m11
        have R10 := Lib.hid r10
        have R8b := Lib.hid (R8.out.keep m11)
        have hM10 := hM5.trans n10
        clear r10 R9 m9 m10 m11 R8 HBK8 HBK5 n8 hM5 hc5 hb5
        go_wp2_with fail
        go_loopw [21, 22] (fun s y wr => ∃ yn : Nat, yn ≤ 8 ∧ y = .int .i64 (yn : Int) ∧ s = .int .i64 (partS c yn 0) ∧ New Y10 wr) (fun _ y _ => 8 - (intOf y).toNat)
        case atStart => exact ⟨0, by omega, rfl, rfl, New.refl _⟩
        case round =>
          obtain ⟨yn, hyn, rfl, rfl, hV⟩ := hrel
          have hpb := partS_bd HC.out hyn (show 0 ≤ 8 by omega)
          by_cases hyl : yn < 8
          rotate_left
          · as_aux_lemma =>
            obtain rfl : yn = 8 := by omega
            have HPA := Lib.hid (show partS c 8 0 = a by rw [partS_all HC.out HI8.out]; exact HAR.out)
            have eaa : (a != a) = false := by simp
            rw [HPA.out]
            clear hpb
            go_wp2_with fail
            go_roundw
            case rel => exact ⟨q + 1, by omega, by go_num, hM10.trans hV⟩
            case measure => simp [intOf]; omega
          obtain ⟨b6, o6, r6, xs, hA6, hb6, hx6, hc6, hrow6⟩ := (R8b.out.keep hV).at_ hyl
          obtain ⟨b7, o7, r7, ys, hA7, hb7, hx7, hc7, hrow7⟩ := (R10.out.keep hV).at_ hyl
          subst hA6 hA7
          obtain ⟨S1, s1n, s1c⟩ := r6
          obtain ⟨S2, s2n, s2c⟩ := r7
          have hxs := row_at8 hyl hx6
          have hys := row_at8 hyl hx7
          have hs1 : 8 = s1n := by rw [← hxs.1]; exact hrow6.len
          have hs2 : 8 = s2n := by rw [← hys.1]; exact hrow7.len
          subst hs1 hs2
          have HXS := Lib.hid hxs.2
          have HYS := Lib.hid hys.2
          have HR6 := Lib.hid hrow6.2
          have HR7 := Lib.hid hrow7.2
          dsimp only at hc6 hc7 HR6 HR7
          have y0 : (0 : Int) ≤ (yn : Int) := by omega
          have y1 : (yn : Int) < 8 := by omega
          clear hx6 hx7 hrow6 hrow7 hxs hys
          obtain ⟨V0, hV0⟩ : ∃ X, wr = X := ⟨_, rfl⟩
          rw [hV0] at hc6 hc7 hb6 hb7 hV HR6 HR7 ⊢
          clear hV0
          go_wp2_with fail
          go_loopw [21, 23] (fun s x wr => ∃ xn : Nat, xn ≤ 8 ∧ x = .int .i64 (xn : Int) ∧ s = .int .i64 (partS c yn xn) ∧ New V0 wr) (fun _ x _ => 8 - (intOf x).toNat)
          case atStart => exact ⟨0, by omega, rfl, rfl, New.refl _⟩
          case round =>
            clear hpb
            obtain ⟨xn, hxn, rfl, rfl, hU⟩ := hrel
            have hpb := partS_bd HC.out hyn hxn
            have hc8 := hU.cell hc6
            have hc9 := hU.cell hc7
            have hb8 : b6 < wr.heap.size := Nat.lt_of_lt_of_le hb6 hU.size
            have hb9 : b7 < wr.heap.size := Nat.lt_of_lt_of_le hb7 hU.size
            by_cases hxl : xn < 8
            rotate_left
            · as_aux_lemma =>
              obtain rfl : xn = 8 := by omega
              have HPR := Lib.hid (partS_row c yn)
              clear hc6 hc7
              go_wp2_with fail
              go_roundw
              case rel => exact ⟨yn + 1, by omega, by go_num, by rw [HPR.out], hV.trans hU⟩
              case measure => simp [intOf]; omega
            as_aux_lemma =>
              obtain ⟨b10, o10, v1, hA10, hb10, hv1, hcv1⟩ := (HR6.out.keep hU).at_ hxl
              obtain ⟨b11, o11, v2, hA11, hb11, hv2, hcv2⟩ := (HR7.out.keep hU).at_ hxl
              subst hA10 hA11
              have G0 := hcv1 0 _ rfl
              have G1 := hcv2 0 _ rfl
              simp only [Nat.add_zero, Nat.mul_one] at G0 G1
              have e1 := HXS.out xn hxl
              have e2 := HYS.out xn hxl
              rw [hv1] at e1
              rw [hv2] at e2
              injection e1 with e1
              injection e2 with e2
              rw [turns_rev (steps_ok HC.out)] at e2
              have HPS := Lib.hid (partS_step c yn xn)
              have htb := turns_bd HC.out (xn : Int) (yn : Int)
              rw [← e1] at HPS htb e2
              subst e2
              have hng : (-v1 != -v1) = false := by simp
              have x0 : (0 : Int) ≤ (xn : Int) := by omega
              have x1 : (xn : Int) < 8 := by omega
              obtain ⟨z, hz⟩ : ∃ z, partS c yn xn = z := ⟨_, rfl⟩
              rw [hz] at HPS hpb ⊢
              clear hv1 hv2 hcv1 hcv2 hz hc6 hc7 e1
              go_wp2_with fail
              (refine wp_region_new (by kernel_rfl) (by kernel_rfl) ?_; (repeat (go_big_quiet_step ((fail)))); refine wpQuiet_nil ?_)
              intro V3 n3
              go_wp2_with fail
              go_roundw
              case rel => exact ⟨xn + 1, by omega, by go_num, by rw [HPS.out], hU.trans n3⟩
              case measure => simp [intOf]; omega
end Go.Proofs.Ytaogolnoiffgiaa
