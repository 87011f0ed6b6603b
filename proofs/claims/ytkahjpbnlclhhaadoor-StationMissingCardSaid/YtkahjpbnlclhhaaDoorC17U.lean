/- Contracts: the blocks of a string. -/
import Derived.BigQuiet
import Derived.Deep.AppendLies
import Derived.Deep.Draws
import Derived.Deep.Quiet
import Derived.Deep.QuietTactic
import Derived.Laws.IdiomStrings
import Derived.Laws.Rows
import Derived.Lib.Hide
import Derived.Lib.ItoaLen
import Derived.Lib.ItoaNum
import Derived.OrdersIn
import Derived.OwnWalkIn
import Derived.RangeFuncCalls
import Derived.Shelf.Strconv.Itoa3
import Derived.Shelf.Strings.OnBuilder
import Derived.StillTail
import Derived.TacticsIn
import Derived.Test.YtkahjpbnlclhhaaDoorProg
import Derived.Test.YtkahjpbnlclhhaaDoorRows
import Derived.WalkKit
import Derived.WalkLawsBesides
import Derived.WalkSpells
import Derived.Test.YtkahjpbnlclhhaaDoorC17A
import Derived.Test.YtkahjpbnlclhhaaDoorC17J
import Derived.Test.YtkahjpbnlclhhaaDoorC17T

namespace Go.Proofs.YtkahjpbnlclhhaaDoor
open Go.RowKit Go.Sky

theorem infoBlk : (Tryd.prog.info? 54).map (fun i => (i.zero, i.size, i.bytes)) = some (some (.agg #[.int .i64 0, .int .i64 0, .int .i64 0, .string .empty]), 4, 40) := by kernel_rfl
theorem encK_len (x : Blk) : (encK x).length = 4 := rfl
theorem encK_one (x : Blk) : ∀ u ∈ encK x, u.oneCell' = true := by intro u hu; simp [encK] at hu; rcases hu with rfl | rfl | rfl | rfl <;> rfl

theorem count_any (s : ByteArray) (size : Int) (w : World) (hs : s.size ≤ 3000) (h1 : 1 ≤ size) (h2 : size ≤ 1000) :
    Calls Tryd.prog 52 #[.string s, .int .i64 size] w fun e w' => e = .returned (.int .i64 (cntB (s.size : Int) size)) ∧ w = w' := by
  go_enter Tryd.func52, Tryd.ntmps52
  go_wp2_with (go_at_call 76; refine (Ceil_any _ _ _ (by omega) (by omega) (by omega) (by omega)).mono ?_; rintro e w' ⟨rfl, rfl⟩)
  rw [ceil_up (by omega)]
  go_ret
  exact ⟨rfl, rfl⟩

def mkK (i c : Int) (b : ByteArray) : Blk := ⟨i, c, (crcS (headL i c b) : Int), b⟩
def partB (s : ByteArray) (size : Int) (i : Nat) : ByteArray := s.extract ((i : Int) * size).toNat (min (s.size : Int) (((i : Int) + 1) * size)).toNat
def blks (s : ByteArray) (size c : Int) (j : Nat) : List Blk := (List.range j).map fun i : Nat => mkK (i : Int) c (partB s size i)
theorem blks_step (s : ByteArray) (size c : Int) (j : Nat) : blks s size c (j + 1) = blks s size c j ++ [mkK (j : Int) c (partB s size j)] := by
  unfold blks
  rw [List.range_succ, List.map_append]
  rfl
theorem partB_size (s : ByteArray) (size : Int) (i : Nat) : (partB s size i).size ≤ s.size := by
  unfold partB
  rw [ByteArray.size_extract]
  omega

set_option maxRecDepth 100000 in
set_option maxHeartbeats 4000000 in
theorem blocksOf_any (s : ByteArray) (size : Int) (w : World) (hs : s.size ≤ 3100) (ht : Tab w) :
    Calls Tryd.prog 22 #[.string s, .int .i64 size] w fun e w' => New w w' ∧
      ((strE (s.size : Int) size ≠ 0 ∧ e = .returned (.tuple #[.slice none 0 0, .int .i64 (strE (s.size : Int) size)])) ∨
       (strE (s.size : Int) size = 0 ∧ ∃ (A : Option Addr) (n c : Nat), e = .returned (.tuple #[.slice A n c, .int .i64 0]) ∧ (n : Int) = cntB (s.size : Int) size ∧ Rd w' 4 encK A n (blks s size (cntB (s.size : Int) size) n))) := by
  obtain ⟨i0, hi, hz0, hz1, hz2⟩ := info_parts infoBlk
  have HT := Lib.hid ht
  clear ht
  by_cases h1 : 3000 < s.size
  · have HE := Lib.hid (show strE (s.size : Int) size = 8 by unfold strE; rw [if_pos (by omega)])
    have d1 : decide ((s.size : Int) ≤ 3000) = false := decide_eq_false (by omega)
    have HF := Lib.hid (show firstE [errU false 8, errU (inR size 1 1000) 2] = 8 from rfl)
    have HN0 := ((New.refl w).alloc (.cells #[.int .i64 (errU false 8), .int .i64 (errU (inR size 1 1000) 2)] 26))
    go_enter Tryd.func22, Tryd.ntmps22
    go_wp2_with (first | (go_at_call 42; refine (unless_any _ _ _).mono ?_; rintro e w' ⟨rfl, rfl⟩) | (go_at_call 53; refine (within_any _ _ _ _).mono ?_; rintro e w' ⟨rfl, rfl⟩) | (go_at_call 41; refine (first_any _ 2 2 [_, _] _ (by omega) rfl (cells_new _ _ _ _ (by simp) _ rfl)).mono ?_; rintro e w' ⟨rfl, rfl⟩; rw [HF.out]))
    go_ret2
    exact ⟨HN0, .inl ⟨by rw [HE.out]; decide, by rw [HE.out]; rfl⟩⟩
  by_cases h2 : 1 ≤ size ∧ size ≤ 1000
  · obtain ⟨h3, h4⟩ := h2
    obtain ⟨cnt, hcnt⟩ : ∃ c : Nat, cntB (s.size : Int) size = (c : Int) := ⟨(cntB (s.size : Int) size).toNat, (Int.toNat_of_nonneg (by have := cntB_pos (s.size : Int) size; omega)).symm⟩
    have hc1 : 1 ≤ cnt := by have := cntB_pos (s.size : Int) size; omega
    have hc2 : cnt ≤ 3000 := by have := cntB_le (len := (s.size : Int)) (size := size) (by omega) (by omega) h3; omega
    have HCNT := Lib.hid hcnt
    have HBEG := Lib.hid (show ∀ j : Nat, j < cnt → (j : Int) * size ≤ (s.size : Int) from fun j hj => cntB_begin (by omega) h3 (by omega) (by omega))
    have hU : max 1 (upS (s.size : Int) size) = (cnt : Int) := hcnt
    by_cases h30 : 30 < cnt
    · have HE := Lib.hid (show strE (s.size : Int) size = 16 by
        unfold strE
        rw [if_neg (by omega), if_neg (by omega), hcnt, if_pos (by omega)])
      have q1 : inR size 1 1000 = true := by unfold inR; exact decide_eq_true ⟨h3, h4⟩
      have d1 : decide ((s.size : Int) ≤ 3000) = true := decide_eq_true (by omega)
      have d2 : decide ((30 : Int) < (cnt : Int)) = true := decide_eq_true (by omega)
      have e1 : errU true 8 = 0 := rfl
      have e2 : errU true 2 = 0 := rfl
      have HN0 := ((New.refl w).alloc (.cells #[.int .i64 0, .int .i64 0] 26))
      go_enter Tryd.func22, Tryd.ntmps22
      go_wp2_with (first | (go_at_call 42; refine (unless_any _ _ _).mono ?_; rintro e w' ⟨rfl, rfl⟩; simp only [e1, e2]) | (go_at_call 53; refine (within_any _ _ _ _).mono ?_; rintro e w' ⟨rfl, rfl⟩; rw [q1]) | (go_at_call 41; refine (first_any _ 2 2 [_, _] _ (by omega) rfl (cells_new _ _ _ _ (by simp) _ rfl)).mono ?_; rintro e w' ⟨rfl, rfl⟩; rw [show firstE [0, 0] = 0 from rfl]) | (go_at_call 54; refine (up_any _ _ _ (by omega) (by omega) (by omega) (by omega)).mono ?_; rintro e w' ⟨rfl, rfl⟩))
      go_ret2
      exact ⟨HN0, .inl ⟨by rw [HE.out]; decide, by rw [HE.out]; rfl⟩⟩
    · have HE := Lib.hid (show strE (s.size : Int) size = 0 by
        unfold strE
        rw [if_neg (by omega), if_neg (by omega), hcnt, if_neg (by omega)])
      have q1 : inR size 1 1000 = true := by unfold inR; exact decide_eq_true ⟨h3, h4⟩
      have d1 : decide ((s.size : Int) ≤ 3000) = true := decide_eq_true (by omega)
      have d2 : decide ((30 : Int) < (cnt : Int)) = false := decide_eq_false (by omega)
      have e1 : errU true 8 = 0 := rfl
      have e2 : errU true 2 = 0 := rfl
      go_enter Tryd.func22, Tryd.ntmps22
      go_wp2_with (first | (go_at_call 42; refine (unless_any _ _ _).mono ?_; rintro e w' ⟨rfl, rfl⟩; simp only [e1, e2]) | (go_at_call 53; refine (within_any _ _ _ _).mono ?_; rintro e w' ⟨rfl, rfl⟩; rw [q1]) | (go_at_call 41; refine (first_any _ 2 2 [_, _] _ (by omega) rfl (cells_new _ _ _ _ (by simp) _ rfl)).mono ?_; rintro e w' ⟨rfl, rfl⟩; rw [show firstE [0, 0] = 0 from rfl]) | (go_at_call 54; refine (up_any _ _ _ (by omega) (by omega) (by omega) (by omega)).mono ?_; rintro e w' ⟨rfl, rfl⟩))
      have HN0 := ((New.refl w).alloc (.cells #[.int .i64 0, .int .i64 0] 26))
      have HA0 := Lib.hid (Sky.Own.nil (w.alloc (.cells #[.int .i64 0, .int .i64 0] 26)) w.heap.size 54 4 encK_len)
      clear hU hcnt e1 e2 q1
      go_loopw [8, 9, 10, 31] (fun v8 _ _ v31 wr => ∃ (j n c : Nat) (A : Option Addr), j ≤ cnt ∧ v31 = .int .i64 (j : Int) ∧ v8 = .slice A n c ∧ n = j ∧ Hid (Sky.Own wr w.heap.size 54 4 encK A n c (blks s size (cnt : Int) j)) ∧ New w wr) (fun _ _ _ v31 _ => cnt - (intOf v31).toNat)
      case atStart => exact ⟨0, 0, 0, none, by omega, rfl, rfl, rfl, HA0, HN0⟩
      case round =>
        clear HA0 HN0
        obtain ⟨j, n, c, A, hj, rfl, rfl, hn, HO, nw⟩ := hrel
        by_cases hlt : j < cnt
        · have hb0 := HBEG.out j hlt
          have hb1 : (0 : Int) ≤ (j : Int) * size := Int.mul_nonneg (by omega) (by omega)
          have hb2 : ((j : Int) + 1) * size = (j : Int) * size + size := by rw [Int.add_mul]; omega
          obtain ⟨L, hL⟩ : ∃ L, (j : Int) * size = L := ⟨_, rfl⟩
          have HP := Lib.hid (show partB s size j = s.extract L.toNat (min (s.size : Int) (L + size)).toNat by unfold partB; rw [hb2, hL])
          rw [hL] at hb0 hb1 hb2
          have k0 : (0 : Int) ≤ min (s.size : Int) (L + size) := by omega
          have k1 : L ≤ min (s.size : Int) (L + size) := by omega
          have k2 : min (s.size : Int) (L + size) ≤ (s.size : Int) := by omega
          have hbs := partB_size s size j
          have HNJ := Lib.hid hn
          have hnb : n ≤ 30 := by omega
          have hne : A.map (·.block) ≠ some wr.heap.size := by
            rcases HO.out.form with ⟨h, _⟩ | ⟨g, h, _, hg, _⟩
            · rw [h]; simp
            · rw [h]; simp; omega
          have hws : w.heap.size ≤ wr.heap.size := nw.size
          have HNE := Lib.hid hne
          have bq := fun b => Bx.mk wr 54 #[.int .i64 (j : Int), .int .i64 (cnt : Int), .int .i64 0, .string b]
          have nq := fun b => (New.refl wr).alloc (.cells #[.int .i64 (j : Int), .int .i64 (cnt : Int), .int .i64 0, .string b] 54)
          have HBQ := Lib.hid bq
          have HNQ := Lib.hid nq
          have HST := Lib.hid (blks_step s size (cnt : Int) j)
          clear hne bq nq hn
          go_wp2_with fail
          rw [← HP.out]
          obtain ⟨body, hbody⟩ : ∃ b, partB s size j = b := ⟨_, rfl⟩
          rw [hbody] at hbs HST ⊢
          clear hbody HP k0 k1 k2 hb2
          have b1 := HBQ.out body
          have n1 := HNQ.out body
          have hO1 := HO.out.keep n1
          obtain ⟨W2, hW2⟩ : ∃ W2, wr.alloc (.cells #[.int .i64 (j : Int), .int .i64 (cnt : Int), .int .i64 0, .string body] 54) = W2 := ⟨_, rfl⟩
          rw [hW2] at b1 n1 hO1 ⊢
          obtain ⟨xb, hxb⟩ : ∃ xb, wr.heap.size = xb := ⟨_, rfl⟩
          rw [hxb] at b1 HNE hws ⊢
          have nw2 := nw.trans n1
          have HTW := Lib.hid (HT.out.keep nw2)
          have HO1 := Lib.hid hO1
          clear HBQ HNQ hW2 hxb hO1 nw n1 HO
          refine (checkOf_any (j : Int) (cnt : Int) 0 body _ (by omega) (by omega) (by omega) (by omega) (by omega) HTW.out).mono ?_
          rintro e w4 ⟨rfl, n4⟩
          obtain ⟨v, hv⟩ : ∃ v : Int, (crcS (headL (j : Int) (cnt : Int) body) : Int) = v := ⟨_, rfl⟩
          have HMK := Lib.hid (show encK (mkK (j : Int) (cnt : Int) body) = [.int .i64 (j : Int), .int .i64 (cnt : Int), .int .i64 v, .string body] by rw [← hv]; rfl)
          have HRD := Lib.hid (show ∀ (W : World) (g : Nat), g = W.heap.size → Rd (W.alloc (.cells #[.int .i64 (j : Int), .int .i64 (cnt : Int), .int .i64 v, .string body] 54)) 4 encK (some ⟨g, 0, none⟩) 1 [mkK (j : Int) (cnt : Int) body] from fun W g hg =>
            rd_bx (Bx.mk_at W 54 #[.int .i64 (j : Int), .int .i64 (cnt : Int), .int .i64 v, .string body] g hg) encK_len [mkK (j : Int) (cnt : Int) body] (by rw [List.flatMap_cons, List.flatMap_nil, List.append_nil, HMK.out]) 1 rfl)
          rw [hv]
          have b4 := b1.keep n4
          have c0 : w4.cell? ⟨xb, 0, none⟩ = some (.int .i64 (j : Int)) := b4.cell 0
          have c1 : w4.cell? ⟨xb, 1, none⟩ = some (.int .i64 (cnt : Int)) := b4.cell 1
          have c2 : w4.cell? ⟨xb, 2, none⟩ = some (.int .i64 0) := b4.cell 2
          have c3 : w4.cell? ⟨xb, 3, none⟩ = some (.string body) := b4.cell 3
          have f2 := b4.free 2
          have nw5 := (nw2.trans n4).setCell (p := ⟨xb, 2, none⟩) hws (.int .i64 v)
          have HO5 := Lib.hid ((HO1.out.keep n4).setOther (p := ⟨xb, 2, none⟩) HNE.out (.int .i64 v))
          have HN5 := Lib.hid nw5
          clear hv b1 b4 nw2 n4 nw5 HO1 HNE
          go_wp2_with (at_builtin; refine wpList_pour _ rfl _ _ 22 rfl 54 i0 _ 4 40 Tryd.underlying22 hi hz0 hz1 hz2 rfl (by omega) w.heap.size encK _ _ _ _ rfl (HO5.out.alloc _) _ 1 1 [mkK (j : Int) (cnt : Int) body] rfl (by exact HRD.out _ _ (by simp)) encK_one (by simp [maxLen]; omega) (by omega) (HN5.out.alloc _).size ?_; intro A3 cap3 w3 hown3 hgr3 hN3)
          have n3 := hN3 w (HN5.out.alloc _) (Nat.le_refl _)
          rw [← HST.out] at hown3
          have HO3 := Lib.hid hown3
          clear hown3 hgr3 hN3
          go_wp2_with fail
          go_roundw
          case rel => exact ⟨j + 1, n + 1, cap3, A3, by omega, by go_num, rfl, by have := HNJ.out; omega, HO3, n3⟩
          case measure => simp [intOf]; omega
        · have hjc : j = cnt := by omega
          subst hjc
          go_wp2_with fail
          go_ret2
          refine ⟨nw, .inr ⟨HE.out, A, n, c, rfl, by rw [HCNT.out, hn], ?_⟩⟩
          have := HO.out.rd
          rw [HCNT.out, hn]
          rw [hn] at this
          exact this
  · have HE := Lib.hid (show strE (s.size : Int) size = 2 by unfold strE; rw [if_neg (by omega), if_pos (by omega)])
    have q1 : inR size 1 1000 = false := by unfold inR; exact decide_eq_false h2
    have d1 : decide ((s.size : Int) ≤ 3000) = true := decide_eq_true (by omega)
    have HF := Lib.hid (show firstE [errU true 8, errU false 2] = 2 from rfl)
    have HN0 := ((New.refl w).alloc (.cells #[.int .i64 (errU true 8), .int .i64 (errU false 2)] 26))
    go_enter Tryd.func22, Tryd.ntmps22
    go_wp2_with (first | (go_at_call 42; refine (unless_any _ _ _).mono ?_; rintro e w' ⟨rfl, rfl⟩) | (go_at_call 53; refine (within_any _ _ _ _).mono ?_; rintro e w' ⟨rfl, rfl⟩; rw [q1]) | (go_at_call 41; refine (first_any _ 2 2 [_, _] _ (by omega) rfl (cells_new _ _ _ _ (by simp) _ rfl)).mono ?_; rintro e w' ⟨rfl, rfl⟩; rw [HF.out]))
    go_ret2
    exact ⟨HN0, .inl ⟨by rw [HE.out]; decide, by rw [HE.out]; rfl⟩⟩

theorem bWithinIs {n lo hi : Int} {c : Bool} (h : inR n lo hi = c) (w : World) : Calls Tryd.prog 17 #[.int .i64 n, .int .i64 lo, .int .i64 hi] w fun e w' => e = .returned (.bool c) ∧ w = w' := h ▸ bWithin_any n lo hi w
theorem stringErr_any (s : ByteArray) (size : Int) (w : World) (hs : s.size ≤ 3100) :
    Calls Tryd.prog 21 #[.string s, .int .i64 size] w fun e w' => e = .returned (.int .i64 (strE (s.size : Int) size)) ∧ w = w' := by
  by_cases h1 : 3000 < s.size
  · have HE := Lib.hid (show strE (s.size : Int) size = 8 by unfold strE; rw [if_pos (by omega)])
    have d1 : decide ((3000 : Int) < (s.size : Int)) = true := decide_eq_true (by omega)
    go_enter Tryd.func21, Tryd.ntmps21
    go_wp2_with fail
    go_ret
    exact ⟨by rw [HE.out]; rfl, rfl⟩
  have d1 : decide ((3000 : Int) < (s.size : Int)) = false := decide_eq_false (by omega)
  by_cases h2 : 1 ≤ size ∧ size ≤ 1000
  · have HI := Lib.hid (show inR size 1 1000 = true by unfold inR; exact decide_eq_true h2)
    obtain ⟨cc, hcc⟩ : ∃ c, cntB (s.size : Int) size = c := ⟨_, rfl⟩
    have HC := Lib.hid hcc
    have hE : strE (s.size : Int) size = if 30 < cc then 16 else 0 := by unfold strE; rw [if_neg (by omega), if_neg (by omega), hcc]
    by_cases h30 : 30 < cc
    · rw [if_pos h30] at hE
      have HE := Lib.hid hE
      have d2 : decide ((30 : Int) < cc) = true := decide_eq_true h30
      clear hE hcc
      go_enter Tryd.func21, Tryd.ntmps21
      go_wp2_with (first | (go_at_call 17; refine (bWithinIs HI.out _).mono ?_; rintro e w' ⟨rfl, rfl⟩) | (go_at_call 52; refine (count_any s size _ (by omega) (by omega) (by omega)).mono ?_; rintro e w' ⟨rfl, rfl⟩; rw [HC.out]))
      go_ret
      exact ⟨by rw [HE.out]; rfl, rfl⟩
    · rw [if_neg h30] at hE
      have HE := Lib.hid hE
      have d2 : decide ((30 : Int) < cc) = false := decide_eq_false h30
      clear hE hcc
      go_enter Tryd.func21, Tryd.ntmps21
      go_wp2_with (first | (go_at_call 17; refine (bWithinIs HI.out _).mono ?_; rintro e w' ⟨rfl, rfl⟩) | (go_at_call 52; refine (count_any s size _ (by omega) (by omega) (by omega)).mono ?_; rintro e w' ⟨rfl, rfl⟩; rw [HC.out]))
      go_ret
      exact ⟨by rw [HE.out]; rfl, rfl⟩
  · have HI := Lib.hid (show inR size 1 1000 = false by unfold inR; exact decide_eq_false h2)
    have HE := Lib.hid (show strE (s.size : Int) size = 2 by unfold strE; rw [if_neg (by omega), if_pos (by omega)])
    go_enter Tryd.func21, Tryd.ntmps21
    go_wp2_with (go_at_call 17; refine (bWithinIs HI.out _).mono ?_; rintro e w' ⟨rfl, rfl⟩)
    go_ret
    exact ⟨by rw [HE.out]; rfl, rfl⟩

theorem partB_at {s : ByteArray} {size L : Int} {j : Nat} (h : (j : Int) * size = L) (h2 : ((j : Int) + 1) * size = L + size) : partB s size j = s.extract L.toNat (min (s.size : Int) (L + size)).toNat := by unfold partB; rw [h2, h]
end Go.Proofs.YtkahjpbnlclhhaaDoor
