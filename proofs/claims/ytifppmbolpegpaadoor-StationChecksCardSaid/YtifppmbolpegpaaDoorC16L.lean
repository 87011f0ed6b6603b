/- Contracts: the blocks of a string.
   The walk of StationChecks. -/
import Derived.BigQuiet
import Derived.Deep.AppendLies
import Derived.Deep.Draws
import Derived.Deep.Quiet
import Derived.Deep.QuietTactic
import Derived.Laws.IdiomStrings
import Derived.Laws.Rows
import Derived.Lib.Hide
import Derived.Lib.ItoaLen
import Derived.Lib.ItoaNum
import Derived.OrdersIn
import Derived.OwnWalkIn
import Derived.RangeFuncCalls
import Derived.Shelf.Strconv.Itoa3
import Derived.Shelf.Strings.OnBuilder
import Derived.StillTail
import Derived.TacticsIn
import Derived.Test.YtifppmbolpegpaaDoorProg
import Derived.Test.YtifppmbolpegpaaDoorRows
import Derived.WalkKit
import Derived.WalkLawsBesides
import Derived.WalkSpells
import Derived.Test.YtifppmbolpegpaaDoorC16A
import Derived.Test.YtifppmbolpegpaaDoorC16G
import Derived.Test.YtifppmbolpegpaaDoorC16K

namespace Go.Proofs.YtifppmbolpegpaaDoor
open Go.RowKit Go.Sky

theorem infoBlk : (Tryd.prog.info? 23).map (fun i => (i.zero, i.size, i.bytes)) = some (some (.agg #[.int .i64 0, .int .i64 0, .int .i64 0, .string .empty]), 4, 40) := by kernel_rfl
theorem encK_len (x : Blk) : (encK x).length = 4 := rfl
theorem encK_one (x : Blk) : ∀ u ∈ encK x, u.oneCell' = true := by intro u hu; simp [encK] at hu; rcases hu with rfl | rfl | rfl | rfl <;> rfl

theorem count_any (s : ByteArray) (size : Int) (w : World) (hs : s.size ≤ 3000) (h1 : 1 ≤ size) (h2 : size ≤ 1000) :
    Calls Tryd.prog 48 #[.string s, .int .i64 size] w fun e w' => e = .returned (.int .i64 (cntB (s.size : Int) size)) ∧ w = w' := by
  go_enter Tryd.func48, Tryd.ntmps48
  go_wp2_with (go_at_call 69; refine (Ceil_any _ _ _ (by omega) (by omega) (by omega) (by omega)).mono ?_; rintro e w' ⟨rfl, rfl⟩)
  rw [ceil_up (by omega)]
  go_ret
  exact ⟨rfl, rfl⟩

def mkK (i c : Int) (b : ByteArray) : Blk := ⟨i, c, (crcS (headL i c b) : Int), b⟩
def partB (s : ByteArray) (size : Int) (i : Nat) : ByteArray := s.extract ((i : Int) * size).toNat (min (s.size : Int) (((i : Int) + 1) * size)).toNat
def blks (s : ByteArray) (size c : Int) (j : Nat) : List Blk := (List.range j).map fun i : Nat => mkK (i : Int) c (partB s size i)
theorem blks_step (s : ByteArray) (size c : Int) (j : Nat) : blks s size c (j + 1) = blks s size c j ++ [mkK (j : Int) c (partB s size j)] := by
  unfold blks
  rw [List.range_succ, List.map_append]
  rfl
theorem partB_size (s : ByteArray) (size : Int) (i : Nat) : (partB s size i).size ≤ s.size := by
  unfold partB
  rw [ByteArray.size_extract]
  omega

set_option maxRecDepth 100000 in
set_option maxHeartbeats 4000000 in
theorem blocksOf_any (s : ByteArray) (size : Int) (w : World) (hs : s.size ≤ 3100) (ht : Tab w) :
    Calls Tryd.prog 8 #[.string s, .int .i64 size] w fun e w' => New w w' ∧
      ((strE (s.size : Int) size ≠ 0 ∧ e = .returned (.tuple #[.slice none 0 0, .int .i64 (strE (s.size : Int) size)])) ∨
       (strE (s.size : Int) size = 0 ∧ ∃ (A : Option Addr) (n c : Nat), e = .returned (.tuple #[.slice A n c, .int .i64 0]) ∧ (n : Int) = cntB (s.size : Int) size ∧ Rd w' 4 encK A n (blks s size (cntB (s.size : Int) size) n))) := by
  obtain ⟨i0, hi, hz0, hz1, hz2⟩ := info_parts infoBlk
  have HT := Lib.hid ht
  clear ht
  by_cases h1 : 3000 < s.size
  · have HE := Lib.hid (show strE (s.size : Int) size = 8 by unfold strE; rw [if_pos (by omega)])
    have d1 : decide ((s.size : Int) ≤ 3000) = false := decide_eq_false (by omega)
    have HF := Lib.hid (show firstE [errU false 8, errU (inR size 1 1000) 2] = 8 from rfl)
    have HN0 := ((New.refl w).alloc (.cells #[.int .i64 (errU false 8), .int .i64 (errU (inR size 1 1000) 2)] 25))
    go_enter Tryd.func8, Tryd.ntmps8
    go_wp2_with (first | (go_at_call 42; refine (unless_any _ _ _).mono ?_; rintro e w' ⟨rfl, rfl⟩) | (go_at_call 43; refine (within_any _ _ _ _).mono ?_; rintro e w' ⟨rfl, rfl⟩) | (go_at_call 41; refine (first_any _ 2 2 [_, _] _ (by omega) rfl (cells_new _ _ _ _ (by simp) _ rfl)).mono ?_; rintro e w' ⟨rfl, rfl⟩; rw [HF.out]))
    go_ret2
    exact ⟨HN0, .inl ⟨by rw [HE.out]; decide, by rw [HE.out]; rfl⟩⟩
  by_cases h2 : 1 ≤ size ∧ size ≤ 1000
  · obtain ⟨h3, h4⟩ := h2
    obtain ⟨cnt, hcnt⟩ : ∃ c : Nat, cntB (s.size : Int) size = (c : Int) := ⟨(cntB (s.size : Int) size).toNat, (Int.toNat_of_nonneg (by have := cntB_pos (s.size : Int) size; omega)).symm⟩
    have hc1 : 1 ≤ cnt := by have := cntB_pos (s.size : Int) size; omega
    have hc2 : cnt ≤ 3000 := by have := cntB_le (len := (s.size : Int)) (size := size) (by omega) (by omega) h3; omega
    have HCNT := Lib.hid hcnt
    have HBEG := Lib.hid (show ∀ j : Nat, j < cnt → (j : Int) * size ≤ (s.size : Int) from fun j hj => cntB_begin (by omega) h3 (by omega) (by omega))
    have hU : max 1 (upS (s.size : Int) size) = (cnt : Int) := hcnt
    by_cases h30 : 30 < cnt
    · have HE := Lib.hid (show strE (s.size : Int) size = 16 by
        unfold strE
        rw [if_neg (by omega), if_neg (by omega), hcnt, if_pos (by omega)])
      have q1 : inR size 1 1000 = true := by unfold inR; exact decide_eq_true ⟨h3, h4⟩
      have d1 : decide ((s.size : Int) ≤ 3000) = true := decide_eq_true (by omega)
      have d2 : decide ((30 : Int) < (cnt : Int)) = true := decide_eq_true (by omega)
      have e1 : errU true 8 = 0 := rfl
      have e2 : errU true 2 = 0 := rfl
      have HN0 := ((New.refl w).alloc (.cells #[.int .i64 0, .int .i64 0] 25))
      go_enter Tryd.func8, Tryd.ntmps8
      go_wp2_with (first | (go_at_call 42; refine (unless_any _ _ _).mono ?_; rintro e w' ⟨rfl, rfl⟩; simp only [e1, e2]) | (go_at_call 43; refine (within_any _ _ _ _).mono ?_; rintro e w' ⟨rfl, rfl⟩; rw [q1]) | (go_at_call 41; refine (first_any _ 2 2 [_, _] _ (by omega) rfl (cells_new _ _ _ _ (by simp) _ rfl)).mono ?_; rintro e w' ⟨rfl, rfl⟩; rw [show firstE [0, 0] = 0 from rfl]) | (go_at_call 44; refine (up_any _ _ _ (by omega) (by omega) (by omega) (by omega)).mono ?_; rintro e w' ⟨rfl, rfl⟩))
      go_ret2
      exact ⟨HN0, .inl ⟨by rw [HE.out]; decide, by rw [HE.out]; rfl⟩⟩
    · have HE := Lib.hid (show strE (s.size : Int) size = 0 by
        unfold strE
        rw [if_neg (by omega), if_neg (by omega), hcnt, if_neg (by omega)])
      have q1 : inR size 1 1000 = true := by unfold inR; exact decide_eq_true ⟨h3, h4⟩
      have d1 : decide ((s.size : Int) ≤ 3000) = true := decide_eq_true (by omega)
      have d2 : decide ((30 : Int) < (cnt : Int)) = false := decide_eq_false (by omega)
      have e1 : errU true 8 = 0 := rfl
      have e2 : errU true 2 = 0 := rfl
      go_enter Tryd.func8, Tryd.ntmps8
      go_wp2_with (first | (go_at_call 42; refine (unless_any _ _ _).mono ?_; rintro e w' ⟨rfl, rfl⟩; simp only [e1, e2]) | (go_at_call 43; refine (within_any _ _ _ _).mono ?_; rintro e w' ⟨rfl, rfl⟩; rw [q1]) | (go_at_call 41; refine (first_any _ 2 2 [_, _] _ (by omega) rfl (cells_new _ _ _ _ (by simp) _ rfl)).mono ?_; rintro e w' ⟨rfl, rfl⟩; rw [show firstE [0, 0] = 0 from rfl]) | (go_at_call 44; refine (up_any _ _ _ (by omega) (by omega) (by omega) (by omega)).mono ?_; rintro e w' ⟨rfl, rfl⟩))
      have HN0 := ((New.refl w).alloc (.cells #[.int .i64 0, .int .i64 0] 25))
      have HA0 := Lib.hid (Sky.Own.nil (w.alloc (.cells #[.int .i64 0, .int .i64 0] 25)) w.heap.size 23 4 encK_len)
      clear hU hcnt e1 e2 q1
      go_loopw [8, 9, 10, 31] (fun v8 _ _ v31 wr => ∃ (j n c : Nat) (A : Option Addr), j ≤ cnt ∧ v31 = .int .i64 (j : Int) ∧ v8 = .slice A n c ∧ n = j ∧ Hid (Sky.Own wr w.heap.size 23 4 encK A n c (blks s size (cnt : Int) j)) ∧ New w wr) (fun _ _ _ v31 _ => cnt - (intOf v31).toNat)
      case atStart => exact ⟨0, 0, 0, none, by omega, rfl, rfl, rfl, HA0, HN0⟩
      case round =>
        clear HA0 HN0
        obtain ⟨j, n, c, A, hj, rfl, rfl, hn, HO, nw⟩ := hrel
        by_cases hlt : j < cnt
        · have hb0 := HBEG.out j hlt
          have hb1 : (0 : Int) ≤ (j : Int) * size := Int.mul_nonneg (by omega) (by omega)
          have hb2 : ((j : Int) + 1) * size = (j : Int) * size + size := by rw [Int.add_mul]; omega
          obtain ⟨L, hL⟩ : ∃ L, (j : Int) * size = L := ⟨_, rfl⟩
          have HP := Lib.hid (show partB s size j = s.extract L.toNat (min (s.size : Int) (L + size)).toNat by unfold partB; rw [hb2, hL])
          rw [hL] at hb0 hb1 hb2
          have k0 : (0 : Int) ≤ min (s.size : Int) (L + size) := by omega
          have k1 : L ≤ min (s.size : Int) (L + size) := by omega
          have k2 : min (s.size : Int) (L + size) ≤ (s.size : Int) := by omega
          have hbs := partB_size s size j
          have HNJ := Lib.hid hn
          have hnb : n ≤ 30 := by omega
          have hne : A.map (·.block) ≠ some wr.heap.size := by
            rcases HO.out.form with ⟨h, _⟩ | ⟨g, h, _, hg, _⟩
            · rw [h]; simp
            · rw [h]; simp; omega
          have hws : w.heap.size ≤ wr.heap.size := nw.size
          have HNE := Lib.hid hne
          have bq := fun b => Bx.mk wr 23 #[.int .i64 (j : Int), .int .i64 (cnt : Int), .int .i64 0, .string b]
          have nq := fun b => (New.refl wr).alloc (.cells #[.int .i64 (j : Int), .int .i64 (cnt : Int), .int .i64 0, .string b] 23)
          have HBQ := Lib.hid bq
          have HNQ := Lib.hid nq
          have HST := Lib.hid (blks_step s size (cnt : Int) j)
          clear hne bq nq hn
          go_wp2_with fail
          rw [← HP.out]
          obtain ⟨body, hbody⟩ : ∃ b, partB s size j = b := ⟨_, rfl⟩
          rw [hbody] at hbs HST ⊢
          clear hbody HP k0 k1 k2 hb2
          have b1 := HBQ.out body
          have n1 := HNQ.out body
          have hO1 := HO.out.keep n1
          obtain ⟨W2, hW2⟩ : ∃ W2, wr.alloc (.cells #[.int .i64 (j : Int), .int .i64 (cnt : Int), .int .i64 0, .string body] 23) = W2 := ⟨_, rfl⟩
          rw [hW2] at b1 n1 hO1 ⊢
          obtain ⟨xb, hxb⟩ : ∃ xb, wr.heap.size = xb := ⟨_, rfl⟩
          rw [hxb] at b1 HNE hws ⊢
          have nw2 := nw.trans n1
          have HTW := Lib.hid (HT.out.keep nw2)
          have HO1 := Lib.hid hO1
          clear HBQ HNQ hW2 hxb hO1 nw n1 HO
          refine (checkOf_any (j : Int) (cnt : Int) 0 body _ (by omega) (by omega) (by omega) (by omega) (by omega) HTW.out).mono ?_
          rintro e w4 ⟨rfl, n4⟩
          obtain ⟨v, hv⟩ : ∃ v : Int, (crcS (headL (j : Int) (cnt : Int) body) : Int) = v := ⟨_, rfl⟩
          have HMK := Lib.hid (show encK (mkK (j : Int) (cnt : Int) body) = [.int .i64 (j : Int), .int .i64 (cnt : Int), .int .i64 v, .string body] by rw [← hv]; rfl)
          have HRD := Lib.hid (show ∀ (W : World) (g : Nat), g = W.heap.size → Rd (W.alloc (.cells #[.int .i64 (j : Int), .int .i64 (cnt : Int), .int .i64 v, .string body] 23)) 4 encK (some ⟨g, 0, none⟩) 1 [mkK (j : Int) (cnt : Int) body] from fun W g hg =>
            rd_bx (Bx.mk_at W 23 #[.int .i64 (j : Int), .int .i64 (cnt : Int), .int .i64 v, .string body] g hg) encK_len [mkK (j : Int) (cnt : Int) body] (by rw [List.flatMap_cons, List.flatMap_nil, List.append_nil, HMK.out]) 1 rfl)
          rw [hv]
          have b4 := b1.keep n4
          have c0 : w4.cell? ⟨xb, 0, none⟩ = some (.int .i64 (j : Int)) := b4.cell 0
          have c1 : w4.cell? ⟨xb, 1, none⟩ = some (.int .i64 (cnt : Int)) := b4.cell 1
          have c2 : w4.cell? ⟨xb, 2, none⟩ = some (.int .i64 0) := b4.cell 2
          have c3 : w4.cell? ⟨xb, 3, none⟩ = some (.string body) := b4.cell 3
          have f2 := b4.free 2
          have nw5 := (nw2.trans n4).setCell (p := ⟨xb, 2, none⟩) hws (.int .i64 v)
          have HO5 := Lib.hid ((HO1.out.keep n4).setOther (p := ⟨xb, 2, none⟩) HNE.out (.int .i64 v))
          have HN5 := Lib.hid nw5
          clear hv b1 b4 nw2 n4 nw5 HO1 HNE
          go_wp2_with (at_builtin; refine wpList_pour _ rfl _ _ 28 rfl 23 i0 _ 4 40 Tryd.underlying28 hi hz0 hz1 hz2 rfl (by omega) w.heap.size encK _ _ _ _ rfl (HO5.out.alloc _) _ 1 1 [mkK (j : Int) (cnt : Int) body] rfl (by exact HRD.out _ _ (by simp)) encK_one (by simp [maxLen]; omega) (by omega) (HN5.out.alloc _).size ?_; intro A3 cap3 w3 hown3 hgr3 hN3)
          have n3 := hN3 w (HN5.out.alloc _) (Nat.le_refl _)
          rw [← HST.out] at hown3
          have HO3 := Lib.hid hown3
          clear hown3 hgr3 hN3
          go_wp2_with fail
          go_roundw
          case rel => exact ⟨j + 1, n + 1, cap3, A3, by omega, by go_num, rfl, by have := HNJ.out; omega, HO3, n3⟩
          case measure => simp [intOf]; omega
        · have hjc : j = cnt := by omega
          subst hjc
          go_wp2_with fail
          go_ret2
          refine ⟨nw, .inr ⟨HE.out, A, n, c, rfl, by rw [HCNT.out, hn], ?_⟩⟩
          have := HO.out.rd
          rw [HCNT.out, hn]
          rw [hn] at this
          exact this
  · have HE := Lib.hid (show strE (s.size : Int) size = 2 by unfold strE; rw [if_neg (by omega), if_pos (by omega)])
    have q1 : inR size 1 1000 = false := by unfold inR; exact decide_eq_false h2
    have d1 : decide ((s.size : Int) ≤ 3000) = true := decide_eq_true (by omega)
    have HF := Lib.hid (show firstE [errU true 8, errU false 2] = 2 from rfl)
    have HN0 := ((New.refl w).alloc (.cells #[.int .i64 (errU true 8), .int .i64 (errU false 2)] 25))
    go_enter Tryd.func8, Tryd.ntmps8
    go_wp2_with (first | (go_at_call 42; refine (unless_any _ _ _).mono ?_; rintro e w' ⟨rfl, rfl⟩) | (go_at_call 43; refine (within_any _ _ _ _).mono ?_; rintro e w' ⟨rfl, rfl⟩; rw [q1]) | (go_at_call 41; refine (first_any _ 2 2 [_, _] _ (by omega) rfl (cells_new _ _ _ _ (by simp) _ rfl)).mono ?_; rintro e w' ⟨rfl, rfl⟩; rw [HF.out]))
    go_ret2
    exact ⟨HN0, .inl ⟨by rw [HE.out]; decide, by rw [HE.out]; rfl⟩⟩

theorem bWithinIs {n lo hi : Int} {c : Bool} (h : inR n lo hi = c) (w : World) : Calls Tryd.prog 26 #[.int .i64 n, .int .i64 lo, .int .i64 hi] w fun e w' => e = .returned (.bool c) ∧ w = w' := h ▸ bWithin_any n lo hi w
theorem stringErr_any (s : ByteArray) (size : Int) (w : World) (hs : s.size ≤ 3100) :
    Calls Tryd.prog 11 #[.string s, .int .i64 size] w fun e w' => e = .returned (.int .i64 (strE (s.size : Int) size)) ∧ w = w' := by
  by_cases h1 : 3000 < s.size
  · have HE := Lib.hid (show strE (s.size : Int) size = 8 by unfold strE; rw [if_pos (by omega)])
    have d1 : decide ((3000 : Int) < (s.size : Int)) = true := decide_eq_true (by omega)
    go_enter Tryd.func11, Tryd.ntmps11
    go_wp2_with fail
    go_ret
    exact ⟨by rw [HE.out]; rfl, rfl⟩
  have d1 : decide ((3000 : Int) < (s.size : Int)) = false := decide_eq_false (by omega)
  by_cases h2 : 1 ≤ size ∧ size ≤ 1000
  · have HI := Lib.hid (show inR size 1 1000 = true by unfold inR; exact decide_eq_true h2)
    obtain ⟨cc, hcc⟩ : ∃ c, cntB (s.size : Int) size = c := ⟨_, rfl⟩
    have HC := Lib.hid hcc
    have hE : strE (s.size : Int) size = if 30 < cc then 16 else 0 := by unfold strE; rw [if_neg (by omega), if_neg (by omega), hcc]
    by_cases h30 : 30 < cc
    · rw [if_pos h30] at hE
      have HE := Lib.hid hE
      have d2 : decide ((30 : Int) < cc) = true := decide_eq_true h30
      clear hE hcc
      go_enter Tryd.func11, Tryd.ntmps11
      go_wp2_with (first | (go_at_call 26; refine (bWithinIs HI.out _).mono ?_; rintro e w' ⟨rfl, rfl⟩) | (go_at_call 48; refine (count_any s size _ (by omega) (by omega) (by omega)).mono ?_; rintro e w' ⟨rfl, rfl⟩; rw [HC.out]))
      go_ret
      exact ⟨by rw [HE.out]; rfl, rfl⟩
    · rw [if_neg h30] at hE
      have HE := Lib.hid hE
      have d2 : decide ((30 : Int) < cc) = false := decide_eq_false h30
      clear hE hcc
      go_enter Tryd.func11, Tryd.ntmps11
      go_wp2_with (first | (go_at_call 26; refine (bWithinIs HI.out _).mono ?_; rintro e w' ⟨rfl, rfl⟩) | (go_at_call 48; refine (count_any s size _ (by omega) (by omega) (by omega)).mono ?_; rintro e w' ⟨rfl, rfl⟩; rw [HC.out]))
      go_ret
      exact ⟨by rw [HE.out]; rfl, rfl⟩
  · have HI := Lib.hid (show inR size 1 1000 = false by unfold inR; exact decide_eq_false h2)
    have HE := Lib.hid (show strE (s.size : Int) size = 2 by unfold strE; rw [if_neg (by omega), if_pos (by omega)])
    go_enter Tryd.func11, Tryd.ntmps11
    go_wp2_with (go_at_call 26; refine (bWithinIs HI.out _).mono ?_; rintro e w' ⟨rfl, rfl⟩)
    go_ret
    exact ⟨by rw [HE.out]; rfl, rfl⟩

set_option maxRecDepth 100000 in
set_option maxHeartbeats 4000000 in
theorem refBlock_any (i c : Int) (body : ByteArray) (w : World) (h0 : -9223372036854775808 ≤ i) (h1 : i ≤ 9223372036854775807) (h2 : -9223372036854775808 ≤ c) (h3 : c ≤ 9223372036854775807) (hb : body.size ≤ 3000) :
    Calls Tryd.prog 49 #[.int .i64 i, .int .i64 c, .string body] w fun e w' => e = .returned (mkK i c body).val ∧ New w w' := by
  have HLL := Lib.hid (show (headL i c body).length ≤ 4000 by have := headL_len i c body h0 h1 h2 h3; omega)
  go_enter Tryd.func49, Tryd.ntmps49
  go_wp2_with fail
  have b6 := (Bx.mk w 23 #[.int .i64 0, .int .i64 0, .int .i64 0, .string { data := #[] }]).alloc (.cells #[.int .i64 i, .int .i64 c, .int .i64 0, .string body] 23)
  have b7 := Bx.mk_at (w.alloc (.cells #[.int .i64 0, .int .i64 0, .int .i64 0, .string { data := #[] }] 23)) 23 #[.int .i64 i, .int .i64 c, .int .i64 0, .string body] (w.heap.size + 1) (by simp)
  have N2 := ((New.refl w).alloc (.cells #[.int .i64 0, .int .i64 0, .int .i64 0, .string { data := #[] }] 23)).alloc (.cells #[.int .i64 i, .int .i64 c, .int .i64 0, .string body] 23)
  refine (head_any i c 0 body _ h0 h1 h2 h3 hb).mono ?_
  rintro e w3 ⟨rfl, n3⟩
  go_wp2_with fail
  refine (refCrcIs rfl HLL.out _).mono ?_
  rintro e w4 ⟨rfl, n4⟩
  have nn := n3.trans n4
  have b6 := b6.keep nn
  have b7 := b7.keep nn
  have N4 := N2.trans nn
  obtain ⟨v, hv⟩ : ∃ v : Int, (crcS (headL i c body) : Int) = v := ⟨_, rfl⟩
  have HMK := Lib.hid (show (mkK i c body).val = .agg #[.int .i64 i, .int .i64 c, .int .i64 v, .string body] by rw [← hv]; rfl)
  rw [hv]
  have p0 : w4.cell? ⟨w.heap.size, 0, none⟩ = some (.int .i64 0) := b6.cell 0
  have p1 : w4.cell? ⟨w.heap.size, 1, none⟩ = some (.int .i64 0) := b6.cell 1
  have p2 : w4.cell? ⟨w.heap.size, 2, none⟩ = some (.int .i64 0) := b6.cell 2
  have p3 : w4.cell? ⟨w.heap.size, 3, none⟩ = some (.string { data := #[] }) := b6.cell 3
  have r0 := b6.free 0
  have r1 := b6.free 1
  have r2 := b6.free 2
  have r3 := b6.free 3
  have c0 : w4.cell? ⟨w.heap.size + 1, 0, none⟩ = some (.int .i64 i) := b7.cell 0
  have c1 : w4.cell? ⟨w.heap.size + 1, 1, none⟩ = some (.int .i64 c) := b7.cell 1
  have c2 : w4.cell? ⟨w.heap.size + 1, 2, none⟩ = some (.int .i64 0) := b7.cell 2
  have c3 : w4.cell? ⟨w.heap.size + 1, 3, none⟩ = some (.string body) := b7.cell 3
  have f2 := b7.free 2
  have N5 := ((((N4.setCell (p := ⟨w.heap.size + 1, 2, none⟩) (Nat.le_succ _) (.int .i64 v)).setCell (p := ⟨w.heap.size, 0, none⟩) (Nat.le_refl _) (.int .i64 i)).setCell (p := ⟨w.heap.size, 1, none⟩) (Nat.le_refl _) (.int .i64 c)).setCell (p := ⟨w.heap.size, 2, none⟩) (Nat.le_refl _) (.int .i64 v)).setCell (p := ⟨w.heap.size, 3, none⟩) (Nat.le_refl _) (.string body)
  have HN5 := Lib.hid N5
  have hb8 := ((((b6.far (p := ⟨w.heap.size + 1, 2, none⟩) (show w.heap.size ≠ w.heap.size + 1 by omega) (.int .i64 v)).set 0 (.int .i64 i)).set 1 (.int .i64 c)).set 2 (.int .i64 v)).set 3 (.string body)
  have HB8 := Lib.hid hb8
  clear hb8
  clear hv b6 b7 N5 N4 N2 n3 n4 nn
  go_wp2_with fail
  (try simp only [Exit.inBlock, Exit.then])
  refine bodyPost_ret (results_cell_row rfl _ _ w.heap.size 23 #[.int .i64 i, .int .i64 c, .int .i64 v, .string body] (0, 0) _ rfl HB8.out Tryd.underlying23 rfl (by kernel_rfl)) rfl ?_
  exact ⟨by rw [HMK.out], HN5.out⟩

theorem partB_at {s : ByteArray} {size L : Int} {j : Nat} (h : (j : Int) * size = L) (h2 : ((j : Int) + 1) * size = L + size) : partB s size j = s.extract L.toNat (min (s.size : Int) (L + size)).toNat := by unfold partB; rw [h2, h]
theorem refBlockIs {i c : Int} {body : ByteArray} {x : Blk} (h : mkK i c body = x) (w : World) (h0 : -9223372036854775808 ≤ i) (h1 : i ≤ 9223372036854775807) (h2 : -9223372036854775808 ≤ c) (h3 : c ≤ 9223372036854775807) (hb : body.size ≤ 3000) :
    Calls Tryd.prog 49 #[.int .i64 i, .int .i64 c, .string body] w fun e w' => e = .returned (.agg #[.int .i64 x.n, .int .i64 x.c, .int .i64 x.k, .string x.b]) ∧ New w w' := h ▸ refBlock_any i c body w h0 h1 h2 h3 hb

set_option maxRecDepth 100000 in
set_option maxHeartbeats 4000000 in
theorem refBlocksOf_any (s : ByteArray) (size : Int) (w : World) (hs : s.size ≤ 3000) (hz : strE (s.size : Int) size = 0) :
    Calls Tryd.prog 13 #[.string s, .int .i64 size] w fun e w' => New w w' ∧ ∃ (A : Option Addr) (n c : Nat), e = .returned (.slice A n c) ∧ (n : Int) = cntB (s.size : Int) size ∧ Rd w' 4 encK A n (blks s size (cntB (s.size : Int) size) n) := by
  obtain ⟨i0, hi, hz0, hz1, hz2⟩ := info_parts infoBlk
  obtain ⟨h3, h4, h30⟩ : 1 ≤ size ∧ size ≤ 1000 ∧ cntB (s.size : Int) size ≤ 30 := by
    unfold strE at hz
    rw [if_neg (by omega)] at hz
    by_cases q : size < 1 ∨ 1000 < size
    · rw [if_pos q] at hz; cases hz
    · rw [if_neg q] at hz
      by_cases r : 30 < cntB (s.size : Int) size
      · rw [if_pos r] at hz; cases hz
      · exact ⟨by omega, by omega, by omega⟩
  obtain ⟨cnt, hcnt⟩ : ∃ c : Nat, cntB (s.size : Int) size = (c : Int) := ⟨(cntB (s.size : Int) size).toNat, (Int.toNat_of_nonneg (by have := cntB_pos (s.size : Int) size; omega)).symm⟩
  have hc1 : 1 ≤ cnt := by have := cntB_pos (s.size : Int) size; omega
  have hc2 : cnt ≤ 30 := by omega
  have HCNT := Lib.hid hcnt
  have HBEG := Lib.hid (show ∀ j : Nat, j < cnt → (j : Int) * size ≤ (s.size : Int) from fun j hj => cntB_begin (by omega) h3 (by omega) (by omega))
  have HA0 := Lib.hid (Sky.Own.nil w w.heap.size 23 4 encK_len)
  clear hcnt hz h30
  go_enter Tryd.func13, Tryd.ntmps13
  go_wp2_with (go_at_call 48; refine (count_any s size _ (by omega) (by omega) (by omega)).mono ?_; rintro e w' ⟨rfl, rfl⟩; rw [HCNT.out])
  go_loopw [6, 7] (fun v6 v7 wr => ∃ (j n c : Nat) (A : Option Addr), j ≤ cnt ∧ v7 = .int .i64 (j : Int) ∧ v6 = .slice A n c ∧ n = j ∧ Hid (Sky.Own wr w.heap.size 23 4 encK A n c (blks s size (cnt : Int) j)) ∧ New w wr) (fun _ v7 _ => cnt - (intOf v7).toNat)
  case atStart => exact ⟨0, 0, 0, none, by omega, rfl, rfl, rfl, HA0, New.refl _⟩
  case round =>
    clear HA0
    obtain ⟨j, n, c, A, hj, rfl, rfl, hn, HO, nw⟩ := hrel
    by_cases hlt : j < cnt
    · have hb0 := HBEG.out j hlt
      have hb1 : (0 : Int) ≤ (j : Int) * size := Int.mul_nonneg (by omega) (by omega)
      have hb2 : ((j : Int) + 1) * size = (j : Int) * size + size := by rw [Int.add_mul]; omega
      obtain ⟨L, hL⟩ : ∃ L, (j : Int) * size = L := ⟨_, rfl⟩
      have HP := Lib.hid (partB_at (s := s) hL (by rw [hb2, hL]))
      rw [hL] at hb0 hb1 hb2
      have k0 : (0 : Int) ≤ min (s.size : Int) (L + size) := by omega
      have k1 : L ≤ min (s.size : Int) (L + size) := by omega
      have k2 : min (s.size : Int) (L + size) ≤ (s.size : Int) := by omega
      have hbs := partB_size s size j
      have HNJ := Lib.hid hn
      have hnb : n ≤ 30 := by omega
      have HST := Lib.hid (blks_step s size (cnt : Int) j)
      clear hn
      go_wp2_with fail
      rw [← HP.out]
      obtain ⟨body, hbody⟩ : ∃ b, partB s size j = b := ⟨_, rfl⟩
      rw [hbody] at hbs HST ⊢
      obtain ⟨x, hx⟩ : ∃ x, mkK (j : Int) (cnt : Int) body = x := ⟨_, rfl⟩
      rw [hx] at HST
      have HRD := Lib.hid (show ∀ (W : World) (g : Nat), g = W.heap.size → Rd (W.alloc (.cells #[.int .i64 x.n, .int .i64 x.c, .int .i64 x.k, .string x.b] 23)) 4 encK (some ⟨g, 0, none⟩) 1 [x] from fun W g hg =>
        rd_bx (Bx.mk_at W 23 #[.int .i64 x.n, .int .i64 x.c, .int .i64 x.k, .string x.b] g hg) encK_len [x] rfl 1 rfl)
      clear hbody HP k0 k1 k2 hb2
      refine (refBlockIs hx _ (by omega) (by omega) (by omega) (by omega) (by omega)).mono ?_
      rintro e w4 ⟨rfl, n4⟩
      have HO5 := Lib.hid (HO.out.keep n4)
      have HN5 := Lib.hid (nw.trans n4)
      clear hx n4 HO nw
      go_wp2_with (at_builtin; refine wpList_pour _ rfl _ _ 28 rfl 23 i0 _ 4 40 Tryd.underlying28 hi hz0 hz1 hz2 rfl (by omega) w.heap.size encK _ _ _ _ rfl (HO5.out.alloc _) _ 1 1 [x] rfl (by exact HRD.out _ _ (by simp)) encK_one (by simp [maxLen]; omega) (by omega) (HN5.out.alloc _).size ?_; intro A3 cap3 w3 hown3 hgr3 hN3)
      have n3 := hN3 w (HN5.out.alloc _) (Nat.le_refl _)
      rw [← HST.out] at hown3
      have HO3 := Lib.hid hown3
      clear hown3 hgr3 hN3
      go_wp2_with fail
      go_roundw
      case rel => exact ⟨j + 1, n + 1, cap3, A3, by omega, by go_num, rfl, by have := HNJ.out; omega, HO3, n3⟩
      case measure => simp [intOf]; omega
    · have hjc : j = cnt := by omega
      subst hjc
      go_wp2_with fail
      go_ret
      refine ⟨nw, A, n, c, rfl, by rw [HCNT.out, hn], ?_⟩
      have := HO.out.rd
      rw [HCNT.out, hn]
      rw [hn] at this
      exact this
end Go.Proofs.YtifppmbolpegpaaDoor

namespace Go.Proofs.YtifppmbolpegpaaDoor
open Go.RowKit Go.Sky

theorem eql_blk_d (n : Nat) (x : Blk) (W : World) : (Op.equalIn (n + 2) 23 (.agg #[.int .i64 x.n, .int .i64 x.c, .int .i64 x.k, .string x.b]) (.agg #[.int .i64 x.n, .int .i64 x.c, .int .i64 x.k, .string x.b])).run Tryd.prog W = .ok true W := by
  have u := Tryd.underlying23
  have u3 := Tryd.underlying3
  have z3 := Tryd.sizeOf3
  have a3 := Tryd.isAgg3
  have u9 := Tryd.underlying9
  have z9 := Tryd.sizeOf9
  have a9 := Tryd.isAgg9
  rw [Op.equalIn]
  simp [run_underlying u, part, go_sem, a3, u3, a9, u9, z3, z9]
theorem eql_blk (x : Blk) (W : World) : (Op.equalIn 10000 23 (.agg #[.int .i64 x.n, .int .i64 x.c, .int .i64 x.k, .string x.b]) (.agg #[.int .i64 x.n, .int .i64 x.c, .int .i64 x.k, .string x.b])).run Tryd.prog W = .ok true W := eql_blk_d 9998 x W
theorem guard_blk : (Tryd.prog).eqGuardType (Tryd.prog).depth 23 = false := by kernel_rfl

set_option maxRecDepth 100000 in
set_option maxHeartbeats 1000000 in
theorem blks_like (A B : Option Addr) (n c1 c2 : Nat) (xs : List Blk) (w : World) (hn : n ≤ 1000000) (hr : Rd w 4 encK A n xs) (hs : Rd w 4 encK B n xs) :
    Calls Tryd.prog 12 #[.slice A n c1, .slice B n c2] w fun e w' => e = .returned (.bool true) ∧ New w w' := by
  have HR := Lib.hid hr; clear hr
  have HS := Lib.hid hs; clear hs
  have heq := eql_blk
  have hgu := guard_blk
  have d0 : ((n : Int) != (n : Int)) = false := by simp
  go_enter Tryd.func12, Tryd.ntmps12
  go_wp2
  go_loopw [5] (fun i wr => ∃ k : Nat, k ≤ n ∧ i = .int .i64 (k : Int) ∧ New w wr) (fun i _ => n - (intOf i).toNat)
  case atStart => exact ⟨0, by omega, rfl, New.refl _⟩
  case round =>
    obtain ⟨k, hk, rfl, hN⟩ := hrel
    by_cases hlt : k < n
    · obtain ⟨b, o, x, rfl, hb, hx, hc⟩ := (HR.out.keep hN).at_ hlt
      obtain ⟨b', o', x', rfl, hb', hx', hc'⟩ := (HS.out.keep hN).at_ hlt
      rw [hx] at hx'
      injection hx' with hx'
      subst hx'
      have g0 := hc 0 _ rfl
      have g1 := hc 1 _ rfl
      have g2 := hc 2 _ rfl
      have g3 := hc 3 _ rfl
      have k0 := hc' 0 _ rfl
      have k1 := hc' 1 _ rfl
      have k2 := hc' 2 _ rfl
      have k3 := hc' 3 _ rfl
      simp only [Nat.add_zero] at g0 k0
      have i0 : (0 : Int) ≤ (k : Int) := by omega
      have i1 : (k : Int) < (n : Int) := by omega
      clear hx hc hc'
      go_wp2
      (refine wp_region_new (by kernel_rfl) (by kernel_rfl) ?_; (repeat (go_big_quiet_step ((fail)))); refine wpQuiet_nil ?_)
      intro w2 n2
      go_wp2
      go_roundw
      case rel => exact ⟨k + 1, by omega, by go_num, hN.trans n2⟩
      case measure => simp [intOf]; omega
    · go_wp2
      go_ret
      exact ⟨rfl, hN⟩

theorem CheckOf_big (s : ByteArray) (w : World) (hs : 3000 < s.size) :
    Calls Tryd.prog 7 #[.string s] w fun e w' => e = .returned (.tuple #[.int .i64 0, .int .i64 8]) ∧ New w w' := by
  have h1 : (3000 : Int) < (s.size : Int) := by omega
  go_enter Tryd.func7, Tryd.ntmps7
  go_wp2_with fail
  go_ret2
  exact ⟨rfl, New.refl _⟩

theorem checks_early0 (s : ByteArray) (size : Int) (x : Blk) (w : World) (hs : 200 < s.size ∧ s.size ≤ 3000) :
    Calls Tryd.prog 3 #[.string s, .int .i64 size, .agg #[.int .i64 x.n, .int .i64 x.c, .int .i64 x.k, .string x.b]] w fun e w' => e = .returned (.bool true) ∧ New w w' := by
  have s1 : decide (200 < (s.size : Int)) = true := decide_eq_true (by omega)
  have s2 : decide ((s.size : Int) ≤ 3000) = true := decide_eq_true (by omega)
  have s3 : decide (3005 < (s.size : Int)) = false := decide_eq_false (by omega)
  have N0 := (New.refl w).alloc (.cells #[.int .i64 x.n, .int .i64 x.c, .int .i64 x.k, .string x.b] 23)
  have b0 := Bx.mk w 23 #[.int .i64 x.n, .int .i64 x.c, .int .i64 x.k, .string x.b]
  go_enter Tryd.func3, Tryd.ntmps3
  go_wp2_with fail
  refine (awake_any _).mono ?_
  rintro e w1 ⟨rfl, n1⟩
  have N := N0.trans n1
  have b1 := b0.keep n1
  have c3 : w1.cell? ⟨w.heap.size, 3, none⟩ = some (.string x.b) := b1.cell 3
  clear n1 N0 b0
  go_wp2_with fail
  go_ret
  exact ⟨rfl, N⟩

theorem checks_early1 (s : ByteArray) (size : Int) (x : Blk) (w : World) (hs : 3005 < s.size) :
    Calls Tryd.prog 3 #[.string s, .int .i64 size, .agg #[.int .i64 x.n, .int .i64 x.c, .int .i64 x.k, .string x.b]] w fun e w' => e = .returned (.bool true) ∧ New w w' := by
  have s1 : decide (200 < (s.size : Int)) = true := decide_eq_true (by omega)
  have s2 : decide ((s.size : Int) ≤ 3000) = false := decide_eq_false (by omega)
  have s3 : decide (3005 < (s.size : Int)) = true := decide_eq_true (by omega)
  have N0 := (New.refl w).alloc (.cells #[.int .i64 x.n, .int .i64 x.c, .int .i64 x.k, .string x.b] 23)
  have b0 := Bx.mk w 23 #[.int .i64 x.n, .int .i64 x.c, .int .i64 x.k, .string x.b]
  go_enter Tryd.func3, Tryd.ntmps3
  go_wp2_with fail
  refine (awake_any _).mono ?_
  rintro e w1 ⟨rfl, n1⟩
  have N := N0.trans n1
  have b1 := b0.keep n1
  have c3 : w1.cell? ⟨w.heap.size, 3, none⟩ = some (.string x.b) := b1.cell 3
  clear n1 N0 b0
  go_wp2_with fail
  go_ret
  exact ⟨rfl, N⟩

theorem checks_early2 (s : ByteArray) (size : Int) (x : Blk) (w : World) (hs : s.size ≤ 200) (hb : 100 < x.b.size ∧ x.b.size ≤ 1000) :
    Calls Tryd.prog 3 #[.string s, .int .i64 size, .agg #[.int .i64 x.n, .int .i64 x.c, .int .i64 x.k, .string x.b]] w fun e w' => e = .returned (.bool true) ∧ New w w' := by
  have s1 : decide (200 < (s.size : Int)) = false := decide_eq_false (by omega)
  have s2 : decide ((s.size : Int) ≤ 3000) = true := decide_eq_true (by omega)
  have s3 : decide (3005 < (s.size : Int)) = false := decide_eq_false (by omega)
  have b1' : decide (100 < (x.b.size : Int)) = true := decide_eq_true (by omega)
  have b2' : decide ((x.b.size : Int) ≤ 1000) = true := decide_eq_true (by omega)
  have b3' : decide (1005 < (x.b.size : Int)) = false := decide_eq_false (by omega)
  have N0 := (New.refl w).alloc (.cells #[.int .i64 x.n, .int .i64 x.c, .int .i64 x.k, .string x.b] 23)
  have b0 := Bx.mk w 23 #[.int .i64 x.n, .int .i64 x.c, .int .i64 x.k, .string x.b]
  go_enter Tryd.func3, Tryd.ntmps3
  go_wp2_with fail
  refine (awake_any _).mono ?_
  rintro e w1 ⟨rfl, n1⟩
  have N := N0.trans n1
  have b1 := b0.keep n1
  have c3 : w1.cell? ⟨w.heap.size, 3, none⟩ = some (.string x.b) := b1.cell 3
  clear n1 N0 b0
  go_wp2_with fail
  go_ret
  exact ⟨rfl, N⟩

theorem checks_early3 (s : ByteArray) (size : Int) (x : Blk) (w : World) (hs : s.size ≤ 200) (hb : 1005 < x.b.size) :
    Calls Tryd.prog 3 #[.string s, .int .i64 size, .agg #[.int .i64 x.n, .int .i64 x.c, .int .i64 x.k, .string x.b]] w fun e w' => e = .returned (.bool true) ∧ New w w' := by
  have s1 : decide (200 < (s.size : Int)) = false := decide_eq_false (by omega)
  have s2 : decide ((s.size : Int) ≤ 3000) = true := decide_eq_true (by omega)
  have s3 : decide (3005 < (s.size : Int)) = false := decide_eq_false (by omega)
  have b1' : decide (100 < (x.b.size : Int)) = true := decide_eq_true (by omega)
  have b2' : decide ((x.b.size : Int) ≤ 1000) = false := decide_eq_false (by omega)
  have b3' : decide (1005 < (x.b.size : Int)) = true := decide_eq_true (by omega)
  have N0 := (New.refl w).alloc (.cells #[.int .i64 x.n, .int .i64 x.c, .int .i64 x.k, .string x.b] 23)
  have b0 := Bx.mk w 23 #[.int .i64 x.n, .int .i64 x.c, .int .i64 x.k, .string x.b]
  go_enter Tryd.func3, Tryd.ntmps3
  go_wp2_with fail
  refine (awake_any _).mono ?_
  rintro e w1 ⟨rfl, n1⟩
  have N := N0.trans n1
  have b1 := b0.keep n1
  have c3 : w1.cell? ⟨w.heap.size, 3, none⟩ = some (.string x.b) := b1.cell 3
  clear n1 N0 b0
  go_wp2_with fail
  go_ret
  exact ⟨rfl, N⟩

theorem checks_early4 (s : ByteArray) (size : Int) (x : Blk) (w : World) (hs : 3000 < s.size ∧ s.size ≤ 3005) (hb : 100 < x.b.size ∧ x.b.size ≤ 1000) :
    Calls Tryd.prog 3 #[.string s, .int .i64 size, .agg #[.int .i64 x.n, .int .i64 x.c, .int .i64 x.k, .string x.b]] w fun e w' => e = .returned (.bool true) ∧ New w w' := by
  have s1 : decide (200 < (s.size : Int)) = true := decide_eq_true (by omega)
  have s2 : decide ((s.size : Int) ≤ 3000) = false := decide_eq_false (by omega)
  have s3 : decide (3005 < (s.size : Int)) = false := decide_eq_false (by omega)
  have b1' : decide (100 < (x.b.size : Int)) = true := decide_eq_true (by omega)
  have b2' : decide ((x.b.size : Int) ≤ 1000) = true := decide_eq_true (by omega)
  have b3' : decide (1005 < (x.b.size : Int)) = false := decide_eq_false (by omega)
  have N0 := (New.refl w).alloc (.cells #[.int .i64 x.n, .int .i64 x.c, .int .i64 x.k, .string x.b] 23)
  have b0 := Bx.mk w 23 #[.int .i64 x.n, .int .i64 x.c, .int .i64 x.k, .string x.b]
  go_enter Tryd.func3, Tryd.ntmps3
  go_wp2_with fail
  refine (awake_any _).mono ?_
  rintro e w1 ⟨rfl, n1⟩
  have N := N0.trans n1
  have b1 := b0.keep n1
  have c3 : w1.cell? ⟨w.heap.size, 3, none⟩ = some (.string x.b) := b1.cell 3
  clear n1 N0 b0
  go_wp2_with fail
  go_ret
  exact ⟨rfl, N⟩

theorem checks_early5 (s : ByteArray) (size : Int) (x : Blk) (w : World) (hs : 3000 < s.size ∧ s.size ≤ 3005) (hb : 1005 < x.b.size) :
    Calls Tryd.prog 3 #[.string s, .int .i64 size, .agg #[.int .i64 x.n, .int .i64 x.c, .int .i64 x.k, .string x.b]] w fun e w' => e = .returned (.bool true) ∧ New w w' := by
  have s1 : decide (200 < (s.size : Int)) = true := decide_eq_true (by omega)
  have s2 : decide ((s.size : Int) ≤ 3000) = false := decide_eq_false (by omega)
  have s3 : decide (3005 < (s.size : Int)) = false := decide_eq_false (by omega)
  have b1' : decide (100 < (x.b.size : Int)) = true := decide_eq_true (by omega)
  have b2' : decide ((x.b.size : Int) ≤ 1000) = false := decide_eq_false (by omega)
  have b3' : decide (1005 < (x.b.size : Int)) = true := decide_eq_true (by omega)
  have N0 := (New.refl w).alloc (.cells #[.int .i64 x.n, .int .i64 x.c, .int .i64 x.k, .string x.b] 23)
  have b0 := Bx.mk w 23 #[.int .i64 x.n, .int .i64 x.c, .int .i64 x.k, .string x.b]
  go_enter Tryd.func3, Tryd.ntmps3
  go_wp2_with fail
  refine (awake_any _).mono ?_
  rintro e w1 ⟨rfl, n1⟩
  have N := N0.trans n1
  have b1 := b0.keep n1
  have c3 : w1.cell? ⟨w.heap.size, 3, none⟩ = some (.string x.b) := b1.cell 3
  clear n1 N0 b0
  go_wp2_with fail
  go_ret
  exact ⟨rfl, N⟩

theorem cntB_bound {len size : Int} (h : strE len size = 0) : cntB len size ≤ 30 := by
  unfold strE at h
  by_cases a : 3000 < len
  · rw [if_pos a] at h; cases h
  · rw [if_neg a] at h
    by_cases q : size < 1 ∨ 1000 < size
    · rw [if_pos q] at h; cases h
    · rw [if_neg q] at h
      by_cases r : 30 < cntB len size
      · rw [if_pos r] at h; cases h
      · omega

set_option maxRecDepth 100000 in
set_option maxHeartbeats 4000000 in
theorem checks_in0 (s : ByteArray) (size : Int) (x : Blk) (w : World) (hx : okK x) (ht : Tab w) (hs : s.size ≤ 200) (hb : x.b.size ≤ 100) (hE : strE (s.size : Int) size = 0) :
    Calls Tryd.prog 3 #[.string s, .int .i64 size, .agg #[.int .i64 x.n, .int .i64 x.c, .int .i64 x.k, .string x.b]] w fun e w' => e = .returned (.bool true) ∧ New w w' := by
  have s1 : decide (200 < (s.size : Int)) = false := decide_eq_false (by omega)
  have s2 : decide ((s.size : Int) ≤ 3000) = true := decide_eq_true (by omega)
  have s3 : decide (3005 < (s.size : Int)) = false := decide_eq_false (by omega)
  have b1' : decide (100 < (x.b.size : Int)) = false := decide_eq_false (by omega)
  have b2' : decide ((x.b.size : Int) ≤ 1000) = true := decide_eq_true (by omega)
  have b3' : decide (1005 < (x.b.size : Int)) = false := decide_eq_false (by omega)
  have s4 : decide (3000 < (s.size : Int)) = false := decide_eq_false (by omega)
  have HT := Lib.hid ht
  have HX := Lib.hid hx
  have HE := Lib.hid hE
  have HB := Lib.hid (show bodyE x = 0 by unfold bodyE; rw [if_neg (by omega)])
  obtain ⟨sb, hsb⟩ : ∃ b, soundK x = b := ⟨_, rfl⟩
  have HSB := Lib.hid hsb
  have HSE := Lib.hid (show soundE x = sb by unfold soundE; rw [HB.out, if_pos rfl, hsb])
  clear hsb
  have N0 := (New.refl w).alloc (.cells #[.int .i64 x.n, .int .i64 x.c, .int .i64 x.k, .string x.b] 23)
  have b0 := Bx.mk w 23 #[.int .i64 x.n, .int .i64 x.c, .int .i64 x.k, .string x.b]
  clear ht hx hE
  go_enter Tryd.func3, Tryd.ntmps3
  go_wp2_with fail
  refine (awake_any _).mono ?_
  rintro e w1 ⟨rfl, n1⟩
  have N := N0.trans n1
  have b1 := b0.keep n1
  have c3 : w1.cell? ⟨w.heap.size, 3, none⟩ = some (.string x.b) := b1.cell 3
  clear n1 N0 b0
  go_wp2_with fail
  refine (CheckOf_any s _ (by omega)).mono ?_
  rintro e w2 ⟨rfl, nn⟩
  have N := N.trans nn
  have b1 := b1.keep nn
  clear nn
  go_wp2_with fail
  refine (blocksOf_any s size _ (by omega) (HT.out.keep N)).mono ?_
  rintro e w3 ⟨nn, ⟨hbad, _⟩ | ⟨_, A, n, c, rfl, hnn, hr⟩⟩
  · exact absurd HE.out hbad
  have N := N.trans nn
  have b1 := b1.keep nn
  have HRL := Lib.hid hr
  have HNN := Lib.hid hnn
  clear hr hnn nn
  have c0 : w3.cell? ⟨w.heap.size, 0, none⟩ = some (.int .i64 x.n) := b1.cell 0
  have c1 : w3.cell? ⟨w.heap.size, 1, none⟩ = some (.int .i64 x.c) := b1.cell 1
  have c2 : w3.cell? ⟨w.heap.size, 2, none⟩ = some (.int .i64 x.k) := b1.cell 2
  have c3 : w3.cell? ⟨w.heap.size, 3, none⟩ = some (.string x.b) := b1.cell 3
  go_wp2_with fail
  refine (IsSound_any x _ HX.out (HT.out.keep N)).mono ?_
  rintro e w4 ⟨rfl, nn⟩
  rw [HSE.out, HB.out]
  have N := N.trans nn
  have b1 := b1.keep nn
  have HRL := Lib.hid (HRL.out.keep nn)
  clear nn c0 c1 c2 c3
  go_wp2_with fail
  refine (refCrc_any s _ (by omega)).mono ?_
  rintro e w5 ⟨rfl, nn⟩
  rw [refCrc_eq]
  have N := N.trans nn
  have b1 := b1.keep nn
  have HRL := Lib.hid (HRL.out.keep nn)
  clear nn
  go_wp2_with fail
  refine (stringErr_any s size _ (by omega)).mono ?_
  rintro e w' ⟨rfl, rfl⟩
  rw [HE.out]
  go_wp2_with fail
  refine (refBlocksOf_any s size _ (by omega) HE.out).mono ?_
  rintro e w6 ⟨nn, B, m, c', rfl, hm, hr6⟩
  have N := N.trans nn
  have b1 := b1.keep nn
  obtain rfl : n = m := by have := HNN.out; omega
  have HR6 := Lib.hid hr6
  have HRL := Lib.hid (HRL.out.keep nn)
  have hn30 : n ≤ 1000000 := by have h1 := HNN.out; have h2 := cntB_bound HE.out; omega
  clear hr6 hm nn
  go_wp2_with fail
  refine (blks_like A B n c c' _ _ hn30 HRL.out HR6.out).mono ?_
  rintro e w7 ⟨rfl, nn⟩
  have N := N.trans nn
  have b1 := b1.keep nn
  clear nn HRL HR6
  have c0 : w7.cell? ⟨w.heap.size, 0, none⟩ = some (.int .i64 x.n) := b1.cell 0
  have c1 : w7.cell? ⟨w.heap.size, 1, none⟩ = some (.int .i64 x.c) := b1.cell 1
  have c2 : w7.cell? ⟨w.heap.size, 2, none⟩ = some (.int .i64 x.k) := b1.cell 2
  have c3 : w7.cell? ⟨w.heap.size, 3, none⟩ = some (.string x.b) := b1.cell 3
  go_wp2_with fail
  refine (blockErr_any x _).mono ?_
  rintro e w8 ⟨rfl, nn⟩
  rw [HB.out]
  have N := N.trans nn
  have b1 := b1.keep nn
  clear nn c0 c1 c2 c3
  have c0 : w8.cell? ⟨w.heap.size, 0, none⟩ = some (.int .i64 x.n) := b1.cell 0
  have c1 : w8.cell? ⟨w.heap.size, 1, none⟩ = some (.int .i64 x.c) := b1.cell 1
  have c2 : w8.cell? ⟨w.heap.size, 2, none⟩ = some (.int .i64 x.k) := b1.cell 2
  have c3 : w8.cell? ⟨w.heap.size, 3, none⟩ = some (.string x.b) := b1.cell 3
  go_wp2_with fail
  refine (refIsSound_any x _ HX.out (by omega)).mono ?_
  rintro e w9 ⟨rfl, nn⟩
  rw [HSB.out]
  have N := N.trans nn
  have b1 := b1.keep nn
  clear nn c0 c1 c2 c3
  cases sb
  all_goals
    go_wp2_with fail
    go_ret
    exact ⟨rfl, N⟩

set_option maxRecDepth 100000 in
set_option maxHeartbeats 4000000 in
theorem checks_in1 (s : ByteArray) (size : Int) (x : Blk) (w : World) (hx : okK x) (ht : Tab w) (hs : s.size ≤ 200) (hb : x.b.size ≤ 100) (hE : strE (s.size : Int) size ≠ 0) :
    Calls Tryd.prog 3 #[.string s, .int .i64 size, .agg #[.int .i64 x.n, .int .i64 x.c, .int .i64 x.k, .string x.b]] w fun e w' => e = .returned (.bool true) ∧ New w w' := by
  have s1 : decide (200 < (s.size : Int)) = false := decide_eq_false (by omega)
  have s2 : decide ((s.size : Int) ≤ 3000) = true := decide_eq_true (by omega)
  have s3 : decide (3005 < (s.size : Int)) = false := decide_eq_false (by omega)
  have b1' : decide (100 < (x.b.size : Int)) = false := decide_eq_false (by omega)
  have b2' : decide ((x.b.size : Int) ≤ 1000) = true := decide_eq_true (by omega)
  have b3' : decide (1005 < (x.b.size : Int)) = false := decide_eq_false (by omega)
  have s4 : decide (3000 < (s.size : Int)) = false := decide_eq_false (by omega)
  have HT := Lib.hid ht
  have HX := Lib.hid hx
  obtain ⟨E, hEE⟩ : ∃ E, strE (s.size : Int) size = E := ⟨_, rfl⟩
  rw [hEE] at hE
  have HE := Lib.hid hEE
  have dE : (E != 0) = true := by simpa using hE
  have dE2 : (E == 0) = false := by simpa using hE
  clear hEE
  have HB := Lib.hid (show bodyE x = 0 by unfold bodyE; rw [if_neg (by omega)])
  obtain ⟨sb, hsb⟩ : ∃ b, soundK x = b := ⟨_, rfl⟩
  have HSB := Lib.hid hsb
  have HSE := Lib.hid (show soundE x = sb by unfold soundE; rw [HB.out, if_pos rfl, hsb])
  clear hsb
  have N0 := (New.refl w).alloc (.cells #[.int .i64 x.n, .int .i64 x.c, .int .i64 x.k, .string x.b] 23)
  have b0 := Bx.mk w 23 #[.int .i64 x.n, .int .i64 x.c, .int .i64 x.k, .string x.b]
  clear ht hx
  go_enter Tryd.func3, Tryd.ntmps3
  go_wp2_with fail
  refine (awake_any _).mono ?_
  rintro e w1 ⟨rfl, n1⟩
  have N := N0.trans n1
  have b1 := b0.keep n1
  have c3 : w1.cell? ⟨w.heap.size, 3, none⟩ = some (.string x.b) := b1.cell 3
  clear n1 N0 b0
  go_wp2_with fail
  refine (CheckOf_any s _ (by omega)).mono ?_
  rintro e w2 ⟨rfl, nn⟩
  have N := N.trans nn
  have b1 := b1.keep nn
  clear nn
  go_wp2_with fail
  refine (blocksOf_any s size _ (by omega) (HT.out.keep N)).mono ?_
  rintro e w3 ⟨nn, ⟨_, rfl⟩ | ⟨hbad, _⟩⟩
  rotate_left
  · exact absurd (HE.out.symm.trans hbad) (by simpa using dE)
  have N := N.trans nn
  rw [HE.out]
  have b1 := b1.keep nn
  clear nn
  have c0 : w3.cell? ⟨w.heap.size, 0, none⟩ = some (.int .i64 x.n) := b1.cell 0
  have c1 : w3.cell? ⟨w.heap.size, 1, none⟩ = some (.int .i64 x.c) := b1.cell 1
  have c2 : w3.cell? ⟨w.heap.size, 2, none⟩ = some (.int .i64 x.k) := b1.cell 2
  have c3 : w3.cell? ⟨w.heap.size, 3, none⟩ = some (.string x.b) := b1.cell 3
  go_wp2_with fail
  refine (IsSound_any x _ HX.out (HT.out.keep N)).mono ?_
  rintro e w4 ⟨rfl, nn⟩
  rw [HSE.out, HB.out]
  have N := N.trans nn
  have b1 := b1.keep nn
  clear nn c0 c1 c2 c3
  go_wp2_with fail
  refine (refCrc_any s _ (by omega)).mono ?_
  rintro e w5 ⟨rfl, nn⟩
  rw [refCrc_eq]
  have N := N.trans nn
  have b1 := b1.keep nn
  clear nn
  go_wp2_with fail
  refine (stringErr_any s size _ (by omega)).mono ?_
  rintro e w' ⟨rfl, rfl⟩
  rw [HE.out]
  have c0 : w5.cell? ⟨w.heap.size, 0, none⟩ = some (.int .i64 x.n) := b1.cell 0
  have c1 : w5.cell? ⟨w.heap.size, 1, none⟩ = some (.int .i64 x.c) := b1.cell 1
  have c2 : w5.cell? ⟨w.heap.size, 2, none⟩ = some (.int .i64 x.k) := b1.cell 2
  have c3 : w5.cell? ⟨w.heap.size, 3, none⟩ = some (.string x.b) := b1.cell 3
  go_wp2_with fail
  refine (blockErr_any x _).mono ?_
  rintro e w8 ⟨rfl, nn⟩
  rw [HB.out]
  have N := N.trans nn
  have b1 := b1.keep nn
  clear nn c0 c1 c2 c3
  have c0 : w8.cell? ⟨w.heap.size, 0, none⟩ = some (.int .i64 x.n) := b1.cell 0
  have c1 : w8.cell? ⟨w.heap.size, 1, none⟩ = some (.int .i64 x.c) := b1.cell 1
  have c2 : w8.cell? ⟨w.heap.size, 2, none⟩ = some (.int .i64 x.k) := b1.cell 2
  have c3 : w8.cell? ⟨w.heap.size, 3, none⟩ = some (.string x.b) := b1.cell 3
  go_wp2_with fail
  refine (refIsSound_any x _ HX.out (by omega)).mono ?_
  rintro e w9 ⟨rfl, nn⟩
  rw [HSB.out]
  have N := N.trans nn
  have b1 := b1.keep nn
  clear nn c0 c1 c2 c3
  cases sb
  all_goals
    go_wp2_with fail
    go_ret
    exact ⟨rfl, N⟩

set_option maxRecDepth 100000 in
set_option maxHeartbeats 4000000 in
theorem checks_in2 (s : ByteArray) (size : Int) (x : Blk) (w : World) (hx : okK x) (ht : Tab w) (hs : s.size ≤ 200) (hb : 1000 < x.b.size ∧ x.b.size ≤ 1005) (hE : strE (s.size : Int) size = 0) :
    Calls Tryd.prog 3 #[.string s, .int .i64 size, .agg #[.int .i64 x.n, .int .i64 x.c, .int .i64 x.k, .string x.b]] w fun e w' => e = .returned (.bool true) ∧ New w w' := by
  have s1 : decide (200 < (s.size : Int)) = false := decide_eq_false (by omega)
  have s2 : decide ((s.size : Int) ≤ 3000) = true := decide_eq_true (by omega)
  have s3 : decide (3005 < (s.size : Int)) = false := decide_eq_false (by omega)
  have b1' : decide (100 < (x.b.size : Int)) = true := decide_eq_true (by omega)
  have b2' : decide ((x.b.size : Int) ≤ 1000) = false := decide_eq_false (by omega)
  have b3' : decide (1005 < (x.b.size : Int)) = false := decide_eq_false (by omega)
  have s4 : decide (3000 < (s.size : Int)) = false := decide_eq_false (by omega)
  have HT := Lib.hid ht
  have HX := Lib.hid hx
  have HE := Lib.hid hE
  have HB := Lib.hid (show bodyE x = 8 by unfold bodyE; rw [if_pos (by omega)])
  have HSE := Lib.hid (show soundE x = false by unfold soundE; rw [HB.out, if_neg (by decide)])
  have N0 := (New.refl w).alloc (.cells #[.int .i64 x.n, .int .i64 x.c, .int .i64 x.k, .string x.b] 23)
  have b0 := Bx.mk w 23 #[.int .i64 x.n, .int .i64 x.c, .int .i64 x.k, .string x.b]
  clear ht hx hE
  go_enter Tryd.func3, Tryd.ntmps3
  go_wp2_with fail
  refine (awake_any _).mono ?_
  rintro e w1 ⟨rfl, n1⟩
  have N := N0.trans n1
  have b1 := b0.keep n1
  have c3 : w1.cell? ⟨w.heap.size, 3, none⟩ = some (.string x.b) := b1.cell 3
  clear n1 N0 b0
  go_wp2_with fail
  refine (CheckOf_any s _ (by omega)).mono ?_
  rintro e w2 ⟨rfl, nn⟩
  have N := N.trans nn
  have b1 := b1.keep nn
  clear nn
  go_wp2_with fail
  refine (blocksOf_any s size _ (by omega) (HT.out.keep N)).mono ?_
  rintro e w3 ⟨nn, ⟨hbad, _⟩ | ⟨_, A, n, c, rfl, hnn, hr⟩⟩
  · exact absurd HE.out hbad
  have N := N.trans nn
  have b1 := b1.keep nn
  have HRL := Lib.hid hr
  have HNN := Lib.hid hnn
  clear hr hnn nn
  have c0 : w3.cell? ⟨w.heap.size, 0, none⟩ = some (.int .i64 x.n) := b1.cell 0
  have c1 : w3.cell? ⟨w.heap.size, 1, none⟩ = some (.int .i64 x.c) := b1.cell 1
  have c2 : w3.cell? ⟨w.heap.size, 2, none⟩ = some (.int .i64 x.k) := b1.cell 2
  have c3 : w3.cell? ⟨w.heap.size, 3, none⟩ = some (.string x.b) := b1.cell 3
  go_wp2_with fail
  refine (IsSound_any x _ HX.out (HT.out.keep N)).mono ?_
  rintro e w4 ⟨rfl, nn⟩
  rw [HSE.out, HB.out]
  have N := N.trans nn
  have b1 := b1.keep nn
  have HRL := Lib.hid (HRL.out.keep nn)
  clear nn c0 c1 c2 c3
  go_wp2_with fail
  refine (refCrc_any s _ (by omega)).mono ?_
  rintro e w5 ⟨rfl, nn⟩
  rw [refCrc_eq]
  have N := N.trans nn
  have b1 := b1.keep nn
  have HRL := Lib.hid (HRL.out.keep nn)
  clear nn
  go_wp2_with fail
  refine (stringErr_any s size _ (by omega)).mono ?_
  rintro e w' ⟨rfl, rfl⟩
  rw [HE.out]
  go_wp2_with fail
  refine (refBlocksOf_any s size _ (by omega) HE.out).mono ?_
  rintro e w6 ⟨nn, B, m, c', rfl, hm, hr6⟩
  have N := N.trans nn
  have b1 := b1.keep nn
  obtain rfl : n = m := by have := HNN.out; omega
  have HR6 := Lib.hid hr6
  have HRL := Lib.hid (HRL.out.keep nn)
  have hn30 : n ≤ 1000000 := by have h1 := HNN.out; have h2 := cntB_bound HE.out; omega
  clear hr6 hm nn
  go_wp2_with fail
  refine (blks_like A B n c c' _ _ hn30 HRL.out HR6.out).mono ?_
  rintro e w7 ⟨rfl, nn⟩
  have N := N.trans nn
  have b1 := b1.keep nn
  clear nn HRL HR6
  have c0 : w7.cell? ⟨w.heap.size, 0, none⟩ = some (.int .i64 x.n) := b1.cell 0
  have c1 : w7.cell? ⟨w.heap.size, 1, none⟩ = some (.int .i64 x.c) := b1.cell 1
  have c2 : w7.cell? ⟨w.heap.size, 2, none⟩ = some (.int .i64 x.k) := b1.cell 2
  have c3 : w7.cell? ⟨w.heap.size, 3, none⟩ = some (.string x.b) := b1.cell 3
  go_wp2_with fail
  refine (blockErr_any x _).mono ?_
  rintro e w8 ⟨rfl, nn⟩
  rw [HB.out]
  have N := N.trans nn
  have b1 := b1.keep nn
  clear nn c0 c1 c2 c3
  go_wp2_with fail
  go_ret
  exact ⟨rfl, N⟩

set_option maxRecDepth 100000 in
set_option maxHeartbeats 4000000 in
theorem checks_in3 (s : ByteArray) (size : Int) (x : Blk) (w : World) (hx : okK x) (ht : Tab w) (hs : s.size ≤ 200) (hb : 1000 < x.b.size ∧ x.b.size ≤ 1005) (hE : strE (s.size : Int) size ≠ 0) :
    Calls Tryd.prog 3 #[.string s, .int .i64 size, .agg #[.int .i64 x.n, .int .i64 x.c, .int .i64 x.k, .string x.b]] w fun e w' => e = .returned (.bool true) ∧ New w w' := by
  have s1 : decide (200 < (s.size : Int)) = false := decide_eq_false (by omega)
  have s2 : decide ((s.size : Int) ≤ 3000) = true := decide_eq_true (by omega)
  have s3 : decide (3005 < (s.size : Int)) = false := decide_eq_false (by omega)
  have b1' : decide (100 < (x.b.size : Int)) = true := decide_eq_true (by omega)
  have b2' : decide ((x.b.size : Int) ≤ 1000) = false := decide_eq_false (by omega)
  have b3' : decide (1005 < (x.b.size : Int)) = false := decide_eq_false (by omega)
  have s4 : decide (3000 < (s.size : Int)) = false := decide_eq_false (by omega)
  have HT := Lib.hid ht
  have HX := Lib.hid hx
  obtain ⟨E, hEE⟩ : ∃ E, strE (s.size : Int) size = E := ⟨_, rfl⟩
  rw [hEE] at hE
  have HE := Lib.hid hEE
  have dE : (E != 0) = true := by simpa using hE
  have dE2 : (E == 0) = false := by simpa using hE
  clear hEE
  have HB := Lib.hid (show bodyE x = 8 by unfold bodyE; rw [if_pos (by omega)])
  have HSE := Lib.hid (show soundE x = false by unfold soundE; rw [HB.out, if_neg (by decide)])
  have N0 := (New.refl w).alloc (.cells #[.int .i64 x.n, .int .i64 x.c, .int .i64 x.k, .string x.b] 23)
  have b0 := Bx.mk w 23 #[.int .i64 x.n, .int .i64 x.c, .int .i64 x.k, .string x.b]
  clear ht hx
  go_enter Tryd.func3, Tryd.ntmps3
  go_wp2_with fail
  refine (awake_any _).mono ?_
  rintro e w1 ⟨rfl, n1⟩
  have N := N0.trans n1
  have b1 := b0.keep n1
  have c3 : w1.cell? ⟨w.heap.size, 3, none⟩ = some (.string x.b) := b1.cell 3
  clear n1 N0 b0
  go_wp2_with fail
  refine (CheckOf_any s _ (by omega)).mono ?_
  rintro e w2 ⟨rfl, nn⟩
  have N := N.trans nn
  have b1 := b1.keep nn
  clear nn
  go_wp2_with fail
  refine (blocksOf_any s size _ (by omega) (HT.out.keep N)).mono ?_
  rintro e w3 ⟨nn, ⟨_, rfl⟩ | ⟨hbad, _⟩⟩
  rotate_left
  · exact absurd (HE.out.symm.trans hbad) (by simpa using dE)
  have N := N.trans nn
  rw [HE.out]
  have b1 := b1.keep nn
  clear nn
  have c0 : w3.cell? ⟨w.heap.size, 0, none⟩ = some (.int .i64 x.n) := b1.cell 0
  have c1 : w3.cell? ⟨w.heap.size, 1, none⟩ = some (.int .i64 x.c) := b1.cell 1
  have c2 : w3.cell? ⟨w.heap.size, 2, none⟩ = some (.int .i64 x.k) := b1.cell 2
  have c3 : w3.cell? ⟨w.heap.size, 3, none⟩ = some (.string x.b) := b1.cell 3
  go_wp2_with fail
  refine (IsSound_any x _ HX.out (HT.out.keep N)).mono ?_
  rintro e w4 ⟨rfl, nn⟩
  rw [HSE.out, HB.out]
  have N := N.trans nn
  have b1 := b1.keep nn
  clear nn c0 c1 c2 c3
  go_wp2_with fail
  refine (refCrc_any s _ (by omega)).mono ?_
  rintro e w5 ⟨rfl, nn⟩
  rw [refCrc_eq]
  have N := N.trans nn
  have b1 := b1.keep nn
  clear nn
  go_wp2_with fail
  refine (stringErr_any s size _ (by omega)).mono ?_
  rintro e w' ⟨rfl, rfl⟩
  rw [HE.out]
  have c0 : w5.cell? ⟨w.heap.size, 0, none⟩ = some (.int .i64 x.n) := b1.cell 0
  have c1 : w5.cell? ⟨w.heap.size, 1, none⟩ = some (.int .i64 x.c) := b1.cell 1
  have c2 : w5.cell? ⟨w.heap.size, 2, none⟩ = some (.int .i64 x.k) := b1.cell 2
  have c3 : w5.cell? ⟨w.heap.size, 3, none⟩ = some (.string x.b) := b1.cell 3
  go_wp2_with fail
  refine (blockErr_any x _).mono ?_
  rintro e w8 ⟨rfl, nn⟩
  rw [HB.out]
  have N := N.trans nn
  have b1 := b1.keep nn
  clear nn c0 c1 c2 c3
  go_wp2_with fail
  go_ret
  exact ⟨rfl, N⟩

set_option maxRecDepth 100000 in
set_option maxHeartbeats 4000000 in
theorem checks_in4 (s : ByteArray) (size : Int) (x : Blk) (w : World) (hx : okK x) (ht : Tab w) (hs : 3000 < s.size ∧ s.size ≤ 3005) (hb : x.b.size ≤ 100) :
    Calls Tryd.prog 3 #[.string s, .int .i64 size, .agg #[.int .i64 x.n, .int .i64 x.c, .int .i64 x.k, .string x.b]] w fun e w' => e = .returned (.bool true) ∧ New w w' := by
  have s1 : decide (200 < (s.size : Int)) = true := decide_eq_true (by omega)
  have s2 : decide ((s.size : Int) ≤ 3000) = false := decide_eq_false (by omega)
  have s3 : decide (3005 < (s.size : Int)) = false := decide_eq_false (by omega)
  have b1' : decide (100 < (x.b.size : Int)) = false := decide_eq_false (by omega)
  have b2' : decide ((x.b.size : Int) ≤ 1000) = true := decide_eq_true (by omega)
  have b3' : decide (1005 < (x.b.size : Int)) = false := decide_eq_false (by omega)
  have s4 : decide (3000 < (s.size : Int)) = true := decide_eq_true (by omega)
  have HT := Lib.hid ht
  have HX := Lib.hid hx
  have hE : strE (s.size : Int) size = 8 := by unfold strE; rw [if_pos (by omega)]
  have HE := Lib.hid hE
  have HB := Lib.hid (show bodyE x = 0 by unfold bodyE; rw [if_neg (by omega)])
  obtain ⟨sb, hsb⟩ : ∃ b, soundK x = b := ⟨_, rfl⟩
  have HSB := Lib.hid hsb
  have HSE := Lib.hid (show soundE x = sb by unfold soundE; rw [HB.out, if_pos rfl, hsb])
  clear hsb
  have N0 := (New.refl w).alloc (.cells #[.int .i64 x.n, .int .i64 x.c, .int .i64 x.k, .string x.b] 23)
  have b0 := Bx.mk w 23 #[.int .i64 x.n, .int .i64 x.c, .int .i64 x.k, .string x.b]
  clear ht hx hE
  go_enter Tryd.func3, Tryd.ntmps3
  go_wp2_with fail
  refine (awake_any _).mono ?_
  rintro e w1 ⟨rfl, n1⟩
  have N := N0.trans n1
  have b1 := b0.keep n1
  have c3 : w1.cell? ⟨w.heap.size, 3, none⟩ = some (.string x.b) := b1.cell 3
  clear n1 N0 b0
  go_wp2_with fail
  refine (CheckOf_big s _ (by omega)).mono ?_
  rintro e w2 ⟨rfl, nn⟩
  have N := N.trans nn
  have b1 := b1.keep nn
  clear nn
  go_wp2_with fail
  refine (blocksOf_any s size _ (by omega) (HT.out.keep N)).mono ?_
  rintro e w3 ⟨nn, ⟨_, rfl⟩ | ⟨hbad, _⟩⟩
  rotate_left
  · exact absurd (HE.out.symm.trans hbad) (by decide)
  have N := N.trans nn
  rw [HE.out]
  have b1 := b1.keep nn
  clear nn
  have c0 : w3.cell? ⟨w.heap.size, 0, none⟩ = some (.int .i64 x.n) := b1.cell 0
  have c1 : w3.cell? ⟨w.heap.size, 1, none⟩ = some (.int .i64 x.c) := b1.cell 1
  have c2 : w3.cell? ⟨w.heap.size, 2, none⟩ = some (.int .i64 x.k) := b1.cell 2
  have c3 : w3.cell? ⟨w.heap.size, 3, none⟩ = some (.string x.b) := b1.cell 3
  go_wp2_with fail
  refine (IsSound_any x _ HX.out (HT.out.keep N)).mono ?_
  rintro e w4 ⟨rfl, nn⟩
  rw [HSE.out, HB.out]
  have N := N.trans nn
  have b1 := b1.keep nn
  clear nn c0 c1 c2 c3
  go_wp2_with fail
  refine (stringErr_any s size _ (by omega)).mono ?_
  rintro e w' ⟨rfl, rfl⟩
  rw [HE.out]
  have c0 : w4.cell? ⟨w.heap.size, 0, none⟩ = some (.int .i64 x.n) := b1.cell 0
  have c1 : w4.cell? ⟨w.heap.size, 1, none⟩ = some (.int .i64 x.c) := b1.cell 1
  have c2 : w4.cell? ⟨w.heap.size, 2, none⟩ = some (.int .i64 x.k) := b1.cell 2
  have c3 : w4.cell? ⟨w.heap.size, 3, none⟩ = some (.string x.b) := b1.cell 3
  go_wp2_with fail
  refine (blockErr_any x _).mono ?_
  rintro e w8 ⟨rfl, nn⟩
  rw [HB.out]
  have N := N.trans nn
  have b1 := b1.keep nn
  clear nn c0 c1 c2 c3
  have c0 : w8.cell? ⟨w.heap.size, 0, none⟩ = some (.int .i64 x.n) := b1.cell 0
  have c1 : w8.cell? ⟨w.heap.size, 1, none⟩ = some (.int .i64 x.c) := b1.cell 1
  have c2 : w8.cell? ⟨w.heap.size, 2, none⟩ = some (.int .i64 x.k) := b1.cell 2
  have c3 : w8.cell? ⟨w.heap.size, 3, none⟩ = some (.string x.b) := b1.cell 3
  go_wp2_with fail
  refine (refIsSound_any x _ HX.out (by omega)).mono ?_
  rintro e w9 ⟨rfl, nn⟩
  rw [HSB.out]
  have N := N.trans nn
  have b1 := b1.keep nn
  clear nn c0 c1 c2 c3
  cases sb
  all_goals
    go_wp2_with fail
    go_ret
    exact ⟨rfl, N⟩

set_option maxRecDepth 100000 in
set_option maxHeartbeats 4000000 in
theorem checks_in5 (s : ByteArray) (size : Int) (x : Blk) (w : World) (hx : okK x) (ht : Tab w) (hs : 3000 < s.size ∧ s.size ≤ 3005) (hb : 1000 < x.b.size ∧ x.b.size ≤ 1005) :
    Calls Tryd.prog 3 #[.string s, .int .i64 size, .agg #[.int .i64 x.n, .int .i64 x.c, .int .i64 x.k, .string x.b]] w fun e w' => e = .returned (.bool true) ∧ New w w' := by
  have s1 : decide (200 < (s.size : Int)) = true := decide_eq_true (by omega)
  have s2 : decide ((s.size : Int) ≤ 3000) = false := decide_eq_false (by omega)
  have s3 : decide (3005 < (s.size : Int)) = false := decide_eq_false (by omega)
  have b1' : decide (100 < (x.b.size : Int)) = true := decide_eq_true (by omega)
  have b2' : decide ((x.b.size : Int) ≤ 1000) = false := decide_eq_false (by omega)
  have b3' : decide (1005 < (x.b.size : Int)) = false := decide_eq_false (by omega)
  have s4 : decide (3000 < (s.size : Int)) = true := decide_eq_true (by omega)
  have HT := Lib.hid ht
  have HX := Lib.hid hx
  have hE : strE (s.size : Int) size = 8 := by unfold strE; rw [if_pos (by omega)]
  have HE := Lib.hid hE
  have HB := Lib.hid (show bodyE x = 8 by unfold bodyE; rw [if_pos (by omega)])
  have HSE := Lib.hid (show soundE x = false by unfold soundE; rw [HB.out, if_neg (by decide)])
  have N0 := (New.refl w).alloc (.cells #[.int .i64 x.n, .int .i64 x.c, .int .i64 x.k, .string x.b] 23)
  have b0 := Bx.mk w 23 #[.int .i64 x.n, .int .i64 x.c, .int .i64 x.k, .string x.b]
  clear ht hx hE
  go_enter Tryd.func3, Tryd.ntmps3
  go_wp2_with fail
  refine (awake_any _).mono ?_
  rintro e w1 ⟨rfl, n1⟩
  have N := N0.trans n1
  have b1 := b0.keep n1
  have c3 : w1.cell? ⟨w.heap.size, 3, none⟩ = some (.string x.b) := b1.cell 3
  clear n1 N0 b0
  go_wp2_with fail
  refine (CheckOf_big s _ (by omega)).mono ?_
  rintro e w2 ⟨rfl, nn⟩
  have N := N.trans nn
  have b1 := b1.keep nn
  clear nn
  go_wp2_with fail
  refine (blocksOf_any s size _ (by omega) (HT.out.keep N)).mono ?_
  rintro e w3 ⟨nn, ⟨_, rfl⟩ | ⟨hbad, _⟩⟩
  rotate_left
  · exact absurd (HE.out.symm.trans hbad) (by decide)
  have N := N.trans nn
  rw [HE.out]
  have b1 := b1.keep nn
  clear nn
  have c0 : w3.cell? ⟨w.heap.size, 0, none⟩ = some (.int .i64 x.n) := b1.cell 0
  have c1 : w3.cell? ⟨w.heap.size, 1, none⟩ = some (.int .i64 x.c) := b1.cell 1
  have c2 : w3.cell? ⟨w.heap.size, 2, none⟩ = some (.int .i64 x.k) := b1.cell 2
  have c3 : w3.cell? ⟨w.heap.size, 3, none⟩ = some (.string x.b) := b1.cell 3
  go_wp2_with fail
  refine (IsSound_any x _ HX.out (HT.out.keep N)).mono ?_
  rintro e w4 ⟨rfl, nn⟩
  rw [HSE.out, HB.out]
  have N := N.trans nn
  have b1 := b1.keep nn
  clear nn c0 c1 c2 c3
  go_wp2_with fail
  refine (stringErr_any s size _ (by omega)).mono ?_
  rintro e w' ⟨rfl, rfl⟩
  rw [HE.out]
  have c0 : w4.cell? ⟨w.heap.size, 0, none⟩ = some (.int .i64 x.n) := b1.cell 0
  have c1 : w4.cell? ⟨w.heap.size, 1, none⟩ = some (.int .i64 x.c) := b1.cell 1
  have c2 : w4.cell? ⟨w.heap.size, 2, none⟩ = some (.int .i64 x.k) := b1.cell 2
  have c3 : w4.cell? ⟨w.heap.size, 3, none⟩ = some (.string x.b) := b1.cell 3
  go_wp2_with fail
  refine (blockErr_any x _).mono ?_
  rintro e w8 ⟨rfl, nn⟩
  rw [HB.out]
  have N := N.trans nn
  have b1 := b1.keep nn
  clear nn c0 c1 c2 c3
  go_wp2_with fail
  go_ret
  exact ⟨rfl, N⟩

theorem stationChecks_any (s : ByteArray) (size : Int) (x : Blk) (w : World) (hx : okK x) (ht : Tab w) :
    Calls Tryd.prog 3 #[.string s, .int .i64 size, .agg #[.int .i64 x.n, .int .i64 x.c, .int .i64 x.k, .string x.b]] w fun e w' => e = .returned (.bool true) ∧ New w w' := by
  rcases (show (s.size ≤ 200) ∨ (200 < s.size ∧ s.size ≤ 3000) ∨ (3000 < s.size ∧ s.size ≤ 3005) ∨ (3005 < s.size) by omega) with hs | hs | hs | hs
  · rcases (show (x.b.size ≤ 100) ∨ (100 < x.b.size ∧ x.b.size ≤ 1000) ∨ (1000 < x.b.size ∧ x.b.size ≤ 1005) ∨ (1005 < x.b.size) by omega) with hb | hb | hb | hb
    · by_cases hE : strE (s.size : Int) size = 0
      · exact checks_in0 s size x w hx ht hs hb hE
      · exact checks_in1 s size x w hx ht hs hb hE
    · exact checks_early2 s size x w hs hb
    · by_cases hE : strE (s.size : Int) size = 0
      · exact checks_in2 s size x w hx ht hs hb hE
      · exact checks_in3 s size x w hx ht hs hb hE
    · exact checks_early3 s size x w hs hb
  · exact checks_early0 s size x w hs
  · rcases (show (x.b.size ≤ 100) ∨ (100 < x.b.size ∧ x.b.size ≤ 1000) ∨ (1000 < x.b.size ∧ x.b.size ≤ 1005) ∨ (1005 < x.b.size) by omega) with hb | hb | hb | hb
    · exact checks_in4 s size x w hx ht hs hb
    · exact checks_early4 s size x w hs hb
    · exact checks_in5 s size x w hx ht hs hb
    · exact checks_early5 s size x w hs hb
  · exact checks_early1 s size x w hs
end Go.Proofs.YtifppmbolpegpaaDoor
