/- Contracts of chapter 4: a valid trace is checked and opened. -/
import Derived.BigQuiet
import Derived.Deep.AppendLies
import Derived.Deep.Draws
import Derived.Deep.Quiet
import Derived.Deep.QuietTactic
import Derived.Lib.Hide
import Derived.OwnWalk
import Derived.StillTail
import Derived.Test.YteabmmibmopnkaaProg
import Derived.WalkKit
import Derived.WalkLawsBesides
import Derived.WalkSpells
import Derived.Test.YteabmmibmopnkaaC12H

namespace Go.Proofs.Yteabmmibmopnkaa
open Go.RowKit Go.Sky

theorem pWithin_is (n lo hi : Int) (c : Bool) (w : World) (h : inR n lo hi = c) : Calls Try.prog 142 #[.int .i64 n, .int .i64 lo, .int .i64 hi] w fun e w' => e = .returned (.bool c) ∧ w = w' := h ▸ pWithin_any n lo hi w
theorem isThick_is (n : Int) (c : Bool) (w : World) (h : inR n 0 500 = c) : Calls Try.prog 141 #[.int .i64 n] w fun e w' => e = .returned (.bool c) ∧ w = w' := h ▸ isThick_any n w
theorem isHeight_is (n : Int) (c : Bool) (w : World) (h : inR n 0 20000 = c) : Calls Try.prog 143 #[.int .i64 n] w fun e w' => e = .returned (.bool c) ∧ w = w' := h ▸ isHeight_any n w
theorem freqErr_is (n : Int) (c : Int) (w : World) (h : errU (inR n 1 3000) 2 = c) : Calls Try.prog 139 #[.int .i64 n] w fun e w' => e = .returned (.int .i64 c) ∧ w = w' := h ▸ freqErr_any n w
theorem pUnless_true (c : Bool) (n : Int) (w : World) (h : c = true) : Calls Try.prog 46 #[.bool c, .int .i64 n] w fun e w' => e = .returned (.int .i64 0) ∧ w = w' := by
  subst h
  exact pUnless_any true n w
theorem inR_true {n lo hi : Int} (h : lo ≤ n) (h' : n ≤ hi) : inR n lo hi = true := by unfold inR; exact decide_eq_true ⟨h, h'⟩

def lastF (l : List Pt) (k : Nat) : Int := if k = 0 then 0 else (ptAt l (k - 1)).f

set_option maxRecDepth 100000 in
set_option maxHeartbeats 4000000 in
theorem checkTrace_ok (l : List Pt) (af wd : Int) (A : Option Addr) (n cap : Nat) (w : World) (ht : TrOk l af wd) (hr : Rd w 3 encQ A n l) :
    Calls Try.prog 97 #[.agg #[.slice A n cap, .int .i64 af, .int .i64 wd]] w fun e w' => e = .returned (.tuple #[.int .i64 0, .int .i64 0]) ∧ New w w' := by
  have hL := hr.len
  have HR := Lib.hid hr; clear hr
  have hn0 : 0 < n := by have := ht.len0; omega
  have hn8 : n ≤ 8 := by have := ht.len8; omega
  obtain ⟨hw0, hw1⟩ := ht.wd
  obtain ⟨ha0, ha1⟩ := ht.af
  rw [hL] at ha1
  have HT := Lib.hid ht
  clear ht
  have t1 : decide ((0 : Int) < (n : Int)) = true := decide_eq_true (by omega)
  have t2 : decide ((n : Int) ≤ 8) = true := decide_eq_true (by omega)
  have HW := Lib.hid (inR_true hw0 hw1)
  have HA := Lib.hid (inR_true ha0 ha1)
  have N0 := (New.refl w).alloc (.cells #[.slice A n cap, .int .i64 af, .int .i64 wd] 24)
  have b0 := Bx.mk w 24 #[.slice A n cap, .int .i64 af, .int .i64 wd]
  have c0 : World.cell? _ ⟨w.heap.size, 0, none⟩ = some (.slice A n cap) := b0.cell 0
  have c1 : World.cell? _ ⟨w.heap.size, 1, none⟩ = some (.int .i64 af) := b0.cell 1
  have c2 : World.cell? _ ⟨w.heap.size, 2, none⟩ = some (.int .i64 wd) := b0.cell 2
  have l0 := b0.lt
  go_enter Try.func97, Try.ntmps97
  go_wp2
  (refine wp_region_tail 22 (by kernel_rfl) (by kernel_rfl) ?_; simp only [List.take_succ_cons, List.take_zero, List.drop_succ_cons, List.drop_zero]; (repeat (go_big_quiet_step ((first | (go_at_call 141; exact quiet_same (isThick_is _ true _ HW.out)) | (go_at_call 142; exact quiet_same (pWithin_is _ _ _ true _ HA.out)) | (go_at_call 46; exact quiet_same (pUnless_true _ _ _ (by first | rfl | assumption))))))); refine wpQuiet_nil ?_)
  intro w1 n1
  go_wp2_with fail
  refine (pFirst_any _ 4 4 [_, _, _, _] _ (by omega) rfl (cells_new _ _ _ _ (by simp) _ rfl)).mono ?_
  rintro e W2 ⟨rfl, hW2⟩
  have b2 := (b0.keep n1).keep (show New w1 W2 by rw [← hW2]; exact (New.refl _).alloc _)
  have N2 := N0.trans (n1.trans (show New w1 W2 by rw [← hW2]; exact (New.refl _).alloc _))
  clear hW2 b0 N0 c0 c1 c2 l0 n1
  rw [show firstE [0, 0, 0, 0] = 0 from rfl]
  have c0 : W2.cell? ⟨w.heap.size, 0, none⟩ = some (.slice A n cap) := b2.cell 0
  have l2 := b2.lt
  go_wp2_with fail
  go_loopw [5, 7, 8, 9, 40] (fun v5 _ _ _ i wr => ∃ k : Nat, k ≤ n ∧ i = .int .i64 (k : Int) ∧ v5 = .int .i64 (lastF l k) ∧ New w wr) (fun _ _ _ _ i _ => n - (intOf i).toNat)
  case atStart => exact ⟨0, by omega, rfl, rfl, N2⟩
  case round =>
    obtain ⟨k, hk, rfl, rfl, hN⟩ := hrel
    by_cases hlt : k < n
    · obtain ⟨b, o, x, rfl, hb, hx, hc⟩ := (HR.out.keep hN).at_ hlt
      have g0 := hc 0 _ rfl
      have g1 := hc 1 _ rfl
      have g2 := hc 2 _ rfl
      simp only [Nat.add_zero] at g0
      obtain ⟨⟨f0, f1⟩, ⟨p0, p1, p2⟩⟩ := HT.out.pt k (by omega)
      have hup : lastF l k < (ptAt l k).f := by
        unfold lastF
        by_cases h0 : k = 0
        · rw [if_pos h0]; omega
        · rw [if_neg h0]
          exact HT.out.lt (by omega) (by omega)
      have HNX := Lib.hid (show lastF l (k + 1) = x.f by unfold lastF; rw [if_neg (by omega), Nat.add_sub_cancel, ptAt_of hx])
      rw [ptAt_of hx] at f0 f1 p0 p1 p2 hup
      obtain ⟨L, hLL⟩ : ∃ L, lastF l k = L := ⟨_, rfl⟩
      rw [hLL] at hup ⊢
      clear hLL hx hc
      have q1 : decide (x.lo ≤ x.hi) = true := decide_eq_true p1
      have q2 : decide (L < x.f) = true := decide_eq_true hup
      have HF := Lib.hid (show errU (inR x.f 1 3000) 2 = 0 by rw [inR_true f0 f1]; rfl)
      have HH := Lib.hid (inR_true p0 (show x.lo ≤ 20000 by omega))
      have HH2 := Lib.hid (inR_true (show 0 ≤ x.hi by omega) p2)
      have nn := hN.alloc (.cells #[.int .i64 x.f, .int .i64 x.lo, .int .i64 x.hi] 38)
      have bx := Bx.mk wr 38 #[.int .i64 x.f, .int .i64 x.lo, .int .i64 x.hi]
      have d0 : World.cell? _ ⟨wr.heap.size, 0, none⟩ = some (.int .i64 x.f) := bx.cell 0
      have d1 : World.cell? _ ⟨wr.heap.size, 1, none⟩ = some (.int .i64 x.lo) := bx.cell 1
      have d2 : World.cell? _ ⟨wr.heap.size, 2, none⟩ = some (.int .i64 x.hi) := bx.cell 2
      have lx := bx.lt
      go_wp2
      (refine wp_region_tail 30 (by kernel_rfl) (by kernel_rfl) ?_; simp only [List.take_succ_cons, List.take_zero, List.drop_succ_cons, List.drop_zero]; (repeat (go_big_quiet_step ((first | (go_at_call 139; exact quiet_same (freqErr_is _ 0 _ HF.out)) | (go_at_call 143; exact quiet_same (isHeight_is _ true _ HH.out)) | (go_at_call 143; exact quiet_same (isHeight_is _ true _ HH2.out)) | (go_at_call 46; exact quiet_same (pUnless_true _ _ _ (by first | rfl | assumption))))))); refine wpQuiet_nil ?_)
      intro w3 n3
      go_wp2_with fail
      refine (pFirst_any _ 3 3 [_, _, _] _ (by omega) rfl (cells_new _ _ _ _ (by simp) _ rfl)).mono ?_
      rintro e W4 ⟨rfl, hW4⟩
      have n34 : New w3 W4 := by rw [← hW4]; exact (New.refl _).alloc _
      have b4 := (bx.keep n3).keep n34
      have N4 := nn.trans (n3.trans n34)
      clear hW4 d0 d1 d2 lx bx nn
      rw [show firstE [0, 0, 0] = 0 from rfl]
      have d0 : W4.cell? ⟨wr.heap.size, 0, none⟩ = some (.int .i64 x.f) := b4.cell 0
      have lx := b4.lt
      go_wp2_with fail
      go_roundw
      case rel => exact ⟨k + 1, by omega, by go_num, by rw [HNX.out], N4⟩
      case measure => simp [intOf]; omega
    · go_wp2
      go_ret2
      exact ⟨rfl, hN⟩

set_option maxRecDepth 100000 in
set_option maxHeartbeats 1000000 in
theorem openTrace_ok (l : List Pt) (af wd : Int) (A : Option Addr) (n cap : Nat) (w : World) (ht : TrOk l af wd) (hr : Rd w 3 encQ A n l) :
    Calls Try.prog 44 #[.agg #[.slice A n cap, .int .i64 af, .int .i64 wd]] w fun e w' => e = .returned (.tuple #[.agg #[.slice A n cap, .int .i64 af, .int .i64 wd], .int .i64 0]) ∧ New w w' := by
  have HR := Lib.hid hr; clear hr
  have HT := Lib.hid ht; clear ht
  have b0 := (Bx.mk w 24 #[.slice A n cap, .int .i64 af, .int .i64 wd]).alloc (.cells #[.slice none 0 0, .int .i64 0, .int .i64 0] 94)
  have b1 := Bx.mk_at (w.alloc (.cells #[.slice A n cap, .int .i64 af, .int .i64 wd] 24)) 94 #[.slice none 0 0, .int .i64 0, .int .i64 0] (w.heap.size + 1) (by simp)
  have N0 := ((New.refl w).alloc (.cells #[.slice A n cap, .int .i64 af, .int .i64 wd] 24)).alloc (.cells #[.slice none 0 0, .int .i64 0, .int .i64 0] 94)
  go_enter Try.func44, Try.ntmps44
  go_wp2_with fail
  refine (checkTrace_ok l af wd A n cap _ HT.out (HR.out.keep N0)).mono ?_
  rintro e w1 ⟨rfl, n1⟩
  have b2 := b0.keep n1
  have b3 := b1.keep n1
  have N1 := N0.trans n1
  clear b0 b1 N0 n1
  have c0 : w1.cell? ⟨w.heap.size, 0, none⟩ = some (.slice A n cap) := b2.cell 0
  have c1 : w1.cell? ⟨w.heap.size, 1, none⟩ = some (.int .i64 af) := b2.cell 1
  have c2 : w1.cell? ⟨w.heap.size, 2, none⟩ = some (.int .i64 wd) := b2.cell 2
  have d0 : w1.cell? ⟨w.heap.size + 1, 0, none⟩ = some (.slice none 0 0) := b3.cell 0
  have d1 : w1.cell? ⟨w.heap.size + 1, 1, none⟩ = some (.int .i64 0) := b3.cell 1
  have d2 : w1.cell? ⟨w.heap.size + 1, 2, none⟩ = some (.int .i64 0) := b3.cell 2
  have f0 := b3.free 0
  have f1 := b3.free 1
  have f2 := b3.free 2
  have l3 := b3.lt
  go_wp2_with fail
  have bb := ((b3.set 0 (.slice A n cap)).set 1 (.int .i64 af)).set 2 (.int .i64 wd)
  have NN := ((N1.setCell (p := ⟨w.heap.size + 1, 0, none⟩) (by simp) (.slice A n cap)).setCell (p := ⟨w.heap.size + 1, 1, none⟩) (by simp) (.int .i64 af)).setCell (p := ⟨w.heap.size + 1, 2, none⟩) (by simp) (.int .i64 wd)
  generalize ((w1.setCell ⟨w.heap.size + 1, 0, none⟩ (.slice A n cap)).setCell ⟨w.heap.size + 1, 1, none⟩ (.int .i64 af)).setCell ⟨w.heap.size + 1, 2, none⟩ (.int .i64 wd) = W5 at bb NN ⊢
  have e0 : W5.cell? ⟨w.heap.size + 1, 0, none⟩ = some (.slice A n cap) := bb.cell 0
  have e1 : W5.cell? ⟨w.heap.size + 1, 1, none⟩ = some (.int .i64 af) := bb.cell 1
  have e2 : W5.cell? ⟨w.heap.size + 1, 2, none⟩ = some (.int .i64 wd) := bb.cell 2
  clear c0 c1 c2 d0 d1 d2 f0 f1 f2
  exact bodyPost_ret (v := .tuple #[.agg #[.slice A n cap, .int .i64 af, .int .i64 wd], .int .i64 0]) (by simp [results, Try.results44, go_sem, e0, e1, e2]) rfl ⟨rfl, NN⟩
end Go.Proofs.Yteabmmibmopnkaa
