/- Contract: Put.
   Contract: the reference's Put.
   The walk of StationPuts.
   Contracts: HasText; items compared; the plain law of StationKept. -/
import Derived.BigQuiet
import Derived.BigRegion
import Derived.Deep.AppendLies
import Derived.Deep.Draws
import Derived.Deep.Quiet
import Derived.Deep.QuietTactic
import Derived.Laws.BitsAllLaws
import Derived.Lib.Hide
import Derived.Lib.SliceRun
import Derived.OrdersIn
import Derived.OwnWalk
import Derived.OwnWalkIn
import Derived.RangeFuncCalls
import Derived.StillTail
import Derived.TacticsIn
import Derived.Test.YteabmmibmopnkaaProg
import Derived.WalkKit
import Derived.WalkLawsBesides
import Derived.WalkSpells
import Derived.Test.YteabmmibmopnkaaC11B
import Derived.Test.YteabmmibmopnkaaC11I
import Derived.Test.YteabmmibmopnkaaC11L
import Derived.Test.YteabmmibmopnkaaC11M

namespace Go.Proofs.Yteabmmibmopnkaa
open Go.RowKit Go.Sky

theorem infoStr : (Try.prog.info? 9).map (fun i => (i.zero, i.size, i.bytes)) = some (some (.string .empty), 1, 16) := by kernel_rfl

def putF (q : List Sky.Item) (x : Sky.Item) (c : Int) (n : Nat) : Int := firstE [(queueS q).2, itemE q x, errU (inR c 0 200000) 2, errU (decide ((n : Int) < 20)) 8]
theorem putF_zero {q : List Sky.Item} {x : Sky.Item} {c : Int} {n : Nat} (h : putF q x c n = 0) : (queueS q).2 = 0 ∧ itemE q x = 0 ∧ (0 ≤ c ∧ c ≤ 200000) ∧ n < 20 := by
  unfold putF at h
  rw [show firstE [(queueS q).2, itemE q x, errU (inR c 0 200000) 2, errU (decide ((n : Int) < 20)) 8] = if (queueS q).2 = 0 then (if itemE q x = 0 then firstE [errU (inR c 0 200000) 2, errU (decide ((n : Int) < 20)) 8] else itemE q x) else (queueS q).2 from rfl] at h
  by_cases h1 : (queueS q).2 = 0
  · rw [if_pos h1] at h
    by_cases h2 : itemE q x = 0
    · rw [if_pos h2, firstE_two] at h
      cases h3 : inR c 0 200000
      · rw [h3] at h; simp [errU] at h
      · rw [h3] at h
        by_cases h4 : (n : Int) < 20
        · unfold inR at h3
          exact ⟨h1, h2, of_decide_eq_true h3, by omega⟩
        · rw [decide_eq_false h4] at h
          simp [errU] at h
    · rw [if_neg h2] at h; exact absurd h h2
  · rw [if_neg h1] at h; exact absurd h h1

def lenV : Value → Nat | .slice _ n _ => n | _ => 0

def PutPost (q : List Sky.Item) (x : Sky.Item) (c : Int) (n : Nat) (w' : World) (A1 : Option Addr) (m1 : Nat) (A2 : Option Addr) (m2 : Nat) (xs : List Sky.Item) (ds : List ByteArray) : Prop :=
  Rd w' 4 encM A1 m1 xs ∧ Rd w' 1 encS A2 m2 ds ∧ Kept (q ++ [x]) xs ds ∧ putTo c (n + 2) (q ++ [x]) [] = (xs, ds) ∧ ¬ c < totalI xs

/-- The loop's invariant. -/
def PutInv (q : List Sky.Item) (x : Sky.Item) (c : Int) (n : Nat) (B0 B1 : Nat) (g : Nat) (wr : World) (f m c1 : Nat) (A2 : Option Addr) (m2 c2 : Nat) (xs : List Sky.Item) (ds : List ByteArray) : Prop :=
  Sky.Own wr B0 44 4 encM (some ⟨g, 0, none⟩) m c1 xs ∧ Sky.Own wr B1 9 1 encS A2 m2 c2 ds ∧ Kept (q ++ [x]) xs ds ∧ putTo c (n + 2) (q ++ [x]) [] = putTo c f xs ds ∧ m < f

set_option maxRecDepth 100000 in
set_option maxHeartbeats 8000000 in
theorem put_any (x : Sky.Item) (c : Int) (q : List Sky.Item) (A : Option Addr) (n cap : Nat) (w : World) (hn : n ≤ 1000) (hcap : n ≤ cap) (hx : ∀ y ∈ q, y.n.size ≤ 1000) (hxn : x.n.size ≤ 1000) (hr : Rd w 4 encM A n q) :
    Calls Try.prog 19 #[.slice A n cap, .agg #[.string x.n, .int .i64 x.p, .int .i64 x.z, .int .i64 x.t], .int .i64 c] w fun e w' => New w w' ∧
      ((putF q x c n ≠ 0 ∧ e = .returned (.tuple #[.slice none 0 0, .slice none 0 0, .int .i64 (putF q x c n)])) ∨
       (putF q x c n = 0 ∧ ∃ A1 m1 c1 A2 m2 c2 xs ds, e = .returned (.tuple #[.slice A1 m1 c1, .slice A2 m2 c2, .int .i64 0]) ∧ PutPost q x c n w' A1 m1 A2 m2 xs ds)) := by
  obtain ⟨i0, hi, hz0, hz1, hz2⟩ := info_parts infoItem
  obtain ⟨j0, hj, jz0, jz1, jz2⟩ := info_parts infoStr
  have HL := Lib.hid hr.len
  have HR := Lib.hid hr; clear hr
  have HX := Lib.hid hx; clear hx
  have HXN := Lib.hid hxn; clear hxn
  obtain ⟨E, hE⟩ : ∃ E, (queueS q).2 = E := ⟨_, rfl⟩
  obtain ⟨E2, hE2⟩ : ∃ E, itemE q x = E := ⟨_, rfl⟩
  obtain ⟨F, hF⟩ : ∃ F, putF q x c n = F := ⟨_, rfl⟩
  have HX2 := Lib.hid (show F = firstE [E, E2, errU (inR c 0 200000) 2, errU (decide ((n : Int) < 20)) 8] by rw [← hF, ← hE, ← hE2]; rfl)
  rw [hF]
  have HE := Lib.hid hE
  have HE2 := Lib.hid hE2
  have HF := Lib.hid hF
  clear hE hE2 hF
  have hz : (F = 0 ∧ (F != 0) = false) ∨ (F ≠ 0 ∧ (F != 0) = true) := by
    by_cases h : F = 0
    · exact .inl ⟨h, by simpa using h⟩
    · exact .inr ⟨h, by simpa using h⟩
  have b0 := Bx.mk w 44 #[.string x.n, .int .i64 x.p, .int .i64 x.z, .int .i64 x.t]
  have hN0 := (New.refl w).alloc (.cells #[.string x.n, .int .i64 x.p, .int .i64 x.z, .int .i64 x.t] 44)
  have c0 : World.cell? _ ⟨w.heap.size, 0, none⟩ = some (.string x.n) := b0.cell 0
  have c1 : World.cell? _ ⟨w.heap.size, 1, none⟩ = some (.int .i64 x.p) := b0.cell 1
  have c2 : World.cell? _ ⟨w.heap.size, 2, none⟩ = some (.int .i64 x.z) := b0.cell 2
  have c3 : World.cell? _ ⟨w.heap.size, 3, none⟩ = some (.int .i64 x.t) := b0.cell 3
  have l0 := b0.lt
  go_enter Try.func19, Try.ntmps19
  rcases hz with ⟨hz0', d2⟩ | ⟨hz0', d2⟩
  all_goals
    have HZ := Lib.hid hz0'
    clear hz0'
    go_wp2
    (refine wp_region_tail 12 (by kernel_rfl) (by kernel_rfl) ?_; simp only [List.take_succ_cons, List.take_zero, List.drop_succ_cons, List.drop_zero]; (repeat (go_big_quiet_step ((first | (go_at_call 57; exact quiet_new (queueErr_is E A n cap q _ (by omega) hcap HX.out (by exact HR.out.keep (((New.refl _).alloc _).trans (plus_new _ _))) HE.out)) | (go_at_call 58; exact quiet_new (itemErr_is x E2 A n cap q _ (by omega) HXN.out (by exact HR.out.keep (((New.refl _).alloc _).trans (plus_new _ _))) HE2.out)) | (go_at_call 60; exact quiet_same (within_any _ _ _ _)) | (go_at_call 59; exact quiet_same (unless_any _ _ _)))))); refine wpQuiet_nil ?_)
    intro w1 n1
    go_wp2_with fail
    refine (first_any _ 4 4 [_, _, _, _] _ (by omega) rfl (cells_new _ _ _ _ (by simp) _ rfl)).mono ?_
    rintro e W2 ⟨rfl, hW2⟩
    rw [← HX2.out]
    have b2 := (b0.keep n1).keep (show New w1 W2 by rw [← hW2]; exact (New.refl _).alloc _)
    have N2 := hN0.trans (n1.trans (show New w1 W2 by rw [← hW2]; exact (New.refl _).alloc _))
    clear hW2 b0 hN0 c0 c1 c2 c3 l0 n1
  · obtain ⟨q0, q1, ⟨h0, h1⟩, h20⟩ := putF_zero (HF.out.trans HZ.out)
    have HDI := Lib.hid (put_dist q0 q1)
    have HRG := Lib.hid (put_range q0 q1)
    clear q0 q1
    have c0 : World.cell? _ ⟨w.heap.size, 0, none⟩ = some (.string x.n) := b2.cell 0
    have c1 : World.cell? _ ⟨w.heap.size, 1, none⟩ = some (.int .i64 x.p) := b2.cell 1
    have c2 : World.cell? _ ⟨w.heap.size, 2, none⟩ = some (.int .i64 x.z) := b2.cell 2
    have c3 : World.cell? _ ⟨w.heap.size, 3, none⟩ = some (.int .i64 x.t) := b2.cell 3
    have l2 := b2.lt
    go_wp2_with fail
    refine wp_region_takes0 W2 (New.refl _) 1 5 #[true, false, false, false, false, false] (by kernel_rfl) (by kernel_rfl) (by kernel_rfl) (by kernel_rfl) (by kernel_rfl) (by kernel_rfl) ?_
    simp only [List.take_succ_cons, List.take_zero]
    (repeat (go_big_quiet_step ((fail))))
    refine wpQuiet_nil ?_
    intro W3 n3
    refine take_next 2 1 #[true, false, true, false, false, false] rfl (by kernel_rfl) (by kernel_rfl) (by kernel_rfl) (by kernel_rfl) (by decide) ?_
    simp only [List.take_succ_cons, List.take_zero, List.drop_succ_cons, List.drop_zero]
    (repeat (go_big_quiet_step ((fail))))
    refine wpQuiet_nil ?_
    refine two_next 1 3 (by kernel_rfl) (new_plus n3) ?o1 ?o2
    case' o1 =>
      refine wpOpIn_list rfl ?_
      gi_wp2_with fail
      refine ⟨trivial, callsIn_wide.2 ((cloneM_any A n cap q _ (by omega) (HR.out.keep (N2.trans n3))).mono ?_)⟩
      rintro e w4 ⟨A1, cap1, rfl, hown1, n4⟩
      gi_wp2
      refine one_next 3 (by kernel_rfl) (new_plus (n3.trans n4)) (wpOpIn_list rfl ?_)
      gi_wp2
      have nn := (n3.trans n4).alloc (.cells #[.string x.n, .int .i64 x.p, .int .i64 x.z, .int .i64 x.t] 44)
      have ho := (hown1.base_le (base' := W2.heap.size) n3.size).alloc (.cells #[.string x.n, .int .i64 x.p, .int .i64 x.z, .int .i64 x.t] 44)
      have hb := Bx.mk w4 44 #[.string x.n, .int .i64 x.p, .int .i64 x.z, .int .i64 x.t]
      obtain ⟨W5, hW5⟩ : ∃ W5, w4.alloc (.cells #[.string x.n, .int .i64 x.p, .int .i64 x.z, .int .i64 x.t] 44) = W5 := ⟨_, rfl⟩
      rw [hW5] at nn ho hb ⊢
      obtain ⟨B5, hB5⟩ : ∃ B5, w4.heap.size = B5 := ⟨_, rfl⟩
      rw [hB5] at hb ⊢
      clear hW5 hB5 hown1 n4
    case' o2 =>
      refine wpOpIn_list rfl ?_
      gi_wp2
      have n1b := n3.alloc (.cells #[.string x.n, .int .i64 x.p, .int .i64 x.z, .int .i64 x.t] 44)
      refine one_next 1 (by kernel_rfl) (new_plus n1b) (wpOpIn_list rfl ?_)
      gi_wp2_with fail
      refine ⟨trivial, callsIn_wide.2 ((cloneM_any A n cap q _ (by omega) (HR.out.keep (N2.trans n1b))).mono ?_)⟩
      rintro e W5 ⟨A1, cap1, rfl, hown1, n4⟩
      gi_wp2
      have nn := n1b.trans n4
      have ho := hown1.base_le (base' := W2.heap.size) n1b.size
      have hb := (Bx.mk W3 44 #[.string x.n, .int .i64 x.p, .int .i64 x.z, .int .i64 x.t]).keep n4
      obtain ⟨B5, hB5⟩ : ∃ B5, W3.heap.size = B5 := ⟨_, rfl⟩
      rw [hB5] at hb ⊢
      clear hB5 hown1 n4 n1b
    all_goals
      refine one_next 4 (by kernel_rfl) (new_plus nn) (wpOpIn_list rfl ?_)
      refine wpListIn_flow _ rfl _ _ 42 rfl 44 i0 _ 4 40 Try.underlying42 hi hz0 hz1 hz2 rfl (by omega) W2.heap.size encM A1 n cap1 q rfl (by exact ho) (some ⟨B5, 0, none⟩) 1 1 [x] rfl (by exact rd_bx hb encM_len [x] rfl 1 rfl) encM_one (by unfold maxLen; omega) (by omega) (by exact nn.size) ?_
      intro A6 c6 w6 hown6 hg6 hN6
      gi_wp2
      have n6 := hN6 W2 nn (Nat.le_refl _)
      clear hN6 hg6 ho hb nn
      refine one_next 5 (by kernel_rfl) (new_plus n6) (wpOpIn_list rfl ?_)
      gi_wp2
      refine end_any (new_plus n6) (by kernel_rfl) ?_
      obtain ⟨g, rfl, hgB, hgs⟩ : ∃ g, A6 = some ⟨g, 0, none⟩ ∧ W2.heap.size ≤ g ∧ g < w6.heap.size := by
        rcases hown6.form with ⟨_, h, _⟩ | ⟨g, h, h', h'', _⟩
        · omega
        · exact ⟨g, h, h', h''⟩
      have N6 := N2.trans n6
      have hWB : w.heap.size ≤ W2.heap.size := N2.size
      have HI := Lib.hid (show PutInv q x c n W2.heap.size w6.heap.size g w6 (n + 2) (n + 1) c6 none 0 0 (q ++ [x]) [] from ⟨hown6, Own.nil _ _ _ _ encS_len, kept_start _, rfl, by omega⟩)
      obtain ⟨B0, hB0⟩ : ∃ B0, W2.heap.size = B0 := ⟨_, rfl⟩
      obtain ⟨B1, hB1⟩ : ∃ B1, w6.heap.size = B1 := ⟨_, rfl⟩
      have hB16 : B1 ≤ w6.heap.size := by omega
      rw [hB0] at hgB hWB HI
      rw [hB1] at hgs HI
      clear c0 c1 c2 c3 l2 b2 hown6 n6 n3 N2 hB0 hB1
      go_wp2_with fail
      go_loopw [10, 11, 12, 13] (fun v10 v11 _ _ wr => ∃ (f m k1 : Nat) (A2 : Option Addr) (m2 k2 : Nat) (xs : List Sky.Item) (ds : List ByteArray), v10 = .slice (some ⟨g, 0, none⟩) m k1 ∧ v11 = .slice A2 m2 k2 ∧ Hid (PutInv q x c n B0 B1 g wr f m k1 A2 m2 k2 xs ds) ∧ New w wr ∧ B1 ≤ wr.heap.size) (fun v10 _ _ _ _ => lenV v10)
      case atStart => exact ⟨_, _, _, _, _, _, _, _, rfl, rfl, HI, N6, hB16⟩
      case round =>
        clear HI N6 hB16
        obtain ⟨f, m, k1, A2, m2, k2, xs, ds, rfl, rfl, HI, Nr, hB1r⟩ := hrel
        obtain ⟨oi, os, kp, pt, hmf⟩ := HI.out
        have hm221 : m2 ≤ 21 := by
          have h1 := kp.len
          have h2 := os.len
          have h3 := HL.out
          rw [List.length_append, List.length_singleton] at h1
          omega
        have hm21 : m ≤ 21 := by
          have h1 := kp.len
          have h2 := oi.len
          have h3 := HL.out
          rw [List.length_append, List.length_singleton] at h1
          omega
        have HRX := Lib.hid (show ∀ y ∈ xs, 0 ≤ y.z ∧ y.z ≤ 10000 from fun y hy => by
          have := HRG.out y (kp.sub.subset hy)
          omega)
        have HOI := Lib.hid oi
        have HOS := Lib.hid os
        have HKP := Lib.hid kp
        have HPT := Lib.hid pt
        clear oi os kp pt HI
        go_wp2_with fail
        refine (total_any _ m k1 xs _ (by omega) HRX.out HOI.out.rd).mono ?_
        rintro e w7 ⟨rfl, n7⟩
        obtain ⟨T, hT⟩ : ∃ T, totalI xs = T := ⟨_, rfl⟩
        have HT := Lib.hid hT
        rw [hT]
        clear hT
        by_cases hlt : c < T
        · have HLT := Lib.hid hlt
          have hm0 : 0 < m := by
            rcases Nat.eq_zero_or_pos m with h | h
            · exfalso
              have h2 := total_nil (xs := xs) (HOI.out.len.trans h)
              rw [HT.out] at h2
              omega
            · exact h
          obtain ⟨m', rfl⟩ : ∃ m', m = m' + 1 := ⟨m - 1, by omega⟩
          go_wp2_with fail
          refine (order21_any xs _ (m' + 1) k1 _ hm21 (HOI.out.keep n7).rd).mono ?_
          rintro e w8 ⟨A8, c8, rfl, o8, n8⟩
          have n78 := n7.trans n8
          have oi8 := HOI.out.keep n78
          have os8 := HOS.out.keep n78
          have N8 := Nr.trans n78
          have hB8 := n78.size
          obtain ⟨bO, oO, y, rfl, hbO, hy, hcO⟩ := o8.rd.at_ (show m' < m' + 1 by omega)
          have g0 := hcO 0 _ rfl
          simp only [Nat.add_zero, Nat.mul_one] at g0
          have hya : y = lastI xs := by
            unfold lastI
            rw [HOI.out.len, List.getD_eq_getElem?_getD, Nat.add_sub_cancel, hy]
            rfl
          have hym : y < m' + 1 := by
            rw [hya, ← HOI.out.len]
            exact lastI_lt (by rw [HOI.out.len]; omega)
          obtain ⟨bx, ox, z, hbe, hbx, hzx, hcx⟩ := oi8.rd.at_ hym
          injection hbe with hbe
          injection hbe with hbe hoe
          subst hbe hoe
          have gz := hcx 0 _ rfl
          simp only [Nat.add_zero, Nat.zero_add] at gz
          have HKP2 := Lib.hid (kept_step HDI.out HKP.out (x := z) (by rw [← hya]; exact hzx))
          have HPT2 := Lib.hid (show putTo c (n + 2) (q ++ [x]) [] = putTo c (f - 1) (xs.eraseIdx (lastI xs)) (ds ++ [z.n]) by
            rw [HPT.out, show f = (f - 1) + 1 by omega]
            exact putTo_go (by rw [HT.out]; exact HLT.out) (by rw [← hya]; exact hzx))
          rw [← hya] at HKP2 HPT2
          have iy0 : (0 : Int) ≤ (y : Int) := by omega
          have iy1 : (y : Int) < (m' : Int) + 1 := by omega
          have im0 : (0 : Int) ≤ (m' : Int) := by omega
          have im1 : (m' : Int) < (m' : Int) + 1 := by omega
          clear hcO hy hcx hzx n7 n8 hya o8
          have e1 : ((m' + 1 : Nat) : Int) - 1 = (m' : Int) := by omega
          go_wp2_with (at_builtin; refine wpList_push _ rfl _ _ 46 rfl 9 j0 _ 1 16 Try.underlying46 hj jz0 jz1 jz2 rfl (by omega) B1 encS A2 m2 k2 ds rfl (by exact os8.alloc _) _ 1 1 [z.n] rfl rfl (by omega) (by exact cells_new _ _ _ _ (by simp) _ rfl) encS_one (by unfold maxLen; omega) (by omega) (by simp; omega) ?_; intro g9 c9 w9 own9 hg9 hat9 hb9 hlt9 hN9)
          have oi9 := (oi8.alloc (.cells #[.string z.n] 9)).kept hg9 (.inr (fun h => by
            have := os8.row_ge g h.symm
            omega))
          have N9 := hN9 w (N8.alloc _) (by omega)
          have HOW9 := Lib.hid own9
          clear oi8 os8 own9 hN9 hg9 hat9 N8 hB8 g0 gz n78 Nr HOI HOS HKP HPT
          go_wp2_with fail
          refine (deleteM xs g y m' k1 B0 _ (by omega) (by omega) hgB oi9).mono ?_
          rintro e w10 ⟨rfl, oi10, hg10⟩
          have HOS10 := Lib.hid (HOW9.out.kept hg10 (.inr (fun h => by
            injection h with h
            have h' : g9 = g := h
            omega)))
          have HOI10 := Lib.hid oi10
          have N10 := N9.grown hg10 (fun k hk => by injection hk with hk; omega)
          have hs10 := hg10.size
          clear oi9 oi10 HOW9 hg10
          go_wp2_with fail
          go_roundw
          case rel => exact ⟨f - 1, m', k1, some ⟨g9, 0, none⟩, m2 + 1, c9, xs.eraseIdx y, ds ++ [z.n], rfl, rfl, Lib.hid ⟨HOI10.out, HOS10.out, HKP2.out, HPT2.out, by omega⟩, N10, by omega⟩
          case measure => simp [lenV]
        · have HEND := Lib.hid ((HPT.out).trans (putTo_stop (f := f) (ds := ds) (show ¬ c < totalI xs by rw [HT.out]; exact hlt)))
          have HST := Lib.hid (show ¬ c < totalI xs by rw [HT.out]; exact hlt)
          go_wp2_with fail
          go_ret3
          exact ⟨Nr.trans n7, .inr ⟨HZ.out, _, m, k1, A2, m2, k2, xs, ds, rfl, (HOI.out.keep n7).rd, (HOS.out.keep n7).rd, HKP.out, HEND.out, by have := HST.out; omega⟩⟩
  · go_wp2
    go_ret3
    exact ⟨N2, .inl ⟨HZ.out, rfl⟩⟩
end Go.Proofs.Yteabmmibmopnkaa

namespace Go.Proofs.Yteabmmibmopnkaa
open Go.RowKit Go.Sky

/-- A slice from its middle on. -/
theorem rd_drop {α : Type} {w : World} {k b o n cap : Nat} {enc : α → List Value} {xs : List α} (h : Rd w k enc (some ⟨b, o, none⟩) n xs) (j : Nat) (hj : j ≤ n) (hcap : n ≤ cap) :
    Rd w k enc (if cap = j then some ⟨b, o, none⟩ else some ⟨b, o + j * k, none⟩) (n - j) (xs.drop j) := by
  refine ⟨by rw [List.length_drop, h.1], fun hn => ?_⟩
  rw [if_neg (by omega)]
  obtain ⟨b', o', e, hb, hc⟩ := h.2 (by omega)
  injection e with e
  injection e with e1 e2
  subst e1 e2
  refine ⟨_, _, rfl, hb, fun i x hx c u hu => ?_⟩
  rw [List.getElem?_drop] at hx
  have := hc (j + i) x hx c u hu
  rw [show o + j * k + i * k + c = o + (j + i) * k + c by rw [Nat.add_mul]; omega]
  exact this

/-- The reference's loop: its own invariant. -/
def RPutInv (q : List Sky.Item) (x : Sky.Item) (c : Int) (n : Nat) (B0 B1 : Nat) (wr : World) (f m c1 : Nat) (A1 A2 : Option Addr) (m2 c2 : Nat) (xs : List Sky.Item) (ds : List ByteArray) : Prop :=
  (A1.map (·.block) = none ∨ A1.map (·.block) ≠ A2.map (·.block)) ∧ Sky.Own wr B0 44 4 encM A1 m c1 xs ∧ Sky.Own wr B1 9 1 encS A2 m2 c2 ds ∧ Kept (q ++ [x]) xs ds ∧ putTo c (n + 2) (q ++ [x]) [] = putTo c f xs ds ∧ m < f

set_option maxRecDepth 100000 in
set_option maxHeartbeats 8000000 in
theorem refPut_any (x : Sky.Item) (c : Int) (q : List Sky.Item) (A : Option Addr) (n cap : Nat) (w : World) (hp : putF q x c n = 0) (hr : Rd w 4 encM A n q) :
    Calls Try.prog 23 #[.slice A n cap, .agg #[.string x.n, .int .i64 x.p, .int .i64 x.z, .int .i64 x.t], .int .i64 c] w fun e w' => New w w' ∧
      ∃ A1 m1 c1 A2 m2 c2 xs ds, e = .returned (.tuple #[.slice A1 m1 c1, .slice A2 m2 c2]) ∧ PutPost q x c n w' A1 m1 A2 m2 xs ds := by
  obtain ⟨i0, hi, hz0, hz1, hz2⟩ := info_parts infoItem
  obtain ⟨j0, hj, jz0, jz1, jz2⟩ := info_parts infoStr
  have HL := Lib.hid hr.len
  have HR := Lib.hid hr; clear hr
  obtain ⟨q0, q1, ⟨h0, h1⟩, h20⟩ := putF_zero hp
  have HDI := Lib.hid (put_dist q0 q1)
  have HRG := Lib.hid (put_range q0 q1)
  clear q0 q1 hp
  have b0 := Bx.mk w 44 #[.string x.n, .int .i64 x.p, .int .i64 x.z, .int .i64 x.t]
  have N0 := (New.refl w).alloc (.cells #[.string x.n, .int .i64 x.p, .int .i64 x.z, .int .i64 x.t] 44)
  go_enter Try.func23, Try.ntmps23
  go_wp2_with fail
  obtain ⟨W2, hW2⟩ : ∃ W2, w.alloc (.cells #[.string x.n, .int .i64 x.p, .int .i64 x.z, .int .i64 x.t] 44) = W2 := ⟨_, rfl⟩
  rw [hW2] at b0 N0 ⊢
  clear hW2
  have c0 : World.cell? _ ⟨w.heap.size, 0, none⟩ = some (.string x.n) := b0.cell 0
  have c1 : World.cell? _ ⟨w.heap.size, 1, none⟩ = some (.int .i64 x.p) := b0.cell 1
  have c2 : World.cell? _ ⟨w.heap.size, 2, none⟩ = some (.int .i64 x.z) := b0.cell 2
  have c3 : World.cell? _ ⟨w.heap.size, 3, none⟩ = some (.int .i64 x.t) := b0.cell 3
  have l2 := b0.lt
  refine wp_region_takes0 W2 (New.refl _) 1 5 #[true, false, false, false, false, false] (by kernel_rfl) (by kernel_rfl) (by kernel_rfl) (by kernel_rfl) (by kernel_rfl) (by kernel_rfl) ?_
  simp only [List.take_succ_cons, List.take_zero]
  (repeat (go_big_quiet_step ((fail))))
  refine wpQuiet_nil ?_
  intro W3 n3
  refine take_next 2 1 #[true, false, true, false, false, false] rfl (by kernel_rfl) (by kernel_rfl) (by kernel_rfl) (by kernel_rfl) (by decide) ?_
  simp only [List.take_succ_cons, List.take_zero, List.drop_succ_cons, List.drop_zero]
  (repeat (go_big_quiet_step ((fail))))
  refine wpQuiet_nil ?_
  refine two_next 1 3 (by kernel_rfl) (new_plus n3) ?o1 ?o2
  case' o1 =>
    refine wpOpIn_list rfl ?_
    gi_wp2_with fail
    refine ⟨trivial, callsIn_wide.2 ((copyItems_any A n cap q _ (by omega) (HR.out.keep (N0.trans n3))).mono ?_)⟩
    rintro e w4 ⟨A1, cap1, rfl, hown1, n4⟩
    gi_wp2
    refine one_next 3 (by kernel_rfl) (new_plus (n3.trans n4)) (wpOpIn_list rfl ?_)
    gi_wp2
    have nn := (n3.trans n4).alloc (.cells #[.string x.n, .int .i64 x.p, .int .i64 x.z, .int .i64 x.t] 44)
    have ho := (hown1.base_le (base' := W2.heap.size) n3.size).alloc (.cells #[.string x.n, .int .i64 x.p, .int .i64 x.z, .int .i64 x.t] 44)
    have hb := Bx.mk w4 44 #[.string x.n, .int .i64 x.p, .int .i64 x.z, .int .i64 x.t]
    obtain ⟨W5, hW5⟩ : ∃ W5, w4.alloc (.cells #[.string x.n, .int .i64 x.p, .int .i64 x.z, .int .i64 x.t] 44) = W5 := ⟨_, rfl⟩
    rw [hW5] at nn ho hb ⊢
    obtain ⟨B5, hB5⟩ : ∃ B5, w4.heap.size = B5 := ⟨_, rfl⟩
    rw [hB5] at hb ⊢
    clear hW5 hB5 hown1 n4
  case' o2 =>
    refine wpOpIn_list rfl ?_
    gi_wp2
    have n1b := n3.alloc (.cells #[.string x.n, .int .i64 x.p, .int .i64 x.z, .int .i64 x.t] 44)
    refine one_next 1 (by kernel_rfl) (new_plus n1b) (wpOpIn_list rfl ?_)
    gi_wp2_with fail
    refine ⟨trivial, callsIn_wide.2 ((copyItems_any A n cap q _ (by omega) (HR.out.keep (N0.trans n1b))).mono ?_)⟩
    rintro e W5 ⟨A1, cap1, rfl, hown1, n4⟩
    gi_wp2
    have nn := n1b.trans n4
    have ho := hown1.base_le (base' := W2.heap.size) n1b.size
    have hb := (Bx.mk W3 44 #[.string x.n, .int .i64 x.p, .int .i64 x.z, .int .i64 x.t]).keep n4
    obtain ⟨B5, hB5⟩ : ∃ B5, W3.heap.size = B5 := ⟨_, rfl⟩
    rw [hB5] at hb ⊢
    clear hB5 hown1 n4 n1b
  all_goals
    refine one_next 4 (by kernel_rfl) (new_plus nn) (wpOpIn_list rfl ?_)
    refine wpListIn_flow _ rfl _ _ 42 rfl 44 i0 _ 4 40 Try.underlying42 hi hz0 hz1 hz2 rfl (by omega) W2.heap.size encM A1 n cap1 q rfl (by exact ho) (some ⟨B5, 0, none⟩) 1 1 [x] rfl (by exact rd_bx hb encM_len [x] rfl 1 rfl) encM_one (by unfold maxLen; omega) (by omega) (by exact nn.size) ?_
    intro A6 c6 w6 hown6 hg6 hN6
    gi_wp2
    have n6 := hN6 W2 nn (Nat.le_refl _)
    clear hN6 hg6 ho hb nn
    refine one_next 5 (by kernel_rfl) (new_plus n6) (wpOpIn_list rfl ?_)
    gi_wp2
    refine end_any (new_plus n6) (by kernel_rfl) ?_
    have N6 := N0.trans n6
    have hWB : w.heap.size ≤ w6.heap.size := N6.size
    have HI := Lib.hid (show RPutInv q x c n w.heap.size w6.heap.size w6 (n + 2) (n + 1) c6 A6 none 0 0 (q ++ [x]) [] from ⟨by
      rcases hown6.form with ⟨h, _⟩ | ⟨g, h, _⟩
      · exact .inl (by rw [h]; rfl)
      · exact .inr (by rw [h]; simp), hown6.base_le N0.size, Own.nil _ _ _ _ encS_len, kept_start _, rfl, by omega⟩)
    obtain ⟨B1, hB1⟩ : ∃ B1, w6.heap.size = B1 := ⟨_, rfl⟩
    have hB16 : B1 ≤ w6.heap.size := by omega
    rw [hB1] at HI hWB
    clear c0 c1 c2 c3 l2 b0 hown6 n6 n3 N0 hB1
    go_wp2_with fail
    go_loopw [8, 9, 10, 11] (fun v10 v11 _ _ wr => ∃ (f m k1 : Nat) (A1 A2 : Option Addr) (m2 k2 : Nat) (xs : List Sky.Item) (ds : List ByteArray), v10 = .slice A1 m k1 ∧ v11 = .slice A2 m2 k2 ∧ Hid (RPutInv q x c n w.heap.size B1 wr f m k1 A1 A2 m2 k2 xs ds) ∧ New w wr ∧ B1 ≤ wr.heap.size) (fun v10 _ _ _ _ => lenV v10)
    case atStart => exact ⟨_, _, _, _, _, _, _, _, _, rfl, rfl, HI, N6, hB16⟩
    case round =>
      clear HI N6 hB16
      obtain ⟨f, m, k1, A1, A2, m2, k2, xs, ds, rfl, rfl, HI, Nr, hB1r⟩ := hrel
      obtain ⟨hne, oi, os, kp, pt, hmf⟩ := HI.out
      have hk1 := oi.le.1
      have HNE := Lib.hid hne
      clear hne
      have hm221 : m2 ≤ 21 := by
        have h1 := kp.len
        have h2 := os.len
        have h3 := HL.out
        rw [List.length_append, List.length_singleton] at h1
        omega
      have hm21 : m ≤ 21 := by
        have h1 := kp.len
        have h2 := oi.len
        have h3 := HL.out
        rw [List.length_append, List.length_singleton] at h1
        omega
      have HRX := Lib.hid (show ∀ y ∈ xs, 0 ≤ y.z ∧ y.z ≤ 10000 from fun y hy => by
        have := HRG.out y (kp.sub.subset hy)
        omega)
      have HOI := Lib.hid oi
      have HOS := Lib.hid os
      have HKP := Lib.hid kp
      have HPT := Lib.hid pt
      clear oi os kp pt HI
      go_wp2_with fail
      refine (refTotal_any _ m k1 xs _ (by omega) HRX.out HOI.out.rd).mono ?_
      rintro e w' ⟨rfl, rfl⟩
      obtain ⟨T, hT⟩ : ∃ T, totalI xs = T := ⟨_, rfl⟩
      have HT := Lib.hid hT
      rw [hT]
      clear hT
      by_cases hlt : c < T
      · have HLT := Lib.hid hlt
        have hm0 : 0 < m := by
          rcases Nat.eq_zero_or_pos m with h | h
          · exfalso
            have h2 := total_nil (xs := xs) (HOI.out.len.trans h)
            rw [HT.out] at h2
            omega
          · exact h
        obtain ⟨m', rfl⟩ : ∃ m', m = m' + 1 := ⟨m - 1, by omega⟩
        go_wp2_with fail
        refine (refOrderOwn_any xs _ (m' + 1) k1 _ (by omega) HOI.out.rd).mono ?_
        rintro e w8 ⟨A8, c8, rfl, o8, n8⟩
        have oi8 := HOI.out.keep n8
        have os8 := HOS.out.keep n8
        have N8 := Nr.trans n8
        have hB8 := n8.size
        obtain ⟨bO, oO, y, rfl, hbO, hy, hcO⟩ := o8.rd.at_ (show m' < m' + 1 by omega)
        have g0 := hcO 0 _ rfl
        simp only [Nat.add_zero, Nat.mul_one] at g0
        have hya : y = lastI xs := by
          unfold lastI
          rw [HOI.out.len, List.getD_eq_getElem?_getD, Nat.add_sub_cancel, hy]
          rfl
        have hym : y < m' + 1 := by
          rw [hya, ← HOI.out.len]
          exact lastI_lt (by rw [HOI.out.len]; omega)
        obtain ⟨bx, ox, z, rfl, hbx, hzx, hcx⟩ := oi8.rd.at_ hym
        have gz := hcx 0 _ rfl
        simp only [Nat.add_zero] at gz
        have HKP2 := Lib.hid (kept_step HDI.out HKP.out (x := z) (by rw [← hya]; exact hzx))
        have HPT2 := Lib.hid (show putTo c (n + 2) (q ++ [x]) [] = putTo c (f - 1) (xs.eraseIdx (lastI xs)) (ds ++ [z.n]) by
          rw [HPT.out, show f = (f - 1) + 1 by omega]
          exact putTo_go (by rw [HT.out]; exact HLT.out) (by rw [← hya]; exact hzx))
        rw [← hya] at HKP2 HPT2
        have iy0 : (0 : Int) ≤ (y : Int) := by omega
        have iy1 : (y : Int) < (m' : Int) + 1 := by omega
        have im0 : (0 : Int) ≤ (m' : Int) := by omega
        have im1 : (m' : Int) < (m' : Int) + 1 := by omega
        clear hcO hy hcx hzx n8 hya o8
        have e1 : ((m' + 1 : Nat) : Int) - 1 = (m' : Int) := by omega
        go_wp2_with (at_builtin; refine wpList_push _ rfl _ _ 46 rfl 9 j0 _ 1 16 Try.underlying46 hj jz0 jz1 jz2 rfl (by omega) B1 encS A2 m2 k2 ds rfl (by exact (os8.base_le (base' := B1) (Nat.le_refl _)).alloc _) _ 1 1 [z.n] rfl rfl (by omega) (by exact cells_new _ _ _ _ (by simp) _ rfl) encS_one (by unfold maxLen; omega) (by omega) (by simp; omega) ?_; intro g9 c9 w9 own9 hg9 hat9 hb9 hlt9 hN9)
        have N9 := hN9 w (N8.alloc _) (by omega)
        have oi9 := (oi8.alloc (.cells #[.string z.n] 9)).kept hg9 HNE.out
        have hs9 := hlt9
        have iy2 : (y : Int) ≤ (k1 : Int) := by omega
        have iy3 : (0 : Int) ≤ (y : Int) + 1 := by omega
        have iy4 : (y : Int) + 1 ≤ (m' : Int) + 1 := by omega
        have iy5 : (m' : Int) + 1 ≤ (k1 : Int) := by omega
        have HR9 := Lib.hid oi9.rd
        have HOW9 := Lib.hid own9
        clear os8 oi8 oi9 own9 hN9 hg9 hat9 N8 hB8 g0 gz HOS HKP HPT Nr HOI HNE
        go_wp2_with fail
        refine wp_region_takes0 w9 (New.refl _) 3 7 #[true, true, true, false, false, false, false, false, false, false] (by kernel_rfl) (by kernel_rfl) (by kernel_rfl) (by kernel_rfl) (by kernel_rfl) (by kernel_rfl) ?_
        simp only [List.take_succ_cons, List.take_zero]
        (repeat (go_big_quiet_step ((fail))))
        refine wpQuiet_nil ?_
        intro W1 n1
        refine take_next 4 4 #[true, true, true, false, true, true, true, true, false, false] rfl (by kernel_rfl) (by kernel_rfl) (by kernel_rfl) (by kernel_rfl) (by decide) ?_
        simp only [List.take_succ_cons, List.take_zero, List.drop_succ_cons, List.drop_zero]
        (repeat (go_big_quiet_step ((fail))))
        refine wpQuiet_nil ?_
        obtain ⟨ad, had, hrd⟩ : ∃ ad, (if k1 = y + 1 then some (⟨bx, ox, none⟩ : Addr) else some ⟨bx, ox + (y + 1) * 4, none⟩) = ad ∧ Rd w9 4 encM ad (m' - y) (xs.drop (y + 1)) := ⟨_, rfl, by
          have h := rd_drop (cap := k1) HR9.out (y + 1) (by omega) (by omega)
          rw [show m' + 1 - (y + 1) = m' - y by omega] at h
          exact h⟩
        rw [had]
        have HRD := Lib.hid hrd
        clear had hrd
        refine one_next 3 (by kernel_rfl) (new_plus n1) (wpOpIn_list rfl ?_)
        gi_wp2_with fail
        refine ⟨trivial, callsIn_wide.2 ((copyItems_any _ y k1 (xs.take y) _ (by omega) ((HR9.out.keep n1).take (by omega))).mono ?_)⟩
        rintro e w2 ⟨A3, cap3, rfl, hown3, n2⟩
        gi_wp2
        have nn := n1.trans n2
        have ho := hown3.base_le (base' := w9.heap.size) n1.size
        refine one_next 8 (by kernel_rfl) (new_plus nn) (wpOpIn_list rfl ?_)
        refine wpListIn_flow _ rfl _ _ 42 rfl 44 i0 _ 4 40 Try.underlying42 hi hz0 hz1 hz2 rfl (by omega) w9.heap.size encM A3 y cap3 (xs.take y) rfl (by exact ho) ad (m' - y) (k1 - (y + 1)) (xs.drop (y + 1)) rfl (by exact HRD.out.keep nn) encM_one (by unfold maxLen; omega) (by omega) (by exact nn.size) ?_
        intro A10 c10 w10 hown10 hg10 hN10
        have n10 := hN10 w9 nn (Nat.le_refl _)
        rw [show y + (m' - y) = m' by omega] at hown10 ⊢
        rw [← List.eraseIdx_eq_take_drop_succ] at hown10
        gi_wp2
        refine one_next 9 (by kernel_rfl) (new_plus n10) (wpOpIn_list rfl ?_)
        gi_wp2
        refine end_any (new_plus n10) (by kernel_rfl) ?_
        have HI10 := Lib.hid (show RPutInv q x c n w.heap.size B1 w10 (f - 1) m' c10 A10 (some ⟨g9, 0, none⟩) (m2 + 1) c9 (xs.eraseIdx y) (ds ++ [z.n]) from ⟨by
          rcases hown10.form with ⟨h, _⟩ | ⟨g, h, hg, _⟩
          · exact .inl (by rw [h]; rfl)
          · exact .inr (by
              rw [h]
              intro e
              injection e with e
              have e' : g = g9 := e
              omega), hown10.base_le N9.size, HOW9.out.keep n10, HKP2.out, HPT2.out, by omega⟩)
        have N10 := N9.trans n10
        have hs10 := n10.size
        clear hown10 hg10 hN10 n10 nn ho hown3 n1 n2 HOW9 N9
        go_wp2_with fail
        go_roundw
        case rel => exact ⟨f - 1, m', c10, A10, some ⟨g9, 0, none⟩, m2 + 1, c9, xs.eraseIdx y, ds ++ [z.n], rfl, rfl, HI10, N10, by omega⟩
        case measure => simp [lenV]
      · have HEND := Lib.hid ((HPT.out).trans (putTo_stop (f := f) (ds := ds) (show ¬ c < totalI xs by rw [HT.out]; exact hlt)))
        have HST := Lib.hid (show ¬ c < totalI xs by rw [HT.out]; exact hlt)
        go_wp2_with fail
        go_ret2
        exact ⟨Nr, _, m, k1, A2, m2, k2, xs, ds, rfl, HOI.out.rd, HOS.out.rd, HKP.out, HEND.out, by have := HST.out; omega⟩
end Go.Proofs.Yteabmmibmopnkaa

namespace Go.Proofs.Yteabmmibmopnkaa
open Go.RowKit Go.Sky

theorem putF_eq (q : List Sky.Item) (x : Sky.Item) (c : Int) (n : Nat) : putF q x c n = if (queueS q).2 = 0 then putE q x c n else (queueS q).2 := by
  have e : decide ((n : Int) < 20) = decide (n < 20) := by
    by_cases h : n < 20
    · rw [decide_eq_true h, decide_eq_true (by omega)]
    · rw [decide_eq_false h, decide_eq_false (by omega)]
  unfold putF putE
  rw [e]
  rfl

theorem post_same {q : List Sky.Item} {x : Sky.Item} {c : Int} {n : Nat} {w w' : World} {A1 A2 A3 A4 : Option Addr} {m1 m2 m3 m4 : Nat} {xs ys : List Sky.Item} {ds es : List ByteArray}
    (h : PutPost q x c n w A1 m1 A2 m2 xs ds) (h' : PutPost q x c n w' A3 m3 A4 m4 ys es) : xs = ys ∧ ds = es ∧ m1 = m3 ∧ m2 = m4 := by
  obtain ⟨r1, r2, _, p, _⟩ := h
  obtain ⟨s1, s2, _, p', _⟩ := h'
  rw [p] at p'
  injection p' with e1 e2
  subst e1 e2
  exact ⟨rfl, rfl, by rw [← r1.len, ← s1.len], by rw [← r2.len, ← s2.len]⟩

set_option maxRecDepth 100000 in
set_option maxHeartbeats 8000000 in
theorem puts_in (x : Sky.Item) (c : Int) (A : Option Addr) (n cap : Nat) (q : List Sky.Item) (w : World) (hcap : n ≤ cap) (hr : Rd w 4 encM A n q) (hfw : fewI n q = true) (hxn : x.n.size ≤ 30) :
    Calls Try.prog 4 #[.slice A n cap, .agg #[.string x.n, .int .i64 x.p, .int .i64 x.z, .int .i64 x.t], .int .i64 c] w fun e w' => e = .returned (.bool true) ∧ New w w' := by
  have HR := Lib.hid hr; clear hr
  have HFW := Lib.hid hfw
  obtain ⟨h22, hsz⟩ := fewI_yes hfw
  have HX := Lib.hid (show ∀ x ∈ q, x.n.size ≤ 1000 from fun x hx => by have := hsz x hx; omega)
  have HXN := Lib.hid hxn
  clear hfw hsz
  have hl30 : ¬ (30 : Int) < (x.n.size : Int) := by omega
  clear hxn
  obtain ⟨E, hE⟩ : ∃ c, (queueS q).2 = c := ⟨_, rfl⟩
  obtain ⟨G, hG⟩ : ∃ E, putE q x c n = E := ⟨_, rfl⟩
  obtain ⟨F, hF⟩ : ∃ F, putF q x c n = F := ⟨_, rfl⟩
  have HFE := Lib.hid (show F = if E = 0 then G else E by rw [← hF, putF_eq, hE, hG])
  have HE := Lib.hid hE
  have HF := Lib.hid hF
  have HG := Lib.hid hG
  clear hE hF hG
  have b0 := Bx.mk w 44 #[.string x.n, .int .i64 x.p, .int .i64 x.z, .int .i64 x.t]
  have N0 := (New.refl w).alloc (.cells #[.string x.n, .int .i64 x.p, .int .i64 x.z, .int .i64 x.t] 44)
  go_enter Try.func4, Try.ntmps4
  go_wp2_with fail
  refine (awake_any _).mono ?_
  rintro e w1 ⟨rfl, n1⟩
  have b1 := b0.keep n1
  have N1 := N0.trans n1
  clear b0 N0 n1
  have c0 : w1.cell? ⟨w.heap.size, 0, none⟩ = some (.string x.n) := b1.cell 0
  have c1 : w1.cell? ⟨w.heap.size, 1, none⟩ = some (.int .i64 x.p) := b1.cell 1
  have c2 : w1.cell? ⟨w.heap.size, 2, none⟩ = some (.int .i64 x.z) := b1.cell 2
  have c3 : w1.cell? ⟨w.heap.size, 3, none⟩ = some (.int .i64 x.t) := b1.cell 3
  have l1 := b1.lt
  go_wp2_with fail
  refine (fewItems_any A n cap q _ (HR.out.keep N1)).mono ?_
  rintro e w' ⟨rfl, rfl⟩
  rw [HFW.out]
  go_wp2_with fail
  refine wp_region_takes0 w1 (New.refl _) 1 11 #[true, false, false, false, false, false, false, false, false, false, false, false] (by kernel_rfl) (by kernel_rfl) (by kernel_rfl) (by kernel_rfl) (by kernel_rfl) (by kernel_rfl) ?_
  simp only [List.take_succ_cons, List.take_zero]
  (repeat (go_big_quiet_step ((fail))))
  refine wpQuiet_nil ?_
  intro W1 n1
  refine take_next 2 2 #[true, false, true, true, false, false, false, false, false, false, false, false] rfl (by kernel_rfl) (by kernel_rfl) (by kernel_rfl) (by kernel_rfl) (by decide) ?_
  simp only [List.take_succ_cons, List.take_zero, List.drop_succ_cons, List.drop_zero]
  (repeat (go_big_quiet_step ((fail))))
  refine wpQuiet_nil ?_
  refine one_next 1 (by kernel_rfl) (new_plus n1) (wpOpIn_list rfl ?_)
  gi_wp2_with fail
  refine ⟨trivial, callsIn_wide.2 ((copyItems_any A n cap q _ (by omega) (HR.out.keep (N1.trans n1))).mono ?_)⟩
  rintro e w2 ⟨A2, c2', rfl, o2, n2⟩
  have hc2 := o2.le.1
  have HR2 := Lib.hid o2.rd
  have nn2 := n1.trans n2
  clear o2 n1 n2
  gi_wp2
  refine one_next 4 (by kernel_rfl) (new_plus nn2) (wpOpIn_list rfl ?_)
  gi_wp2_with fail
  refine ⟨trivial, callsIn_wide.2 ((put_any x c q A2 n c2' _ (by omega) hc2 HX.out (by have := HXN.out; omega) HR2.out).mono ?_)⟩
  rw [HF.out]
  rintro e w3 ⟨n3, ⟨hne, rfl⟩ | ⟨heq, A5, m5, c5, A6, m6, c6, xs, ds, rfl, hpost⟩⟩
  · have nn3 := nn2.trans n3
    have HNE := Lib.hid hne
    have dF : (F != 0) = true := by simpa using hne
    have dFF : (F == F) = true := by simp
    clear hne nn2 n3 HR2
    gi_wp2
    refine take_next 5 7 #[true, true, true, true, true, true, true, true, true, true, true, true] rfl (by kernel_rfl) (by kernel_rfl) (by kernel_rfl) (by kernel_rfl) (by decide) ?_
    simp only [List.take_succ_cons, List.take_zero, List.drop_succ_cons, List.drop_zero]
    (repeat (go_big_quiet_step ((fail))))
    refine wpQuiet_nil ?_
    refine end_any (new_plus nn3) (by kernel_rfl) ?_
    go_wp2_with fail
    refine (refQueueErr_any A n cap q _ (by omega) hcap HX.out (HR.out.keep (N1.trans nn3))).mono ?_
    rw [HE.out]
    rintro e w4 ⟨rfl, n4⟩
    have nn4 := nn3.trans n4
    have N4 := N1.trans nn4
    have b4 := b1.keep nn4
    clear c0 c1 c2 c3 l1
    have c0 : w4.cell? ⟨w.heap.size, 0, none⟩ = some (.string x.n) := b4.cell 0
    have c1 : w4.cell? ⟨w.heap.size, 1, none⟩ = some (.int .i64 x.p) := b4.cell 1
    have c2 : w4.cell? ⟨w.heap.size, 2, none⟩ = some (.int .i64 x.z) := b4.cell 2
    have c3 : w4.cell? ⟨w.heap.size, 3, none⟩ = some (.int .i64 x.t) := b4.cell 3
    have l4 := b4.lt
    by_cases h0 : E = 0
    · have dE : (E == 0) = true := by simpa using h0
      obtain rfl : F = G := by rw [HFE.out, if_pos h0]
      clear h0
      go_wp2_with fail
      refine (refPutErr_any x c A n cap q _ (by omega) (by have := HXN.out; omega) (HR.out.keep N4)).mono ?_
      rw [HG.out]
      rintro e w5 ⟨rfl, n5⟩
      go_wp2
      go_ret
      exact ⟨rfl, N4.trans n5⟩
    · have dE : (E == 0) = false := by simpa using h0
      obtain rfl : F = E := by rw [HFE.out, if_neg h0]
      clear h0
      go_wp2
      go_ret
      exact ⟨rfl, N4⟩
  · have nn3 := nn2.trans n3
    have HPO := Lib.hid hpost
    clear hpost nn2 n3 HR2
    subst heq
    have hE0 : E = 0 := by
      have h := HFE.out
      by_cases h1 : E = 0
      · exact h1
      · rw [if_neg h1] at h; exact absurd h.symm h1
    have hG0 : G = 0 := by
      have h := HFE.out
      rw [if_pos hE0] at h; exact h.symm
    subst hE0 hG0
    gi_wp2
    refine take_next 5 7 #[true, true, true, true, true, true, true, true, true, true, true, true] rfl (by kernel_rfl) (by kernel_rfl) (by kernel_rfl) (by kernel_rfl) (by decide) ?_
    simp only [List.take_succ_cons, List.take_zero, List.drop_succ_cons, List.drop_zero]
    (repeat (go_big_quiet_step ((fail))))
    refine wpQuiet_nil ?_
    refine end_any (new_plus nn3) (by kernel_rfl) ?_
    go_wp2_with fail
    refine (refQueueErr_any A n cap q _ (by omega) hcap HX.out (HR.out.keep (N1.trans nn3))).mono ?_
    rw [HE.out]
    rintro e w4 ⟨rfl, n4⟩
    have nn4 := nn3.trans n4
    have N4 := N1.trans nn4
    have b4 := b1.keep nn4
    clear c0 c1 c2 c3 l1
    have c0 : w4.cell? ⟨w.heap.size, 0, none⟩ = some (.string x.n) := b4.cell 0
    have c1 : w4.cell? ⟨w.heap.size, 1, none⟩ = some (.int .i64 x.p) := b4.cell 1
    have c2 : w4.cell? ⟨w.heap.size, 2, none⟩ = some (.int .i64 x.z) := b4.cell 2
    have c3 : w4.cell? ⟨w.heap.size, 3, none⟩ = some (.int .i64 x.t) := b4.cell 3
    have l4 := b4.lt
    go_wp2_with fail
    refine (refPutErr_any x c A n cap q _ (by omega) (by have := HXN.out; omega) (HR.out.keep N4)).mono ?_
    rw [HG.out]
    rintro e w5 ⟨rfl, n5⟩
    have N5 := N4.trans n5
    have b5 := b4.keep n5
    clear c0 c1 c2 c3 l4
    have c0 : w5.cell? ⟨w.heap.size, 0, none⟩ = some (.string x.n) := b5.cell 0
    have c1 : w5.cell? ⟨w.heap.size, 1, none⟩ = some (.int .i64 x.p) := b5.cell 1
    have c2 : w5.cell? ⟨w.heap.size, 2, none⟩ = some (.int .i64 x.z) := b5.cell 2
    have c3 : w5.cell? ⟨w.heap.size, 3, none⟩ = some (.int .i64 x.t) := b5.cell 3
    have l5 := b5.lt
    go_wp2_with fail
    refine (refPut_any x c q A n cap _ HF.out (HR.out.keep N5)).mono ?_
    rintro e w6 ⟨n6, A7, m7, c7, A8, m8, c8, ys, es, rfl, hpost'⟩
    have HP' := Lib.hid hpost'
    clear hpost'
    obtain ⟨e1, e2, e3, e4⟩ := post_same HPO.out HP'.out
    subst e1 e2 e3 e4
    obtain ⟨r1, r2, kp, _, _⟩ := HPO.out
    obtain ⟨s1, s2, _, _, _⟩ := HP'.out
    have hm5 : m5 ≤ 1000 := by
      have h1 := kp.len
      have h2 := r1.len
      have h3 := HR.out.len
      rw [List.length_append, List.length_singleton] at h1
      omega
    have hm6 : m6 ≤ 1000 := by
      have h1 := kp.len
      have h2 := r2.len
      have h3 := HR.out.len
      rw [List.length_append, List.length_singleton] at h1
      omega
    have HR1 := Lib.hid ((r1.keep n4).keep (n5.trans n6))
    have HR2 := Lib.hid ((r2.keep n4).keep (n5.trans n6))
    have HS1 := Lib.hid s1
    have HS2 := Lib.hid s2
    have N6 := N5.trans n6
    clear r1 r2 s1 s2 kp HP' HPO n4 n5 n6 nn3 nn4 c0 c1 c2 c3 l5 b5 N5 N4
    go_wp2_with fail
    refine (items_like A5 A7 m5 c5 c7 xs _ (by omega) HR1.out HS1.out).mono ?_
    rintro e w7 ⟨rfl, n7⟩
    go_wp2_with fail
    refine (texts_like A6 A8 m6 c6 c8 ds _ (by omega) (HR2.out.keep n7) (HS2.out.keep n7)).mono ?_
    rintro e w8 ⟨rfl, n8⟩
    go_wp2
    go_ret
    exact ⟨rfl, (N6.trans n7).trans n8⟩

set_option maxRecDepth 100000 in
set_option maxHeartbeats 1000000 in
theorem puts_any (x : Sky.Item) (c : Int) (A : Option Addr) (n cap : Nat) (q : List Sky.Item) (w : World) (hcap : n ≤ cap) (hr : Rd w 4 encM A n q) :
    Calls Try.prog 4 #[.slice A n cap, .agg #[.string x.n, .int .i64 x.p, .int .i64 x.z, .int .i64 x.t], .int .i64 c] w fun e w' => e = .returned (.bool true) ∧ New w w' := by
  obtain ⟨fw, hfw⟩ : ∃ b, fewI n q = b := ⟨_, rfl⟩
  by_cases hxn : x.n.size ≤ 30
  · cases fw
    · have HFW := Lib.hid hfw
      have HR := Lib.hid hr
      clear hfw hr
      have N0 := (New.refl w).alloc (.cells #[.string x.n, .int .i64 x.p, .int .i64 x.z, .int .i64 x.t] 44)
      go_enter Try.func4, Try.ntmps4
      go_wp2_with fail
      refine (awake_any _).mono ?_
      rintro e w1 ⟨rfl, n1⟩
      have N1 := N0.trans n1
      go_wp2_with fail
      refine (fewItems_any A n cap q _ (HR.out.keep N1)).mono ?_
      rintro e w' ⟨rfl, rfl⟩
      rw [HFW.out]
      go_wp2
      go_ret
      exact ⟨rfl, N1⟩
    · exact puts_in x c A n cap q w hcap hr hfw hxn
  · have HFW := Lib.hid hfw
    have HR := Lib.hid hr
    have hl30 : (30 : Int) < (x.n.size : Int) := by omega
    clear hfw hr hxn
    have N0 := (New.refl w).alloc (.cells #[.string x.n, .int .i64 x.p, .int .i64 x.z, .int .i64 x.t] 44)
    have b0 := Bx.mk w 44 #[.string x.n, .int .i64 x.p, .int .i64 x.z, .int .i64 x.t]
    go_enter Try.func4, Try.ntmps4
    go_wp2_with fail
    refine (awake_any _).mono ?_
    rintro e w1 ⟨rfl, n1⟩
    have N1 := N0.trans n1
    have b1 := b0.keep n1
    have c0 : w1.cell? ⟨w.heap.size, 0, none⟩ = some (.string x.n) := b1.cell 0
    have l1 := b1.lt
    go_wp2_with fail
    refine (fewItems_any A n cap q _ (HR.out.keep N1)).mono ?_
    rintro e w' ⟨rfl, rfl⟩
    rw [HFW.out]
    cases fw
    all_goals
      go_wp2
      go_ret
      exact ⟨rfl, N1⟩
end Go.Proofs.Yteabmmibmopnkaa

namespace Go.Proofs.Yteabmmibmopnkaa
open Go.RowKit Go.Sky

def textIs (s d : ByteArray) : Bool := d.toList == s.toList

set_option maxRecDepth 100000 in
set_option maxHeartbeats 1000000 in
theorem hasText_any (s : ByteArray) (A : Option Addr) (n cap : Nat) (ds : List ByteArray) (w : World) (hn : n ≤ 1000000) (hr : Rd w 1 encS A n ds) :
    Calls Try.prog 26 #[.slice A n cap, .string s] w fun e w' => e = .returned (.bool (ds.any (textIs s))) ∧ w = w' := by
  have HL := Lib.hid hr.len
  have HR := Lib.hid hr; clear hr
  go_enter Try.func26, Try.ntmps26
  go_wp2
  go_loopw [5] (fun i wr => ∃ k : Nat, k ≤ n ∧ i = .int .i64 (k : Int) ∧ wr = w ∧ Hid ((ds.take k).any (textIs s) = false)) (fun i _ => n - (intOf i).toNat)
  case atStart => exact ⟨0, by omega, rfl, rfl, rfl⟩
  case round =>
    obtain ⟨k, hk, rfl, rfl, HA⟩ := hrel
    by_cases hlt : k < n
    · obtain ⟨b, o, x, rfl, hb, hx, hc⟩ := HR.out.at_ hlt
      have g0 := hc 0 _ rfl
      simp only [Nat.add_zero, Nat.mul_one] at g0
      have HST := Lib.hid (show (ds.take (k + 1)).any (textIs s) = ((ds.take k).any (textIs s) || textIs s x) by rw [take_snoc ds k x hx, List.any_append]; simp)
      obtain ⟨t, ht⟩ : ∃ t, (x.toList == s.toList) = t := ⟨_, rfl⟩
      have HT := Lib.hid (show textIs s x = t from ht)
      have HMEM := Lib.hid (List.mem_of_getElem? hx)
      clear hx hc
      cases t
      · go_wp2
        go_roundw
        case rel => exact ⟨k + 1, by omega, by go_num, trivial, by unfold Hid; rw [HST.out, HA.out, HT.out]; rfl⟩
        case measure => simp [intOf]; omega
      · have HV := Lib.hid (show ds.any (textIs s) = true from List.any_eq_true.2 ⟨x, HMEM.out, HT.out⟩)
        go_wp2
        go_ret
        exact ⟨by rw [HV.out]; rfl, rfl⟩
    · have HV := Lib.hid (show ds.any (textIs s) = false by
        have h := HA.out
        rw [List.take_of_length_le (by have := HL.out; omega)] at h
        exact h)
      go_wp2
      go_ret
      exact ⟨by rw [HV.out]; rfl, rfl⟩

/-- Two items are alike. -/
def eqI (x y : Sky.Item) : Bool := (x.n.toList == y.n.toList) && (x.p == y.p) && (x.z == y.z) && (x.t == y.t)
theorem eqI_self (x : Sky.Item) : eqI x x = true := by unfold eqI; simp
theorem eqI_dist {x y : Sky.Item} (h : distN x y) : eqI x y = false := by unfold eqI; unfold distN at h; rw [h]; rfl

set_option maxHeartbeats 4000000 in
theorem eql_items_d (n : Nat) (x y : Sky.Item) (W : World) : (Op.equalIn (n + 2) 44 (.agg #[.string x.n, .int .i64 x.p, .int .i64 x.z, .int .i64 x.t]) (.agg #[.string y.n, .int .i64 y.p, .int .i64 y.z, .int .i64 y.t])).run Try.prog W = .ok (eqI x y) W := by
  have u := Try.underlying44
  have u3 := Try.underlying3
  have z3 := Try.sizeOf3
  have a3 := Try.isAgg3
  have u9 := Try.underlying9
  have z9 := Try.sizeOf9
  have a9 := Try.isAgg9
  unfold eqI
  rw [Op.equalIn]
  by_cases h1 : x.n.toList = y.n.toList
  · by_cases h2 : x.p = y.p
    · by_cases h3 : x.z = y.z
      · by_cases h4 : x.t = y.t
        · simp [run_underlying u, part, go_sem, a3, u3, a9, u9, z3, z9, h1, h2, h3, h4]
        · simp [run_underlying u, part, go_sem, a3, u3, a9, u9, z3, z9, h1, h2, h3, h4]
      · simp [run_underlying u, part, go_sem, a3, u3, a9, u9, z3, z9, h1, h2, h3]
    · simp [run_underlying u, part, go_sem, a3, u3, a9, u9, z3, z9, h1, h2]
  · simp [run_underlying u, part, go_sem, a3, u3, a9, u9, z3, z9, h1]
theorem eql_items (x y : Sky.Item) (W : World) : (Op.equalIn 10000 44 (.agg #[.string x.n, .int .i64 x.p, .int .i64 x.z, .int .i64 x.t]) (.agg #[.string y.n, .int .i64 y.p, .int .i64 y.z, .int .i64 y.t])).run Try.prog W = .ok (eqI x y) W := eql_items_d 9998 x y W

/-- What the law asks of an item of the queue that stays. -/
theorem kept_stays {all xs : List Sky.Item} {ds : List ByteArray} {y : Sky.Item} (h : Kept all xs ds) (hy : y ∈ xs) : ds.any (textIs y.n) = false := by
  rcases h.each y (h.sub.subset hy) with ⟨_, h2⟩ | ⟨_, h2, _⟩
  · rw [List.any_eq_false]
    intro d hd
    unfold textIs
    rw [h2 d hd]
    decide
  · have := h2 y hy
    unfold distN at this
    simp at this
/-- What it asks of each item: stays, or is dropped, not both; and what was dropped matters no more. -/
theorem kept_each {all xs : List Sky.Item} {ds : List ByteArray} {y : Sky.Item} (h : Kept all xs ds) (hy : y ∈ all) :
    (xs.any (fun z => eqI z y) = true ∧ ds.any (textIs y.n) = false) ∨ (xs.any (fun z => eqI z y) = false ∧ ds.any (textIs y.n) = true ∧ ∀ z ∈ xs, y.p ≤ z.p ∧ (y.p = z.p → z.t ≤ y.t)) := by
  rcases h.each y hy with ⟨h1, h2⟩ | ⟨h1, h2, h3⟩
  · left
    refine ⟨List.any_eq_true.2 ⟨y, h1, eqI_self y⟩, ?_⟩
    exact kept_stays h h1
  · right
    refine ⟨?_, ?_, h3⟩
    · rw [List.any_eq_false]
      intro z hz
      rw [eqI_dist (h2 z hz)]
      decide
    · exact List.any_eq_true.2 ⟨y.n, h1, by unfold textIs; simp⟩
end Go.Proofs.Yteabmmibmopnkaa
