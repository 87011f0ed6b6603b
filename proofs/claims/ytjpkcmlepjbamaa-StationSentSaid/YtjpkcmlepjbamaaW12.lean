/- Contract: CheckNet. -/
import Derived.Test.YtjpkcmlepjbamaaW11
namespace Go.Proofs.Ytjpkcmlepjbamaa
open Go.RowKit Go.Sky

set_option maxRecDepth 100000 in
set_option maxHeartbeats 2000000 in
theorem checkNet_any (st : Int) (A : Option Addr) (n cap : Nat) (ps : List (Int × Int)) (w : World) (hn : n ≤ 100000) (hcap : n ≤ cap) (hr : Rd w 2 encP A n ps) :
    Calls Try.prog 46 #[.agg #[.int .i64 st, .slice A n cap]] w fun e w' => e = .returned (.tuple #[.int .i64 (netS st ps).1, .int .i64 (netS st ps).2]) ∧ New w w' := by
  have HL := Lib.hid hr.len
  have HR := Lib.hid hr; clear hr
  obtain ⟨E, hE⟩ : ∃ E, E = netE0 st n := ⟨_, rfl⟩
  have HE := Lib.hid (show E = firstE [errU (inR st 1 8) 2, errU (decide ((n : Int) ≤ 28)) 8] from hE)
  by_cases hz : E = 0
  · have b1 : (E != 0) = false := by simpa using hz
    obtain ⟨s1, s2, s3⟩ := netE0_zero (hE ▸ hz)
    have HS := Lib.hid (show netS st ps = netFrom st (ps.take 0) (ps.drop 0) (0 : Nat) by unfold netS; rw [HL.out, ← hE, if_pos hz]; rfl)
    clear hE hz
    go_enter Try.func46, Try.ntmps46
    go_wp2
    (refine wp_region_tail 9 (by kernel_rfl) (by kernel_rfl) ?_; simp only [List.take_succ_cons, List.take_zero, List.drop_succ_cons, List.drop_zero]; (repeat (go_big_quiet_step ((first | (go_at_call 96; exact quiet_same (within_any _ _ _ _)) | (go_at_call 86; exact quiet_same (unless_any _ _ _)))))); refine wpQuiet_nil ?_)
    intro w1 n1
    have hb := (Bx.mk w 75 #[.int .i64 st, .slice A n cap]).keep n1
    have a0 : w1.cell? _ = some _ := hb.cell 0
    have a1 : w1.cell? _ = some _ := hb.cell 1
    have hlt1 := hb.lt
    go_wp2_with (go_at_call 85; refine (first_any _ 2 2 [_, _] _ (by omega) rfl (cells_new _ _ _ _ (by simp) _ rfl)).mono ?_; rintro e w' ⟨rfl, rfl⟩; rw [← HE.out])
    have hN1 := hn2of n1
    go_loopw [5, 6, 7, 25] (fun _ _ _ i wr => ∃ k : Nat, k ≤ n ∧ i = .int .i64 k ∧ Hid (netS st ps = netFrom st (ps.take k) (ps.drop k) k) ∧ Bx wr w.heap.size 75 #[.int .i64 st, .slice A n cap] ∧ New w wr) (fun _ _ _ i _ => n - (intOf i).toNat)
    case atStart => exact ⟨0, by omega, rfl, HS.out, hb.alloc _, hN1.alloc _⟩
    case round =>
      clear hb a0 a1 hlt1 HS
      obtain ⟨k, hk, rfl, HF, hb, hN⟩ := hrel
      by_cases hlt : k < n
      · obtain ⟨b, o, p, rfl, hbl, hp, hc⟩ := (HR.out.keep hN).at_ hlt
        have g0 := hc 0 _ rfl
        have g1 := hc 1 _ rfl
        simp only [Nat.add_zero] at g0
        have a0 : wr.cell? _ = some _ := hb.cell 0
        have a1 : wr.cell? _ = some _ := hb.cell 1
        have hlt1 := hb.lt
        have HST := Lib.hid (netFrom_step (st := st) hp)
        clear hp hc
        have HRT := Lib.hid ((HR.out.keep hN).take (m := k) (by omega))
        have l1 : (0 : Int) ≤ (k : Int) := by omega
        have l2 : (k : Int) ≤ (cap : Int) := by omega
        obtain ⟨c1, hc1⟩ : ∃ c, inR p.1 0 (st - 1) = c := ⟨_, rfl⟩
        obtain ⟨pe, hpe⟩ : ∃ pe, pe = pairErr st (ps.take k) p := ⟨_, rfl⟩
        have HPE := Lib.hid hpe
        obtain ⟨X, HPX, hc2⟩ : ∃ X, Hid (pe = firstE [errU X 6, errU (decide (p.1 < p.2)) 9, errU (!(ps.take k).any (sameP p)) 23]) ∧ ((c1 = false ∧ X = false) ∨ (c1 = true ∧ X = inR p.2 0 (st - 1))) := by
          cases c1
          · exact ⟨false, Lib.hid (by rw [hpe]; unfold pairErr; rw [hc1]; rfl), .inl ⟨rfl, rfl⟩⟩
          · exact ⟨_, Lib.hid (by rw [hpe]; unfold pairErr; rw [hc1]; rfl), .inr ⟨rfl, rfl⟩⟩
        have hpz : (pe = 0 ∧ (pe != 0) = false) ∨ (pe ≠ 0 ∧ (pe != 0) = true) := by
          by_cases h : pe = 0
          · exact .inl ⟨h, by simpa using h⟩
          · exact .inr ⟨h, by simpa using h⟩
        clear hpe
        rcases hc2 with ⟨rfl, rfl⟩ | ⟨rfl, rfl⟩ <;> rcases hpz with ⟨hz0, b2⟩ | ⟨hz0, b2⟩
        all_goals
          have HZ := Lib.hid hz0
          clear hz0
          go_wp2
          (refine wp_region_tail 29 (by kernel_rfl) (by kernel_rfl) ?_; simp only [List.take_succ_cons, List.take_zero, List.drop_succ_cons, List.drop_zero]; (repeat (go_big_quiet_step ((first | (go_at_call 96; exact quiet_same (within_is _ _ _ false _ (by assumption))) | (go_at_call 96; exact quiet_same (within_is _ _ _ true _ (by assumption))) | (go_at_call 96; exact quiet_same (within_any _ _ _ _)) | (go_at_call 86; exact quiet_same (unless_any _ _ _)) | (go_at_call 101; exact quiet_new (containsP _ k cap (ps.take k) p _ (by omega) (by exact HRT.out.keep (((New.refl _).alloc _).trans (plus_new _ _))))))))); refine wpQuiet_nil ?_)
          intro w2 n2
          go_wp2_with (go_at_call 85; refine (first_any _ 3 3 [_, _, _] _ (by omega) rfl (cells_new _ _ _ _ (by simp) _ rfl)).mono ?_; rintro e w' ⟨rfl, rfl⟩; rw [← HPX.out])
        · go_roundw
          case rel => exact ⟨k + 1, by omega, by go_num, by rw [HF.out, HST.out, ← HPE.out, if_pos HZ.out]; rfl, ((hb.alloc _).keep n2).alloc _, ((hN.alloc _).trans n2).alloc _⟩
          case measure => simp [intOf]; omega
        · go_ret2
          exact ⟨by rw [HF.out, HST.out, ← HPE.out, if_neg HZ.out]; rfl, ((hN.alloc _).trans n2).alloc _⟩
        · go_roundw
          case rel => exact ⟨k + 1, by omega, by go_num, by rw [HF.out, HST.out, ← HPE.out, if_pos HZ.out]; rfl, ((hb.alloc _).keep n2).alloc _, ((hN.alloc _).trans n2).alloc _⟩
          case measure => simp [intOf]; omega
        · go_ret2
          exact ⟨by rw [HF.out, HST.out, ← HPE.out, if_neg HZ.out]; rfl, ((hN.alloc _).trans n2).alloc _⟩
      · go_wp2
        go_ret2
        exact ⟨by rw [HF.out, List.drop_of_length_le (by rw [HL.out]; omega)]; rfl, hN⟩
  · have b1 : (E != 0) = true := by simpa using hz
    have HS := Lib.hid (show netS st ps = (0, E) by unfold netS; rw [HL.out, ← hE, if_neg hz])
    clear hE hz
    go_enter Try.func46, Try.ntmps46
    go_wp2
    (refine wp_region_tail 9 (by kernel_rfl) (by kernel_rfl) ?_; simp only [List.take_succ_cons, List.take_zero, List.drop_succ_cons, List.drop_zero]; (repeat (go_big_quiet_step ((first | (go_at_call 96; exact quiet_same (within_any _ _ _ _)) | (go_at_call 86; exact quiet_same (unless_any _ _ _)))))); refine wpQuiet_nil ?_)
    intro w1 n1
    go_wp2_with (go_at_call 85; refine (first_any _ 2 2 [_, _] _ (by omega) rfl (cells_new _ _ _ _ (by simp) _ rfl)).mono ?_; rintro e w' ⟨rfl, rfl⟩; rw [← HE.out])
    go_ret2
    exact ⟨by rw [HS.out]; rfl, (hn2of n1).alloc _⟩
end Go.Proofs.Ytjpkcmlepjbamaa
