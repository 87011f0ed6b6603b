/- Contracts: offsets, OffsetAt, TrueAt, OffsetBy. -/
import Derived.Test.YtjpkcmlepjbamaaW2
namespace Go.Proofs.Ytjpkcmlepjbamaa
open Go.RowKit Go.Sky

theorem infoRange : (Try.prog.info? 38).map (fun i => (i.zero, i.size, i.bytes)) = some (some (.agg #[.int .i64 0, .int .i64 0]), 2, 16) := by kernel_rfl
theorem encR_len (x : Int × Int) : (encR x).length = 2 := rfl
theorem encR_one (x : Int × Int) : ∀ u ∈ encR x, u.oneCell' = true := by intro u hu; simp [encR] at hu; rcases hu with rfl | rfl <;> rfl

def OffsPost (w : World) (xs : List Exch) (d t : Int) (e : Ending) (w' : World) : Prop :=
  New w w' ∧ ((offsErr xs d t ≠ 0 ∧ e = .returned (.tuple #[.slice none 0 0, .int .i64 (offsErr xs d t)])) ∨
    (offsErr xs d t = 0 ∧ ∃ A cap, e = .returned (.tuple #[.slice A xs.length cap, .int .i64 0]) ∧ Own w' w.heap.size 38 2 encR A xs.length cap (xs.map (offBy · d t))))

set_option maxHeartbeats 1000000 in
theorem offsets_any (A : Option Addr) (n cap : Nat) (xs : List Exch) (d t : Int) (w : World) (hn : n ≤ 1000) (hr : Rd w 3 encX A n xs) :
    Calls Try.prog 82 #[.slice A n cap, .int .i64 d, .int .i64 t] w (OffsPost w xs d t) := by
  obtain ⟨i0, hi, hz0, hz1, hz2⟩ := info_parts infoRange
  have HL := Lib.hid hr.len
  have HR := Lib.hid hr; clear hr
  obtain ⟨E0, hE0⟩ : ∃ E, E = firstE [errU (decide (0 < n)) 10, errU (decide ((n : Int) ≤ 20)) 8] := ⟨_, rfl⟩
  have HE := Lib.hid hE0; clear hE0
  go_enter Try.func82, Try.ntmps82
  go_wp2_with (first
    | (go_at_call 86; refine (unless_any _ _ _).mono ?_; rintro e w' ⟨rfl, rfl⟩)
    | (go_at_call 85; refine (first_any _ 2 2 [_, _] _ (by omega) rfl (cells_new _ _ _ _ (by simp) _ rfl)).mono ?_; rintro e w' ⟨rfl, rfl⟩))
  rw [← HE.out]
  go_loopw [8, 9] (fun e i wr => ∃ (k : Nat) (ev : Int), k ≤ n ∧ i = .int .i64 k ∧ e = .int .i64 ev ∧ Hid (ev = if E0 = 0 then exsErr (xs.take k) else E0) ∧ New w wr) (fun _ i _ => n - (intOf i).toNat)
  case atStart => exact ⟨0, E0, by omega, rfl, rfl, (show E0 = _ by by_cases h : E0 = 0 <;> simp [h, exsErr]), (New.refl _).alloc _⟩
  case round =>
    obtain ⟨k, ev, hk, rfl, rfl, HF, hN⟩ := hrel
    by_cases hgo : k < n ∧ ev = 0
    · obtain ⟨hlt, hev⟩ := hgo
      have d1 : decide ((k : Int) < (n : Int)) = true := by simpa using hlt
      have d2 : (ev == 0) = true := by simpa using hev
      have HV := Lib.hid hev; clear hev
      obtain ⟨b, o, x, rfl, hb, hx, hc⟩ := (HR.out.keep hN).at_ hlt
      have g0 := hc 0 _ rfl
      have g1 := hc 1 _ rfl
      have g2 := hc 2 _ rfl
      simp only [Nat.add_zero] at g0
      have HX := Lib.hid hx
      clear hx hc
      go_wp2_with (go_at_call 29; refine (checkEx_any x _).mono ?_; rintro e w' ⟨rfl, hn1⟩)
      go_roundw
      case rel =>
        refine ⟨k + 1, exErr x, by omega, by go_num, rfl, ?_, hN.trans hn1⟩
        show exErr x = _
        have h1 := HF.out
        rw [HV.out] at h1
        by_cases h : E0 = 0
        · rw [if_pos h] at h1 ⊢
          rw [exsErr_take xs k x HX.out h1.symm]
        · rw [if_neg h] at h1; exact absurd h1.symm h
      case measure => simp [intOf]; omega
    · have HEX := Lib.hid (show ev = offE1 xs by
        have h1 := HF.out
        unfold offE1
        rw [firstE_three, HL.out, ← HE.out]
        by_cases h : E0 = 0
        · rw [if_pos h] at h1 ⊢
          rw [h1]
          by_cases hv : ev = 0
          · rw [List.take_of_length_le (by rw [HL.out]; omega)]
          · rw [← exsErr_stop xs k (by rw [← h1]; exact hv)]
        · rw [if_neg h] at h1 ⊢
          exact h1)
      clear HF
      obtain ⟨hlt, d2⟩ | hlt : (k < n ∧ (ev == 0) = false) ∨ ¬ k < n := by
        by_cases h : k < n
        · left; exact ⟨h, by simp; omega⟩
        · exact .inr h
      all_goals
        clear hgo
        have d1 : decide ((k : Int) < (n : Int)) = decide (k < n) := by simp
        simp only [hlt, decide_true, decide_false] at d1
        by_cases hoff : offsErr xs d t = 0
        · have HO := Lib.hid hoff
          have b1 : (firstE [ev, timeE d t] != 0) = false := by rw [HEX.out]; simpa [offsErr] using hoff
          clear hoff
          go_wp2_with (first
            | (go_at_call 88; refine (timeErr_any _ _ _).mono ?_; rintro e w1 ⟨rfl, hn1⟩)
            | (go_at_call 85; refine (first_any _ 2 2 [_, _] _ (by omega) rfl (cells_new _ _ _ _ (by simp) _ rfl)).mono ?_; rintro e w' ⟨rfl, rfl⟩))
          have hz0e : exsErr xs = 0 ∧ timeE d t = 0 ∧ n ≤ 20 := offsErr_zero HL.out HO.out
          obtain ⟨ht1, ht2, ht3, ht4⟩ := timeE_zero hz0e.2.1
          have hn20 := hz0e.2.2
          have HXS := Lib.hid hz0e.1
          clear hz0e
          have hN2 := hN.trans hn1
          clear hn1
          go_loopw [10, 49] (fun v i wq => ∃ (j : Nat) (A' : Option Addr) (cap' : Nat), j ≤ n ∧ i = .int .i64 j ∧ v = .slice A' j cap' ∧ Own wq w.heap.size 38 2 encR A' j cap' ((xs.map (offBy · d t)).take j) ∧ New w wq) (fun _ i _ => n - (intOf i).toNat)
          case atStart => exact ⟨0, none, 0, by omega, rfl, rfl, Own.nil _ _ _ _ encR_len, hN2.alloc _⟩
          case round =>
            obtain ⟨j, A', cap', hj, rfl, rfl, hown, hNq⟩ := hrel
            by_cases hjn : j < n
            · obtain ⟨b, o, x, rfl, hb, hx, hc⟩ := (HR.out.keep hNq).at_ hjn
              have g0 := hc 0 _ rfl
              have g1 := hc 1 _ rfl
              have g2 := hc 2 _ rfl
              simp only [Nat.add_zero] at g0
              obtain ⟨e1, e2, e3, e4, e5⟩ := exErr_zero (exsErr_zero HXS.out x (List.mem_of_getElem? hx))
              have HX := Lib.hid hx
              clear hx hc
              go_wp2_with (first
                | (go_at_call 89; refine (offset_any x.s x.t x.r d t _ (by omega) (by omega) (by omega) (by omega) (by omega) (by omega) (by omega) (by omega) (by omega)).mono ?_; rintro e w2 ⟨rfl, hn2⟩)
                | (at_builtin; refine wpList_push _ rfl _ _ 131 rfl 38 i0 _ 2 16 Try.underlying131 hi hz0 hz1 hz2 rfl (by omega) w.heap.size encR A' j cap' _ rfl (by exact (hown.keep (hn2of hn2)).alloc _) _ 1 1 [offBy x d t] rfl rfl (by omega) (by exact cells_new _ _ _ _ (by simp) _ rfl) encR_one (by unfold maxLen; omega) (by omega) (by have := hNq.size; have := hn2.size; simp at this; simp; omega) ?_; intro g cap2 w3 hown3 hg3 hat3 hb3 hlt3 hN3))
              exact ⟨⟨j + 1, _, cap2, by omega, by go_num, rfl, by rw [take_map_succ _ xs j x HX.out]; exact hown3, hN3 _ ((hNq.trans (hn2of hn2)).alloc _) (Nat.le_refl _)⟩, by simp [intOf]; omega⟩
            · obtain rfl : n = j := by omega
              go_wp2
              go_ret2
              refine ⟨hNq, .inr ⟨HO.out, A', cap', by rw [HL.out]; rfl, ?_⟩⟩
              rw [HL.out]
              rw [take_all_map _ _ _ (by rw [HL.out]; exact Nat.le_refl _)] at hown
              exact hown
        · have HO := Lib.hid hoff
          have b1 : (firstE [ev, timeE d t] != 0) = true := by rw [HEX.out]; simpa [offsErr] using hoff
          clear hoff
          go_wp2_with (first
            | (go_at_call 88; refine (timeErr_any _ _ _).mono ?_; rintro e w1 ⟨rfl, hn1⟩)
            | (go_at_call 85; refine (first_any _ 2 2 [_, _] _ (by omega) rfl (cells_new _ _ _ _ (by simp) _ rfl)).mono ?_; rintro e w' ⟨rfl, rfl⟩))
          go_ret2
          exact ⟨(hN.trans hn1).alloc _, .inl ⟨HO.out, by unfold offsErr; rw [← HEX.out]; rfl⟩⟩

end Go.Proofs.Ytjpkcmlepjbamaa
