/- Contract: Packed. -/
import Derived.Test.YtjpkcmlepjbamaaW8
namespace Go.Proofs.Ytjpkcmlepjbamaa
open Go.RowKit Go.Sky

theorem serE_zero {xs : List Int} (h : serE xs = 0) : xs.length ≤ 200 ∧ ∀ x ∈ xs, -1000000000 ≤ x ∧ x ≤ 1000000000 := by
  unfold serE at h
  rw [firstE_two] at h
  by_cases h1 : errU (decide (((xs.length : Nat) : Int) ≤ 200)) 8 = 0
  · rw [if_pos h1, errU_zero (by decide)] at h
    rw [errU_zero (by decide)] at h1
    refine ⟨by simp at h1; omega, fun x hx => ?_⟩
    simp only [Bool.not_eq_true', List.any_eq_false] at h
    have := h x hx
    simp [strange, inR] at this
    exact this
  · rw [if_neg h1] at h; exact absurd h h1

def PackedPost (w : World) (xs : List Int) (e : Ending) (w' : World) : Prop :=
  New w w' ∧ ((serE xs ≠ 0 ∧ e = .returned (.tuple #[.agg #[.int .i64 0, .slice none 0 0], .int .i64 (serE xs)])) ∨
    (serE xs = 0 ∧ ∃ A n cap, e = .returned (.tuple #[.agg #[.int .i64 (packWay xs), .slice A n cap], .int .i64 0]) ∧ Own w' w.heap.size 3 1 encI A n cap (packNums xs)))

/-- The way that is best so far, by how many have been looked at. -/
def BestRel (a d r : Nat) (b i : Value) : Prop :=
  (i = .int .i64 0 ∧ b = .int .i64 0) ∨ (i = .int .i64 1 ∧ b = .int .i64 0) ∨ (i = .int .i64 2 ∧ b = .int .i64 1 ∧ d < a) ∨ (i = .int .i64 2 ∧ b = .int .i64 0 ∧ ¬ d < a) ∨
  (i = .int .i64 3 ∧ b = .int .i64 1 ∧ d < a ∧ ¬ r < d) ∨ (i = .int .i64 3 ∧ b = .int .i64 2 ∧ d < a ∧ r < d) ∨ (i = .int .i64 3 ∧ b = .int .i64 2 ∧ ¬ d < a ∧ r < a) ∨ (i = .int .i64 3 ∧ b = .int .i64 0 ∧ ¬ d < a ∧ ¬ r < a)

set_option maxRecDepth 100000 in
set_option maxHeartbeats 2000000 in
theorem Packed_any (A : Option Addr) (n cap : Nat) (xs : List Int) (w : World) (hn : n ≤ 100000) (hr : Rd w 1 encI A n xs) :
    Calls Try.prog 37 #[.slice A n cap] w (PackedPost w xs) := by
  have HL := Lib.hid hr.len
  have HR := Lib.hid hr; clear hr
  go_enter Try.func37, Try.ntmps37
  go_wp2_with fail
  refine (seriesErr_any A n cap xs _ (by omega) (HR.out.keep ((New.refl _).alloc _))).mono ?_
  rintro e w1 ⟨rfl, hn1⟩
  have hb := (Bx.mk w 58 #[.int .i64 0, .slice none 0 0]).keep hn1
  have hN1 := hn1
  clear hn1
  by_cases hE : serE xs = 0
  · have b1 : (serE xs != 0) = false := by simpa using hE
    obtain ⟨h200, hbd⟩ := serE_zero hE
    rw [HL.out] at h200
    have HBD := Lib.hid hbd
    have HE := Lib.hid hE
    clear hE hbd
    have hN := ((New.refl w).alloc (.cells #[.int .i64 0, .slice none 0 0] 58)).trans hN1
    go_wp2_with fail
    refine (cloneI_any A n cap xs _ (by omega) (HR.out.keep hN)).mono ?_
    rintro e w2 ⟨A2, cap2, rfl, hown2, hn2⟩
    go_wp2_with fail
    refine (differences_any A n cap xs _ (by omega) (HR.out.keep (hN.trans hn2)) HBD.out).mono ?_
    rintro e w3 ⟨A3, cap3, rfl, hown3, hn3⟩
    go_wp2_with fail
    refine (runs_any A3 n cap3 (diffS xs) _ (by omega) hown3.rd).mono ?_
    rintro e w4 ⟨A4, m4, cap4, rfl, hown4, hn4⟩
    go_wp2_with fail
    refine (runs_any A n cap xs _ (by omega) (HR.out.keep (((hN.trans hn2).trans hn3).trans hn4))).mono ?_
    rintro e w5 ⟨A5, m5, cap5, rfl, hown5, hn5⟩
    have hN5 := (((hN.trans hn2).trans hn3).trans hn4).trans hn5
    have r2 := Lib.hid (hown2.keep ((hn3.trans hn4).trans hn5))
    have r4 := Lib.hid ((hown4.keep hn5).base_le (base' := w1.heap.size) ((hn2.trans hn3).size))
    have r5 := Lib.hid (hown5.base_le (base' := w1.heap.size) (((hn2.trans hn3).trans hn4).size))
    have hb1 := hb.lt
    have hb5 := hb.keep (((hn2.trans hn3).trans hn4).trans hn5)
    have HM4 := Lib.hid hown4.len
    have HM5 := Lib.hid hown5.len
    have hm4 : m4 ≤ 1000000 := by rw [← HM4.out]; have := runsS_len (diffS xs); rw [diffS_len, HL.out] at this; omega
    have hm5 : m5 ≤ 1000000 := by rw [← HM5.out]; have := runsS_len xs; rw [HL.out] at this; omega
    clear hown2 hown3 hown4 hown5 hb hN hN1 hn2 hn3 hn4 hn5
    go_wp2
    have i0 : ∀ W, (Instr.index 143 (.agg #[.slice A2 n cap2, .slice A4 m4 cap4, .slice A5 m5 cap5]) (.int .i64 0)).run Try.prog W = .ok (.slice A2 n cap2) W := fun _ => by kernel_rfl
    have i1 : ∀ W, (Instr.index 143 (.agg #[.slice A2 n cap2, .slice A4 m4 cap4, .slice A5 m5 cap5]) (.int .i64 1)).run Try.prog W = .ok (.slice A4 m4 cap4) W := fun _ => by kernel_rfl
    have i2 : ∀ W, (Instr.index 143 (.agg #[.slice A2 n cap2, .slice A4 m4 cap4, .slice A5 m5 cap5]) (.int .i64 2)).run Try.prog W = .ok (.slice A5 m5 cap5) W := fun _ => by kernel_rfl
    go_loopw [6, 7, 8, 24] (fun bst _ _ i wr => BestRel n m4 m5 bst i ∧ wr = w5.alloc (.cells #[.slice A2 n cap2, .slice A4 m4 cap4, .slice A5 m5 cap5] 143)) (fun _ _ _ i _ => 3 - (intOf i).toNat)
    case atStart => exact ⟨.inl ⟨rfl, rfl⟩, rfl⟩
    case round =>
      obtain ⟨hrel, rfl⟩ := hrel
      rcases hrel with ⟨rfl, rfl⟩ | ⟨rfl, rfl⟩ | ⟨rfl, rfl, h1⟩ | ⟨rfl, rfl, h1⟩ | ⟨rfl, rfl, h1, h2⟩ | ⟨rfl, rfl, h1, h2⟩ | ⟨rfl, rfl, h1, h2⟩ | ⟨rfl, rfl, h1, h2⟩
      · go_wp2
        go_roundw
        case rel => exact ⟨.inr (.inl ⟨rfl, rfl⟩), trivial⟩
        case measure => simp [intOf]
      · by_cases h1 : m4 < n
        · go_wp2
          go_roundw
          case rel => exact ⟨.inr (.inr (.inl ⟨rfl, rfl, h1⟩)), trivial⟩
          case measure => simp [intOf]
        · go_wp2
          go_roundw
          case rel => exact ⟨.inr (.inr (.inr (.inl ⟨rfl, rfl, h1⟩))), trivial⟩
          case measure => simp [intOf]
      · by_cases h2 : m5 < m4
        · go_wp2
          go_roundw
          case rel => exact ⟨.inr (.inr (.inr (.inr (.inr (.inl ⟨rfl, rfl, h1, h2⟩))))), trivial⟩
          case measure => simp [intOf]
        · go_wp2
          go_roundw
          case rel => exact ⟨.inr (.inr (.inr (.inr (.inl ⟨rfl, rfl, h1, h2⟩)))), trivial⟩
          case measure => simp [intOf]
      · by_cases h2 : m5 < n
        · go_wp2
          go_roundw
          case rel => exact ⟨.inr (.inr (.inr (.inr (.inr (.inr (.inl ⟨rfl, rfl, h1, h2⟩)))))), trivial⟩
          case measure => simp [intOf]
        · go_wp2
          go_roundw
          case rel => exact ⟨.inr (.inr (.inr (.inr (.inr (.inr (.inr ⟨rfl, rfl, h1, h2⟩)))))), trivial⟩
          case measure => simp [intOf]
      all_goals
        have HP := Lib.hid (pack_of HL.out HM4.out HM5.out)
        have hb6 := hb5.alloc (.cells #[.slice A2 n cap2, .slice A4 m4 cap4, .slice A5 m5 cap5] 143)
        have c0 : w5.cell? _ = some _ := hb5.cell 0
        have c1 : w5.cell? _ = some _ := hb5.cell 1
        have f0 := hb5.free 0
        have f1 := hb5.free 1
        have hlt := hb5.lt
        have HH := Lib.hid h1
        have HH2 := Lib.hid h2
        clear hb5 hb6
        go_wp2
      · refine bodyPost_ret (v := .tuple #[.agg #[.int .i64 1, .slice A4 m4 cap4], .int .i64 0]) (by simp [results, Try.results37, go_sem, c0, c1, hlt]) rfl ⟨((hN5.setCell (by simp) _).setCell (by simp) _).alloc _, .inr ⟨HE.out, A4, m4, cap4, ?_, ?_⟩⟩
        · rw [HP.out.1, if_pos HH.out, if_neg HH2.out]
        · rw [HP.out.2, if_pos HH.out, if_neg HH2.out]
          exact (((r4.out.setBelow (by exact hb1) _).setBelow (by exact hb1) _).alloc _).base_le (Nat.le_of_lt hb1)
      · refine bodyPost_ret (v := .tuple #[.agg #[.int .i64 2, .slice A5 m5 cap5], .int .i64 0]) (by simp [results, Try.results37, go_sem, c0, c1, hlt]) rfl ⟨((hN5.setCell (by simp) _).setCell (by simp) _).alloc _, .inr ⟨HE.out, A5, m5, cap5, ?_, ?_⟩⟩
        · rw [HP.out.1, if_pos HH.out, if_pos HH2.out]
        · rw [HP.out.2, if_pos HH.out, if_pos HH2.out]
          exact (((r5.out.setBelow (by exact hb1) _).setBelow (by exact hb1) _).alloc _).base_le (Nat.le_of_lt hb1)
      · refine bodyPost_ret (v := .tuple #[.agg #[.int .i64 2, .slice A5 m5 cap5], .int .i64 0]) (by simp [results, Try.results37, go_sem, c0, c1, hlt]) rfl ⟨((hN5.setCell (by simp) _).setCell (by simp) _).alloc _, .inr ⟨HE.out, A5, m5, cap5, ?_, ?_⟩⟩
        · rw [HP.out.1, if_neg HH.out, if_pos HH2.out]
        · rw [HP.out.2, if_neg HH.out, if_pos HH2.out]
          exact (((r5.out.setBelow (by exact hb1) _).setBelow (by exact hb1) _).alloc _).base_le (Nat.le_of_lt hb1)
      · refine bodyPost_ret (v := .tuple #[.agg #[.int .i64 0, .slice A2 n cap2], .int .i64 0]) (by simp [results, Try.results37, go_sem, c0, c1, hlt]) rfl ⟨((hN5.setCell (by simp) _).setCell (by simp) _).alloc _, .inr ⟨HE.out, A2, n, cap2, ?_, ?_⟩⟩
        · rw [HP.out.1, if_neg HH.out, if_neg HH2.out]
        · rw [HP.out.2, if_neg HH.out, if_neg HH2.out]
          exact (((r2.out.setBelow (by exact hb1) _).setBelow (by exact hb1) _).alloc _).base_le (Nat.le_of_lt hb1)
  · have b1 : (serE xs != 0) = true := by simpa using hE
    have HE := Lib.hid hE
    clear hE
    have c0 : w1.cell? _ = some _ := hb.cell 0
    have c1 : w1.cell? _ = some _ := hb.cell 1
    have f0 := hb.free 0
    have f1 := hb.free 1
    have hlt := hb.lt
    clear hb
    have hN := hN1
    go_wp2
    exact bodyPost_ret (v := .tuple #[.agg #[.int .i64 0, .slice none 0 0], .int .i64 (serE xs)]) (by simp [results, Try.results37, go_sem, c0, c1]) rfl ⟨((((New.refl w).alloc _).trans hN).setCell (by simp) _).setCell (by simp) _, .inl ⟨HE.out, rfl⟩⟩
end Go.Proofs.Ytjpkcmlepjbamaa
