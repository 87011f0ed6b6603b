/- Contracts: the reference of plans: CopyNet, CheckNet, CheckPlan, disturb. -/
import Derived.Test.YtjpkcmlepjbamaaW37
import Derived.Test.YtjpkcmlepjbamaaW16
import Derived.Test.YtjpkcmlepjbamaaQTk
namespace Go.Proofs.Ytjpkcmlepjbamaa
open Go.RowKit Go.Sky

theorem encP_one (x : Int × Int) : ∀ u ∈ encP x, u.oneCell' = true := by intro u hu; simp [encP] at hu; rcases hu with rfl | rfl <;> rfl
theorem encP_two (x : Int × Int) : (encP x).length = 2 := rfl
theorem infoPair : (Try.prog.info? 52).map (fun i => (i.zero, i.size, i.bytes)) = some (some (.agg #[.int .i64 0, .int .i64 0]), 2, 16) := by kernel_rfl

set_option maxRecDepth 100000 in
set_option maxHeartbeats 2000000 in
theorem copyNet_any (st : Int) (A : Option Addr) (n cap : Nat) (ps : List (Int × Int)) (w : World) (hn : n ≤ 100000) (hr : Rd w 2 encP A n ps) :
    Calls Try.prog 47 #[.agg #[.int .i64 st, .slice A n cap]] w fun e w' => ∃ A' cap', e = .returned (.agg #[.int .i64 st, .slice A' n cap']) ∧ n ≤ cap' ∧ Rd w' 2 encP A' n ps ∧ New w w' := by
  obtain ⟨i0, hi, hz0, hz1, hz2⟩ := info_parts infoPair
  have HR := Lib.hid hr; clear hr
  go_enter Try.func47, Try.ntmps47
  have hN0 := ((New.refl w).alloc (.cells #[.int .i64 st, .slice A n cap] 75)).alloc (.cells #[.int .i64 0, .slice none 0 0] 75)
  have b2 := Bx.mk_at (w.alloc (.cells #[.int .i64 st, .slice A n cap] 75)) 75 #[.int .i64 0, .slice none 0 0] (w.heap.size + 1) (by simp)
  have b1 := (Bx.mk w 75 #[.int .i64 st, .slice A n cap]).alloc (.cells #[.int .i64 0, .slice none 0 0] 75)
  go_wp2
  have b0 := Bx.mk w 75 #[.int .i64 st, .slice A n cap]
  obtain ⟨V, hV⟩ : ∃ V, w.alloc (.cells #[.int .i64 st, .slice A n cap] 75) = V := ⟨_, rfl⟩
  have hVs : V.heap.size = w.heap.size + 1 := by rw [← hV]; simp
  have nV := (New.refl V).alloc (.cells #[.int .i64 0, .slice none 0 0] 75)
  rw [hV] at hN0 b0 b1 b2 ⊢
  obtain ⟨W0, hW0⟩ : ∃ W0, V.alloc (.cells #[.int .i64 0, .slice none 0 0] 75) = W0 := ⟨_, rfl⟩
  rw [hW0] at hN0 b1 b2 nV ⊢
  have c0 : V.cell? _ = some _ := b0.cell 0
  have c1 : V.cell? _ = some _ := b0.cell 1
  have hlt := b0.lt
  clear hV hW0
  refine wp_region_takes0 V nV 2 6 #[true, true, false, false, false, false, false, false] (by kernel_rfl) (by kernel_rfl) (by kernel_rfl) (by kernel_rfl) (by kernel_rfl) (by kernel_rfl) ?_
  simp only [List.take_succ_cons, List.take_zero]
  (repeat (go_big_quiet_step ((fail))))
  refine wpQuiet_nil ?_
  intro W1 n1
  refine take_next 3 2 #[true, true, false, true, true, false, false, false] rfl (by kernel_rfl) (by kernel_rfl) (by kernel_rfl) (by kernel_rfl) (by decide) ?_
  simp only [List.take_succ_cons, List.take_zero, List.drop_succ_cons, List.drop_zero]
  (repeat (go_big_quiet_step ((fail))))
  refine wpQuiet_nil ?_
  refine one_next 2 (by kernel_rfl) (new_plus_of nV n1) (wpOpIn_list rfl ?_)
  gi_wp2
  have n2 := n1.alloc (.cells #[] 52)
  have hemp := Own.empty (α := Int × Int) (enc := encP) W1 W0.heap.size 52 2 encP_two W1.heap.size rfl n1.size
  refine one_next 5 (by kernel_rfl) (new_plus_of nV n2) (wpOpIn_list rfl ?_)
  refine wpListIn_flow _ rfl _ _ 73 rfl 52 i0 _ 2 16 Try.underlying73 hi hz0 hz1 hz2 rfl (by omega) W0.heap.size encP _ 0 0 [] rfl (by exact hemp) A n cap ps rfl (by exact HR.out.keep (hN0.trans n2)) encP_one (by unfold maxLen; omega) (by omega) (by exact n2.size) ?_
  intro A3 c3 w3 hown3 hg3 hN3
  gi_wp2
  rw [Nat.zero_add, List.nil_append] at hown3
  have n3 := hN3 W0 n2 (Nat.le_refl _)
  rw [Nat.zero_add]
  refine one_next 6 (by kernel_rfl) (new_plus_of nV n3) (wpOpIn_list rfl ?_)
  gi_wp2
  have b2' := b2.keep n3
  have d0 : w3.cell? _ = some _ := b2'.cell 0
  have d1 : w3.cell? _ = some _ := b2'.cell 1
  have f0 := b2'.free 0
  have f1 := b2'.free 1
  have l2 := b2'.lt
  refine one_next 7 (by kernel_rfl) (new_plus_of nV n3) (wpOpIn_list rfl ?_)
  gi_wp2
  have nF := ((nV.trans n3).setCell (p := ⟨w.heap.size + 1, 0, none⟩) (by show V.heap.size ≤ w.heap.size + 1; omega) (.int .i64 st)).setCell (p := ⟨w.heap.size + 1, 1, none⟩) (by show V.heap.size ≤ w.heap.size + 1; omega) (.slice A3 n c3)
  refine end_any (new_plus nF) (by kernel_rfl) ?_
  go_wp2
  have bF := (b2'.set 0 (.int .i64 st)).set 1 (.slice A3 n c3)
  have e0 := bF.cell 0
  have e1 := bF.cell 1
  have hF := (hown3.setBelow (p := ⟨w.heap.size + 1, 0, none⟩) (by show w.heap.size + 1 < W0.heap.size; exact b2.lt) (.int .i64 st)).setBelow (p := ⟨w.heap.size + 1, 1, none⟩) (by show w.heap.size + 1 < W0.heap.size; exact b2.lt) (.slice A3 n c3)
  have nW := ((hN0.trans n3).setCell (p := ⟨w.heap.size + 1, 0, none⟩) (by show w.heap.size ≤ w.heap.size + 1; omega) (.int .i64 st)).setCell (p := ⟨w.heap.size + 1, 1, none⟩) (by show w.heap.size ≤ w.heap.size + 1; omega) (.slice A3 n c3)
  exact bodyPost_ret (v := .agg #[.int .i64 st, .slice A3 n c3]) (by simp [results, Try.results47, go_sem, e0, e1]) rfl ⟨A3, c3, rfl, hF.le.1, hF.rd, nW⟩

theorem same_comm (p q : Int × Int) : sameP p q = (q.1 == p.1 && q.2 == p.2) := by
  unfold sameP
  rw [Bool.eq_iff_iff]
  simp only [Bool.and_eq_true, beq_iff_eq]
  omega

set_option maxRecDepth 100000 in
set_option maxHeartbeats 1000000 in
theorem refDist_any (st : Int) (A : Option Addr) (n cap : Nat) (ps : List (Int × Int)) (a b : Int) (hab : a < b) (w : World) (hn : n ≤ 100000) (hr : Rd w 2 encP A n ps) :
    Calls Try.prog 111 #[.agg #[.int .i64 st, .slice A n cap], .int .i64 a, .int .i64 b] w fun e w' => e = .returned (.bool (ps.any fun q => sameP q (a, b))) ∧ New w w' := by
  have HL := Lib.hid hr.len
  have HR := Lib.hid hr; clear hr
  have heq := eql_pair
  have hgu := guard_pair
  have hmin : min a b = a := Int.min_eq_left (by omega)
  have hmax : max a b = b := Int.max_eq_right (by omega)
  have h1 : ¬ b < a := by omega
  have b1 := Bx.mk w 75 #[.int .i64 st, .slice A n cap]
  have hN := (New.refl w).alloc (.cells #[.int .i64 st, .slice A n cap] 75)
  go_enter Try.func111, Try.ntmps111
  go_wp2
  go_loopw [7] (fun i wr => ∃ k : Nat, k ≤ n ∧ i = .int .i64 (k : Int) ∧ Hid (∀ (j : Nat) x, j < k → ps[j]? = some x → sameP x (a, b) = false) ∧ Bx wr w.heap.size 75 #[.int .i64 st, .slice A n cap] ∧ New w wr) (fun i _ => n - (intOf i).toNat)
  case atStart => exact ⟨0, by omega, rfl, (fun j x hj => absurd hj (by omega)), b1, hN⟩
  case round =>
    clear b1 hN
    obtain ⟨k, hk, rfl, HF, b1, hN⟩ := hrel
    have c1 : wr.cell? _ = some _ := b1.cell 1
    have lb := b1.lt
    by_cases hlt : k < n
    · obtain ⟨bb, o, x, rfl, hb, hx, hc⟩ := (HR.out.keep hN).at_ hlt
      have g0 := hc 0 _ rfl
      have g1 := hc 1 _ rfl
      simp only [Nat.add_zero] at g0
      have HX := Lib.hid hx
      clear hx hc
      obtain ⟨q, hq⟩ : ∃ q, sameP x (a, b) = q := ⟨_, rfl⟩
      have HQ := Lib.hid hq
      unfold sameP at hq
      dsimp only at hq
      cases q
      · go_wp2
        go_roundw
        case rel => exact ⟨k + 1, by omega, by go_num, fun j y hj hy => by
          rcases Nat.lt_or_ge j k with h | h
          · exact HF.out j y h hy
          · obtain rfl : j = k := by omega
            have hxy := HX.out
            rw [hy] at hxy
            injection hxy with hxy
            rw [hxy]
            exact HQ.out, b1, hN⟩
        case measure => simp [intOf]; omega
      · have HV := Lib.hid (show (ps.any fun q => sameP q (a, b)) = true from List.any_eq_true.2 ⟨x, List.mem_of_getElem? HX.out, HQ.out⟩)
        go_wp2
        go_ret
        exact ⟨by rw [HV.out]; rfl, hN⟩
    · have HV := Lib.hid (show (ps.any fun q => sameP q (a, b)) = false by
        rw [List.any_eq_false]
        intro x hx
        obtain ⟨j, hj, rfl⟩ := List.getElem_of_mem hx
        rw [HF.out j _ (by rw [HL.out] at hj; omega) (List.getElem?_eq_getElem hj)]
        decide)
      go_wp2
      go_ret
      exact ⟨by rw [HV.out]; rfl, hN⟩
end Go.Proofs.Ytjpkcmlepjbamaa
