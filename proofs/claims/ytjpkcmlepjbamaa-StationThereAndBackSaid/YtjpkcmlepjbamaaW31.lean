/- Contracts: the reference of packing: differences, Packed, CopyPacked. -/
import Derived.Test.YtjpkcmlepjbamaaW30
import Derived.Test.YtjpkcmlepjbamaaQPush
import Derived.Test.YtjpkcmlepjbamaaQTk
import Derived.Deep.RegionHeld3
namespace Go.Proofs.Ytjpkcmlepjbamaa
open Go.RowKit Go.Sky

theorem take_push {α : Type} (xs : List α) (k : Nat) (x : α) (h : xs[k]? = some x) : xs.take (k + 1) = xs.take k ++ [x] := take_snoc xs k x h

set_option maxRecDepth 100000 in
set_option maxHeartbeats 1000000 in
theorem refDiff_any (A : Option Addr) (n cap : Nat) (xs : List Int) (w : World) (hn : n ≤ 100000) (hr : Rd w 1 encI A n xs) (hbd : ∀ x ∈ xs, -1000000000 ≤ x ∧ x ≤ 1000000000) :
    Calls Try.prog 100 #[.slice A n cap] w fun e w' => ∃ A' cap', e = .returned (.slice A' n cap') ∧ Sky.Own w' w.heap.size 3 1 encI A' n cap' (diffS xs) ∧ New w w' := by
  obtain ⟨i0, hi, hz0, hz1, hz2⟩ := info_parts infoInt
  have HL := Lib.hid hr.len
  have HR := Lib.hid hr; clear hr
  have HB := Lib.hid (abs_getD xs hbd); clear hbd
  go_enter Try.func100, Try.ntmps100
  go_wp2
  go_loopw [3, 4] (fun v i wr => ∃ (k : Nat) (A' : Option Addr) (cap' : Nat), k ≤ n ∧ i = .int .i64 (k : Int) ∧ v = .slice A' k cap' ∧ Sky.Own wr w.heap.size 3 1 encI A' k cap' ((diffS xs).take k) ∧ New w wr) (fun _ i _ => n - (intOf i).toNat)
  case atStart => exact ⟨0, none, 0, by omega, rfl, rfl, Sky.Own.nil _ _ _ _ encI_len, New.refl _⟩
  case round =>
    obtain ⟨k, A', cap', hk, rfl, rfl, hown, hN⟩ := hrel
    by_cases hlt : k < n
    · obtain ⟨b, o, rfl, hb, hc⟩ := (HR.out.keep hN).some_ (by omega)
      obtain ⟨b', o', e', hbB, _⟩ := HR.out.some_ (by omega)
      injection e' with e'
      injection e' with e1 e2
      subst e1 e2
      have hx : xs[k]? = some (xs.getD k 0) := by rw [List.getD_eq_getElem?_getD, List.getElem?_eq_getElem (by rw [HL.out]; exact hlt)]; rfl
      have g0 := hc k _ hx 0 _ rfl
      simp only [Nat.add_zero, Nat.mul_one] at g0
      have hd := diffFrom_at xs 0 k (by rw [HL.out]; exact hlt)
      by_cases hk0 : 0 < k
      · have hx1 : xs[k - 1]? = some (xs.getD (k - 1) 0) := by rw [List.getD_eq_getElem?_getD, List.getElem?_eq_getElem (by rw [HL.out]; omega)]; rfl
        have g1 := hc (k - 1) _ hx1 0 _ rfl
        simp only [Nat.add_zero, Nat.mul_one] at g1
        rw [if_pos hk0] at hd
        have HT := Lib.hid (take_push _ k _ (show (diffS xs)[k]? = _ from hd))
        obtain ⟨b1, b2⟩ := HB.out k
        obtain ⟨b3, b4⟩ := HB.out (k - 1)
        clear hd hx hx1 hc
        generalize xs.getD k 0 = x at *
        generalize xs.getD (k - 1) 0 = y at *
        have d0 : ((k : Int) == 0) = false := by simp; omega
        have l1 : (0 : Int) ≤ (k : Int) - 1 := by omega
        have l2 : (k : Int) - 1 < (n : Int) := by omega
        have l3 : (k : Int) < (n : Int) := by omega
        have l4 : (0 : Int) ≤ (k : Int) := by omega
        have l5 : (1 : Int) ≤ (k : Int) := by omega
        have l6 : (k : Int) ≤ (n : Int) := by omega
        have l7 : 1 ≤ k := hk0
        have q1 : w.heap.size ≤ wr.heap.size := hN.size
        have q2 : k + 1 ≤ maxLen := by unfold maxLen; omega
        have q3 : (k + 1) * 8 ≤ 140737488355328 := by omega
        have w1 : IntKind.i64.wrap ((k : Int) - 1) = (k : Int) - 1 := IntWalk.i64_in _ (by omega)
        have w2 : ((k : Int) - 1).toNat = k - 1 := by omega
        have w3 : IntKind.i64.wrap (x - y) = x - y := IntWalk.i64_in _ (by omega)
        have HBW := Lib.hid hbB
        go_wp2
        go_region_held3 (fun w' => w'.cell? ⟨b, o + k, none⟩ = some (.int .i64 x) ∧ w'.cell? ⟨b, o + (k - 1), none⟩ = some (.int .i64 y))
          (first | go_keep | (go_split_ands; refine ⟨?_, ?_⟩ <;> (refine grown_cell hown hgrow HBW.out ?_; assumption)))
          ((refine step_push _ (by rfl) _ _ 30 (by rfl) 3 i0 _ 1 8 Try.underlying30 hi hz0 hz1 hz2 rfl (by decide) w.heap.size encI A' k cap' _ (by rfl) (by exact ((hown.alloc _).drew)) wr.heap.size 1 1 [x - y] (by rfl) rfl (by decide) (by intro j u hu; exact cells_new wr #[.int .i64 (x - y)] 3 wr.heap.size rfl _ rfl j u hu) encI_one q2 q3 (by simp; omega) ?_; intro g3 cap2 w9 hown3 hgrow hb3 hlt3 hN3))
        clear w1 w2 w3
        go_wp2
        go_roundw
        case rel => exact ⟨k + 1, _, cap2, by omega, by go_num, rfl, by rw [HT.out]; exact hown3, hN3 _ ((hN.alloc _).drew) (Nat.le_refl _)⟩
        case measure => simp [intOf]; omega
      · obtain rfl : k = 0 := by omega
        rw [if_neg hk0] at hd
        have HT := Lib.hid (take_push _ 0 _ (show (diffS xs)[0]? = _ from hd))
        clear hd hx hc
        generalize xs.getD 0 0 = x at *
        simp only [Nat.add_zero] at g0
        go_wp2_with (at_builtin; refine wpList_push _ rfl _ _ 30 rfl 3 i0 _ 1 8 Try.underlying30 hi hz0 hz1 hz2 rfl (by omega) w.heap.size encI A' 0 cap' _ rfl (by exact hown.alloc _) _ 1 1 [x] rfl rfl (by omega) (by exact cells_new _ _ _ _ (by simp) _ rfl) encI_one (by unfold maxLen; omega) (by omega) (by have := hN.size; simp; omega) ?_; intro g3 cap2 w3 hown3 hg3 hat3 hb3 hlt3 hN3)
        go_roundw
        case rel => exact ⟨1, _, cap2, by omega, by go_num, rfl, by rw [show (1 : Nat) = 0 + 1 from rfl, HT.out]; exact hown3, hN3 _ (hN.alloc _) (Nat.le_refl _)⟩
        case measure => simp [intOf]; omega
    · obtain rfl : n = k := by omega
      have HT := Lib.hid (show (diffS xs).take n = diffS xs from List.take_of_length_le (by rw [diffS_len, HL.out]; omega))
      go_wp2
      go_ret
      exact ⟨A', cap', rfl, by rw [← HT.out]; exact hown, hN⟩

def RPackPost (w : World) (xs : List Int) (e : Ending) (w' : World) : Prop :=
  ∃ A n cap, e = .returned (.agg #[.int .i64 (packWay xs), .slice A n cap]) ∧ Rd w' 1 encI A n (packNums xs) ∧ New w w'

set_option maxRecDepth 100000 in
set_option maxHeartbeats 2000000 in
theorem refPacked_any (A : Option Addr) (n cap : Nat) (xs : List Int) (w : World) (hn : n ≤ 100000) (hr : Rd w 1 encI A n xs) (hbd : ∀ x ∈ xs, -1000000000 ≤ x ∧ x ≤ 1000000000) :
    Calls Try.prog 45 #[.slice A n cap] w (RPackPost w xs) := by
  have HL := Lib.hid hr.len
  have HR := Lib.hid hr; clear hr
  have HB := Lib.hid hbd; clear hbd
  go_enter Try.func45, Try.ntmps45
  go_wp2_with fail
  have hN0 := (New.refl w).alloc (.cells #[.int .i64 0, .slice none 0 0] 58)
  have hb0 := Bx.mk w 58 #[.int .i64 0, .slice none 0 0]
  refine (copyInts_any A n cap xs _ (by omega) (HR.out.keep hN0)).mono ?_
  rintro e w1 ⟨A1, c1, rfl, hown1, n1⟩
  have hN1 := hN0.trans n1
  have hb1 := (hb0.keep n1).alloc (.cells #[.int .i64 0, .slice A1 n c1] 58)
  have hs1 := hown1.base_le (base' := w.heap.size + 1) (by simp)
  have ho1 := Bx.mk w1 58 #[.int .i64 0, .slice A1 n c1]
  have hlt1 := hb0.keep n1 |>.lt
  clear hown1 hb0 n1
  go_wp2_with fail
  have hN2 := hN1.alloc (.cells #[.int .i64 0, .slice A1 n c1] 58)
  refine (refDiff_any A n cap xs _ (by omega) (HR.out.keep hN2) HB.out).mono ?_
  rintro e w3 ⟨A3, c3, rfl, hown3, n3⟩
  go_wp2_with fail
  refine (refRuns_any A3 n c3 (diffS xs) _ (by omega) hown3.rd).mono ?_
  rintro e w4 ⟨A4, m4, c4, rfl, hown4, n4⟩
  have HM4 := Lib.hid hown4.len
  have hm4 : m4 ≤ 1000000 := by rw [← HM4.out]; have := runsS_len (diffS xs); rw [diffS_len, HL.out] at this; omega
  have n34 := n3.trans n4
  have hb4 := hb1.keep n34
  have ho4 := ho1.keep n34
  have hN4 := hN2.trans n34
  have r1 := (hs1.alloc (.cells #[.int .i64 0, .slice A1 n c1] 58)).keep n34
  have r4 := hown4.base_le (base' := w1.heap.size + 1) (by have := n3.size; simp at this; omega)
  have q0 : w4.cell? _ = some _ := ho4.cell 0
  have q1 : w4.cell? _ = some _ := ho4.cell 1
  have q2 := ho4.free 0
  have q3 := ho4.free 1
  have q4 := ho4.lt
  clear hown3 hown4 hb1 ho1 n3 n4 n34 hs1
  have k1 : w.heap.size ≠ w1.heap.size := by omega
  have k2 : w1.heap.size ≠ w.heap.size := by omega
  have k5 := hN4.size
  by_cases h1 : m4 < n
  · go_wp2_with fail
    have nS := (hN4.setCell (p := ⟨w1.heap.size, 0, none⟩) (by show w.heap.size ≤ w1.heap.size; omega) (.int .i64 1)).setCell (p := ⟨w1.heap.size, 1, none⟩) (by show w.heap.size ≤ w1.heap.size; omega) (.slice A4 m4 c4)
    have oS := (ho4.set 0 (.int .i64 1)).set 1 (.slice A4 m4 c4)
    have bS := (hb4.far (p := ⟨w1.heap.size, 0, none⟩) k1 (.int .i64 1)).far (p := ⟨w1.heap.size, 1, none⟩) k1 (.slice A4 m4 c4)
    have rS := (r4.setBelow (p := ⟨w1.heap.size, 0, none⟩) (by show w1.heap.size < w1.heap.size + 1; omega) (.int .i64 1)).setBelow (p := ⟨w1.heap.size, 1, none⟩) (by show w1.heap.size < w1.heap.size + 1; omega) (.slice A4 m4 c4)
    refine (refRuns_any A n cap xs _ (by omega) (HR.out.keep nS)).mono ?_
    rintro e w5 ⟨A5, m5, c5, rfl, hown5, n5⟩
    have HP := Lib.hid (pack_of HL.out HM4.out hown5.len)
    have HM5 := Lib.hid hown5.len
    have hm5 : m5 ≤ 1000000 := by rw [← HM5.out]; have := runsS_len xs; rw [HL.out] at this; omega
    have nS5 := nS.trans n5
    have oS5 := oS.keep n5
    have bS5 := bS.keep n5
    have rS5 := rS.keep n5
    have r5 := hown5.base_le (base' := w1.heap.size + 1) (by first | omega | (simp [World.setCell]; omega))
    have e0 : w5.cell? _ = some _ := oS5.cell 0
    have e1 : w5.cell? _ = some _ := oS5.cell 1
    have f0 := oS5.free 0
    have f1 := oS5.free 1
    have g0 := bS5.free 0
    have g1 := bS5.free 1
    have d0 : w5.cell? _ = some _ := bS5.cell 0
    have d1 : w5.cell? _ = some _ := bS5.cell 1
    have k3 := oS5.lt
    have k4 := bS5.lt
    simp at e0 e1 d0 d1
    clear nS oS bS rS hown5 n5 q0 q1 q2 q3 q4
    by_cases h2 : m5 < m4
    · go_wp2_with fail
      refine bodyPost_ret (v := .agg #[.int .i64 2, .slice A5 m5 c5]) (by simp [results, Try.results45, go_sem, d0, d1, e0, e1, k1, k2, k3]) rfl ⟨A5, m5, c5, ?_, ?_, ?_⟩
      · rw [HP.out.1, if_pos h1, if_pos h2]
      · rw [HP.out.2, if_pos h1, if_pos h2]
        exact ((((r5.setBelow (by show w1.heap.size < w1.heap.size + 1; omega) _).setBelow (by show w1.heap.size < w1.heap.size + 1; omega) _).setBelow (by show w.heap.size < w1.heap.size + 1; omega) _).setBelow (by show w.heap.size < w1.heap.size + 1; omega) _).rd
      · exact (((nS5.setCell (by show w.heap.size ≤ w1.heap.size; omega) _).setCell (by show w.heap.size ≤ w1.heap.size; omega) _).setCell (Nat.le_refl _) _).setCell (Nat.le_refl _) _
    · go_wp2_with fail
      refine bodyPost_ret (v := .agg #[.int .i64 1, .slice A4 m4 c4]) (by simp [results, Try.results45, go_sem, d0, d1, e0, e1, k1, k2, k3]) rfl ⟨A4, m4, c4, ?_, ?_, ?_⟩
      · rw [HP.out.1, if_pos h1, if_neg h2]
      · rw [HP.out.2, if_pos h1, if_neg h2]
        exact ((rS5.setBelow (by show w.heap.size < w1.heap.size + 1; omega) _).setBelow (by show w.heap.size < w1.heap.size + 1; omega) _).rd
      · exact (nS5.setCell (Nat.le_refl _) _).setCell (Nat.le_refl _) _
  · go_wp2_with fail
    have nS := hN4
    have oS := ho4
    have bS := hb4
    have rS := r1
    refine (refRuns_any A n cap xs _ (by omega) (HR.out.keep nS)).mono ?_
    rintro e w5 ⟨A5, m5, c5, rfl, hown5, n5⟩
    have HP := Lib.hid (pack_of HL.out HM4.out hown5.len)
    have HM5 := Lib.hid hown5.len
    have hm5 : m5 ≤ 1000000 := by rw [← HM5.out]; have := runsS_len xs; rw [HL.out] at this; omega
    have nS5 := nS.trans n5
    have oS5 := oS.keep n5
    have bS5 := bS.keep n5
    have rS5 := rS.keep n5
    have r5 := hown5.base_le (base' := w1.heap.size + 1) (by first | omega | (simp [World.setCell]; omega))
    have e0 : w5.cell? _ = some _ := oS5.cell 0
    have e1 : w5.cell? _ = some _ := oS5.cell 1
    have f0 := oS5.free 0
    have f1 := oS5.free 1
    have g0 := bS5.free 0
    have g1 := bS5.free 1
    have d0 : w5.cell? _ = some _ := bS5.cell 0
    have d1 : w5.cell? _ = some _ := bS5.cell 1
    have k3 := oS5.lt
    have k4 := bS5.lt
    simp at e0 e1 d0 d1
    clear nS oS bS rS hown5 n5 q0 q1 q2 q3 q4
    by_cases h2 : m5 < n
    · go_wp2_with fail
      refine bodyPost_ret (v := .agg #[.int .i64 2, .slice A5 m5 c5]) (by simp [results, Try.results45, go_sem, d0, d1, e0, e1, k1, k2, k3]) rfl ⟨A5, m5, c5, ?_, ?_, ?_⟩
      · rw [HP.out.1, if_neg h1, if_pos h2]
      · rw [HP.out.2, if_neg h1, if_pos h2]
        exact ((((r5.setBelow (by show w1.heap.size < w1.heap.size + 1; omega) _).setBelow (by show w1.heap.size < w1.heap.size + 1; omega) _).setBelow (by show w.heap.size < w1.heap.size + 1; omega) _).setBelow (by show w.heap.size < w1.heap.size + 1; omega) _).rd
      · exact (((nS5.setCell (by show w.heap.size ≤ w1.heap.size; omega) _).setCell (by show w.heap.size ≤ w1.heap.size; omega) _).setCell (Nat.le_refl _) _).setCell (Nat.le_refl _) _
    · go_wp2_with fail
      refine bodyPost_ret (v := .agg #[.int .i64 0, .slice A1 n c1]) (by simp [results, Try.results45, go_sem, d0, d1, e0, e1, k1, k2, k3]) rfl ⟨A1, n, c1, ?_, ?_, ?_⟩
      · rw [HP.out.1, if_neg h1, if_neg h2]
      · rw [HP.out.2, if_neg h1, if_neg h2]
        exact ((rS5.setBelow (by show w.heap.size < w.heap.size + 1; omega) _).setBelow (by show w.heap.size < w.heap.size + 1; omega) _).rd
      · exact (nS5.setCell (Nat.le_refl _) _).setCell (Nat.le_refl _) _

set_option maxRecDepth 100000 in
set_option maxHeartbeats 2000000 in
theorem copyPacked_any (way : Int) (A : Option Addr) (n cap : Nat) (xs : List Int) (w : World) (hn : n ≤ 100000) (hr : Rd w 1 encI A n xs) :
    Calls Try.prog 40 #[.agg #[.int .i64 way, .slice A n cap]] w fun e w' => ∃ A' cap', e = .returned (.agg #[.int .i64 way, .slice A' n cap']) ∧ n ≤ cap' ∧ Rd w' 1 encI A' n xs ∧ New w w' := by
  have HR := Lib.hid hr; clear hr
  go_enter Try.func40, Try.ntmps40
  have hN0 := ((New.refl w).alloc (.cells #[.int .i64 way, .slice A n cap] 58)).alloc (.cells #[.int .i64 0, .slice none 0 0] 58)
  have b1 := (Bx.mk w 58 #[.int .i64 way, .slice A n cap]).alloc (.cells #[.int .i64 0, .slice none 0 0] 58)
  have b2 := Bx.mk_at (w.alloc (.cells #[.int .i64 way, .slice A n cap] 58)) 58 #[.int .i64 0, .slice none 0 0] (w.heap.size + 1) (by simp)
  go_wp2
  have b0 := Bx.mk w 58 #[.int .i64 way, .slice A n cap]
  obtain ⟨V, hV⟩ : ∃ V, w.alloc (.cells #[.int .i64 way, .slice A n cap] 58) = V := ⟨_, rfl⟩
  have hVs : V.heap.size = w.heap.size + 1 := by rw [← hV]; simp
  have nV := (New.refl V).alloc (.cells #[.int .i64 0, .slice none 0 0] 58)
  rw [hV] at hN0 b0 b1 b2 ⊢
  obtain ⟨W0, hW0⟩ : ∃ W0, V.alloc (.cells #[.int .i64 0, .slice none 0 0] 58) = W0 := ⟨_, rfl⟩
  rw [hW0] at hN0 b1 b2 nV ⊢
  have c0 : V.cell? _ = some _ := b0.cell 0
  have c1 : V.cell? _ = some _ := b0.cell 1
  have hlt := b0.lt
  clear hV hW0 
  refine wp_region_takes0 V nV 4 3 #[true, true, true, true, false, false, false] (by kernel_rfl) (by kernel_rfl) (by kernel_rfl) (by kernel_rfl) (by kernel_rfl) (by kernel_rfl) ?_
  simp only [List.take_succ_cons, List.take_zero]
  (repeat (go_big_quiet_step ((fail))))
  refine wpQuiet_nil ?_
  intro W1 n1
  refine one_next 4 (by kernel_rfl) (new_plus_of nV n1) (wpOpIn_list rfl ?_)
  gi_wp2_with fail
  refine ⟨trivial, callsIn_wide.2 ((copyInts_any A n cap xs _ (by omega) (HR.out.keep (hN0.trans n1))).mono ?_)⟩
  rintro e w2 ⟨A2, c2, rfl, hown2, n2⟩
  gi_wp2
  have n12 := n1.trans n2
  refine one_next 5 (by kernel_rfl) (new_plus_of nV n12) (wpOpIn_list rfl ?_)
  gi_wp2
  have b2' := b2.keep n12
  have d0 : w2.cell? _ = some _ := b2'.cell 0
  have d1 : w2.cell? _ = some _ := b2'.cell 1
  have f0 := b2'.free 0
  have f1 := b2'.free 1
  have l2 := b2'.lt
  refine one_next 6 (by kernel_rfl) (new_plus_of nV n12) (wpOpIn_list rfl ?_)
  gi_wp2
  have nF := ((nV.trans n12).setCell (p := ⟨w.heap.size + 1, 0, none⟩) (by show V.heap.size ≤ w.heap.size + 1; omega) (.int .i64 way)).setCell (p := ⟨w.heap.size + 1, 1, none⟩) (by show V.heap.size ≤ w.heap.size + 1; omega) (.slice A2 n c2)
  refine end_any (new_plus nF) (by kernel_rfl) ?_
  go_wp2
  have bF := (b2'.set 0 (.int .i64 way)).set 1 (.slice A2 n c2)
  have e0 := bF.cell 0
  have e1 := bF.cell 1
  have hF := (hown2.setBelow (p := ⟨w.heap.size + 1, 0, none⟩) (by show w.heap.size + 1 < W1.heap.size; have := n1.size; have := nV.size; have := b2.lt; omega) (.int .i64 way)).setBelow (p := ⟨w.heap.size + 1, 1, none⟩) (by show w.heap.size + 1 < W1.heap.size; have := n1.size; have := b2.lt; omega) (.slice A2 n c2)
  have nW := ((hN0.trans n12).setCell (p := ⟨w.heap.size + 1, 0, none⟩) (by show w.heap.size ≤ w.heap.size + 1; omega) (.int .i64 way)).setCell (p := ⟨w.heap.size + 1, 1, none⟩) (by show w.heap.size ≤ w.heap.size + 1; omega) (.slice A2 n c2)
  exact bodyPost_ret (v := .agg #[.int .i64 way, .slice A2 n c2]) (by simp [results, Try.results40, go_sem, e0, e1]) rfl ⟨A2, c2, rfl, hF.le.1, hF.rd, nW⟩
end Go.Proofs.Ytjpkcmlepjbamaa
