/- Contracts: the reference of queues: itemErr, CheckQueue. -/
import Derived.Test.YtjpkcmlepjbamaaW49
namespace Go.Proofs.Ytjpkcmlepjbamaa
open Go.RowKit Go.Sky

theorem bIsTick_is (n : Int) (c : Bool) (w : World) (h : tick n = c) : Calls Try.prog 81 #[.int .i64 n] w fun e w' => e = .returned (.bool c) ∧ w = w' := h ▸ bIsTick_any n w

set_option maxRecDepth 100000 in
set_option maxHeartbeats 4000000 in
theorem refItem_any (x : Sky.Item) (A : Option Addr) (n cap : Nat) (q : List Sky.Item) (w : World) (hn : n ≤ 1000000) (hx : x.n.size ≤ 1000) (hr : Rd w 4 encM A n q) :
    Calls Try.prog 116 #[.slice A n cap, .agg #[.string x.n, .int .i64 x.p, .int .i64 x.z, .int .i64 x.t]] w fun e w' => e = .returned (.int .i64 (itemE q x)) ∧ New w w' := by
  have HL := Lib.hid hr.len
  have HR := Lib.hid hr; clear hr
  have HX := Lib.hid hx; clear hx
  have b1 := Bx.mk w 102 (encM x).toArray
  have hN := (New.refl w).alloc (.cells (encM x).toArray 102)
  have c0 : World.cell? _ ⟨w.heap.size, 0, none⟩ = some (.string x.n) := b1.cell 0
  have lb := b1.lt
  obtain ⟨qn, hqn⟩ : ∃ c, nameI x = c := ⟨_, rfl⟩
  have HQN := Lib.hid hqn
  have HNM := Lib.hid (show nameI x = nameS x.n.data.toList from rfl)
  clear hqn
  go_enter Try.func116, Try.ntmps116
  go_wp2_with fail
  refine (bIsName_any _ _ HX.out).mono ?_
  rintro e w' ⟨rfl, rfl⟩
  rw [← HNM.out, HQN.out]
  cases qn
  · have HV := Lib.hid (itemE_name (pre := q) HQN.out)
    go_wp2
    go_ret
    exact ⟨by rw [HV.out]; rfl, hN⟩
  go_wp2_with fail
  obtain ⟨W0, hW0⟩ : ∃ W0, w.alloc (.cells (encM x).toArray 102) = W0 := ⟨_, rfl⟩
  have hW0' : w.alloc (.cells #[.string x.n, .int .i64 x.p, .int .i64 x.z, .int .i64 x.t] 102) = W0 := hW0
  rw [hW0] at b1 hN
  rw [hW0'] 
  clear hW0 hW0' c0 lb
  go_loopw [5] (fun i wr => ∃ k : Nat, k ≤ n ∧ i = .int .i64 (k : Int) ∧ Hid (∀ j y, j < k → q[j]? = some y → sameN x y = false) ∧ New W0 wr) (fun i _ => n - (intOf i).toNat)
  case atStart => exact ⟨0, by omega, rfl, Lib.hid (fun j x hj => absurd hj (by omega)), New.refl _⟩
  case round =>
    obtain ⟨k, hk, rfl, HF, nk⟩ := hrel
    have b2 := b1.keep nk
    have c0 : wr.cell? ⟨w.heap.size, 0, none⟩ = some (.string x.n) := b2.cell 0
    have c1 : wr.cell? ⟨w.heap.size, 1, none⟩ = some (.int .i64 x.p) := b2.cell 1
    have c2 : wr.cell? ⟨w.heap.size, 2, none⟩ = some (.int .i64 x.z) := b2.cell 2
    have c3 : wr.cell? ⟨w.heap.size, 3, none⟩ = some (.int .i64 x.t) := b2.cell 3
    have lb := b2.lt
    by_cases hlt : k < n
    · obtain ⟨b, o, y, rfl, hb, hy, hc⟩ := (HR.out.keep (hN.trans nk)).at_ hlt
      have g0 := hc 0 _ rfl
      simp only [Nat.add_zero] at g0
      have HY := Lib.hid hy
      have i0 : (0 : Int) ≤ (k : Int) := by omega
      have i1 : (k : Int) < (n : Int) := by omega
      clear hy hc
      obtain ⟨s, hs⟩ : ∃ s, (y.n.toList == x.n.toList) = s := ⟨_, rfl⟩
      have HS := Lib.hid (show sameN x y = s from hs)
      cases s
      · go_wp2
        (refine wp_region_new (by kernel_rfl) (by kernel_rfl) ?_; (repeat (go_big_quiet_step ((fail)))); refine wpQuiet_nil ?_)
        intro w2 n2
        go_wp2
        go_roundw
        case rel => exact ⟨k + 1, by omega, by go_num, Lib.hid (fun j z hj hz => by
          rcases Nat.lt_or_ge j k with h | h
          · exact HF.out j z h hz
          · obtain rfl : j = k := by omega
            have hxy := HY.out
            rw [hz] at hxy
            injection hxy with hxy
            rw [hxy]; exact HS.out), nk.trans n2⟩
        case measure => simp [intOf]; omega
      · have HV := Lib.hid (itemE_same (pre := q) HQN.out (List.any_eq_true.2 ⟨y, List.mem_of_getElem? HY.out, HS.out⟩))
        go_wp2
        (refine wp_region_new (by kernel_rfl) (by kernel_rfl) ?_; (repeat (go_big_quiet_step ((fail)))); refine wpQuiet_nil ?_)
        intro w2 n2
        go_wp2
        go_ret
        exact ⟨by rw [HV.out]; rfl, (hN.trans nk).trans n2⟩
    · obtain rfl : k = n := by omega
      have HA := Lib.hid (show q.any (sameN x) = false by
        rw [List.any_eq_false]
        intro y hy
        obtain ⟨i, hi, rfl⟩ := List.getElem_of_mem hy
        have h := HL.out
        rw [HF.out i _ (by omega) (List.getElem?_eq_getElem hi)]
        decide)
      obtain ⟨c, HC, hcase⟩ : ∃ c, Hid (rangeI x = c) ∧ ((c = false ∧ inR x.p 0 9 = false) ∨ (c = false ∧ inR x.p 0 9 = true ∧ inR x.z 1 10000 = false) ∨ (inR x.p 0 9 = true ∧ inR x.z 1 10000 = true ∧ tick x.t = c)) := by
        refine ⟨_, rfl, ?_⟩
        unfold rangeI
        cases inR x.p 0 9 <;> cases inR x.z 1 10000 <;> cases tick x.t <;> simp
      rcases hcase with ⟨rfl, h1⟩ | ⟨rfl, h1, h2⟩ | ⟨h1, h2, h3⟩
      · have HV := Lib.hid (itemE_range (pre := q) HQN.out HA.out HC.out)
        go_wp2_with (go_at_call 20; refine (bWithin_is _ _ _ _ _ (by assumption)).mono ?_; rintro e w' ⟨rfl, rfl⟩)
        go_ret
        exact ⟨by rw [HV.out]; rfl, hN.trans nk⟩
      · have HV := Lib.hid (itemE_range (pre := q) HQN.out HA.out HC.out)
        go_wp2_with (first | (go_at_call 20; refine (bWithin_is _ _ _ true _ (by assumption)).mono ?_; rintro e w' ⟨rfl, rfl⟩) | (go_at_call 20; refine (bWithin_is _ _ _ false _ (by assumption)).mono ?_; rintro e w' ⟨rfl, rfl⟩))
        go_ret
        exact ⟨by rw [HV.out]; rfl, hN.trans nk⟩
      · cases c
        · have HV := Lib.hid (itemE_range (pre := q) HQN.out HA.out HC.out)
          go_wp2_with (first | (go_at_call 20; refine (bWithin_is _ _ _ true _ (by assumption)).mono ?_; rintro e w' ⟨rfl, rfl⟩) | (go_at_call 81; refine (bIsTick_is _ _ _ h3).mono ?_; rintro e w' ⟨rfl, rfl⟩))
          go_ret
          exact ⟨by rw [HV.out]; rfl, hN.trans nk⟩
        · have HV := Lib.hid (itemE_ok (pre := q) HQN.out HA.out HC.out)
          go_wp2_with (first | (go_at_call 20; refine (bWithin_is _ _ _ true _ (by assumption)).mono ?_; rintro e w' ⟨rfl, rfl⟩) | (go_at_call 81; refine (bIsTick_is _ _ _ h3).mono ?_; rintro e w' ⟨rfl, rfl⟩))
          go_ret
          exact ⟨by rw [HV.out]; rfl, hN.trans nk⟩

theorem refItem_is (x : Sky.Item) (E : Int) (A : Option Addr) (n cap : Nat) (q : List Sky.Item) (w : World) (hn : n ≤ 1000000) (hx : x.n.size ≤ 1000) (hr : Rd w 4 encM A n q) (h : itemE q x = E) :
    Calls Try.prog 116 #[.slice A n cap, .agg #[.string x.n, .int .i64 x.p, .int .i64 x.z, .int .i64 x.t]] w fun e w' => e = .returned (.int .i64 E) ∧ New w w' := h ▸ refItem_any x A n cap q w hn hx hr

set_option maxRecDepth 100000 in
set_option maxHeartbeats 4000000 in
theorem refQ_any (A : Option Addr) (n cap : Nat) (q : List Sky.Item) (w : World) (hn : n ≤ 1000000) (hcap : n ≤ cap) (hx : ∀ x ∈ q, x.n.size ≤ 1000) (hr : Rd w 4 encM A n q) :
    Calls Try.prog 59 #[.slice A n cap] w fun e w' => e = .returned (.tuple #[.int .i64 (queueS q).1, .int .i64 (queueS q).2]) ∧ New w w' := by
  have HL := Lib.hid hr.len
  have HR := Lib.hid hr; clear hr
  have HX := Lib.hid hx; clear hx
  by_cases h20 : 20 < n
  · have HV := Lib.hid (show queueS q = (0, 8) by unfold queueS; rw [if_pos (by rw [HL.out]; exact h20)])
    go_enter Try.func59, Try.ntmps59
    go_wp2_with fail
    go_ret2
    exact ⟨by rw [HV.out]; rfl, New.refl _⟩
  have HV := Lib.hid (show queueS q = queueFrom (q.take 0) (q.drop 0) ((0 : Nat) : Int) by unfold queueS; rw [if_neg (by rw [HL.out]; exact h20)]; rfl)
  go_enter Try.func59, Try.ntmps59
  go_wp2_with fail
  go_loopw [4, 5] (fun i _ wr => ∃ k : Nat, k ≤ n ∧ i = .int .i64 (k : Int) ∧ Hid (queueS q = queueFrom (q.take k) (q.drop k) (k : Int)) ∧ New w wr) (fun i _ _ => n - (intOf i).toNat)
  case atStart => exact ⟨0, by omega, rfl, HV, New.refl _⟩
  case round =>
    clear HV
    obtain ⟨k, hk, rfl, HF, hN⟩ := hrel
    by_cases hlt : k < n
    · obtain ⟨b, o, x, rfl, hb, hx, hc⟩ := (HR.out.keep hN).at_ hlt
      have g0 := hc 0 _ rfl
      have g1 := hc 1 _ rfl
      have g2 := hc 2 _ rfl
      have g3 := hc 3 _ rfl
      simp only [Nat.add_zero] at g0
      have HST := Lib.hid (HF.out.trans (queueFrom_step hx))
      have HXS := Lib.hid (HX.out x (List.mem_of_getElem? hx))
      have HRT := Lib.hid ((HR.out.keep hN).take (m := k) (by omega))
      clear hx hc HF
      have i0 : (0 : Int) ≤ (k : Int) := by omega
      have i1 : (k : Int) ≤ (cap : Int) := by omega
      have i2 : (k : Int) < (n : Int) := by omega
      obtain ⟨E, hE⟩ : ∃ E, itemE (q.take k) x = E := ⟨_, rfl⟩
      have HE := Lib.hid hE
      have hz : (E = 0 ∧ (E != 0) = false) ∨ (E ≠ 0 ∧ (E != 0) = true) := by
        by_cases h : E = 0
        · exact .inl ⟨h, by simpa using h⟩
        · exact .inr ⟨h, by simpa using h⟩
      clear hE
      rcases hz with ⟨hz0, b2⟩ | ⟨hz0, b2⟩
      all_goals
        have HZ := Lib.hid hz0
        clear hz0
        go_wp2
        (refine wp_region_new (by kernel_rfl) (by kernel_rfl) ?_; (repeat (go_big_quiet_step (((go_at_call 116; exact quiet_new (refItem_is x E _ k cap (q.take k) _ (by omega) HXS.out (by exact HRT.out.keep (plus_new _ _)) HE.out)))))); refine wpQuiet_nil ?_)
        intro w2 n2
        go_wp2
      · go_roundw
        case rel => exact ⟨k + 1, by omega, by go_num, by rw [HST.out, HE.out, if_pos HZ.out]; rfl, hN.trans n2⟩
        case measure => simp [intOf]; omega
      · go_ret2
        exact ⟨by rw [HST.out, HE.out, if_neg HZ.out]; rfl, hN.trans n2⟩
    · obtain rfl : k = n := by omega
      have HV := Lib.hid (show queueS q = (0, 0) by
        rw [HF.out, List.drop_of_length_le (by rw [HL.out]; exact Nat.le_refl _)]; rfl)
      go_wp2_with fail
      go_ret2
      exact ⟨by rw [HV.out]; rfl, hN⟩
end Go.Proofs.Ytjpkcmlepjbamaa
