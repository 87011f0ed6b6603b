/- Contracts: planned, PlanFor. -/
import Derived.Test.YtjpkcmlepjbamaaW13
namespace Go.Proofs.Ytjpkcmlepjbamaa
open Go.RowKit Go.Sky

def PlanPost (w : World) (o : Option (List Int)) (e : Ending) (w' : World) : Prop :=
  ∃ A m cap, e = .returned (.slice A m cap) ∧ New w w' ∧ ((o = none ∧ A = none ∧ m = 0 ∧ cap = 0) ∨ (∃ r a, o = some r ∧ A = some a ∧ Rd w' 1 encI A m r))

set_option maxRecDepth 100000 in
set_option maxHeartbeats 4000000 in
theorem planned_any (ms : List Nat) (s cnt : Nat) (hs : s ≤ 8) (hs1 : 1 ≤ s) (hcnt : cnt ≤ 100) (hm : ∀ m ∈ ms, m < 256) (B : Option Addr) : ∀ (f : Nat) (A : Option Addr) (cap : Nat) (slots : List Int) (w : World),
    slots.length + f = s → Rd w 1 encU B s ms → Rd w 1 encI A slots.length slots →
    Calls Try.prog 107 #[.slice B s s, .slice A slots.length cap, .int .i64 cnt] w (PlanPost w (planF ms cnt f slots)) := by
  intro f
  induction f with
  | zero =>
    intro A cap slots w hl hB hA
    have d1 : ((slots.length : Int) == (s : Int)) = true := by simp; omega
    have hRA := Lib.hid hA
    obtain ⟨b, o, rfl, _⟩ := hA.some_ (by omega)
    clear hA hB
    generalize slots.length = L at *
    go_enter Try.func107, Try.ntmps107
    go_wp2_with fail
    go_ret
    exact ⟨_, L, cap, rfl, New.refl _, .inr ⟨slots, _, rfl, rfl, hRA.out⟩⟩
  | succ f ih =>
    intro A cap slots w hl hB hA
    obtain ⟨i0, hi, hz0, hz1, hz2⟩ := info_parts infoInt
    have IH := Lib.hid ih; clear ih
    have d1 : ((slots.length : Int) == (s : Int)) = false := by simp; omega
    have hRA := Lib.hid hA
    have hRB := Lib.hid hB
    have HMS := Lib.hid hm
    clear hA hB hm
    obtain ⟨L, hL⟩ : ∃ L, slots.length = L := ⟨_, rfl⟩
    have HL := Lib.hid hL
    rw [hL] at hl d1 hRA ⊢
    clear hL
    go_enter Try.func107, Try.ntmps107
    go_wp2_with fail
    go_loopw [8, 9, 10, 11, 12, 21] (fun _ _ _ _ _ i wr => ∃ k : Nat, k ≤ cnt ∧ i = .int .i64 k ∧ Hid (∀ c, c < k → candS ms cnt f slots c = none) ∧ New w wr) (fun _ _ _ _ _ i _ => cnt - (intOf i).toNat)
    case atStart => exact ⟨0, by omega, rfl, Lib.hid (fun c hc => absurd hc (by omega)), New.refl _⟩
    case round =>
      obtain ⟨k, hk, rfl, HF, hN⟩ := hrel
      by_cases hlt : k < cnt
      · go_wp2_with fail
        go_loop [9, 10, 11, 26] (fun fr _ _ i => ∃ (j : Nat) (q : Bool), j ≤ L ∧ i = .int .i64 j ∧ fr = .bool q ∧ Hid (q = freeTo ms slots (k : Int) j)) (fun _ _ _ i => L - (intOf i).toNat)
        case atStart => exact ⟨0, true, by omega, rfl, rfl, rfl⟩
        case round =>
          obtain ⟨j, q, hj, rfl, rfl, HQ⟩ := hrel
          by_cases hjl : j < L
          · obtain ⟨b, o, u, rfl, hb, hu, hc⟩ := (hRA.out.keep hN).at_ hjl
            have g0 := hc 0 _ rfl
            simp only [Nat.add_zero, Nat.mul_one] at g0
            have HFS := Lib.hid (show freeTo ms slots (k : Int) (j + 1) = (q && !(u == (k : Int) && (ms.getD j 0).testBit L)) by
              rw [freeTo, ← HQ.out, HL.out, List.getD_eq_getElem?_getD, hu]; rfl)
            clear hc hu
            cases q
            · go_wp2_with fail
              go_round
              case rel => exact ⟨j + 1, false, by omega, by go_num, rfl, by rw [HFS.out]; rfl⟩
              case measure => simp [intOf]; omega
            · obtain ⟨e, he⟩ : ∃ e, (u == (k : Int)) = e := ⟨_, rfl⟩
              have HE := Lib.hid he
              cases e
              · go_wp2_with fail
                go_round
                case rel => exact ⟨j + 1, true, by omega, by go_num, rfl, by rw [HFS.out, HE.out]; rfl⟩
                case measure => simp [intOf]; omega
              · go_wp2_with (go_at_call 139; refine (disturb_any B s s ms j L _ (hRB.out.keep hN) (by omega) (by omega) (by omega) HMS.out).mono ?_; rintro e w' ⟨rfl, rfl⟩)
                go_round
                case rel => exact ⟨j + 1, _, by omega, by go_num, rfl, by rw [HFS.out, HE.out]; rfl⟩
                case measure => simp [intOf]; omega
          · obtain rfl : L = j := by omega
            cases q
            · have HC := Lib.hid (show candS ms cnt f slots k = none by unfold candS; rw [HL.out, ← HQ.out]; rfl)
              go_wp2_with fail
              go_roundw
              case rel => exact ⟨k + 1, by omega, by go_num, Lib.hid (fun c hc => by
                rcases Nat.lt_or_ge c k with h | h
                · exact HF.out c h
                · obtain rfl : c = k := by omega
                  exact HC.out), hN⟩
              case measure => simp [intOf]; omega
            · have HC := Lib.hid (show candS ms cnt f slots k = planF ms cnt f (slots ++ [(k : Int)]) by unfold candS; rw [HL.out, ← HQ.out]; rfl)
              have HLL := Lib.hid (show (slots ++ [(k : Int)]).length = L + 1 by rw [List.length_append, HL.out]; rfl)
              go_wp2_with fail
              refine (cloneI_any A L cap slots _ (by omega) (hRA.out.keep hN)).mono ?_
              rintro e w1 ⟨A1, cap1, rfl, hown1, n1⟩
              go_wp2_with (at_builtin; refine wpList_push _ rfl _ _ 30 rfl 3 i0 _ 1 8 Try.underlying30 hi hz0 hz1 hz2 rfl (by omega) wr.heap.size encI A1 L cap1 slots rfl (by exact hown1.alloc _) _ 1 1 [(k : Int)] rfl rfl (by omega) (by exact cells_new _ _ _ _ (by simp) _ rfl) encI_one (by unfold maxLen; omega) (by omega) (by have := n1.size; simp; omega) ?_; intro g3 cap2 w3 hown3 hg3 hat3 hb3 hlt3 hN3)
              have hNw := hN3 w ((hN.trans n1).alloc _) hN.size
              have hIH := IH.out (some ⟨g3, 0, none⟩) cap2 (slots ++ [(k : Int)]) w3 (by rw [HLL.out]; omega) (hRB.out.keep hNw) (by rw [HLL.out]; exact hown3.rd)
              rw [HLL.out] at hIH
              refine hIH.mono ?_
              clear hIH
              have hnew3 := hN3 wr ((n1).alloc _) (Nat.le_refl _)
              clear hN3 hown3 hown1 hg3 hat3 hb3 hlt3 n1
              rintro e w4 ⟨A4, m4, cap4, rfl, n4, ⟨ho, rfl, rfl, rfl⟩ | ⟨r, a, ho, rfl, hrd⟩⟩
              · have hneq : ∀ W, (binOp .neq 30 (.slice none 0 0) (.slice none 0 0)).run Try.prog W = .ok (.bool false) W := fun W => run_neq_slice_nil_any W 30 3 none 0 0 0 0 Try.underlying30
                have HO := Lib.hid ho
                clear ho
                go_wp2_with fail
                go_roundw
                case rel => exact ⟨k + 1, by omega, by go_num, Lib.hid (fun c hc => by
                  rcases Nat.lt_or_ge c k with h | h
                  · exact HF.out c h
                  · obtain rfl : c = k := by omega
                    rw [HC.out]; exact HO.out), hNw.trans n4⟩
                case measure => simp [intOf]; omega
              · have hneq : ∀ W, (binOp .neq 30 (.slice (some a) m4 cap4) (.slice none 0 0)).run Try.prog W = .ok (.bool true) W := fun W => run_neq_slice_nil_any W 30 3 (some a) m4 cap4 0 0 Try.underlying30
                have HO := Lib.hid ho
                have HRD := Lib.hid hrd
                clear ho hrd
                go_wp2_with fail
                go_ret
                exact ⟨_, m4, cap4, rfl, hNw.trans n4, .inr ⟨r, a, by rw [planF_succ]; exact range_findSome_some hlt HF.out (by rw [HC.out]; exact HO.out), rfl, HRD.out⟩⟩
      · obtain rfl : cnt = k := by omega
        go_wp2_with fail
        go_ret
        exact ⟨none, 0, 0, rfl, hN, .inl ⟨by rw [planF_succ]; exact range_findSome_none HF.out, rfl, rfl, rfl⟩⟩

set_option maxRecDepth 100000 in
set_option maxHeartbeats 4000000 in
theorem planFor_any (st : Int) (A : Option Addr) (n cap : Nat) (ps : List (Int × Int)) (w : World) (hn : n ≤ 100000) (hcap : n ≤ cap) (hr : Rd w 2 encP A n ps) :
    Calls Try.prog 49 #[.agg #[.int .i64 st, .slice A n cap]] w fun e w' => New w w' ∧
      (((netS st ps).2 ≠ 0 ∧ e = .returned (.tuple #[.slice none 0 0, .int .i64 0, .int .i64 (netS st ps).2])) ∨
       ((netS st ps).2 = 0 ∧ ∃ (A' : Option Addr) (m cap' k : Nat) (r : List Int), e = .returned (.tuple #[.slice A' m cap', .int .i64 k, .int .i64 0]) ∧ Rd w' 1 encI A' m r ∧ 1 ≤ k ∧ k ≤ st.toNat ∧
         (∀ j, 1 ≤ j → j < k → planF (maskS st.toNat ps) j st.toNat [] = none) ∧ planF (maskS st.toNat ps) k st.toNat [] = some r)) := by
  have HR := Lib.hid hr; clear hr
  by_cases hz : (netS st ps).2 = 0
  · have b1 : ((netS st ps).2 != 0) = false := by simpa using hz
    obtain ⟨q1, q2, q3, q4⟩ := netS_zero hz
    obtain ⟨s, hsx⟩ : ∃ s : Nat, st.toNat = s := ⟨_, rfl⟩
    have hs : s ≤ 8 := by omega
    have hs1 : 1 ≤ s := by omega
    have HZ := Lib.hid hz
    have HQ := Lib.hid q4
    clear q4 hz
    go_enter Try.func49, Try.ntmps49
    go_wp2_with fail
    refine (open_any st A n cap ps _ hn hcap (HR.out.keep ((New.refl _).alloc _))).mono ?_
    rintro e w1 ⟨n1, ⟨hbad, _⟩ | ⟨_, B, rfl, hown⟩⟩
    · exact absurd HZ.out hbad
    · rw [hsx] at hown ⊢
      have HRB := Lib.hid hown.rd
      have HM := Lib.hid (maskS_lt (s := s) (ps := ps) (fun p hp => by have := HQ.out p hp; omega))
      have HSX := Lib.hid hsx
      clear hown hsx
      have hN1 := hn2of n1
      clear n1
      obtain ⟨ms, hms⟩ : ∃ ms, maskS s ps = ms := ⟨_, rfl⟩
      rw [hms] at HRB HM
      have HMS := Lib.hid hms
      clear hms
      go_wp2_with fail
      go_loopw [7, 8] (fun i _ wr => ∃ k : Nat, 1 ≤ k ∧ k ≤ s ∧ i = .int .i64 k ∧ Hid (∀ j, 1 ≤ j → j < k → planF ms j s [] = none) ∧ New w wr ∧ New w1 wr) (fun i _ _ => s - (intOf i).toNat)
      case atStart => exact ⟨1, by omega, hs1, rfl, Lib.hid (fun j h1 h2 => absurd h1 (by omega)), hN1, New.refl _⟩
      case round =>
        obtain ⟨k, hk1, hk, rfl, HF, hN, hN2⟩ := hrel
        go_wp2_with fail
        have hpl := planned_any ms s k hs hs1 (by omega) HM.out B s none 0 [] wr (by simp) (HRB.out.keep hN2) (Rd.nil _ _ _ _)
        refine hpl.mono ?_
        clear hpl
        rintro e w4 ⟨A4, m4, cap4, rfl, n4, ⟨ho, rfl, rfl, rfl⟩ | ⟨r, a, ho, rfl, hrd⟩⟩
        · have hks : k < s := by
            rcases Nat.lt_or_ge k s with h | h
            · exact h
            · obtain rfl : k = s := by omega
              have := planF_isSome ms k k 0 (by omega)
              rw [show (List.range 0).map (fun (i : Nat) => (i : Int)) = [] from rfl, ho] at this
              cases this
          have hneq : ∀ W, (binOp .neq 30 (.slice none 0 0) (.slice none 0 0)).run Try.prog W = .ok (.bool false) W := fun W => run_neq_slice_nil_any W 30 3 none 0 0 0 0 Try.underlying30
          have HO := Lib.hid ho
          clear ho
          go_wp2_with fail
          go_roundw
          case rel => exact ⟨k + 1, by omega, by omega, by go_num, Lib.hid (fun j h1 h2 => by
            rcases Nat.lt_or_ge j k with h | h
            · exact HF.out j h1 h
            · obtain rfl : j = k := by omega
              exact HO.out), hN.trans n4, hN2.trans n4⟩
          case measure => simp [intOf]; omega
        · have hneq : ∀ W, (binOp .neq 30 (.slice (some a) m4 cap4) (.slice none 0 0)).run Try.prog W = .ok (.bool true) W := fun W => run_neq_slice_nil_any W 30 3 (some a) m4 cap4 0 0 Try.underlying30
          have HO := Lib.hid ho
          have HRD := Lib.hid hrd
          clear ho hrd
          go_wp2_with fail
          go_ret3
          refine ⟨hN.trans n4, .inr ⟨HZ.out, some a, m4, cap4, k, r, rfl, HRD.out, hk1, by rw [HSX.out]; exact hk, by rw [HSX.out, HMS.out]; exact HF.out, by rw [HSX.out, HMS.out]; exact HO.out⟩⟩
  · have b1 : ((netS st ps).2 != 0) = true := by simpa using hz
    have HZ := Lib.hid hz
    clear hz
    go_enter Try.func49, Try.ntmps49
    go_wp2_with fail
    refine (open_any st A n cap ps _ hn hcap (HR.out.keep ((New.refl _).alloc _))).mono ?_
    rintro e w1 ⟨n1, ⟨_, rfl⟩ | ⟨hbad, _⟩⟩
    · go_wp2_with fail
      go_ret3
      exact ⟨hn2of n1, .inl ⟨HZ.out, rfl⟩⟩
    · exact absurd hbad HZ.out
end Go.Proofs.Ytjpkcmlepjbamaa
