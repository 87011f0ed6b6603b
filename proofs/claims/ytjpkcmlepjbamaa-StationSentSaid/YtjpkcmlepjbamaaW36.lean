/- Contracts: groups of the program: a search whose closure is asked of the slice's own numbers; group; GroupOf. -/
import Derived.Test.YtjpkcmlepjbamaaW35
namespace Go.Proofs.Ytjpkcmlepjbamaa
open Go.RowKit Go.Sky

set_option maxRecDepth 100000 in
set_option maxHeartbeats 400000 in
theorem idxFuncM (g : Nat) (cb : Array Value) (p : Int → Bool) (A : Option Addr) (n cap : Nat) (xs : List Int) (w : World) (hn : n ≤ 1000000) (hr : Rd w 1 encI A n xs) (eg : ∀ (args : Array Value) (W : World), (callFunc g args).run Try.prog W = .ok (.enter g args) W)
    (hp : ∀ x, x ∈ xs → ∀ W, New w W → Calls Try.prog g (#[.int .i64 x] ++ cb) W fun e w' => e = .returned (.bool (p x)) ∧ New W w') :
    Calls Try.prog 103 #[.slice A n cap, .func (.func g) #[] cb] w fun e w' => e = .returned (.int .i64 (idxS p xs)) ∧ New w w' := by
  have HR := Lib.hid hr; clear hr
  have HP := Lib.hid hp; clear hp
  go_enter Try.func103, Try.ntmps103
  go_wp2
  go_loopw [5, 8] (fun _ i wr => ∃ k : Nat, k ≤ n ∧ i = .int .i64 k ∧ Hid (∀ j x, j < k → xs[j]? = some x → p x = false) ∧ New w wr) (fun _ i _ => n - (intOf i).toNat)
  case atStart => exact ⟨0, by omega, rfl, (fun j x hj => absurd hj (by omega)), New.refl _⟩
  case round =>
    obtain ⟨k, hk, rfl, HF, hN⟩ := hrel
    by_cases hlt : k < n
    · obtain ⟨b, o, x, rfl, hb, hx, hc⟩ := (HR.out.keep hN).at_ hlt
      have g0 := hc 0 _ rfl
      simp only [Nat.add_zero, Nat.mul_one] at g0
      have HX := Lib.hid hx
      clear hx hc
      obtain ⟨q, hq⟩ : ∃ q, p x = q := ⟨_, rfl⟩
      have HQ := Lib.hid hq
      cases q
      all_goals
        go_wp2_with fail
        refine (HP.out x (List.mem_of_getElem? HX.out) _ hN).mono ?_
        rintro e w1 ⟨he, hn1⟩
        rw [HQ.out] at he
        subst he
        clear hq
      · go_wp2
        go_roundw
        case rel => exact ⟨k + 1, by omega, by go_num, fun j y hj hy => by
          rcases Nat.lt_or_ge j k with h | h
          · exact HF.out j y h hy
          · obtain rfl : j = k := by omega
            have hxy := HX.out
            rw [hy] at hxy
            injection hxy with hxy
            rw [hxy]
            exact HQ.out, hN.trans hn1⟩
        case measure => simp [intOf]; omega
      · go_wp2
        go_ret
        exact ⟨by rw [idxS_hit p xs k x HX.out HQ.out HF.out]; rfl, hN.trans hn1⟩
    · go_wp2
      go_ret
      exact ⟨by rw [idxS_miss p xs n HR.out.len (fun j y hj hy => HF.out j y (by omega) hy)]; rfl, hN⟩

set_option maxRecDepth 100000 in
set_option maxHeartbeats 400000 in
theorem containsFuncM (g : Nat) (cb : Array Value) (p : Int → Bool) (A : Option Addr) (n cap : Nat) (xs : List Int) (w : World) (hn : n ≤ 1000000) (hr : Rd w 1 encI A n xs) (eg : ∀ (args : Array Value) (W : World), (callFunc g args).run Try.prog W = .ok (.enter g args) W)
    (hp : ∀ x, x ∈ xs → ∀ W, New w W → Calls Try.prog g (#[.int .i64 x] ++ cb) W fun e w' => e = .returned (.bool (p x)) ∧ New W w') :
    Calls Try.prog 135 #[.slice A n cap, .func (.func g) #[] cb] w fun e w' => e = .returned (.bool (xs.any p)) ∧ New w w' := by
  have HR := Lib.hid hr; clear hr
  have HP := Lib.hid hp; clear hp
  have HG := Lib.hid eg; clear eg
  have HA := Lib.hid (idxS_any p xs)
  go_enter Try.func135, Try.ntmps135
  go_wp2_with (go_at_call 103; refine (idxFuncM g cb p A n cap xs _ hn HR.out HG.out HP.out).mono ?_; rintro e w1 ⟨rfl, hn1⟩)
  go_ret
  exact ⟨by rw [← HA.out]; rfl, hn1⟩

theorem grpClos (A : Option Addr) (s : Nat) (ms : List Nat) (x : Int) (i Bn Bi : Nat) (w : World) (h0 : 0 ≤ x) (h1 : x < (s : Int)) (hi : i < s) (hs : s ≤ 8) (hm : ∀ m ∈ ms, m < 256) (hr : Rd w 1 encU A s ms)
    (hn : w.cell? ⟨Bn, 0, none⟩ = some (.slice A s s)) (hb : w.cell? ⟨Bi, 0, none⟩ = some (.int .i64 (i : Int))) :
    Calls Try.prog 140 #[.int .i64 x, .pointer (some ⟨Bn, 0, none⟩), .pointer (some ⟨Bi, 0, none⟩)] w fun e w' => e = .returned (.bool (!distB ms x (i : Int))) ∧ New w w' := by
  obtain ⟨y, rfl⟩ : ∃ y : Nat, x = (y : Int) := ⟨x.toNat, by omega⟩
  have HD := Lib.hid (show distB ms (y : Int) (i : Int) = (ms.getD y 0).testBit i by unfold distB; rw [Int.toNat_natCast, Int.toNat_natCast])
  have HR := Lib.hid hr; clear hr
  have HM := Lib.hid hm; clear hm
  have l1 := World.block_lt_of_cell? w _ hn
  have l2 := World.block_lt_of_cell? w _ hb
  go_enter Try.func140, Try.ntmps140
  go_wp2_with fail
  refine (disturb_any A s s ms y i _ HR.out (by omega) hs (by omega) HM.out).mono ?_
  rintro e w' ⟨rfl, rfl⟩
  go_wp2
  go_ret
  exact ⟨by rw [HD.out]; rfl, New.refl _⟩

theorem grp_stay {ms : List Nat} {set k : Nat} (h : grpTo ms set k = none) : ∀ d, grpTo ms set (k + d) = none
  | 0 => h
  | d + 1 => by rw [← Nat.add_assoc]; exact grp_none (grp_stay h d)
theorem grpS_none {ms : List Nat} {set k s : Nat} (h : grpTo ms set k = none) (hk : k ≤ s) : grpS ms set s = [] := by
  obtain ⟨d, rfl⟩ := Nat.exists_eq_add_of_le hk
  unfold grpS
  rw [grp_stay h d]
  rfl
theorem grp_lt {ms : List Nat} {set i : Nat} {out : List Int} (h : grpTo ms set i = some out) : ∀ x ∈ out, 0 ≤ x ∧ x < (i : Int) := by
  rcases grp_mem ms set i with ⟨_, h2⟩ | ⟨_, h2⟩
  · rw [h2] at h; injection h with h; rw [← h]; exact memTo_lt set i
  · rw [h2] at h; cases h
theorem grp_len {ms : List Nat} {set i : Nat} {out : List Int} (h : grpTo ms set i = some out) : out.length ≤ i := by
  rcases grp_mem ms set i with ⟨_, h2⟩ | ⟨_, h2⟩
  · rw [h2] at h; injection h with h; rw [← h]; exact memTo_len set i
  · rw [h2] at h; cases h
theorem grpS_len (ms : List Nat) (set s : Nat) : (grpS ms set s).length ≤ s := by
  unfold grpS
  cases h : grpTo ms set s with
  | none => simp
  | some out => exact grp_len h

set_option maxRecDepth 100000 in
set_option maxHeartbeats 2000000 in
theorem group_any (A : Option Addr) (s set : Nat) (ms : List Nat) (w : World) (hs : s ≤ 8) (hset : set < 256) (hm : ∀ m ∈ ms, m < 256) (hr : Rd w 1 encU A s ms) :
    Calls Try.prog 108 #[.slice A s s, .int .i64 (set : Int)] w fun e w' => ∃ A' m' c', e = .returned (.slice A' m' c') ∧ Rd w' 1 encI A' m' (grpS ms set s) ∧ New w w' := by
  obtain ⟨i0, hi, hz0, hz1, hz2⟩ := info_parts infoInt
  have HR := Lib.hid hr; clear hr
  have HM := Lib.hid hm; clear hm
  have HG := Lib.hid (enters_go (f := 140) Try.func140 (by kernel_rfl) rfl)
  have b0 := Bx.mk w 149 #[.slice A s s]
  have hN0 := (New.refl w).alloc (.cells #[.slice A s s] 149)
  go_enter Try.func108, Try.ntmps108
  go_wp2
  go_loopw [5, 9] (fun v i wr => ∃ (k : Nat) (out : List Int) (A' : Option Addr) (m c' : Nat), k ≤ s ∧ i = .int .i64 (k : Int) ∧ v = .slice A' m c' ∧ Hid (grpTo ms set k = some out) ∧ m ≤ k ∧ Own wr (w.heap.size + 1) 3 1 encI A' m c' out ∧ New w wr ∧ Bx wr w.heap.size 149 #[.slice A s s]) (fun _ i _ => s - (intOf i).toNat)
  case atStart => exact ⟨0, [], none, 0, 0, by omega, rfl, rfl, rfl, by omega, Own.nil _ _ _ _ encI_len, hN0, b0⟩
  case round =>
    clear b0 hN0
    obtain ⟨k, out, A', m, c', hk, rfl, rfl, HO, hmk, hown, hN, b1⟩ := hrel
    by_cases hks : k < s
    · have hk64 : k < 64 := by omega
      have q0 := hN.size
      have b2 := b1.alloc (.cells #[.int .i64 (k : Int)] 3)
      have bi := Bx.mk wr 3 #[.int .i64 (k : Int)]
      have n2 := hN.alloc (.cells #[.int .i64 (k : Int)] 3)
      have o2 := hown.alloc (.cells #[.int .i64 (k : Int)] 3)
      have hsz2 : (wr.alloc (.cells #[.int .i64 (k : Int)] 3)).heap.size = wr.heap.size + 1 := by simp
      by_cases hb : set.testBit k = true
      · have hbit : (bits .and .i64 ((set : Int) / 2 ^ k) 1 == 0) = false := by rw [bit_zero (by omega), hb]; rfl
        have HB := Lib.hid hb
        clear hb
        go_wp2_with fail
        obtain ⟨W1, hW1⟩ : ∃ W1, wr.alloc (.cells #[.int .i64 (k : Int)] 3) = W1 := ⟨_, rfl⟩
        rw [hW1] at b2 n2 o2 hsz2 ⊢
        have bi2 : Bx W1 wr.heap.size 3 #[.int .i64 (k : Int)] := by rw [← hW1]; exact bi
        have hlo := grp_lt HO.out
        have HLO := Lib.hid hlo
        clear hW1 hlo bi
        refine (containsFuncM 140 #[.pointer (some ⟨w.heap.size, 0, none⟩), .pointer (some ⟨wr.heap.size, 0, none⟩)] (fun x => !distB ms x (k : Int)) A' m c' out _ (by omega) o2.rd HG.out (fun x hx W hW => grpClos A s ms x k w.heap.size wr.heap.size W (HLO.out x hx).1 (by have := (HLO.out x hx).2; omega) hks hs HM.out (HR.out.keep (n2.trans hW)) ((b2.keep hW).cell 0) ((bi2.keep hW).cell 0))).mono ?_
        rintro e w2 ⟨rfl, nn2⟩
        obtain ⟨q, hq⟩ : ∃ q, (out.any fun x => !distB ms x (k : Int)) = q := ⟨_, rfl⟩
        rw [hq]
        have HST := Lib.hid (grp_yes HB.out HO.out)
        have HQ := Lib.hid hq
        clear hq
        have bi3 := bi2.keep nn2
        have c3 : w2.cell? _ = some _ := bi3.cell 0
        have l3 := bi3.lt
        have n3 := n2.trans nn2
        have b3 := b2.keep nn2
        have o3 := o2.keep nn2
        clear bi2 b2 o2 n2 nn2
        cases q
        · have HT := Lib.hid (show grpTo ms set (k + 1) = some (out ++ [(k : Int)]) by rw [HST.out, HQ.out]; rfl)
          go_wp2_with (at_builtin; refine wpList_push _ rfl _ _ 30 rfl 3 i0 _ 1 8 Try.underlying30 hi hz0 hz1 hz2 rfl (by omega) (w.heap.size + 1) encI A' m c' _ rfl (by exact o3.alloc _) _ 1 1 [(k : Int)] rfl rfl (by omega) (by exact cells_new _ _ _ _ (by simp) _ rfl) encI_one (by unfold maxLen; omega) (by omega) (by have := b3.lt; simp; omega) ?_; intro g cap2 w4 hown4 hg4 hat4 hb4 hlt4 hN4)
          have b4 := (b3.alloc (.cells #[.int .i64 (k : Int)] 3)).grown hg4 (fun e => by
            rcases hown.form with ⟨h0, _⟩ | ⟨g', h0, hge, _⟩
            · rw [h0] at e; cases e
            · rw [h0] at e
              simp at e
              omega)
          go_roundw
          case rel => exact ⟨k + 1, _, _, m + 1, cap2, by omega, by go_num, rfl, HT, by omega, hown4, (n3.alloc _).grownOwn (o3.alloc _) (by omega) hg4, b4⟩
          case measure => simp [intOf]; omega
        · have HT := Lib.hid (show grpS ms set s = [] from grpS_none (k := k + 1) (by rw [HST.out, HQ.out]; rfl) (by omega))
          go_wp2_with fail
          go_ret
          exact ⟨none, 0, 0, rfl, by rw [HT.out]; exact Rd.nil _ _ _ _, n3⟩
      · have hbit : (bits .and .i64 ((set : Int) / 2 ^ k) 1 == 0) = true := by rw [bit_zero (by omega)]; simpa using hb
        have HST := Lib.hid (grp_no (ms := ms) (by simpa using hb) HO.out)
        clear hb
        go_wp2_with fail
        go_roundw
        case rel => exact ⟨k + 1, out, A', m, c', by omega, by go_num, rfl, HST, by omega, o2, n2, b2⟩
        case measure => simp [intOf]; omega
    · obtain rfl : k = s := by omega
      have HF := Lib.hid (show grpS ms set k = out by unfold grpS; rw [HO.out]; rfl)
      go_wp2_with fail
      go_ret
      exact ⟨A', m, c', rfl, by rw [HF.out]; exact hown.rd, hN⟩

theorem better_of {l b : List Int} {m2 m : Nat} (hl : l.length = m2) (hb : b.length = m) : better l b = (decide (m < m2) || (decide (m2 = m) && decide (lexC l b < 0))) := by
  unfold better; rw [hl, hb]
theorem best_take {ms : List Nat} {s N m2 m : Nat} (hl : (grpS ms N s).length = m2) (hb : (bestTo ms s N).length = m) (h : m < m2 ∨ (m2 = m ∧ lexC (grpS ms N s) (bestTo ms s N) < 0)) : bestTo ms s (N + 1) = grpS ms N s := by
  rw [best_succ, better_of hl hb, if_pos]
  rcases h with h | ⟨h1, h2⟩
  · simp [h]
  · simp [h1, h2]
theorem best_keep {ms : List Nat} {s N m2 m : Nat} (hl : (grpS ms N s).length = m2) (hb : (bestTo ms s N).length = m) (h : ¬ m < m2) (h' : m2 = m → ¬ lexC (grpS ms N s) (bestTo ms s N) < 0) : bestTo ms s (N + 1) = bestTo ms s N := by
  rw [best_succ, better_of hl hb, if_neg]
  by_cases h2 : m2 = m
  · have := h' h2
    simp [h, h2, this]
  · simp [h, h2]

set_option maxRecDepth 100000 in
set_option maxHeartbeats 4000000 in
theorem groupOf_any (st : Int) (A : Option Addr) (n cap : Nat) (ps : List (Int × Int)) (w : World) (hn : n ≤ 100000) (hcap : n ≤ cap) (hr : Rd w 2 encP A n ps) :
    Calls Try.prog 50 #[.agg #[.int .i64 st, .slice A n cap]] w fun e w' => New w w' ∧
      (((netS st ps).2 ≠ 0 ∧ e = .returned (.tuple #[.slice none 0 0, .int .i64 (netS st ps).2])) ∨
       ((netS st ps).2 = 0 ∧ ∃ A' m c', e = .returned (.tuple #[.slice A' m c', .int .i64 0]) ∧ Rd w' 1 encI A' m (bestTo (maskS st.toNat ps) st.toNat (2 ^ st.toNat)))) := by
  have HR := Lib.hid hr; clear hr
  by_cases hz : (netS st ps).2 = 0
  · have b1 : ((netS st ps).2 != 0) = false := by simpa using hz
    obtain ⟨q1, q2, q3, q4⟩ := netS_zero hz
    obtain ⟨s, rfl⟩ : ∃ s : Nat, st = (s : Int) := ⟨st.toNat, by omega⟩
    have hs : s ≤ 8 := by omega
    have HML := Lib.hid (maskS_lt (s := s) (fun p hp => by have := q4 p hp; omega))
    have HZ := Lib.hid hz
    clear q4 hz
    obtain ⟨T, hT⟩ : ∃ T : Nat, 2 ^ s = T := ⟨_, rfl⟩
    have hT2 : T ≤ 256 := by rw [← hT]; exact Nat.pow_le_pow_right (by omega) (show s ≤ 8 from hs)
    rw [Int.toNat_natCast, hT]
    have HT := Lib.hid hT
    clear hT
    go_enter Try.func50, Try.ntmps50
    go_wp2_with fail
    refine (open_any (s : Int) A n cap ps _ hn hcap (HR.out.keep ((New.refl _).alloc _))).mono ?_
    rintro e w1 ⟨n1, ⟨hbad, _⟩ | ⟨_, A1, rfl, hown⟩⟩
    · exact absurd HZ.out hbad
    rw [Int.toNat_natCast] at hown ⊢
    have nw1 := hn2of n1
    go_wp2_with fail
    rw [show wrap64 ((2 : Int) ^ s) = (T : Int) by rw [show (2 : Int) ^ s = ((2 ^ s : Nat) : Int) by simp, HT.out]; exact IntWalk.wrap64_in _ (by omega)]
    have HOW := Lib.hid hown.rd
    clear hown n1
    go_loopw [6, 20] (fun v i wr => ∃ (N : Nat) (A' : Option Addr) (m c' : Nat), N ≤ T ∧ i = .int .i64 (N : Int) ∧ v = .slice A' m c' ∧ m ≤ 8 ∧ Rd wr 1 encI A' m (bestTo (maskS s ps) s N) ∧ New w1 wr) (fun _ i _ => T - (intOf i).toNat)
    case atStart => exact ⟨0, none, 0, 0, by omega, rfl, rfl, by omega, Rd.nil _ _ _ _, New.refl _⟩
    case round =>
      obtain ⟨N, A', m, c', hN, rfl, rfl, hm, hrd, hnw⟩ := hrel
      have HRD := Lib.hid hrd
      have HL1 := Lib.hid hrd.len
      clear hrd
      by_cases hNT : N < T
      · go_wp2_with fail
        refine (group_any A1 s N (maskS s ps) _ hs (by omega) HML.out (HOW.out.keep hnw)).mono ?_
        rintro e w2 ⟨A2, m2, c2, rfl, hr2, n2⟩
        have HL2 := Lib.hid hr2.len
        have hm2 : m2 ≤ 8 := by rw [← HL2.out]; have := grpS_len (maskS s ps) N s; omega
        have HR2 := Lib.hid hr2
        have HR1 := Lib.hid (HRD.out.keep n2)
        have hnw2 := hnw.trans n2
        clear hr2 n2 hnw
        by_cases h1 : m < m2
        · have HV := Lib.hid (best_take HL2.out HL1.out (.inl h1))
          go_wp2_with fail
          go_roundw
          case rel => exact ⟨N + 1, A2, m2, c2, by omega, by go_num, rfl, hm2, by rw [HV.out]; exact HR2.out, hnw2⟩
          case measure => simp [intOf]; omega
        · by_cases h2 : m2 = m
          · have d2 : ((m2 : Int) == (m : Int)) = true := by simp; omega
            obtain ⟨c, hc⟩ : ∃ c, lexC (grpS (maskS s ps) N s) (bestTo (maskS s ps) s N) = c := ⟨_, rfl⟩
            have HC := Lib.hid hc
            by_cases hc0 : c < 0
            · have HV := Lib.hid (best_take HL2.out HL1.out (.inr ⟨h2, by rw [hc]; exact hc0⟩))
              clear h2 hc
              go_wp2_with fail
              refine (compare_any A2 A' m2 m c2 c' _ _ _ (by omega) (by omega) HR2.out HR1.out).mono ?_
              rintro e w' ⟨rfl, rfl⟩
              rw [HC.out]
              go_wp2_with fail
              go_roundw
              case rel => exact ⟨N + 1, A2, m2, c2, by omega, by go_num, rfl, hm2, by rw [HV.out]; exact HR2.out, hnw2⟩
              case measure => simp [intOf]; omega
            · have HV := Lib.hid (best_keep HL2.out HL1.out h1 (fun _ => by rw [hc]; exact hc0))
              clear h2 hc
              go_wp2_with fail
              refine (compare_any A2 A' m2 m c2 c' _ _ _ (by omega) (by omega) HR2.out HR1.out).mono ?_
              rintro e w' ⟨rfl, rfl⟩
              rw [HC.out]
              go_wp2_with fail
              go_roundw
              case rel => exact ⟨N + 1, A', m, c', by omega, by go_num, rfl, hm, by rw [HV.out]; exact HR1.out, hnw2⟩
              case measure => simp [intOf]; omega
          · have HV := Lib.hid (best_keep HL2.out HL1.out h1 (fun h => absurd h h2))
            have d2 : ((m2 : Int) == (m : Int)) = false := by simp; omega
            clear h2
            go_wp2_with fail
            go_roundw
            case rel => exact ⟨N + 1, A', m, c', by omega, by go_num, rfl, hm, by rw [HV.out]; exact HR1.out, hnw2⟩
            case measure => simp [intOf]; omega
      · obtain rfl : N = T := by omega
        go_wp2_with fail
        go_ret2
        exact ⟨nw1.trans hnw, .inr ⟨HZ.out, A', m, c', rfl, HRD.out⟩⟩
  · have b1 : ((netS st ps).2 != 0) = true := by simpa using hz
    have HZ := Lib.hid hz
    clear hz
    go_enter Try.func50, Try.ntmps50
    go_wp2_with fail
    refine (open_any st A n cap ps _ hn hcap (HR.out.keep ((New.refl _).alloc _))).mono ?_
    rintro e w1 ⟨n1, ⟨_, rfl⟩ | ⟨hbad, _⟩⟩
    · have nw1 := hn2of n1
      go_wp2_with fail
      go_ret2
      exact ⟨nw1, .inl ⟨HZ.out, rfl⟩⟩
    · exact absurd hbad HZ.out
end Go.Proofs.Ytjpkcmlepjbamaa
