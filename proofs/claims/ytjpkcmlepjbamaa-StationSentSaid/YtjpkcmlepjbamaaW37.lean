/- Contract: CheckPlan. -/
import Derived.Test.YtjpkcmlepjbamaaW36
import Derived.Test.YtjpkcmlepjbamaaW11
namespace Go.Proofs.Ytjpkcmlepjbamaa
open Go.RowKit Go.Sky

theorem idxZ_S {α : Type} (p : α → Bool) (xs : List α) : idxZ p xs = idxS p xs := rfl

set_option maxRecDepth 100000 in
set_option maxHeartbeats 1000000 in
theorem idxFuncP (g : Nat) (cb : Array Value) (p : Int × Int → Bool) (A : Option Addr) (n cap : Nat) (xs : List (Int × Int)) (w : World) (hn : n ≤ 1000000) (hr : Rd w 2 encP A n xs) (eg : ∀ (args : Array Value) (W : World), (callFunc g args).run Try.prog W = .ok (.enter g args) W)
    (hp : ∀ x, x ∈ xs → ∀ W, New w W → Calls Try.prog g (#[.agg #[.int .i64 x.1, .int .i64 x.2]] ++ cb) W fun e w' => e = .returned (.bool (p x)) ∧ New W w') :
    Calls Try.prog 105 #[.slice A n cap, .func (.func g) #[] cb] w fun e w' => e = .returned (.int .i64 (idxS p xs)) ∧ New w w' := by
  have HR := Lib.hid hr; clear hr
  have HP := Lib.hid hp; clear hp
  go_enter Try.func105, Try.ntmps105
  go_wp2
  go_loopw [5, 8] (fun _ i wr => ∃ k : Nat, k ≤ n ∧ i = .int .i64 k ∧ Hid (∀ j x, j < k → xs[j]? = some x → p x = false) ∧ New w wr) (fun _ i _ => n - (intOf i).toNat)
  case atStart => exact ⟨0, by omega, rfl, (fun j x hj => absurd hj (by omega)), New.refl _⟩
  case round =>
    obtain ⟨k, hk, rfl, HF, hN⟩ := hrel
    by_cases hlt : k < n
    · obtain ⟨b, o, x, rfl, hb, hx, hc⟩ := (HR.out.keep hN).at_ hlt
      have g0 := hc 0 _ rfl
      have g1 := hc 1 _ rfl
      simp only [Nat.add_zero] at g0
      have HX := Lib.hid hx
      clear hx hc
      obtain ⟨q, hq⟩ : ∃ q, p x = q := ⟨_, rfl⟩
      have HQ := Lib.hid hq
      cases q
      all_goals
        go_wp2_with fail
        refine (HP.out x (List.mem_of_getElem? HX.out) _ hN).mono ?_
        rintro e w1 ⟨he, hn1⟩
        rw [HQ.out] at he
        subst he
        clear hq
      · go_wp2
        go_roundw
        case rel => exact ⟨k + 1, by omega, by go_num, fun j y hj hy => by
          rcases Nat.lt_or_ge j k with h | h
          · exact HF.out j y h hy
          · obtain rfl : j = k := by omega
            have hxy := HX.out
            rw [hy] at hxy
            injection hxy with hxy
            rw [hxy]
            exact HQ.out, hN.trans hn1⟩
        case measure => simp [intOf]; omega
      · go_wp2
        go_ret
        exact ⟨by rw [idxS_hit p xs k x HX.out HQ.out HF.out]; rfl, hN.trans hn1⟩
    · go_wp2
      go_ret
      exact ⟨by rw [idxS_miss p xs n HR.out.len (fun j y hj hy => HF.out j y (by omega) hy)]; rfl, hN⟩

theorem chkOne (x : Int) (w : World) : Calls Try.prog 104 #[.int .i64 x] w fun e w' => e = .returned (.bool (!inR x 0 7)) ∧ New w w' := by
  go_enter Try.func104, Try.ntmps104
  go_wp2_with (go_at_call 96; refine (within_any _ _ _ _).mono ?_; rintro e w' ⟨rfl, rfl⟩)
  go_ret
  exact ⟨rfl, New.refl _⟩

set_option maxRecDepth 100000 in
set_option maxHeartbeats 1000000 in
theorem chkTwo (A : Option Addr) (L cap : Nat) (sl : List Int) (p : Int × Int) (B : Nat) (w : World) (h1 : 0 ≤ p.1 ∧ p.1 < (L : Int)) (h2 : 0 ≤ p.2 ∧ p.2 < (L : Int)) (hL : L ≤ 1000000) (hr : Rd w 1 encI A L sl) (hb : w.cell? ⟨B, 0, none⟩ = some (.slice A L cap)) :
    Calls Try.prog 106 #[.agg #[.int .i64 p.1, .int .i64 p.2], .pointer (some ⟨B, 0, none⟩)] w fun e w' => e = .returned (.bool (clashP sl p)) ∧ New w w' := by
  obtain ⟨p1, p2⟩ := p
  obtain ⟨a, rfl⟩ : ∃ a : Nat, p1 = (a : Int) := ⟨p1.toNat, by have := h1.1; omega⟩
  obtain ⟨c, rfl⟩ : ∃ c : Nat, p2 = (c : Int) := ⟨p2.toNat, by have := h2.1; omega⟩
  dsimp only at h1 h2 ⊢
  have ha : a < L := by omega
  have hcL : c < L := by omega
  clear h1 h2
  obtain ⟨ba, oa, x, rfl, hba, hx, hcx⟩ := hr.at_ ha
  obtain ⟨bb, ob, y, e, hbb, hy, hcy⟩ := hr.at_ hcL
  injection e with e
  injection e with e1 e2
  subst e1 e2
  have g0 := hcx 0 _ rfl
  have g1 := hcy 0 _ rfl
  simp only [Nat.add_zero, Nat.mul_one] at g0 g1
  have HV := Lib.hid (show clashP sl ((a : Int), (c : Int)) = (x == y) by
    unfold clashP
    dsimp only
    rw [Int.toNat_natCast, Int.toNat_natCast, List.getD_eq_getElem?_getD, List.getD_eq_getElem?_getD, hx, hy]; rfl)
  have lB := World.block_lt_of_cell? w _ hb
  have i0 : (0 : Int) ≤ (a : Int) := by omega
  have i1 : (a : Int) < (L : Int) := by omega
  have j0 : (0 : Int) ≤ (c : Int) := by omega
  have j1 : (c : Int) < (L : Int) := by omega
  have b0 := Bx.mk w 52 #[.int .i64 (a : Int), .int .i64 (c : Int)]
  have nn := (New.refl w).alloc (.cells #[.int .i64 (a : Int), .int .i64 (c : Int)] 52)
  have z0 := nn.cell g0
  have z1 := nn.cell g1
  have z2 := nn.cell hb
  have z3 : World.cell? _ _ = some _ := b0.cell 0
  have z4 : World.cell? _ _ = some _ := b0.cell 1
  have lw := nn.size
  simp at lw
  clear hr hx hy hcx hcy g0 g1 hb
  have hlt2 := b0.lt
  have k1 : ba < w.heap.size + 1 := by omega
  have k2 : B < w.heap.size + 1 := by
    have h : B < w.heap.size := lB
    omega
  go_enter Try.func106, Try.ntmps106
  go_wp2
  (refine wp_region_new (by kernel_rfl) (by kernel_rfl) ?_; (repeat (go_big_quiet_step ((fail)))); refine wpQuiet_nil ?_)
  intro w2 n2
  go_wp2
  go_ret
  exact ⟨by rw [HV.out]; rfl, nn.trans n2⟩

/-- What CheckPlan answers: the net's error, or the plan's. -/
def chkF (st : Int) (ps : List (Int × Int)) (sl : List Int) : Int × Int := if (netS st ps).2 ≠ 0 then (0, (netS st ps).2) else chkS st ps sl

set_option maxRecDepth 100000 in
set_option maxHeartbeats 4000000 in
theorem checkPlan_any (st : Int) (A B : Option Addr) (n cap L lcap : Nat) (ps : List (Int × Int)) (sl : List Int) (w : World) (hn : n ≤ 100000) (hcap : n ≤ cap) (hL : L ≤ 1000000) (hr : Rd w 2 encP A n ps) (hs : Rd w 1 encI B L sl) :
    Calls Try.prog 48 #[.agg #[.int .i64 st, .slice A n cap], .slice B L lcap] w fun e w' => e = .returned (.tuple #[.int .i64 (chkF st ps sl).1, .int .i64 (chkF st ps sl).2]) ∧ New w w' := by
  have HR := Lib.hid hr; clear hr
  have HS := Lib.hid hs; clear hs
  have HG1 := Lib.hid (enters_go (f := 104) Try.func104 (by kernel_rfl) rfl)
  have HG2 := Lib.hid (enters_go (f := 106) Try.func106 (by kernel_rfl) rfl)
  have b2 := (Bx.mk w 75 #[.int .i64 st, .slice A n cap]).alloc (.cells #[.slice B L lcap] 30)
  have b3 := Bx.mk_at (w.alloc (.cells #[.int .i64 st, .slice A n cap] 75)) 30 #[.slice B L lcap] (w.heap.size + 1) (by simp)
  have hN := ((New.refl w).alloc (.cells #[.int .i64 st, .slice A n cap] 75)).alloc (.cells #[.slice B L lcap] 30)
  by_cases hz : (netS st ps).2 = 0
  · have HZ := Lib.hid hz
    obtain ⟨q1, q2, q3, q4⟩ := netS_zero hz
    have HQ := Lib.hid q4
    have HF := Lib.hid (show chkF st ps sl = chkS st ps sl by unfold chkF; rw [if_neg (by rw [hz]; decide)])
    clear q4 hz
    go_enter Try.func48, Try.ntmps48
    go_wp2_with fail
    refine (open_any st A n cap ps _ hn hcap (HR.out.keep hN)).mono ?_
    rintro e w1 ⟨n1, ⟨hbad, _⟩ | ⟨_, A1, rfl, _⟩⟩
    · exact absurd HZ.out hbad
    have b21 := b2.keep n1
    have b31 := b3.keep n1
    have nw1 := hN.trans n1
    clear b2 b3 hN n1
    have c0 : w1.cell? _ = some _ := b21.cell 0
    have c1 : w1.cell? _ = some _ := b21.cell 1
    have c2 : w1.cell? _ = some _ := b31.cell 0
    have l2 := b21.lt
    have l3 := b31.lt
    have HLEN := Lib.hid HS.out.len
    obtain ⟨q, hq⟩ : ∃ q, ((L : Int) == st) = q := ⟨_, rfl⟩
    go_wp2_with fail
    refine (unless_any _ _ _).mono ?_
    rintro e w' ⟨rfl, rfl⟩
    go_wp2_with fail
    refine (first_any _ 2 2 [0, errU q 10] _ (by omega) rfl (cells_new _ _ _ _ (by simp) _ rfl)).mono ?_
    rintro e w2 ⟨rfl, hw2⟩
    have n2 : New w1 w2 := by rw [← hw2]; exact (New.refl _).alloc _
    have b22 := b21.keep n2
    have b32 := b31.keep n2
    have nw2 := nw1.trans n2
    clear c0 c1 c2 l2 l3 b21 b31 nw1 n2 hw2
    have c0 : w2.cell? _ = some _ := b22.cell 0
    have c1 : w2.cell? _ = some _ := b22.cell 1
    have c2 : w2.cell? _ = some _ := b32.cell 0
    have l2 := b22.lt
    have l3 := b32.lt
    cases q
    · have hne : ¬ (sl.length : Int) = st := by rw [HLEN.out]; simpa using hq
      have HV := Lib.hid (show chkF st ps sl = (0, 10) by rw [HF.out]; unfold chkS; rw [if_pos hne])
      clear hq hne
      rw [show firstE [0, errU false 10] = 10 from rfl]
      go_wp2_with fail
      go_ret2
      exact ⟨by rw [HV.out]; rfl, nw2⟩
    · have heq : (L : Int) = st := by simpa using hq
      have HE := Lib.hid heq
      clear hq heq
      rw [show firstE [0, errU true 10] = 0 from rfl]
      go_wp2_with fail
      refine (idxFuncI 104 #[] (fun x => !inR x 0 7) B L lcap sl _ hL (HS.out.keep nw2) HG1.out (fun x W _ => chkOne x W)).mono ?_
      rintro e w3 ⟨rfl, n3⟩
      obtain ⟨i1, hi1⟩ : ∃ i, idxS (fun x => !inR x 0 7) sl = i := ⟨_, rfl⟩
      rw [hi1]
      have HI1 := Lib.hid (show idxZ (fun x => !inR x 0 7) sl = i1 from hi1)
      have b23 := b22.keep n3
      have b33 := b32.keep n3
      have nw3 := nw2.trans n3
      clear c0 c1 c2 l2 l3 b22 b32 nw2 n3 hi1
      have c0 : w3.cell? _ = some _ := b23.cell 0
      have c1 : w3.cell? _ = some _ := b23.cell 1
      have c2 : w3.cell? _ = some _ := b33.cell 0
      have l2 := b23.lt
      have l3 := b33.lt
      by_cases h1 : 0 ≤ i1
      · have HV := Lib.hid (show chkF st ps sl = (i1, 2) by rw [HF.out]; unfold chkS; rw [if_neg (by rw [HLEN.out, HE.out]; exact fun h => h rfl), HI1.out, if_pos h1])
        go_wp2_with fail
        go_ret2
        exact ⟨by rw [HV.out]; rfl, nw3⟩
      · go_wp2_with fail
        refine (idxFuncP 106 #[.pointer (some ⟨w.heap.size + 1, 0, none⟩)] (clashP sl) A n cap ps _ (by omega) (HR.out.keep nw3) HG2.out (fun x hx W hW => chkTwo B L lcap sl x (w.heap.size + 1) W (by have := HQ.out x hx; rw [HE.out]; omega) (by have := HQ.out x hx; rw [HE.out]; omega) hL (HS.out.keep (nw3.trans hW)) ((b33.keep hW).cell 0))).mono ?_
        rintro e w4 ⟨rfl, n4⟩
        obtain ⟨i2, hi2⟩ : ∃ i, idxS (clashP sl) ps = i := ⟨_, rfl⟩
        rw [hi2]
        have HI2 := Lib.hid (show idxZ (clashP sl) ps = i2 from hi2)
        have nw4 := nw3.trans n4
        clear hi2 n4
        by_cases h2 : 0 ≤ i2
        · have HV := Lib.hid (show chkF st ps sl = (i2, 13) by rw [HF.out]; unfold chkS; rw [if_neg (by rw [HLEN.out, HE.out]; exact fun h => h rfl), HI1.out, if_neg (by omega), HI2.out, if_pos h2])
          go_wp2_with fail
          go_ret2
          exact ⟨by rw [HV.out]; rfl, nw4⟩
        · have HV := Lib.hid (show chkF st ps sl = (0, 0) by rw [HF.out]; unfold chkS; rw [if_neg (by rw [HLEN.out, HE.out]; exact fun h => h rfl), HI1.out, if_neg (by omega), HI2.out, if_neg h2])
          go_wp2_with fail
          go_ret2
          exact ⟨by rw [HV.out]; rfl, nw4⟩
  · have b1 : ((netS st ps).2 != 0) = true := by simpa using hz
    have HZ := Lib.hid hz
    have HF := Lib.hid (show chkF st ps sl = (0, (netS st ps).2) by unfold chkF; rw [if_pos hz])
    clear hz
    go_enter Try.func48, Try.ntmps48
    go_wp2_with fail
    refine (open_any st A n cap ps _ hn hcap (HR.out.keep hN)).mono ?_
    rintro e w1 ⟨n1, ⟨_, rfl⟩ | ⟨hbad, _⟩⟩
    · have b21 := b2.keep n1
      have b31 := b3.keep n1
      have nw1 := hN.trans n1
      clear b2 b3 hN n1
      have c0 : w1.cell? _ = some _ := b21.cell 0
      have c2 : w1.cell? _ = some _ := b31.cell 0
      have l2 := b21.lt
      have l3 := b31.lt
      go_wp2_with fail
      refine (unless_any _ _ _).mono ?_
      rintro e w' ⟨rfl, rfl⟩
      obtain ⟨q, hq⟩ : ∃ q, errU ((L : Int) == st) 10 = q := ⟨_, rfl⟩
      rw [hq]
      go_wp2_with fail
      refine (first_any _ 2 2 [(netS st ps).2, q] _ (by omega) rfl (cells_new _ _ _ _ (by simp) _ rfl)).mono ?_
      rintro e w2 ⟨rfl, hw2⟩
      have n2 : New w1 w2 := by rw [← hw2]; exact (New.refl _).alloc _
      clear hw2
      rw [show firstE [(netS st ps).2, q] = (netS st ps).2 by rw [firstE_two, if_neg HZ.out]]
      go_wp2_with fail
      go_ret2
      exact ⟨by rw [HF.out]; rfl, nw1.trans n2⟩
    · exact absurd hbad HZ.out
end Go.Proofs.Ytjpkcmlepjbamaa
