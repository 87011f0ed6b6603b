/- The walk of StationTrueOffset. -/
import Derived.Test.YtjpkcmlepjbamaaW20
import Derived.Deep.RegionHeld3
import Derived.IntWalk
namespace Go.Proofs.Ytjpkcmlepjbamaa
open Go.RowKit Go.Sky

/-- What a round of the law's loop needs of its numbers. -/
theorem clk_bd {off ch x y : Int} (hx : 0 ≤ x) (hx1 : x ≤ 1000) (k0 : -1000 ≤ ch) (k1 : ch ≤ 1000) : -1000000 ≤ ch * x ∧ ch * x ≤ 1000000 := by
  have := mul_abs_le (c := ch) (u := x) (A := 1000) (B := 1000) (by omega) (by omega) (by omega) hx1
  omega

theorem new_of_drew {w W : World} (h : New w.drew W) : New w W := ⟨h.os, h.tape, h.output, h.size, h.block⟩
theorem own_ne {α : Type} {w : World} {b e k n cap : Nat} {enc : α → List Value} {A : Option Addr} {xs : List α} (h : Own w (b + 1) e k enc A n cap xs) : some b ≠ A.map (·.block) := by
  rcases h.form with ⟨rfl, _⟩ | ⟨g, rfl, hg, _⟩
  · simp
  · simp; omega
theorem clkIn_step {off ch x y z S T R : Int} {qs bs hs : List Int} {k : Nat} (h : ClkIn off ch qs bs hs k) (hx : 0 ≤ x) (hx1 : x ≤ 1000) (hy : 0 ≤ y) (hy1 : y ≤ 10000) (hz : 0 ≤ z) (hz1 : z ≤ 10000)
    (hg : qs.getD k 0 = x ∧ bs.getD k 0 = y ∧ hs.getD k 0 = z) (ha : clkAt off ch qs bs hs k = ⟨S, T, R⟩) (he : exErr ⟨S, T, R⟩ = 0) : ClkIn off ch qs bs hs (k + 1) := by
  intro i hi
  rcases Nat.lt_or_ge i k with h1 | h1
  · exact h i h1
  · obtain rfl : i = k := by omega
    rw [hg.1, hg.2.1, hg.2.2, ha]
    exact ⟨⟨hx, hx1⟩, ⟨hy, hy1⟩, ⟨hz, hz1⟩, he⟩

set_option maxRecDepth 100000 in
set_option maxHeartbeats 8000000 in
theorem trueOff_in (off ch d t : Int) (A1 A2 A3 : Option Addr) (n c1 c2 c3 : Nat) (qs bs hs : List Int) (w : World) (h1 : Rd w 1 encI A1 n qs) (h2 : Rd w 1 encI A2 n bs) (h3 : Rd w 1 encI A3 n hs)
    (m0 : 1 ≤ n) (m1 : n ≤ 20) (g5 : inR d 0 1000 = true) (d0 : 0 ≤ d) (d1 : d ≤ 1000) (g6 : inR ch (-d) d = true) (k0 : -d ≤ ch) (k1 : ch ≤ d) (g7 : inR off 0 1000000000 = true) (o0 : 0 ≤ off) (o1 : off ≤ 1000000000) (g8 : inR t 0 1000000 = true) (t0 : 0 ≤ t) (t1 : t ≤ 1000000) :
    Calls Try.prog 4 #[.agg #[.int .i64 off, .int .i64 ch, .slice A1 n c1, .slice A2 n c2, .slice A3 n c3], .int .i64 d, .int .i64 t] w fun e w' => e = .returned (.bool true) ∧ New w w' := by
  have H1 := Lib.hid h1
  have H2 := Lib.hid h2
  have H3 := Lib.hid h3
  clear h1 h2 h3
  obtain ⟨i0, hi, hz0, hz1, hz2⟩ := info_parts infoExch
  have e1 : ((n : Int) == 0) = false := by simp; omega
  have e2 : ¬ 20 < (n : Int) := by omega
  go_enter Try.func4, Try.ntmps4
  go_wp2_with fail
  refine (awake_any _).mono ?_
  rintro e w1 ⟨rfl, nw⟩
  have hbx := (Bx.mk w 32 #[.int .i64 off, .int .i64 ch, .slice A1 n c1, .slice A2 n c2, .slice A3 n c3]).keep nw
  have p0 : w1.cell? _ = some _ := hbx.cell 0
  have p1 : w1.cell? _ = some _ := hbx.cell 1
  have p2 : w1.cell? _ = some _ := hbx.cell 2
  have p3 : w1.cell? _ = some _ := hbx.cell 3
  have p4 : w1.cell? _ = some _ := hbx.cell 4
  have hlt0 := hbx.lt
  have hN := hn2of nw
  clear nw
  go_wp2_with (go_at_call 20; refine (bWithin_any _ _ _ _).mono ?_; rintro e w' ⟨rfl, rfl⟩)
  clear p0 p1 p2 p3 p4 hlt0
  go_loopw [7, 8, 9, 10] (fun v i _ _ wr => ∃ (k : Nat) (A : Option Addr) (cap : Nat), k ≤ n ∧ i = .int .i64 k ∧ v = .slice A k cap ∧ Own wr (w.heap.size + 1) 35 3 encX A k cap (clkL off ch qs bs hs k) ∧ Hid (ClkIn off ch qs bs hs k) ∧ Bx wr w.heap.size 32 #[.int .i64 off, .int .i64 ch, .slice A1 n c1, .slice A2 n c2, .slice A3 n c3] ∧ New w wr) (fun _ i _ _ _ => n - (intOf i).toNat)
  case atStart => exact ⟨0, none, 0, by omega, rfl, rfl, Own.nil _ _ _ _ encX_len, Lib.hid (fun i hi => absurd hi (by omega)), hbx, hN⟩
  case round =>
    clear hbx hN
    obtain ⟨k, A, cap, hk, rfl, rfl, hown, HIN, hbx, hN⟩ := hrel
    have p0 : wr.cell? _ = some _ := hbx.cell 0
    have p1 : wr.cell? _ = some _ := hbx.cell 1
    have p2 : wr.cell? _ = some _ := hbx.cell 2
    have p3 : wr.cell? _ = some _ := hbx.cell 3
    have p4 : wr.cell? _ = some _ := hbx.cell 4
    have hlt0 := hbx.lt
    by_cases hlt : k < n
    · obtain ⟨b1, o1', x, rfl, hb1, hx, hcx⟩ := (H1.out.keep hN).at_ hlt
      obtain ⟨b2, o2', y, rfl, hb2, hy, hcy⟩ := (H2.out.keep hN).at_ hlt
      obtain ⟨b3, o3', z, rfl, hb3, hz, hcz⟩ := (H3.out.keep hN).at_ hlt
      have q1 := hcx 0 _ rfl
      have q2 := hcy 0 _ rfl
      have q3 := hcz 0 _ rfl
      simp only [Nat.add_zero, Nat.mul_one] at q1 q2 q3
      have l1 : (0 : Int) ≤ (k : Int) := by omega
      have l2 : (k : Int) < (n : Int) := by omega
      have HAT := Lib.hid (show clkAt off ch qs bs hs k = clkEx off ch x y z by unfold clkAt; rw [getD_of hx, getD_of hy, getD_of hz])
      have HG := Lib.hid (⟨getD_of hx, getD_of hy, getD_of hz⟩ : qs.getD k 0 = x ∧ bs.getD k 0 = y ∧ hs.getD k 0 = z)
      clear hcx hcy hcz hx hy hz
      obtain r1 | ⟨r1, r2⟩ | ⟨r1, r2, r3⟩ | ⟨r1, r2, r3⟩ : inR x 0 1000 = false ∨ (inR x 0 1000 = true ∧ inR y 0 10000 = false) ∨ (inR x 0 1000 = true ∧ inR y 0 10000 = true ∧ inR z 0 10000 = false) ∨ (inR x 0 1000 = true ∧ inR y 0 10000 = true ∧ inR z 0 10000 = true) := by
        cases inR x 0 1000 <;> cases inR y 0 10000 <;> cases inR z 0 10000 <;> simp
      iterate 3
        · go_wp2_with (go_at_call 20; refine (bWithin_any _ _ _ _).mono ?_; rintro e w' ⟨rfl, rfl⟩)
          go_ret
          exact ⟨rfl, hN⟩
      · obtain ⟨x0, x1⟩ : 0 ≤ x ∧ x ≤ 1000 := by simpa [inR] using r1
        obtain ⟨y0, y1⟩ : 0 ≤ y ∧ y ≤ 10000 := by simpa [inR] using r2
        obtain ⟨z0, z1⟩ : 0 ≤ z ∧ z ≤ 10000 := by simpa [inR] using r3
        obtain ⟨u0, u1⟩ := clk_bd (off := off) (y := y) x0 x1 (show -1000 ≤ ch by omega) (by omega)
        go_wp2_with (go_at_call 20; refine (bWithin_any _ _ _ _).mono ?_; rintro e w' ⟨rfl, rfl⟩)
        have HX := Lib.hid (show clkEx off ch x y z = ⟨max 0 (1000 * x - y), 1000 * x + off + ch * x, 1000 * x + z⟩ from rfl)
        obtain ⟨S, hS⟩ : ∃ S, S = max 0 (1000 * x - y) := ⟨_, rfl⟩
        have f1 : IntKind.i64.wrap (1000 * x - y) = 1000 * x - y := IntWalk.i64_in _ (by omega)
        have f2 : IntKind.i64.wrap (1000 * x + off) = 1000 * x + off := IntWalk.i64_in _ (by omega)
        have f3 : IntKind.i64.wrap (ch * x) = ch * x := IntWalk.i64_in _ (by omega)
        have f4 : IntKind.i64.wrap (1000 * x + off + ch * x) = 1000 * x + off + ch * x := IntWalk.i64_in _ (by omega)
        have f5 : IntKind.i64.wrap (1000 * x + z) = 1000 * x + z := IntWalk.i64_in _ (by omega)
        have FS := Lib.hid (show (if 0 < IntKind.i64.wrap (1000 * x - y) then IntKind.i64.wrap (1000 * x - y) else 0) = S by rw [f1, hS]; omega)
        have FT := Lib.hid (show IntKind.i64.wrap (IntKind.i64.wrap (1000 * x + off) + IntKind.i64.wrap (ch * x)) = 1000 * x + off + ch * x by rw [f2, f3, f4])
        have FR := Lib.hid f5
        rw [← hS] at HX
        have hS0 : 0 ≤ S := by omega
        have hS1 : S ≤ 1000 * x := by omega
        clear hS f1 f2 f3 f4 f5
        have z0 := World.new_ne wr _ p0
        have z1 := World.new_ne wr _ p1
        have z2 := World.new_ne wr _ p2
        have z3 := World.new_ne wr _ p3
        have z4 := World.new_ne wr _ p4
        have z5 := World.new_ne wr _ q1
        have z6 := World.new_ne wr _ q2
        have z7 := World.new_ne wr _ q3
        go_region_held3 (fun w' => w'.cell? ⟨w.heap.size, 0, none⟩ = some (.int .i64 off) ∧ w'.cell? ⟨w.heap.size, 1, none⟩ = some (.int .i64 ch) ∧ w'.cell? ⟨w.heap.size, 2, none⟩ = some (.slice (some ⟨b1, o1', none⟩) n c1) ∧ w'.cell? ⟨w.heap.size, 3, none⟩ = some (.slice (some ⟨b2, o2', none⟩) n c2) ∧ w'.cell? ⟨w.heap.size, 4, none⟩ = some (.slice (some ⟨b3, o3', none⟩) n c3) ∧ w'.cell? ⟨b1, o1' + k, none⟩ = some (.int .i64 x) ∧ w'.cell? ⟨b2, o2' + k, none⟩ = some (.int .i64 y) ∧ w'.cell? ⟨b3, o3' + k, none⟩ = some (.int .i64 z)) (go_keep) (fail)
        all_goals
          rw [FS.out, FT.out, FR.out]
          clear p0 p1 p2 p3 p4 hlt0 q1 q2 q3 z0 z1 z2 z3 z4 z5 z6 z7
          generalize 1000 * x + off + ch * x = T at *
          generalize 1000 * x + z = R at *
          have HAX := Lib.hid (show clkAt off ch qs bs hs k = ⟨S, T, R⟩ by rw [HAT.out, HX.out])
          clear HAT HX FS FT FR
          go_wp2_with fail
          refine (refEx_any ⟨S, T, R⟩ _).mono ?_
          rintro e w3 ⟨rfl, n3⟩
          have hy3 : Bx w3 wr.heap.size 35 #[.int .i64 S, .int .i64 T, .int .i64 R] := by first | exact (Bx.mk _ _ _).keep n3 | exact ((Bx.mk _ _ _).drew).keep n3
          have hn3 : New wr w3 := by first | exact hn2of n3 | exact hn2of (new_of_drew n3)
          clear n3
          by_cases hE : exErr ⟨S, T, R⟩ = 0
          · have HE := Lib.hid hE
            rw [hE]
            clear hE
            have v0 : w3.cell? _ = some _ := hy3.cell 0
            have v1 : w3.cell? _ = some _ := hy3.cell 1
            have v2 : w3.cell? _ = some _ := hy3.cell 2
            have hlt3 := hy3.lt
            have hown3 := hown.keep hn3
            have hN3 := hN.trans hn3
            have hbx3 := hbx.keep hn3
            have HNE := Lib.hid (own_ne hown)
            clear hown hN hbx hy3 hn3
            go_wp2_with (at_builtin; refine wpList_push _ rfl _ _ 33 rfl 35 i0 _ 3 24 Try.underlying33 hi hz0 hz1 hz2 rfl (by omega) (w.heap.size + 1) encX A k cap (clkL off ch qs bs hs k) rfl (by exact hown3.alloc _) _ 1 1 [⟨S, T, R⟩] rfl rfl (by omega) (by exact cells_new _ _ _ _ (by simp) _ rfl) encX_one (by unfold maxLen; omega) (by omega) (by have := hbx3.lt; simp; omega) ?_; intro g4 cap4 w4 hown4 hg4 hat4 hb4 hlt4 hN4)
            have hbx4 := (hbx3.alloc (.cells #[.int .i64 S, .int .i64 T, .int .i64 R] 35)).grown hg4 HNE.out
            have hNw := hN4 w (hN3.alloc _) (by omega)
            rw [← HAX.out, ← clkL_succ] at hown4
            clear hown3 hN3 hbx3 hg4 hat4 hN4 v0 v1 v2
            go_roundw
            case rel => exact ⟨k + 1, _, cap4, by omega, by go_num, rfl, hown4, Lib.hid (clkIn_step HIN.out x0 x1 y0 y1 z0 z1 HG.out HAX.out HE.out), hbx4, hNw⟩
            case measure => simp [intOf]; omega
          · have b1 : (exErr ⟨S, T, R⟩ != 0) = true := by simpa using hE
            clear hE
            go_wp2_with fail
            go_ret
            exact ⟨rfl, hN.trans hn3⟩
    · obtain rfl : k = n := by omega
      clear hlt
      have HO := Lib.hid (clk_offs HIN.out m0 m1 d0 d1 t0 t1)
      have HB := Lib.hid (clk_bound HIN.out m0 d0 d1 k0 k1 t0 t1 o0 o1)
      have HW := Lib.hid (fun hs1 => clk_law (t := t) HIN.out m0 k0 k1 t0 hs1)
      have HPB := Lib.hid (fun i (hi : i < k) => (⟨(HIN.out i hi).2.1, (HIN.out i hi).2.2.1⟩ : (0 ≤ bs.getD i 0 ∧ bs.getD i 0 ≤ 10000) ∧ (0 ≤ hs.getD i 0 ∧ hs.getD i 0 ≤ 10000)))
      have HL := Lib.hid (clkL_len off ch qs bs hs k)
      generalize clkL off ch qs bs hs k = l at *
      go_wp2_with fail
      refine (copyX_any A k cap l _ (by omega) hown.rd).mono ?_
      rintro e w2 ⟨A5, c5, rfl, hown5, n2⟩
      go_wp2_with fail
      refine (OffsetAt_any A5 k c5 l d t _ (by omega) hown5.rd).mono ?_
      rintro e w3 ⟨rfl, n3⟩
      have hN3 := (hN.trans n2).trans n3
      have hbx3 := (hbx.keep n2).keep n3
      have hown3 := (hown.keep n2).keep n3
      clear p0 p1 p2 p3 p4 hlt0 hN hbx hown hown5 n2 n3
      have p0 : w3.cell? _ = some _ := hbx3.cell 0
      have p1 : w3.cell? _ = some _ := hbx3.cell 1
      have p2 : w3.cell? _ = some _ := hbx3.cell 2
      have p3 : w3.cell? _ = some _ := hbx3.cell 3
      have p4 : w3.cell? _ = some _ := hbx3.cell 4
      have hlt0 := hbx3.lt
      by_cases h2 : (comS (l.map (offBy · d t))).1 ≤ (comS (l.map (offBy · d t))).2
      · obtain ⟨⟨rl, rh⟩, hr⟩ : ∃ r, comS (l.map (offBy · d t)) = r := ⟨_, rfl⟩
        have HO2 := Lib.hid (show offAtS l d t = ((rl, rh), 0) by rw [offAt_ok HO.out h2, hr])
        have HR := HB.out
        have HWR := Lib.hid (fun hs1 => HW.out hs1)
        rw [hr] at h2 HR HWR
        dsimp only at h2 HR
        obtain ⟨b1, b2, b3, b4⟩ := HR
        clear hr HB HW HO
        rw [HO2.out]
        have i1 : inR rl (-1125899906842624) 1125899906842624 = true := by simp [inR]; omega
        have i2 : inR rh rl 1125899906842624 = true := by simp [inR]; omega
        go_wp2_with (go_at_call 20; refine (bWithin_any _ _ _ _).mono ?_; rintro e w' ⟨rfl, rfl⟩)
        refine (slow_any off ch A1 A2 A3 k c1 c2 c3 bs hs _ (by omega) (by omega) (by omega) HPB.out (by exact (H2.out.keep hN3).keep ((New.refl _).alloc _)) (by exact (H3.out.keep hN3).keep ((New.refl _).alloc _))).mono ?_
        rintro e w4 ⟨rfl, n4⟩
        have hn4 := hn2of n4
        have hN4 := hN3.trans hn4
        have hr4 := (Bx.mk w3 38 #[.int .i64 rl, .int .i64 rh]).keep n4
        have hbx4 := hbx3.keep hn4
        have hown4 := hown3.keep hn4
        clear p0 p1 p2 p3 p4 hlt0 hbx3 hown3 n4 i1 i2
        cases hq : slowF ch bs hs k
        · obtain ⟨w1', w2'⟩ := HWR.out hq
          clear hq HWR
          obtain ⟨j1, j2⟩ := mul_abs_le (c := ch) (u := t) (A := 1000) (B := 1000000) (by omega) (by omega) (by omega) t1
          have k3 : rl ≤ ceilI (1000 * off + ch * t) 1000 := by rw [ceil_up (by omega)]; unfold upS; omega
          have k4 : (1000 * off + ch * t) / 1000 ≤ rh := by omega
          have K3 := Lib.hid k3
          have K4 := Lib.hid k4
          clear k3 k4 w1' w2'
          have f1 : IntKind.i64.wrap (1000 * off) = 1000 * off := IntWalk.i64_in _ (by omega)
          have f2 : IntKind.i64.wrap (ch * t) = ch * t := IntWalk.i64_in _ (by omega)
          have f3 : IntKind.i64.wrap (1000 * off + ch * t) = 1000 * off + ch * t := IntWalk.i64_in _ (by omega)
          have p0 : w4.cell? _ = some _ := hbx4.cell 0
          have p1 : w4.cell? _ = some _ := hbx4.cell 1
          have hlt0 := hbx4.lt
          go_wp2_with fail
          (refine wp_region_new (by kernel_rfl) (by kernel_rfl) ?_; (repeat (go_big_quiet_step ((first | (go_at_call 25; exact quiet_same (Floor_any (1000 * off + ch * t) 1000 _ (by omega) (by omega) (by omega) (by omega))) | (go_at_call 26; exact quiet_same (Ceil_any (1000 * off + ch * t) 1000 _ (by omega) (by omega) (by omega) (by omega))))))); refine wpQuiet_nil ?_)
          intro w5 n5
          clear p0 p1 hlt0 f1 f2 f3
          have HTA := Lib.hid (show trueAtS l d t = ((t + rl, t + rh), 0) by unfold trueAtS; rw [HO2.out, if_pos rfl])
          go_wp2_with fail
          refine (TrueAt_any A k cap l d t _ (by omega) (hown4.keep n5).rd (fun _ => by rw [HO2.out]; dsimp only; omega)).mono ?_
          rintro e w6 ⟨rfl, n6⟩
          rw [HTA.out]
          have hr6 := (hr4.keep n5).keep n6
          have hN6 := (hN4.trans n5).trans n6
          have s0 : w6.cell? _ = some _ := hr6.cell 0
          have s1 : w6.cell? _ = some _ := hr6.cell 1
          have hlt6 := hr6.lt
          have e3 := eql_rng
          have e4 := guard_rng
          have k3 := K3.out
          have k4 := K4.out
          clear hr4 hbx4 hown4 n5 n6 hr6 HO2 HTA K3 K4
          generalize ceilI (1000 * off + ch * t) 1000 = U at *
          generalize (1000 * off + ch * t) / 1000 = V at *
          go_wp2_with fail
          go_ret
          exact ⟨rfl, hN6.alloc _⟩
        · clear hq
          go_wp2_with fail
          go_ret
          exact ⟨rfl, hN4⟩
      · have hsl : slowF ch bs hs k = true := by
          cases hq : slowF ch bs hs k
          · have := HW.out hq
            exact absurd (show (comS (l.map (offBy · d t))).1 ≤ (comS (l.map (offBy · d t))).2 by omega) h2
          · rfl
        have HSL := Lib.hid hsl
        clear hsl
        rw [offAt_clash HO.out h2]
        clear h2
        go_wp2_with fail
        refine (slow_any off ch A1 A2 A3 k c1 c2 c3 bs hs _ (by omega) (by omega) (by omega) HPB.out (by exact (H2.out.keep hN3).keep ((New.refl _).alloc _)) (by exact (H3.out.keep hN3).keep ((New.refl _).alloc _))).mono ?_
        rintro e w4 ⟨rfl, n4⟩
        rw [HSL.out]
        go_wp2_with fail
        go_ret
        exact ⟨rfl, hN3.trans (hn2of n4)⟩

theorem trueOff_any (off ch d t : Int) (A1 A2 A3 : Option Addr) (n1 n2 n3 c1 c2 c3 : Nat) (qs bs hs : List Int) (w : World) (h1 : Rd w 1 encI A1 n1 qs) (h2 : Rd w 1 encI A2 n2 bs) (h3 : Rd w 1 encI A3 n3 hs) :
    Calls Try.prog 4 #[.agg #[.int .i64 off, .int .i64 ch, .slice A1 n1 c1, .slice A2 n2 c2, .slice A3 n3 c3], .int .i64 d, .int .i64 t] w fun e w' => e = .returned (.bool true) ∧ New w w' := by
  rcases guard_cases n1 n2 n3 d ch off t with hg | hg | ⟨rfl, rfl, m0, m1, g5, d0, d1, g6, k0, k1, g7, o0, o1, g8, t0, t1⟩
  · exact trueOff_out _ _ _ _ _ _ _ _ _ _ _ _ _ _ (.inl hg)
  · exact trueOff_out _ _ _ _ _ _ _ _ _ _ _ _ _ _ (.inr hg)
  · exact trueOff_in off ch d t A1 A2 A3 n1 c1 c2 c3 qs bs hs w h1 h2 h3 m0 m1 g5 d0 d1 g6 k0 k1 g7 o0 o1 g8 t0 t1
end Go.Proofs.Ytjpkcmlepjbamaa
