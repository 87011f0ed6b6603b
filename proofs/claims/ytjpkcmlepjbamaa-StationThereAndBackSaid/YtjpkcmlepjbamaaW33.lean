/- The walk of StationPacks. -/
import Derived.Test.YtjpkcmlepjbamaaW32
import Derived.Test.YtjpkcmlepjbamaaW15
namespace Go.Proofs.Ytjpkcmlepjbamaa
open Go.RowKit Go.Sky

theorem unpS_len (way : Int) (ns : List Int) (h : ns.length ≤ 1000) : (unpS way ns).1.length ≤ 1000 := by
  unfold unpS
  by_cases h1 : unpE way ns ≠ 0
  · rw [if_pos h1]; simp
  · rw [if_neg h1]
    by_cases h2 : way = 0
    · rw [if_pos h2]
      by_cases h3 : serE ns ≠ 0
      · rw [if_pos h3]; simp
      · rw [if_neg h3]; exact h
    · rw [if_neg h2]
      by_cases h3 : cntsOk ns (ns.length / 2) = false
      · rw [if_pos h3]; simp
      · rw [if_neg h3]
        by_cases h4 : 200 < sumU ns (ns.length / 2)
        · rw [if_pos h4]; simp
        · rw [if_neg h4]
          rw [Bool.not_eq_false] at h3
          cases hr : runU way (expU ns (ns.length / 2)) with
          | none => simp
          | some r =>
            obtain ⟨o, z⟩ := r
            have h5 := runU_len hr
            have h6 := expU_len (ns := ns) (h := ns.length / 2) (fun i hi => (cntsOk_at hi h3).1)
            show o.length ≤ 1000
            omega

set_option maxRecDepth 100000 in
set_option maxHeartbeats 4000000 in
theorem packs_in (A B : Option Addr) (n m cap bcap : Nat) (xs ns : List Int) (way : Int) (w : World) (hn : n ≤ 210) (hm : m ≤ 410) (hr : Rd w 1 encI A n xs) (hs : Rd w 1 encI B m ns) :
    Calls Try.prog 7 #[.slice A n cap, .agg #[.int .i64 way, .slice B m bcap]] w fun e w' => e = .returned (.bool true) ∧ New w w' := by
  have HR := Lib.hid hr; clear hr
  have HS := Lib.hid hs; clear hs
  have HL := Lib.hid HR.out.len
  obtain ⟨⟨us, ue⟩, hU⟩ : ∃ Z, unpS way ns = Z := ⟨_, rfl⟩
  have HU := Lib.hid hU
  clear hU
  have hb0 := Bx.mk w 58 #[.int .i64 way, .slice B m bcap]
  have nw0 := (New.refl w).alloc (.cells #[.int .i64 way, .slice B m bcap] 58)
  go_enter Try.func7, Try.ntmps7
  go_wp2_with fail
  refine (awake_any _).mono ?_
  rintro e w1 ⟨rfl, n1⟩
  have hb1 := hb0.keep n1
  have nw1 := nw0.trans n1
  have c0 : w1.cell? _ = some _ := hb1.cell 0
  have c1 : w1.cell? _ = some _ := hb1.cell 1
  have lb := hb1.lt
  clear hb0 nw0 n1
  go_wp2_with fail
  refine (copyInts_any A n cap xs _ (by omega) (HR.out.keep nw1)).mono ?_
  rintro e w2 ⟨A2, c2, rfl, hown2, n2⟩
  go_wp2_with fail
  refine (Packed_any A2 n c2 xs _ (by omega) hown2.rd).mono ?_
  rintro e w3 ⟨n3, hp⟩
  have hb3 := (hb1.keep n2).keep n3
  have nw3 := (nw1.trans n2).trans n3
  clear c0 c1 lb hb1 nw1 n2 hown2
  have hp' : ∃ (pw : Int) (A3 : Option Addr) (m3 c3 : Nat) (pe : Int) (ps : List Int), e = .returned (.tuple #[.agg #[.int .i64 pw, .slice A3 m3 c3], .int .i64 pe]) ∧ Rd w3 1 encI A3 m3 ps ∧ m3 ≤ 1000 ∧ Hid (serE xs = pe) ∧ Hid (pe ≠ 0 → pw = 0 ∧ ps = []) ∧ Hid (pe = 0 → pw = packWay xs ∧ ps = packNums xs) := by
    rcases hp with ⟨h0, rfl⟩ | ⟨h0, A3, m3, c3, rfl, o3⟩
    · exact ⟨0, none, 0, 0, _, [], rfl, Rd.nil _ _ _ _, by omega, rfl, fun _ => ⟨rfl, rfl⟩, fun h => absurd h h0⟩
    · have h3 := o3.rd
      refine ⟨_, A3, m3, c3, 0, _, rfl, h3, ?_, h0, fun h => absurd rfl h, fun _ => ⟨rfl, rfl⟩⟩
      rw [← h3.len]
      have := (pack_le xs).1
      rw [HL.out] at this
      omega
  obtain ⟨pw, A3, m3, c3, pe, ps, rfl, r3, hm3, HPE, HP1, HP0⟩ := hp'
  clear hp n3
  have c0 : w3.cell? _ = some _ := hb3.cell 0
  have c1 : w3.cell? _ = some _ := hb3.cell 1
  have lb := hb3.lt
  go_wp2_with fail
  have hb4 := hb3.alloc (.cells #[.int .i64 pw, .slice A3 m3 c3] 58)
  have hx4 := Bx.mk w3 58 #[.int .i64 pw, .slice A3 m3 c3]
  have nw4 := nw3.alloc (.cells #[.int .i64 pw, .slice A3 m3 c3] 58)
  have r4 := r3.keep ((New.refl w3).alloc (.cells #[.int .i64 pw, .slice A3 m3 c3] 58))
  clear c0 c1 lb hb3 nw3 r3
  refine (copyPacked_any way B m bcap ns _ (by omega) (HS.out.keep nw4)).mono ?_
  rintro e w5 ⟨A5, c5, rfl, hc5, r5, n5⟩
  go_wp2_with fail
  refine (Unpacked_any way A5 m c5 ns _ (by omega) hc5 r5).mono ?_
  rintro e w6 ⟨A6, m6, c6, rfl, r6, n6⟩
  rw [HU.out] at r6 ⊢
  have hb6 := (hb4.keep n5).keep n6
  have hx6 := (hx4.keep n5).keep n6
  have nw6 := (nw4.trans n5).trans n6
  have rx6 := (r4.keep n5).keep n6
  have hlt4 := hx4.lt
  clear hb4 hx4 nw4 r4 r5 n5 n6
  have c0 : w6.cell? _ = some _ := hb6.cell 0
  have c1 : w6.cell? _ = some _ := hb6.cell 1
  have lb := hb6.lt
  go_wp2_with fail
  refine (refUnp_any way B m bcap ns _ (by omega) (HS.out.keep nw6)).mono ?_
  rintro e w7 ⟨A7, m7, c7, rfl, r7, n7⟩
  rw [HU.out] at r7 ⊢
  have hx7 := hx6.keep n7
  have nw7 := nw6.trans n7
  have rx7 := rx6.keep n7
  have r67 := r6.keep n7
  clear c0 c1 lb hb6 hx6 nw6 rx6 r6 n7
  have d1 : (ue != ue) = false := by simp
  have hul : us.length ≤ 1000 := by have := unpS_len way ns (by rw [HS.out.len]; omega); rw [HU.out] at this; exact this
  have hm6 : m6 ≤ 1000000 := by have h6 : us.length = m6 := r67.len; omega
  have hm7 : m7 ≤ 1000000 := by have h7 : us.length = m7 := r7.len; omega
  clear hul
  go_wp2_with fail
  refine (ints_is true A6 A7 m6 m7 c6 c7 us us _ hm6 hm7 r67 r7 (by simp)).mono ?_
  rintro e w8 ⟨rfl, n8⟩
  have hx8 := hx7.keep n8
  have nw8 := nw7.trans n8
  have rx8 := rx7.keep n8
  clear hx7 nw7 rx7 r67 r7 n8
  go_wp2_with fail
  refine (refSer_any A n cap xs _ (by omega) (HR.out.keep nw8)).mono ?_
  rintro e w' ⟨rfl, rfl⟩
  rw [HPE.out]
  have c0 : w8.cell? _ = some _ := hx8.cell 0
  have c1 : w8.cell? _ = some _ := hx8.cell 1
  have lb := hx8.lt
  by_cases h0 : pe = 0
  · obtain ⟨h1, h2⟩ := HP0.out h0
    subst h0 h1 h2
    have HBD := Lib.hid (serE_zero HPE.out).2
    go_wp2_with fail
    refine wp_region_takes0 w8 (New.refl _) 5 4 #[true, true, true, true, true, false, false, false, false] (by kernel_rfl) (by kernel_rfl) (by kernel_rfl) (by kernel_rfl) (by kernel_rfl) (by kernel_rfl) ?_
    simp only [List.take_succ_cons, List.take_zero]
    (repeat (go_big_quiet_step ((fail))))
    refine wpQuiet_nil ?_
    intro W1 nn1
    refine one_next 5 (by kernel_rfl) (new_plus nn1) (wpOpIn_list rfl ?_)
    gi_wp2_with fail
    refine ⟨trivial, callsIn_wide.2 ((refPacked_any A n cap xs _ (by omega) (HR.out.keep (nw8.trans nn1)) HBD.out).mono ?_)⟩
    rintro e w9 ⟨A9, m9, c9, rfl, r9, n9⟩
    have hm9 : m9 ≤ 1000000 := by rw [← r9.len]; have := (pack_le xs).1; rw [HL.out] at this; omega
    gi_wp2
    have n19 := nn1.trans n9
    refine one_next 6 (by kernel_rfl) (new_plus n19) (wpOpIn_list rfl ?_)
    gi_wp2_with fail
    refine ⟨trivial, callsIn_wide.2 ((samePacked_any (packWay xs) (packWay xs) A3 A9 m3 m9 c3 c9 (packNums xs) (packNums xs) _ (by omega) hm9 (rx8.keep n19) r9).mono ?_)⟩
    rintro e w10 ⟨rfl, n10⟩
    have n20 := n19.trans n10
    rw [show (packWay xs == packWay xs && decide (packNums xs = packNums xs)) = true by simp]
    gi_wp2
    refine one_next 7 (by kernel_rfl) (new_plus n20) (wpOpIn_list rfl ?_)
    gi_wp2
    refine one_next 8 (by kernel_rfl) (new_plus n20) (wpOpIn_list rfl ?_)
    gi_wp2
    refine end_any (new_plus n20) (by kernel_rfl) ?_
    go_wp2_with fail
    go_ret
    exact ⟨rfl, nw8.trans n20⟩
  · have hp0 : (pe != 0) = true := by simpa using h0
    have he0 : (pe == pe) = true := by simp
    obtain ⟨h1, h2⟩ := HP1.out h0
    subst h1 h2
    clear h0
    go_wp2_with fail
    refine (samePacked_any 0 0 A3 none m3 0 c3 0 [] [] _ (by omega) (by omega) rx8 (Rd.nil _ _ _ _)).mono ?_
    rintro e w9 ⟨rfl, n9⟩
    go_wp2_with fail
    go_ret
    exact ⟨rfl, nw8.trans n9⟩

set_option maxRecDepth 100000 in
set_option maxHeartbeats 1000000 in
theorem packs_any (A B : Option Addr) (n m cap bcap : Nat) (xs ns : List Int) (way : Int) (w : World) (hr : Rd w 1 encI A n xs) (hs : Rd w 1 encI B m ns) :
    Calls Try.prog 7 #[.slice A n cap, .agg #[.int .i64 way, .slice B m bcap]] w fun e w' => e = .returned (.bool true) ∧ New w w' := by
  by_cases hn : n ≤ 210
  · by_cases hm : m ≤ 410
    · exact packs_in A B n m cap bcap xs ns way w hn hm hr hs
    · have hb0 := Bx.mk w 58 #[.int .i64 way, .slice B m bcap]
      have nw0 := (New.refl w).alloc (.cells #[.int .i64 way, .slice B m bcap] 58)
      clear hr hs
      go_enter Try.func7, Try.ntmps7
      go_wp2_with fail
      refine (awake_any _).mono ?_
      rintro e w1 ⟨rfl, n1⟩
      have hb1 := hb0.keep n1
      have nw1 := nw0.trans n1
      have c0 : w1.cell? _ = some _ := hb1.cell 0
      have c1 : w1.cell? _ = some _ := hb1.cell 1
      have lb := hb1.lt
      clear hb0 nw0 n1
      go_wp2_with fail
      go_ret
      exact ⟨rfl, nw1⟩
  · have nw0 := (New.refl w).alloc (.cells #[.int .i64 way, .slice B m bcap] 58)
    clear hr hs
    go_enter Try.func7, Try.ntmps7
    go_wp2_with fail
    refine (awake_any _).mono ?_
    rintro e w1 ⟨rfl, n1⟩
    have nw1 := nw0.trans n1
    clear nw0 n1
    go_wp2_with fail
    go_ret
    exact ⟨rfl, nw1⟩
end Go.Proofs.Ytjpkcmlepjbamaa
