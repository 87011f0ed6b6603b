/- Contracts: disturb, open. -/
import Derived.Test.YtjpkcmlepjbamaaW12
namespace Go.Proofs.Ytjpkcmlepjbamaa
open Go.RowKit Go.Sky

def encU (n : Nat) : List Value := [.int .u64 (n : Int)]

theorem infoUint : (Try.prog.info? 175).map (fun i => (i.zero, i.size, i.bytes)) = some (some (.int .u64 0), 1, 8) := by kernel_rfl

set_option maxRecDepth 100000 in
set_option maxHeartbeats 400000 in
theorem disturb_any (A : Option Addr) (n cap : Nat) (ms : List Nat) (a b : Nat) (w : World) (hr : Rd w 1 encU A n ms) (ha : a < n) (_hn : n ≤ 8) (hb : b < 8) (hm : ∀ m ∈ ms, m < 256) :
    Calls Try.prog 139 #[.slice A n cap, .int .i64 a, .int .i64 b] w fun e w' => e = .returned (.bool ((ms.getD a 0).testBit b)) ∧ w = w' := by
  obtain ⟨bl, o, m, rfl, hbl, hx, hc⟩ := hr.at_ ha
  have g0 := hc 0 _ rfl
  simp only [Nat.add_zero, Nat.mul_one] at g0
  have hm256 := hm m (List.mem_of_getElem? hx)
  have HX := Lib.hid hx
  clear hx hc hr hm
  go_enter Try.func139, Try.ntmps139
  go_wp2
  have hdiv : (m : Int) / 2 ^ b = ((m / 2 ^ b : Nat) : Int) := by simp
  have hle : m / 2 ^ b ≤ m := Nat.div_le_self _ _
  have hbit : (bits .and .u64 ((m : Int) / 2 ^ b) 1 == 1) = (ms.getD a 0).testBit b := by
    rw [hdiv, List.getD_eq_getElem?_getD, HX.out, Option.getD_some, Nat.testBit_eq_decide_div_mod_eq]
    generalize m / 2 ^ b = q at *
    rw [and_one_u64 _ (by omega) (by omega)]
    rw [Bool.eq_iff_iff]
    simp
    omega
  go_ret
  exact ⟨by rw [← hbit]; rfl, rfl⟩

theorem or_mask {m y : Nat} (hm : m < 256) (hy : y < 8) : bits .or .u64 (m : Int) (IntKind.u64.wrap (2 ^ y)) = ((m ||| 2 ^ y : Nat) : Int) := by
  have h2 : (2 : Nat) ^ y < 256 := Nat.lt_of_lt_of_le (Nat.pow_lt_pow_right (by omega) hy) (by decide)
  have e : IntKind.u64.wrap ((2 : Int) ^ y) = ((2 ^ y : Nat) : Int) := by
    rw [IntKind.wrap_u64]
    have e1 : ((2 : Int) ^ y) = ((2 ^ y : Nat) : Int) := by simp
    rw [e1]
    generalize 2 ^ y = t at *
    omega
  rw [e]
  exact u64_or_nat _ _ (by omega) (by omega)

set_option maxRecDepth 100000 in
set_option maxHeartbeats 4000000 in
theorem open_any (st : Int) (A : Option Addr) (n cap : Nat) (ps : List (Int × Int)) (w : World) (hn : n ≤ 100000) (hcap : n ≤ cap) (hr : Rd w 2 encP A n ps) :
    Calls Try.prog 102 #[.agg #[.int .i64 st, .slice A n cap]] w fun e w' => New w w' ∧
      (((netS st ps).2 ≠ 0 ∧ e = .returned (.tuple #[.slice none 0 0, .int .i64 (netS st ps).2])) ∨
       ((netS st ps).2 = 0 ∧ ∃ A', e = .returned (.tuple #[.slice A' st.toNat st.toNat, .int .i64 0]) ∧ Own w' w.heap.size 175 1 encU A' st.toNat st.toNat (maskS st.toNat ps))) := by
  have HL := Lib.hid hr.len
  have HR := Lib.hid hr; clear hr
  obtain ⟨i0, hi, hz0, hz1, hz2⟩ := info_parts infoUint
  by_cases hz : (netS st ps).2 = 0
  · have b1 : ((netS st ps).2 != 0) = false := by simpa using hz
    obtain ⟨q1, q2, q3, q4⟩ := netS_zero hz
    obtain ⟨s, rfl⟩ : ∃ s : Nat, st = (s : Int) := ⟨st.toNat, by omega⟩
    have hs : s ≤ 8 := by omega
    have hs1 : 1 ≤ s := by omega
    have HQ := Lib.hid q4
    have HZ := Lib.hid hz
    clear q4 hz
    go_enter Try.func102, Try.ntmps102
    go_wp2_with fail
    refine (checkNet_any (s : Int) A n cap ps _ hn hcap (HR.out.keep ((New.refl _).alloc _))).mono ?_
    rintro e w1 ⟨rfl, n1⟩
    have hb := (Bx.mk w 75 #[.int .i64 (s : Int), .slice A n cap]).keep n1
    have a0 : w1.cell? _ = some _ := hb.cell 0
    have a1 : w1.cell? _ = some _ := hb.cell 1
    have hN1 := hn2of n1
    go_wp2_with (refine wpList_mk _ rfl _ _ 149 rfl w.heap.size 175 i0 _ Try.underlying149 hi hz0 hz1 rfl encU (fun _ => rfl) 0 rfl s rfl rfl (by rw [hz2]; omega) (by unfold maxLen; omega) (by exact hN1.size) ?_; intro w2 hown n2 hlt2; have hb2 := hb.keep n2; have a0' : w2.cell? _ = some _ := hb2.cell 0; have a1' : w2.cell? _ = some _ := hb2.cell 1)
    have hN2 := hN1.trans n2
    have hgb := hN1.size
    clear a0 a1 a0' a1' hb n1 n2
    obtain ⟨g, hg⟩ : ∃ g, w1.heap.size = g := ⟨_, rfl⟩
    rw [hg] at hown hlt2 hgb ⊢
    go_loopw [8, 23] (fun _ i wr => ∃ k : Nat, k ≤ n ∧ i = .int .i64 k ∧ Own wr w.heap.size 175 1 encU (some ⟨g, 0, none⟩) s s (foldTo maskStep (List.replicate s 0) ps k) ∧ Hid (∀ m ∈ foldTo maskStep (List.replicate s 0) ps k, m < 256) ∧ New w wr ∧ g < wr.heap.size) (fun _ i _ => n - (intOf i).toNat)
    case atStart => exact ⟨0, by omega, rfl, hown, Lib.hid (fun m hm => by rw [foldTo_zero] at hm; rw [List.eq_of_mem_replicate hm]; omega), hN2, hlt2⟩
    case round =>
      clear hown hlt2
      obtain ⟨k, hk, rfl, hown, HM, hN, hlt2⟩ := hrel
      by_cases hlt : k < n
      · obtain ⟨b, o, p, rfl, hbl, hp, hc⟩ := (HR.out.keep hN).at_ hlt
        have g0 := hc 0 _ rfl
        have g1 := hc 1 _ rfl
        simp only [Nat.add_zero] at g0
        obtain ⟨p1, p2, p3⟩ := HQ.out p (List.mem_of_getElem? hp)
        obtain ⟨x, y⟩ := p
        dsimp only at g0 g1 p1 p2 p3
        obtain ⟨x, rfl⟩ := Int.eq_ofNat_of_zero_le p1
        obtain ⟨y, rfl⟩ := Int.eq_ofNat_of_zero_le (show 0 ≤ y by omega)
        have hx8 : x < 8 := by omega
        have hy8 : y < 8 := by omega
        have hxs : x < s := by omega
        have hys : y < s := by omega
        have hFS := foldTo_step maskStep (List.replicate s 0) ps k _ hp
        have HFS := Lib.hid hFS
        clear hc hp hFS
        generalize foldTo maskStep (List.replicate s 0) ps k = ms at *
        have hml := Lib.hid hown.len
        obtain ⟨m, hm⟩ : ∃ m, ms.getD x 0 = m := ⟨_, rfl⟩
        have hme : ms[x]? = some m := by rw [← hm, List.getD_eq_getElem?_getD, List.getElem?_eq_getElem (by rw [hml.out]; omega)]; rfl
        have hm256 := HM.out m (List.mem_of_getElem? hme)
        have hcx := hown.cell1 x m _ hme rfl
        have hfx := hown.free x
        have HOR := Lib.hid (or_mask (y := y) hm256 hy8)
        have HMS := Lib.hid (show orAt ms x y = ms.set x (m ||| 2 ^ y) by unfold orAt; rw [hm])
        have HM2 := Lib.hid (orAt_lt (a := x) (b := y) HM.out hy8)
        have HME := Lib.hid hme
        clear hme hm
        have hbp := Bx.mk wr 52 #[.int .i64 (x : Int), .int .i64 (y : Int)]
        go_wp2
        (refine wp_region_tail 10 (by kernel_rfl) (by kernel_rfl) ?_; simp only [List.take_succ_cons, List.take_zero, List.drop_succ_cons, List.drop_zero]; (repeat (go_big_quiet_step ((fail)))); refine wpQuiet_nil ?_)
        intro w3 n3
        rw [HOR.out]
        have hown3 := (hown.alloc (.cells #[.int .i64 (x : Int), .int .i64 (y : Int)] 52)).keep n3
        have hcx3 := hown3.cell1 x m _ HME.out rfl
        have hfx3 := hown3.free x
        have hb3 := hbp.keep n3
        have hN3 := (hN.alloc (.cells #[.int .i64 (x : Int), .int .i64 (y : Int)] 52)).trans n3
        have hlt3 := Nat.lt_of_lt_of_le hlt2 (hn2of n3).size
        have hne : wr.heap.size ≠ g := by omega
        have hown4 := hown3.set1 x (m ||| 2 ^ y) (.int .u64 ((m ||| 2 ^ y : Nat) : Int)) hxs rfl
        rw [← HMS.out] at hown4
        have hb4 := hb3.far (p := ⟨g, x, none⟩) hne (.int .u64 ((m ||| 2 ^ y : Nat) : Int))
        have hN4 := hN3.setCell (p := ⟨g, x, none⟩) hgb (.int .u64 ((m ||| 2 ^ y : Nat) : Int))
        have hlt4 : g < (w3.setCell ⟨g, x, none⟩ (.int .u64 ((m ||| 2 ^ y : Nat) : Int))).heap.size := by simpa [World.setCell] using hlt3
        clear hown hown3 hcx hfx hb3 hN3 hbp n3 HMS HME HOR
        go_wp2
        generalize w3.setCell ⟨g, x, none⟩ (.int .u64 ((m ||| 2 ^ y : Nat) : Int)) = w4 at *
        clear hcx3 hfx3 hlt3
        have HFS2 := Lib.hid (show maskStep ms ((x : Int), (y : Int)) = orAt (orAt ms x y) y x by simp [maskStep])
        generalize orAt ms x y = ms2 at *
        have hml2 := Lib.hid hown4.len
        obtain ⟨m2, hm2⟩ : ∃ m, ms2.getD y 0 = m := ⟨_, rfl⟩
        have hme2 : ms2[y]? = some m2 := by rw [← hm2, List.getD_eq_getElem?_getD, List.getElem?_eq_getElem (by rw [hml2.out]; omega)]; rfl
        have hm2256 := HM2.out m2 (List.mem_of_getElem? hme2)
        have hcy := hown4.cell1 y m2 _ hme2 rfl
        have hfy := hown4.free y
        have HOR2 := Lib.hid (or_mask (y := x) hm2256 hx8)
        have HMS2 := Lib.hid (show orAt ms2 y x = ms2.set y (m2 ||| 2 ^ x) by unfold orAt; rw [hm2])
        have HM3 := Lib.hid (orAt_lt (a := y) (b := x) HM2.out hx8)
        have HME2 := Lib.hid hme2
        clear hme2 hm2
        have q0 : w4.cell? _ = some _ := hb4.cell 0
        have q1 : w4.cell? _ = some _ := hb4.cell 1
        have hlt5 := hb4.lt
        (refine wp_region_tail 10 (by kernel_rfl) (by kernel_rfl) ?_; simp only [List.take_succ_cons, List.take_zero, List.drop_succ_cons, List.drop_zero]; (repeat (go_big_quiet_step ((fail)))); refine wpQuiet_nil ?_)
        intro w5 n5
        rw [HOR2.out]
        have hown5 := hown4.keep n5
        have hcy5 := hown5.cell1 y m2 _ HME2.out rfl
        have hfy5 := hown5.free y
        have hlt6 := Nat.lt_of_lt_of_le hlt4 n5.size
        go_wp2
        go_roundw
        case rel => exact ⟨k + 1, by omega, by go_num, by rw [HFS.out, HFS2.out, HMS2.out]; exact hown5.set1 y (m2 ||| 2 ^ x) _ hys rfl, Lib.hid (by rw [HFS.out, HFS2.out]; exact HM3.out), (hN4.trans n5).setCell hgb _, by simpa [World.setCell] using hlt6⟩
        case measure => simp [intOf]; omega
      · go_wp2
        go_ret2
        refine ⟨hN, .inr ⟨HZ.out, _, rfl, ?_⟩⟩
        rw [foldTo_all _ _ _ _ (by rw [HL.out]; omega)] at hown
        exact hown
  · have b1 : ((netS st ps).2 != 0) = true := by simpa using hz
    have HZ := Lib.hid hz
    clear hz
    go_enter Try.func102, Try.ntmps102
    go_wp2_with fail
    refine (checkNet_any st A n cap ps _ hn hcap (HR.out.keep ((New.refl _).alloc _))).mono ?_
    rintro e w1 ⟨rfl, n1⟩
    go_wp2
    go_ret2
    exact ⟨hn2of n1, .inl ⟨HZ.out, rfl⟩⟩
end Go.Proofs.Ytjpkcmlepjbamaa
