/- Contracts: the order of lists (cmp.Compare, slices.Compare, Before); groups of the program.
   Contracts: groups of the program: a search whose closure is asked of the slice's own numbers; group; GroupOf.
   Contract: CheckPlan.
   Contracts: timeErr, offset, common.
   Contracts: offsets, OffsetAt, TrueAt, OffsetBy.
   Contracts: OffsetAt, TrueAt, OffsetBy.
   Contracts: runs and differences of the program.
   Contracts: differences of the program.
   Contract: Packed.
   Contracts: CheckOf, Exchanges, Net, awake.
   Contracts: base's Within, Mod, IsTick, Floor, Ceil, Size.
   Contracts: the reference of clocks.
   The examples of chapter 9 in the laws through the layers. -/
import Derived.BigQuiet
import Derived.Deep.AppendLies
import Derived.Deep.Draws
import Derived.Deep.Quiet
import Derived.Deep.QuietTactic
import Derived.Lib.Hide
import Derived.StillTail
import Derived.Test.YtifppmbolpegpaaProg
import Derived.WalkKit
import Derived.WalkLawsBesides
import Derived.WalkSpells
import Derived.Test.YtifppmbolpegpaaC15A
import Derived.Test.YtifppmbolpegpaaC15H

namespace Go.Proofs.Ytifppmbolpegpaa
open Go.RowKit Go.Sky

theorem bit_and_nat (a b : Nat) (ha : a < 9223372036854775808) (hb : b < 9223372036854775808) : bits .and .i64 (a : Int) (b : Int) = ((a &&& b : Nat) : Int) := by
  have hx : a &&& b ≤ a := Nat.and_le_left
  show IntKind.i64.wrap ((BitVec.ofInt 64 (a : Int) &&& BitVec.ofInt 64 (b : Int)).toNat : Int) = _
  rw [BitVec.toNat_and, ofInt_i64 a ha, ofInt_i64 b hb, IntKind.wrap_i64]
  omega
theorem bit_one {p k : Nat} (hp : p < 65536) : (bits .and .i64 ((p : Int) / 2 ^ k) 1 == 1) = p.testBit k := by
  have hdiv : (p : Int) / 2 ^ k = ((p / 2 ^ k : Nat) : Int) := by simp
  have hle : p / 2 ^ k ≤ p := Nat.div_le_self _ _
  rw [hdiv, Nat.testBit_eq_decide_div_mod_eq]
  generalize p / 2 ^ k = q at *
  have e := bit_and_nat q 1 (by omega) (by omega)
  rw [Nat.and_one_is_mod] at e
  rw [show ((1 : Nat) : Int) = 1 from rfl] at e
  rw [e]
  rw [Bool.eq_iff_iff]
  simp
  omega
theorem bit_zero {p k : Nat} (hp : p < 65536) : (bits .and .i64 ((p : Int) / 2 ^ k) 1 == 0) = !p.testBit k := by
  have hdiv : (p : Int) / 2 ^ k = ((p / 2 ^ k : Nat) : Int) := by simp
  have hle : p / 2 ^ k ≤ p := Nat.div_le_self _ _
  rw [hdiv, Nat.testBit_eq_decide_div_mod_eq]
  generalize p / 2 ^ k = q at *
  have e := bit_and_nat q 1 (by omega) (by omega)
  rw [Nat.and_one_is_mod] at e
  rw [show ((1 : Nat) : Int) = 1 from rfl] at e
  rw [e]
  rw [Bool.eq_iff_iff]
  simp
  omega

theorem isNaN_any (a : Int) (w : World) : Calls Try.prog 87 #[.int .i64 a] w fun e w' => e = .returned (.bool false) ∧ w = w' := by
  have d : (a != a) = false := by simp
  go_enter Try.func87, Try.ntmps87
  go_wp2
  go_ret
  exact ⟨rfl, rfl⟩

set_option maxHeartbeats 400000 in
theorem cmpI_any (a b : Int) (w : World) : Calls Try.prog 52 #[.int .i64 a, .int .i64 b] w fun e w' => e = .returned (.int .i64 (cmpI a b)) ∧ w = w' := by
  by_cases h1 : a < b
  · have HV := Lib.hid (show cmpI a b = -1 by unfold cmpI; rw [if_pos h1])
    go_enter Try.func52, Try.ntmps52
    go_wp2_with (go_at_call 87; refine (isNaN_any _ _).mono ?_; rintro e w' ⟨rfl, rfl⟩)
    go_ret
    exact ⟨by rw [HV.out]; rfl, rfl⟩
  · by_cases h2 : b < a
    · have HV := Lib.hid (show cmpI a b = 1 by unfold cmpI; rw [if_neg h1, if_pos h2])
      go_enter Try.func52, Try.ntmps52
      go_wp2_with (go_at_call 87; refine (isNaN_any _ _).mono ?_; rintro e w' ⟨rfl, rfl⟩)
      go_ret
      exact ⟨by rw [HV.out]; rfl, rfl⟩
    · have HV := Lib.hid (show cmpI a b = 0 by unfold cmpI; rw [if_neg h1, if_neg h2])
      go_enter Try.func52, Try.ntmps52
      go_wp2_with (go_at_call 87; refine (isNaN_any _ _).mono ?_; rintro e w' ⟨rfl, rfl⟩)
      go_ret
      exact ⟨by rw [HV.out]; rfl, rfl⟩

end Go.Proofs.Ytifppmbolpegpaa

namespace Go.Proofs.Ytifppmbolpegpaa
open Go.RowKit Go.Sky

set_option maxRecDepth 100000 in
set_option maxHeartbeats 400000 in
theorem idxFuncM (g : Nat) (cb : Array Value) (p : Int → Bool) (A : Option Addr) (n cap : Nat) (xs : List Int) (w : World) (hn : n ≤ 1000000) (hr : Rd w 1 encI A n xs) (eg : ∀ (args : Array Value) (W : World), (callFunc g args).run Try.prog W = .ok (.enter g args) W)
    (hp : ∀ x, x ∈ xs → ∀ W, New w W → Calls Try.prog g (#[.int .i64 x] ++ cb) W fun e w' => e = .returned (.bool (p x)) ∧ New W w') :
    Calls Try.prog 69 #[.slice A n cap, .func (.func g) #[] cb] w fun e w' => e = .returned (.int .i64 (idxS p xs)) ∧ New w w' := by
  have HR := Lib.hid hr; clear hr
  have HP := Lib.hid hp; clear hp
  go_enter Try.func69, Try.ntmps69
  go_wp2
  go_loopw [5, 8] (fun _ i wr => ∃ k : Nat, k ≤ n ∧ i = .int .i64 k ∧ Hid (∀ j x, j < k → xs[j]? = some x → p x = false) ∧ New w wr) (fun _ i _ => n - (intOf i).toNat)
  case atStart => exact ⟨0, by omega, rfl, (fun j x hj => absurd hj (by omega)), New.refl _⟩
  case round =>
    obtain ⟨k, hk, rfl, HF, hN⟩ := hrel
    by_cases hlt : k < n
    · obtain ⟨b, o, x, rfl, hb, hx, hc⟩ := (HR.out.keep hN).at_ hlt
      have g0 := hc 0 _ rfl
      simp only [Nat.add_zero, Nat.mul_one] at g0
      have HX := Lib.hid hx
      clear hx hc
      obtain ⟨q, hq⟩ : ∃ q, p x = q := ⟨_, rfl⟩
      have HQ := Lib.hid hq
      cases q
      all_goals
        go_wp2_with fail
        refine (HP.out x (List.mem_of_getElem? HX.out) _ hN).mono ?_
        rintro e w1 ⟨he, hn1⟩
        rw [HQ.out] at he
        subst he
        clear hq
      · go_wp2
        go_roundw
        case rel => exact ⟨k + 1, by omega, by go_num, fun j y hj hy => by
          rcases Nat.lt_or_ge j k with h | h
          · exact HF.out j y h hy
          · obtain rfl : j = k := by omega
            have hxy := HX.out
            rw [hy] at hxy
            injection hxy with hxy
            rw [hxy]
            exact HQ.out, hN.trans hn1⟩
        case measure => simp [intOf]; omega
      · go_wp2
        go_ret
        exact ⟨by rw [idxS_hit p xs k x HX.out HQ.out HF.out]; rfl, hN.trans hn1⟩
    · go_wp2
      go_ret
      exact ⟨by rw [idxS_miss p xs n HR.out.len (fun j y hj hy => HF.out j y (by omega) hy)]; rfl, hN⟩

set_option maxRecDepth 100000 in
set_option maxHeartbeats 400000 in
theorem containsFuncM (g : Nat) (cb : Array Value) (p : Int → Bool) (A : Option Addr) (n cap : Nat) (xs : List Int) (w : World) (hn : n ≤ 1000000) (hr : Rd w 1 encI A n xs) (eg : ∀ (args : Array Value) (W : World), (callFunc g args).run Try.prog W = .ok (.enter g args) W)
    (hp : ∀ x, x ∈ xs → ∀ W, New w W → Calls Try.prog g (#[.int .i64 x] ++ cb) W fun e w' => e = .returned (.bool (p x)) ∧ New W w') :
    Calls Try.prog 63 #[.slice A n cap, .func (.func g) #[] cb] w fun e w' => e = .returned (.bool (xs.any p)) ∧ New w w' := by
  have HR := Lib.hid hr; clear hr
  have HP := Lib.hid hp; clear hp
  have HG := Lib.hid eg; clear eg
  have HA := Lib.hid (idxS_any p xs)
  go_enter Try.func63, Try.ntmps63
  go_wp2_with (go_at_call 69; refine (idxFuncM g cb p A n cap xs _ hn HR.out HG.out HP.out).mono ?_; rintro e w1 ⟨rfl, hn1⟩)
  go_ret
  exact ⟨by rw [← HA.out]; rfl, hn1⟩

theorem grp_stay {ms : List Nat} {set k : Nat} (h : grpTo ms set k = none) : ∀ d, grpTo ms set (k + d) = none
  | 0 => h
  | d + 1 => by rw [← Nat.add_assoc]; exact grp_none (grp_stay h d)
theorem grpS_none {ms : List Nat} {set k s : Nat} (h : grpTo ms set k = none) (hk : k ≤ s) : grpS ms set s = [] := by
  obtain ⟨d, rfl⟩ := Nat.exists_eq_add_of_le hk
  unfold grpS
  rw [grp_stay h d]
  rfl
theorem grp_lt {ms : List Nat} {set i : Nat} {out : List Int} (h : grpTo ms set i = some out) : ∀ x ∈ out, 0 ≤ x ∧ x < (i : Int) := by
  rcases grp_mem ms set i with ⟨_, h2⟩ | ⟨_, h2⟩
  · rw [h2] at h; injection h with h; rw [← h]; exact memTo_lt set i
  · rw [h2] at h; cases h
theorem grp_len {ms : List Nat} {set i : Nat} {out : List Int} (h : grpTo ms set i = some out) : out.length ≤ i := by
  rcases grp_mem ms set i with ⟨_, h2⟩ | ⟨_, h2⟩
  · rw [h2] at h; injection h with h; rw [← h]; exact memTo_len set i
  · rw [h2] at h; cases h
theorem grpS_len (ms : List Nat) (set s : Nat) : (grpS ms set s).length ≤ s := by
  unfold grpS
  cases h : grpTo ms set s with
  | none => simp
  | some out => exact grp_len h

theorem better_of {l b : List Int} {m2 m : Nat} (hl : l.length = m2) (hb : b.length = m) : better l b = (decide (m < m2) || (decide (m2 = m) && decide (lexC l b < 0))) := by
  unfold better; rw [hl, hb]
theorem best_take {ms : List Nat} {s N m2 m : Nat} (hl : (grpS ms N s).length = m2) (hb : (bestTo ms s N).length = m) (h : m < m2 ∨ (m2 = m ∧ lexC (grpS ms N s) (bestTo ms s N) < 0)) : bestTo ms s (N + 1) = grpS ms N s := by
  rw [best_succ, better_of hl hb, if_pos]
  rcases h with h | ⟨h1, h2⟩
  · simp [h]
  · simp [h1, h2]
theorem best_keep {ms : List Nat} {s N m2 m : Nat} (hl : (grpS ms N s).length = m2) (hb : (bestTo ms s N).length = m) (h : ¬ m < m2) (h' : m2 = m → ¬ lexC (grpS ms N s) (bestTo ms s N) < 0) : bestTo ms s (N + 1) = bestTo ms s N := by
  rw [best_succ, better_of hl hb, if_neg]
  by_cases h2 : m2 = m
  · have := h' h2
    simp [h, h2, this]
  · simp [h, h2]

end Go.Proofs.Ytifppmbolpegpaa

namespace Go.Proofs.Ytifppmbolpegpaa
open Go.RowKit Go.Sky

theorem idxZ_S {α : Type} (p : α → Bool) (xs : List α) : idxZ p xs = idxS p xs := rfl

/-- What CheckPlan answers: the net's error, or the plan's. -/
def chkF (st : Int) (ps : List (Int × Int)) (sl : List Int) : Int × Int := if (netS st ps).2 ≠ 0 then (0, (netS st ps).2) else chkS st ps sl

end Go.Proofs.Ytifppmbolpegpaa

namespace Go.Proofs.Ytifppmbolpegpaa
open Go.RowKit Go.Sky

def encR (r : Int × Int) : List Value := [.int .i64 r.1, .int .i64 r.2]
def encX (x : Exch) : List Value := [.int .i64 x.s, .int .i64 x.t, .int .i64 x.r]

set_option maxHeartbeats 400000 in
theorem timeErr_any (d t : Int) (w : World) : Calls Try.prog 100 #[.int .i64 d, .int .i64 t] w fun e w' => e = .returned (.int .i64 (timeE d t)) ∧ New w w' := by
  go_enter Try.func100, Try.ntmps100
  go_wp2_with (first
    | (go_at_call 106; refine (within_any _ _ _ _).mono ?_; rintro e w' ⟨rfl, rfl⟩)
    | (go_at_call 82; refine (isTick_any _ _).mono ?_; rintro e w' ⟨rfl, rfl⟩)
    | (go_at_call 80; refine (unless_any _ _ _).mono ?_; rintro e w' ⟨rfl, rfl⟩)
    | (go_at_call 45; refine (first_any _ 2 2 [_, _] _ (by omega) rfl (cells_new _ _ _ _ (by simp) _ rfl)).mono ?_; rintro e w' ⟨rfl, rfl⟩))
  go_ret
  exact ⟨rfl, (New.refl _).alloc _⟩

set_option maxHeartbeats 1000000 in
theorem offset_any (s t r d m : Int) (w : World) (hs : 0 ≤ s) (hsr : s ≤ r) (hr1 : r ≤ 1000000000000) (ht : 0 ≤ t) (ht1 : t ≤ 1000000000000) (hd : 0 ≤ d) (hd1 : d ≤ 1000) (hm : 0 ≤ m) (hm1 : m ≤ 1000000000000) :
    Calls Try.prog 101 #[.agg #[.int .i64 s, .int .i64 t, .int .i64 r], .int .i64 d, .int .i64 m] w fun e w' =>
      e = .returned (.agg #[.int .i64 (offBy ⟨s, t, r⟩ d m).1, .int .i64 (offBy ⟨s, t, r⟩ d m).2]) ∧ New w w' := by
  obtain ⟨z, hz⟩ : ∃ z, z = max3 (s - m) (m - r) := ⟨_, rfl⟩
  have hz0 : 0 ≤ z := by rw [hz]; unfold max3; omega
  have hz1 : z ≤ 1000000000000 := by rw [hz]; unfold max3; omega
  have hp0 : 0 ≤ d * z := Int.mul_nonneg hd hz0
  have hp1 : d * z ≤ 1000 * 1000000000000 := Int.mul_le_mul hd1 hz1 hz0 (by omega)
  have hu0 : 0 ≤ upS (d * z) 1000 := by unfold upS; omega
  have hu1 : upS (d * z) 1000 ≤ 2000000000000 := by unfold upS; omega
  have hfin : offBy ⟨s, t, r⟩ d m = (t - r - upS (d * z) 1000, t - s + upS (d * z) 1000) := by rw [hz]; rfl
  have HF := Lib.hid hfin; clear hfin
  obtain ⟨hc1, hc2, h0⟩ | ⟨hc1, hc2, h0⟩ | ⟨hc1, hc2, h0⟩ : (m < s ∧ m ≤ r ∧ z = s - m) ∨ (s ≤ m ∧ m ≤ r ∧ z = 0) ∨ (s ≤ m ∧ r < m ∧ z = m - r) := by
    rw [hz]; unfold max3; omega
  all_goals
    clear hz
    have HZ := Lib.hid h0
    rw [h0] at hp0 hp1 hu0 hu1
    clear h0
    have q0 : 0 ≤ upS 0 1000 := by decide
    have q1 : upS 0 1000 ≤ 0 := by decide
    go_enter Try.func101, Try.ntmps101
    go_wp2_with (go_at_call 123; refine (up_any _ _ _ (by omega) (by omega) (by omega) (by omega)).mono ?_; rintro e w' ⟨rfl, rfl⟩)
    exact bodyPost_ret (v := .agg #[.int .i64 (offBy ⟨s, t, r⟩ d m).1, .int .i64 (offBy ⟨s, t, r⟩ d m).2]) (by rw [HF.out, HZ.out]; simp [results, Try.results101, go_sem]) rfl ⟨rfl, ((New.refl _).alloc _).alloc _⟩

set_option maxHeartbeats 1000000 in
theorem common_any (A : Option Addr) (n cap : Nat) (xs : List (Int × Int)) (w : World) (hn : 0 < n) (hn2 : n ≤ 1000) (hr : Rd w 2 encR A n xs) :
    Calls Try.prog 72 #[.slice A n cap] w fun e w' => e = .returned (.tuple #[.agg #[.int .i64 (comS xs).1, .int .i64 (comS xs).2], .bool (decide ((comS xs).1 ≤ (comS xs).2))]) ∧ New w w' := by
  obtain ⟨b, o, rfl, hb, hc⟩ := hr.some_ hn
  have HL := Lib.hid hr.len; clear hr
  obtain ⟨x0, hx0⟩ : ∃ x, xs[0]? = some x := ⟨_, List.getElem?_eq_getElem (by rw [HL.out]; omega)⟩
  have h00 := hc 0 x0 hx0 0 _ rfl
  have h01 := hc 0 x0 hx0 1 _ rfl
  simp at h00 h01
  have HX0 := Lib.hid (show xs.headD (0, 0) = x0 by cases xs with | nil => simp at hx0 | cons y ys => simpa using hx0)
  clear hx0
  have HC := Lib.hid hc; clear hc
  go_enter Try.func72, Try.ntmps72
  go_wp2
  go_loopw [12] (fun i wr => ∃ k : Nat, ∃ c : Int × Int, k ≤ n ∧ i = .int .i64 k ∧ Hid (c = foldTo rCut x0 xs k) ∧ Bx wr w.heap.size 84 #[.int .i64 0, .int .i64 0] ∧ Bx wr (w.heap.size + 1) 84 #[.int .i64 c.1, .int .i64 c.2] ∧ New w wr)
    (fun i _ => n - (intOf i).toNat)
  case atStart => exact ⟨0, x0, by omega, rfl, rfl, (Bx.mk _ _ _).alloc _, Bx.mk_at _ _ _ _ (by simp), ((New.refl _).alloc _).alloc _⟩
  case round =>
    obtain ⟨k, c, hk, rfl, HF, hz, hy, hN⟩ := hrel
    have c0 : wr.cell? _ = some _ := hy.cell 0
    have c1 : wr.cell? _ = some _ := hy.cell 1
    have f0 := hy.free 0
    have f1 := hy.free 1
    have hsz := hy.lt
    by_cases hlt : k < n
    · obtain ⟨x, hx⟩ : ∃ x, xs[k]? = some x := ⟨_, List.getElem?_eq_getElem (by rw [HL.out]; omega)⟩
      have g0 := hN.cell (HC.out k x hx 0 _ rfl)
      have g1 := hN.cell (HC.out k x hx 1 _ rfl)
      have HS := Lib.hid (foldTo_step rCut x0 xs k x hx)
      simp only [Nat.add_zero] at g0
      clear hx
      go_wp2
      all_goals
        go_roundw
        case rel => exact ⟨k + 1, rCut c x, by omega, by go_num, by rw [HS.out, ← HF.out]; rfl, ((hz.far (p := ⟨_, _, _⟩) (by simp) _).far (p := ⟨_, _, _⟩) (by simp) _).alloc _, by
          have e1 : max c.1 x.1 = if c.1 < x.1 then x.1 else c.1 := by omega
          have e2 : min c.2 x.2 = if x.2 < c.2 then x.2 else c.2 := by omega
          simp only [rCut, e1, e2]
          exact ((hy.set 0 _).set 1 _).alloc _, (((hN.setCell (by simp) _).setCell (by simp) _).alloc _)⟩
        case measure => simp [intOf]; omega
    · have y0 : wr.cell? _ = some _ := hz.cell 0
      have y1 : wr.cell? _ = some _ := hz.cell 1
      have yf0 := hz.free 0
      have yf1 := hz.free 1
      have HE := Lib.hid (show c = comS xs by rw [HF.out, foldTo_all _ _ _ _ (by rw [HL.out]; omega)]; unfold comS; rw [HX0.out])
      go_wp2
      go_region
      all_goals
        go_wp2
        exact bodyPost_ret (v := .tuple #[.agg #[.int .i64 c.1, .int .i64 c.2], .bool (decide (c.1 ≤ c.2))]) (by simp [results, Try.results72, go_sem, y0, y1]) rfl ⟨by rw [HE.out], (((hN.setCell (by simp) _).setCell (by simp) _).drew)⟩
end Go.Proofs.Ytifppmbolpegpaa

namespace Go.Proofs.Ytifppmbolpegpaa
open Go.RowKit Go.Sky

theorem infoRange : (Try.prog.info? 84).map (fun i => (i.zero, i.size, i.bytes)) = some (some (.agg #[.int .i64 0, .int .i64 0]), 2, 16) := by kernel_rfl
theorem encR_len (x : Int × Int) : (encR x).length = 2 := rfl
theorem encR_one (x : Int × Int) : ∀ u ∈ encR x, u.oneCell' = true := by intro u hu; simp [encR] at hu; rcases hu with rfl | rfl <;> rfl

def OffsPost (w : World) (xs : List Exch) (d t : Int) (e : Ending) (w' : World) : Prop :=
  New w w' ∧ ((offsErr xs d t ≠ 0 ∧ e = .returned (.tuple #[.slice none 0 0, .int .i64 (offsErr xs d t)])) ∨
    (offsErr xs d t = 0 ∧ ∃ A cap, e = .returned (.tuple #[.slice A xs.length cap, .int .i64 0]) ∧ Own w' w.heap.size 84 2 encR A xs.length cap (xs.map (offBy · d t))))

set_option maxHeartbeats 1000000 in
theorem offsets_any (A : Option Addr) (n cap : Nat) (xs : List Exch) (d t : Int) (w : World) (hn : n ≤ 1000) (hr : Rd w 3 encX A n xs) :
    Calls Try.prog 71 #[.slice A n cap, .int .i64 d, .int .i64 t] w (OffsPost w xs d t) := by
  obtain ⟨i0, hi, hz0, hz1, hz2⟩ := info_parts infoRange
  have HL := Lib.hid hr.len
  have HR := Lib.hid hr; clear hr
  obtain ⟨E0, hE0⟩ : ∃ E, E = firstE [errU (decide (0 < n)) 10, errU (decide ((n : Int) ≤ 20)) 8] := ⟨_, rfl⟩
  have HE := Lib.hid hE0; clear hE0
  go_enter Try.func71, Try.ntmps71
  go_wp2_with (first
    | (go_at_call 80; refine (unless_any _ _ _).mono ?_; rintro e w' ⟨rfl, rfl⟩)
    | (go_at_call 45; refine (first_any _ 2 2 [_, _] _ (by omega) rfl (cells_new _ _ _ _ (by simp) _ rfl)).mono ?_; rintro e w' ⟨rfl, rfl⟩))
  rw [← HE.out]
  go_loopw [8, 9] (fun e i wr => ∃ (k : Nat) (ev : Int), k ≤ n ∧ i = .int .i64 k ∧ e = .int .i64 ev ∧ Hid (ev = if E0 = 0 then exsErr (xs.take k) else E0) ∧ New w wr) (fun _ i _ => n - (intOf i).toNat)
  case atStart => exact ⟨0, E0, by omega, rfl, rfl, (show E0 = _ by by_cases h : E0 = 0 <;> simp [h, exsErr]), (New.refl _).alloc _⟩
  case round =>
    obtain ⟨k, ev, hk, rfl, rfl, HF, hN⟩ := hrel
    by_cases hgo : k < n ∧ ev = 0
    · obtain ⟨hlt, hev⟩ := hgo
      have d1 : decide ((k : Int) < (n : Int)) = true := by simpa using hlt
      have d2 : (ev == 0) = true := by simpa using hev
      have HV := Lib.hid hev; clear hev
      obtain ⟨b, o, x, rfl, hb, hx, hc⟩ := (HR.out.keep hN).at_ hlt
      have g0 := hc 0 _ rfl
      have g1 := hc 1 _ rfl
      have g2 := hc 2 _ rfl
      simp only [Nat.add_zero] at g0
      have HX := Lib.hid hx
      clear hx hc
      go_wp2_with (go_at_call 99; refine (checkEx_any x _).mono ?_; rintro e w' ⟨rfl, hn1⟩)
      go_roundw
      case rel =>
        refine ⟨k + 1, exErr x, by omega, by go_num, rfl, ?_, hN.trans hn1⟩
        show exErr x = _
        have h1 := HF.out
        rw [HV.out] at h1
        by_cases h : E0 = 0
        · rw [if_pos h] at h1 ⊢
          rw [exsErr_take xs k x HX.out h1.symm]
        · rw [if_neg h] at h1; exact absurd h1.symm h
      case measure => simp [intOf]; omega
    · have HEX := Lib.hid (show ev = offE1 xs by
        have h1 := HF.out
        unfold offE1
        rw [firstE_three, HL.out, ← HE.out]
        by_cases h : E0 = 0
        · rw [if_pos h] at h1 ⊢
          rw [h1]
          by_cases hv : ev = 0
          · rw [List.take_of_length_le (by rw [HL.out]; omega)]
          · rw [← exsErr_stop xs k (by rw [← h1]; exact hv)]
        · rw [if_neg h] at h1 ⊢
          exact h1)
      clear HF
      obtain ⟨hlt, d2⟩ | hlt : (k < n ∧ (ev == 0) = false) ∨ ¬ k < n := by
        by_cases h : k < n
        · left; exact ⟨h, by simp; omega⟩
        · exact .inr h
      all_goals
        clear hgo
        have d1 : decide ((k : Int) < (n : Int)) = decide (k < n) := by simp
        simp only [hlt, decide_true, decide_false] at d1
        by_cases hoff : offsErr xs d t = 0
        · have HO := Lib.hid hoff
          have b1 : (firstE [ev, timeE d t] != 0) = false := by rw [HEX.out]; simpa [offsErr] using hoff
          clear hoff
          go_wp2_with (first
            | (go_at_call 100; refine (timeErr_any _ _ _).mono ?_; rintro e w1 ⟨rfl, hn1⟩)
            | (go_at_call 45; refine (first_any _ 2 2 [_, _] _ (by omega) rfl (cells_new _ _ _ _ (by simp) _ rfl)).mono ?_; rintro e w' ⟨rfl, rfl⟩))
          have hz0e : exsErr xs = 0 ∧ timeE d t = 0 ∧ n ≤ 20 := offsErr_zero HL.out HO.out
          obtain ⟨ht1, ht2, ht3, ht4⟩ := timeE_zero hz0e.2.1
          have hn20 := hz0e.2.2
          have HXS := Lib.hid hz0e.1
          clear hz0e
          have hN2 := hN.trans hn1
          clear hn1
          go_loopw [10, 49] (fun v i wq => ∃ (j : Nat) (A' : Option Addr) (cap' : Nat), j ≤ n ∧ i = .int .i64 j ∧ v = .slice A' j cap' ∧ Own wq w.heap.size 84 2 encR A' j cap' ((xs.map (offBy · d t)).take j) ∧ New w wq) (fun _ i _ => n - (intOf i).toNat)
          case atStart => exact ⟨0, none, 0, by omega, rfl, rfl, Own.nil _ _ _ _ encR_len, hN2.alloc _⟩
          case round =>
            obtain ⟨j, A', cap', hj, rfl, rfl, hown, hNq⟩ := hrel
            by_cases hjn : j < n
            · obtain ⟨b, o, x, rfl, hb, hx, hc⟩ := (HR.out.keep hNq).at_ hjn
              have g0 := hc 0 _ rfl
              have g1 := hc 1 _ rfl
              have g2 := hc 2 _ rfl
              simp only [Nat.add_zero] at g0
              obtain ⟨e1, e2, e3, e4, e5⟩ := exErr_zero (exsErr_zero HXS.out x (List.mem_of_getElem? hx))
              have HX := Lib.hid hx
              clear hx hc
              go_wp2_with (first
                | (go_at_call 101; refine (offset_any x.s x.t x.r d t _ (by omega) (by omega) (by omega) (by omega) (by omega) (by omega) (by omega) (by omega) (by omega)).mono ?_; rintro e w2 ⟨rfl, hn2⟩)
                | (at_builtin; refine wpList_push _ rfl _ _ 130 rfl 84 i0 _ 2 16 Try.underlying130 hi hz0 hz1 hz2 rfl (by omega) w.heap.size encR A' j cap' _ rfl (by exact (hown.keep (hn2of hn2)).alloc _) _ 1 1 [offBy x d t] rfl rfl (by omega) (by exact cells_new _ _ _ _ (by simp) _ rfl) encR_one (by unfold maxLen; omega) (by omega) (by have := hNq.size; have := hn2.size; simp at this; simp; omega) ?_; intro g cap2 w3 hown3 hg3 hat3 hb3 hlt3 hN3))
              exact ⟨⟨j + 1, _, cap2, by omega, by go_num, rfl, by rw [take_map_succ _ xs j x HX.out]; exact hown3, hN3 _ ((hNq.trans (hn2of hn2)).alloc _) (Nat.le_refl _)⟩, by simp [intOf]; omega⟩
            · obtain rfl : n = j := by omega
              go_wp2
              go_ret2
              refine ⟨hNq, .inr ⟨HO.out, A', cap', by rw [HL.out]; rfl, ?_⟩⟩
              rw [HL.out]
              rw [take_all_map _ _ _ (by rw [HL.out]; exact Nat.le_refl _)] at hown
              exact hown
        · have HO := Lib.hid hoff
          have b1 : (firstE [ev, timeE d t] != 0) = true := by rw [HEX.out]; simpa [offsErr] using hoff
          clear hoff
          go_wp2_with (first
            | (go_at_call 100; refine (timeErr_any _ _ _).mono ?_; rintro e w1 ⟨rfl, hn1⟩)
            | (go_at_call 45; refine (first_any _ 2 2 [_, _] _ (by omega) rfl (cells_new _ _ _ _ (by simp) _ rfl)).mono ?_; rintro e w' ⟨rfl, rfl⟩))
          go_ret2
          exact ⟨(hN.trans hn1).alloc _, .inl ⟨HO.out, by unfold offsErr; rw [← HEX.out]; rfl⟩⟩

end Go.Proofs.Ytifppmbolpegpaa

namespace Go.Proofs.Ytifppmbolpegpaa
open Go.RowKit Go.Sky

theorem offAt_err {xs : List Exch} {d t : Int} (h : offsErr xs d t ≠ 0) : offAtS xs d t = ((0, 0), offsErr xs d t) := by unfold offAtS; rw [if_neg h]
theorem offAt_clash {xs : List Exch} {d t : Int} (h : offsErr xs d t = 0) (h2 : ¬ (comS (xs.map (offBy · d t))).1 ≤ (comS (xs.map (offBy · d t))).2) : offAtS xs d t = ((0, 0), 13) := by unfold offAtS; rw [if_pos h, if_neg h2]
theorem offAt_ok {xs : List Exch} {d t : Int} (h : offsErr xs d t = 0) (h2 : (comS (xs.map (offBy · d t))).1 ≤ (comS (xs.map (offBy · d t))).2) : offAtS xs d t = (comS (xs.map (offBy · d t)), 0) := by unfold offAtS; rw [if_pos h, if_pos h2]


set_option maxHeartbeats 1000000 in
theorem OffsetAt_any (A : Option Addr) (n cap : Nat) (xs : List Exch) (d t : Int) (w : World) (hn : n ≤ 1000) (hr : Rd w 3 encX A n xs) :
    Calls Try.prog 37 #[.slice A n cap, .int .i64 d, .int .i64 t] w fun e w' =>
      e = .returned (.tuple #[.agg #[.int .i64 (offAtS xs d t).1.1, .int .i64 (offAtS xs d t).1.2], .int .i64 (offAtS xs d t).2]) ∧ New w w' := by
  have HL := Lib.hid hr.len
  have HR := Lib.hid hr; clear hr
  go_enter Try.func37, Try.ntmps37
  go_wp2_with fail
  refine (offsets_any A n cap xs d t _ hn (HR.out.keep ((New.refl _).alloc _))).mono ?_
  rintro e w1 ⟨hn1, ⟨hE, rfl⟩ | ⟨hE, A1, cap1, rfl, hown⟩⟩
  · have HE := Lib.hid (offAt_err hE)
    have b1 : (offsErr xs d t != 0) = true := by simpa using hE
    clear hE
    have hb := (Bx.mk w 84 #[.int .i64 0, .int .i64 0]).keep hn1
    have c0 : w1.cell? _ = some _ := hb.cell 0
    have c1 : w1.cell? _ = some _ := hb.cell 1
    have f0 := hb.free 0
    have f1 := hb.free 1
    go_wp2
    rw [HE.out]
    exact bodyPost_ret (v := .tuple #[.agg #[.int .i64 0, .int .i64 0], .int .i64 (offsErr xs d t)]) (by simp [results, Try.results37, go_sem, c0, c1]) rfl ⟨rfl, ((hn2of hn1).setCell (by simp) _).setCell (by simp) _⟩
  · have b1 : (offsErr xs d t != 0) = false := by simpa using hE
    have h20 := (offsErr_zero HL.out hE).2.2
    have hpos := offsErr_pos HL.out hE
    have HE := Lib.hid hE
    clear hE
    have hl : (xs.map (offBy · d t)).length = xs.length := by simp
    have HD := Lib.hid hown.rd; clear hown
    have hb := (Bx.mk w 84 #[.int .i64 0, .int .i64 0]).keep hn1
    rw [HL.out] at HD ⊢
    obtain ⟨c, hc⟩ : ∃ c, comS (xs.map (offBy · d t)) = c := ⟨_, rfl⟩
    have HC := Lib.hid hc
    have hN := hn2of hn1
    by_cases hok : c.1 ≤ c.2
    · have HO := Lib.hid (offAt_ok HE.out (by rw [hc]; exact hok))
      have d1 := decide_eq_true hok
      clear hok hl hc
      go_wp2_with fail
      refine (common_any A1 n cap1 _ _ hpos hn HD.out).mono ?_
      rintro e w2 ⟨he, hn2⟩
      rw [HC.out, d1] at he
      subst he
      have hb2 := hb.keep hn2
      have c0 : w2.cell? _ = some _ := hb2.cell 0
      have c1 : w2.cell? _ = some _ := hb2.cell 1
      have f0 := hb2.free 0
      have f1 := hb2.free 1
      have hlt := hb2.lt
      clear hb hb2
      go_wp2
      rw [HO.out, HC.out]
      exact bodyPost_ret (v := .tuple #[.agg #[.int .i64 c.1, .int .i64 c.2], .int .i64 0]) (by simp [results, Try.results37, go_sem, c0, c1, hlt]) rfl ⟨rfl, (by repeat (first | exact New.refl _ | assumption | apply New.drew | apply New.alloc | (refine New.setCell ?_ (by simp; try omega) _) | (refine New.trans ?_ (by assumption))))⟩
    · have HO := Lib.hid (offAt_clash HE.out (by rw [hc]; exact hok))
      have d1 := decide_eq_false hok
      clear hok hl hc
      go_wp2_with fail
      refine (common_any A1 n cap1 _ _ hpos hn HD.out).mono ?_
      rintro e w2 ⟨he, hn2⟩
      rw [HC.out, d1] at he
      subst he
      have hb2 := hb.keep hn2
      have c0 : w2.cell? _ = some _ := hb2.cell 0
      have c1 : w2.cell? _ = some _ := hb2.cell 1
      have f0 := hb2.free 0
      have f1 := hb2.free 1
      have hlt := hb2.lt
      clear hb hb2
      go_wp2
      rw [HO.out]
      exact bodyPost_ret (v := .tuple #[.agg #[.int .i64 0, .int .i64 0], .int .i64 13]) (by simp [results, Try.results37, go_sem, c0, c1, hlt]) rfl ⟨rfl, (by repeat (first | exact New.refl _ | assumption | apply New.drew | apply New.alloc | (refine New.setCell ?_ (by simp; try omega) _) | (refine New.trans ?_ (by assumption))))⟩

theorem exE_one (x : Exch) (d t : Int) : firstE [exErr x, timeE d t] = if exErr x = 0 then timeE d t else exErr x := firstE_two _ _

end Go.Proofs.Ytifppmbolpegpaa

namespace Go.Proofs.Ytifppmbolpegpaa
open Go.RowKit Go.Sky

set_option maxRecDepth 100000 in
set_option maxHeartbeats 1000000 in
theorem runs_any (A : Option Addr) (n cap : Nat) (xs : List Int) (w : World) (hn : n ≤ 100000) (hr : Rd w 1 encI A n xs) :
    Calls Try.prog 75 #[.slice A n cap] w fun e w' => ∃ A' m' cap', e = .returned (.slice A' m' cap') ∧ Own w' w.heap.size 3 1 encI A' m' cap' (runsS xs) ∧ New w w' := by
  obtain ⟨i0, hi, hz0, hz1, hz2⟩ := info_parts infoInt
  have HL := Lib.hid hr.len
  have HR := Lib.hid hr; clear hr
  go_enter Try.func75, Try.ntmps75
  go_wp2
  go_loopw [3, 4, 5, 8] (fun v _ _ i wr => ∃ (k : Nat) (A' : Option Addr) (m cap' : Nat), k ≤ n ∧ i = .int .i64 k ∧ v = .slice A' m cap' ∧ m ≤ 2 * k ∧ Own wr w.heap.size 3 1 encI A' m cap' (runsTo xs k) ∧ New w wr) (fun _ _ _ i _ => n - (intOf i).toNat)
  case atStart => exact ⟨0, none, 0, 0, by omega, rfl, rfl, by omega, Own.nil _ _ _ _ encI_len, New.refl _⟩
  case round =>
    obtain ⟨k, A', m, cap', hk, rfl, rfl, hm, hown, hN⟩ := hrel
    by_cases hlt : k < n
    · obtain ⟨b, o, rfl, hb, hc⟩ := (HR.out.keep hN).some_ (by omega)
      obtain ⟨x, hx⟩ : ∃ x, xs[k]? = some x := ⟨_, List.getElem?_eq_getElem (by rw [HL.out]; omega)⟩
      have g0 := hc k x hx 0 _ rfl
      simp only [Nat.add_zero, Nat.mul_one] at g0
      have hxd := Lib.hid (show xs.getD k 0 = x by rw [List.getD_eq_getElem?_getD, hx]; rfl)
      by_cases hsame : 0 < k ∧ xs[k - 1]? = xs[k]?
      · have g1 := hc (k - 1) x (by rw [hsame.2, hx]) 0 _ rfl
        simp only [Nat.add_zero, Nat.mul_one] at g1
        have d2 : (x == x) = true := by simp
        have hk0 := hsame.1
        have HS := Lib.hid (show runsTo xs (k + 1) = bump (runsTo xs k) by simp only [runsTo]; rw [if_pos hsame])
        have hp := runsTo_pos xs k hsame.1
        have hla := runsTo_last xs k
        clear hsame hc hx
        have hml := hown.len
        rw [hml] at hp hla
        obtain ⟨q, hq⟩ : ∃ q, (runsTo xs k).getD (m - 1) 0 = q := ⟨_, rfl⟩
        rw [hq] at hla
        obtain ⟨hla0, hla1⟩ := hla
        have hqe : (runsTo xs k)[m - 1]? = some q := by
          rw [List.getD_eq_getElem?_getD, List.getElem?_eq_getElem (by omega)] at hq
          rw [List.getElem?_eq_getElem (by omega)]
          exact congrArg some hq
        rcases hown.form with ⟨_, h0, _⟩ | ⟨g, rfl, hg1, hg2, hg3, hg4⟩
        · omega
        · have c0 := hown.cell1 (m - 1) q _ hqe rfl
          have f0 := hown.free (m - 1)
          have HB := Lib.hid (show bump (runsTo xs k) = (runsTo xs k).set (m - 1) (q + 1) by unfold bump; rw [hml, hq])
          have l1 : (0 : Int) ≤ (m : Int) - 1 := by omega
          clear hq hqe hml
          go_wp2
          go_roundw
          case rel => exact ⟨k + 1, _, m, cap', by omega, by go_num, rfl, by omega, by rw [HS.out, HB.out]; exact hown.set1 (m - 1) (q + 1) _ (by omega) rfl, hN.setCell hg1 _⟩
          case measure => simp [intOf]; omega
      · have HS := Lib.hid (show runsTo xs (k + 1) = runsTo xs k ++ [x, 1] by simp only [runsTo]; rw [if_neg hsame, hxd.out])
        obtain ⟨hk0, y, g1, d2⟩ | hk0 : (0 < k ∧ ∃ y, wr.cell? ⟨b, o + (k - 1), none⟩ = some (.int .i64 y) ∧ (y == x) = false) ∨ ¬ 0 < k := by
          by_cases hk0 : 0 < k
          · left
            obtain ⟨y, hy⟩ : ∃ y, xs[k - 1]? = some y := ⟨_, List.getElem?_eq_getElem (by rw [HL.out]; omega)⟩
            have g1 := hc (k - 1) y hy 0 _ rfl
            simp only [Nat.add_zero, Nat.mul_one] at g1
            exact ⟨hk0, y, g1, by simp; intro e; subst e; exact hsame ⟨hk0, by rw [hy, hx]⟩⟩
          · exact .inr hk0
        all_goals
          clear hsame hc hx
          have d1 : decide ((0 : Int) < (k : Int)) = decide (0 < k) := by simp
          simp only [hk0, decide_true, decide_false] at d1
          go_wp2_with (at_builtin; refine wpList_push _ rfl _ _ 22 rfl 3 i0 _ 1 8 Try.underlying22 hi hz0 hz1 hz2 rfl (by omega) w.heap.size encI A' m cap' _ rfl (by exact hown.alloc _) _ 2 2 [x, 1] rfl rfl (by omega) (by exact cells_new _ _ _ _ (by simp) _ rfl) encI_one (by unfold maxLen; omega) (by omega) (by have := hN.size; simp; omega) ?_; intro g cap2 w3 hown3 hg3 hat3 hb3 hlt3 hN3)
          go_roundw
          case rel => exact ⟨k + 1, _, m + 2, cap2, by omega, by go_num, rfl, by omega, by rw [HS.out]; exact hown3, hN3 _ (hN.alloc _) (Nat.le_refl _)⟩
          case measure => simp [intOf]; omega
    · obtain rfl : n = k := by omega
      go_wp2
      go_ret
      exact ⟨A', m, cap', rfl, by unfold runsS; rw [HL.out]; exact hown, hN⟩
end Go.Proofs.Ytifppmbolpegpaa

namespace Go.Proofs.Ytifppmbolpegpaa
open Go.RowKit Go.Sky

theorem abs_getD (xs : List Int) (hb : ∀ x ∈ xs, -1000000000 ≤ x ∧ x ≤ 1000000000) (j : Nat) : -1000000000 ≤ xs.getD j 0 ∧ xs.getD j 0 ≤ 1000000000 := by
  rw [List.getD_eq_getElem?_getD]
  cases h : xs[j]? with
  | none => simp
  | some x => exact hb x (List.mem_of_getElem? h)

set_option maxRecDepth 100000 in
set_option maxHeartbeats 1000000 in
theorem differences_any (A : Option Addr) (n cap : Nat) (xs : List Int) (w : World) (hn : n ≤ 100000) (hr : Rd w 1 encI A n xs) (hbd : ∀ x ∈ xs, -1000000000 ≤ x ∧ x ≤ 1000000000) :
    Calls Try.prog 76 #[.slice A n cap] w fun e w' => ∃ A' cap', e = .returned (.slice A' n cap') ∧ Own w' w.heap.size 3 1 encI A' n cap' (diffS xs) ∧ New w w' := by
  have HL := Lib.hid hr.len
  have HR := Lib.hid hr; clear hr
  have HB := Lib.hid (abs_getD xs hbd); clear hbd
  go_enter Try.func76, Try.ntmps76
  go_wp2_with fail
  refine (cloneI_any A n cap xs _ (by omega) HR.out).mono ?_
  rintro e w1 ⟨A1, cap1, rfl, hown, hN1⟩
  by_cases hn0 : n = 0
  · subst hn0
    have hd : diffS xs = xs := diffFrom_all xs 0 (by rw [HL.out]; omega)
    have HD := Lib.hid hd; clear hd
    go_wp2
    go_loopw [4] (fun i wr => i = .int .i64 (-1) ∧ wr = w1) (fun _ _ => 0)
    case atStart => exact ⟨rfl, rfl⟩
    case round =>
      obtain ⟨rfl, rfl⟩ := hrel
      go_wp2
      go_ret
      exact ⟨A1, cap1, rfl, by rw [HD.out]; exact hown, hN1⟩
  · have hnp : 0 < n := by omega
    clear hn0
    rcases hown.form with ⟨_, h0, _⟩ | ⟨g, rfl, hg1, hg2, hg3, hg4⟩
    · omega
    · have HOW := Lib.hid hown
      clear hown
      go_wp2
      go_loopw [4] (fun i wr => ∃ k : Nat, k < n ∧ i = .int .i64 k ∧ Own wr w.heap.size 3 1 encI (some ⟨g, 0, none⟩) n cap1 (diffFrom xs k) ∧ New w wr ∧ g < wr.heap.size) (fun i _ => (intOf i).toNat)
      case atStart => exact ⟨n - 1, by omega, by rw [show ((n - 1 : Nat) : Int) = (n : Int) - 1 by omega], by rw [diffFrom_all xs (n - 1) (by rw [HL.out]; omega)]; exact HOW.out, hN1, hg2⟩
      case round =>
        obtain ⟨k, hk, rfl, hown, hN, hgl⟩ := hrel
        by_cases hk0 : 0 < k
        · obtain ⟨j, rfl⟩ : ∃ j, k = j + 1 := ⟨k - 1, by omega⟩
          have c1 := hown.cell1 (j + 1) _ _ (diffFrom_at xs (j + 1) (j + 1) (by rw [HL.out]; exact hk)) rfl
          have c0 := hown.cell1 j _ _ (diffFrom_at xs (j + 1) j (by rw [HL.out]; omega)) rfl
          rw [if_neg (by omega)] at c0 c1
          have f1 := hown.free (j + 1)
          obtain ⟨b1, b2⟩ := HB.out (j + 1)
          obtain ⟨b3, b4⟩ := HB.out j
          have HS := Lib.hid (diffFrom_set xs j (by rw [HL.out]; exact hk))
          generalize xs.getD (j + 1) 0 = x at *
          generalize xs.getD j 0 = y at *
          go_wp2
          (refine wp_region_tail 11 (by kernel_rfl) (by kernel_rfl) ?_; simp only [List.take_succ_cons, List.take_zero, List.drop_succ_cons, List.drop_zero]; (repeat (go_big_quiet_step ((fail)))); refine wpQuiet_nil ?_)
          intro w2 n2
          have c1' := n2.cell c1
          have f1' := (n2.marks _ (j + 1) hgl).trans f1
          go_wp2
          go_roundw
          case rel => exact ⟨j, by omega, rfl, by rw [← HS.out]; exact (hown.keep n2).set1 (j + 1) (x - y) _ (by omega) rfl, (hN.trans n2).setCell hg1 _, by simp [World.setCell]; exact Nat.lt_of_lt_of_le hgl n2.size⟩
          case measure => simp [intOf]
        · obtain rfl : k = 0 := by omega
          have HS := Lib.hid (show diffS xs = diffFrom xs 0 from rfl)
          go_wp2
          go_ret
          exact ⟨_, cap1, rfl, by rw [HS.out]; exact hown, hN⟩
end Go.Proofs.Ytifppmbolpegpaa

namespace Go.Proofs.Ytifppmbolpegpaa
open Go.RowKit Go.Sky

theorem serE_zero {xs : List Int} (h : serE xs = 0) : xs.length ≤ 200 ∧ ∀ x ∈ xs, -1000000000 ≤ x ∧ x ≤ 1000000000 := by
  unfold serE at h
  rw [firstE_two] at h
  by_cases h1 : errU (decide (((xs.length : Nat) : Int) ≤ 200)) 8 = 0
  · rw [if_pos h1, errU_zero (by decide)] at h
    rw [errU_zero (by decide)] at h1
    refine ⟨by simp at h1; omega, fun x hx => ?_⟩
    simp only [Bool.not_eq_true', List.any_eq_false] at h
    have := h x hx
    simp [strange, inR] at this
    exact this
  · rw [if_neg h1] at h; exact absurd h h1

def PackedPost (w : World) (xs : List Int) (e : Ending) (w' : World) : Prop :=
  New w w' ∧ ((serE xs ≠ 0 ∧ e = .returned (.tuple #[.agg #[.int .i64 0, .slice none 0 0], .int .i64 (serE xs)])) ∨
    (serE xs = 0 ∧ ∃ A n cap, e = .returned (.tuple #[.agg #[.int .i64 (packWay xs), .slice A n cap], .int .i64 0]) ∧ Own w' w.heap.size 3 1 encI A n cap (packNums xs)))

/-- The way that is best so far, by how many have been looked at. -/
def BestRel (a d r : Nat) (b i : Value) : Prop :=
  (i = .int .i64 0 ∧ b = .int .i64 0) ∨ (i = .int .i64 1 ∧ b = .int .i64 0) ∨ (i = .int .i64 2 ∧ b = .int .i64 1 ∧ d < a) ∨ (i = .int .i64 2 ∧ b = .int .i64 0 ∧ ¬ d < a) ∨
  (i = .int .i64 3 ∧ b = .int .i64 1 ∧ d < a ∧ ¬ r < d) ∨ (i = .int .i64 3 ∧ b = .int .i64 2 ∧ d < a ∧ r < d) ∨ (i = .int .i64 3 ∧ b = .int .i64 2 ∧ ¬ d < a ∧ r < a) ∨ (i = .int .i64 3 ∧ b = .int .i64 0 ∧ ¬ d < a ∧ ¬ r < a)

set_option maxRecDepth 100000 in
set_option maxHeartbeats 2000000 in
theorem Packed_any (A : Option Addr) (n cap : Nat) (xs : List Int) (w : World) (hn : n ≤ 100000) (hr : Rd w 1 encI A n xs) :
    Calls Try.prog 39 #[.slice A n cap] w (PackedPost w xs) := by
  have HL := Lib.hid hr.len
  have HR := Lib.hid hr; clear hr
  go_enter Try.func39, Try.ntmps39
  go_wp2_with fail
  refine (seriesErr_any A n cap xs _ (by omega) (HR.out.keep ((New.refl _).alloc _))).mono ?_
  rintro e w1 ⟨rfl, hn1⟩
  have hb := (Bx.mk w 90 #[.int .i64 0, .slice none 0 0]).keep hn1
  have hN1 := hn1
  clear hn1
  by_cases hE : serE xs = 0
  · have b1 : (serE xs != 0) = false := by simpa using hE
    obtain ⟨h200, hbd⟩ := serE_zero hE
    rw [HL.out] at h200
    have HBD := Lib.hid hbd
    have HE := Lib.hid hE
    clear hE hbd
    have hN := ((New.refl w).alloc (.cells #[.int .i64 0, .slice none 0 0] 90)).trans hN1
    go_wp2_with fail
    refine (cloneI_any A n cap xs _ (by omega) (HR.out.keep hN)).mono ?_
    rintro e w2 ⟨A2, cap2, rfl, hown2, hn2⟩
    go_wp2_with fail
    refine (differences_any A n cap xs _ (by omega) (HR.out.keep (hN.trans hn2)) HBD.out).mono ?_
    rintro e w3 ⟨A3, cap3, rfl, hown3, hn3⟩
    go_wp2_with fail
    refine (runs_any A3 n cap3 (diffS xs) _ (by omega) hown3.rd).mono ?_
    rintro e w4 ⟨A4, m4, cap4, rfl, hown4, hn4⟩
    go_wp2_with fail
    refine (runs_any A n cap xs _ (by omega) (HR.out.keep (((hN.trans hn2).trans hn3).trans hn4))).mono ?_
    rintro e w5 ⟨A5, m5, cap5, rfl, hown5, hn5⟩
    have hN5 := (((hN.trans hn2).trans hn3).trans hn4).trans hn5
    have r2 := Lib.hid (hown2.keep ((hn3.trans hn4).trans hn5))
    have r4 := Lib.hid ((hown4.keep hn5).base_le (base' := w1.heap.size) ((hn2.trans hn3).size))
    have r5 := Lib.hid (hown5.base_le (base' := w1.heap.size) (((hn2.trans hn3).trans hn4).size))
    have hb1 := hb.lt
    have hb5 := hb.keep (((hn2.trans hn3).trans hn4).trans hn5)
    have HM4 := Lib.hid hown4.len
    have HM5 := Lib.hid hown5.len
    have hm4 : m4 ≤ 1000000 := by rw [← HM4.out]; have := runsS_len (diffS xs); rw [diffS_len, HL.out] at this; omega
    have hm5 : m5 ≤ 1000000 := by rw [← HM5.out]; have := runsS_len xs; rw [HL.out] at this; omega
    clear hown2 hown3 hown4 hown5 hb hN hN1 hn2 hn3 hn4 hn5
    go_wp2
    have i0 : ∀ W, (Instr.index 138 (.agg #[.slice A2 n cap2, .slice A4 m4 cap4, .slice A5 m5 cap5]) (.int .i64 0)).run Try.prog W = .ok (.slice A2 n cap2) W := fun _ => by kernel_rfl
    have i1 : ∀ W, (Instr.index 138 (.agg #[.slice A2 n cap2, .slice A4 m4 cap4, .slice A5 m5 cap5]) (.int .i64 1)).run Try.prog W = .ok (.slice A4 m4 cap4) W := fun _ => by kernel_rfl
    have i2 : ∀ W, (Instr.index 138 (.agg #[.slice A2 n cap2, .slice A4 m4 cap4, .slice A5 m5 cap5]) (.int .i64 2)).run Try.prog W = .ok (.slice A5 m5 cap5) W := fun _ => by kernel_rfl
    go_loopw [6, 7, 8, 24] (fun bst _ _ i wr => BestRel n m4 m5 bst i ∧ wr = w5.alloc (.cells #[.slice A2 n cap2, .slice A4 m4 cap4, .slice A5 m5 cap5] 138)) (fun _ _ _ i _ => 3 - (intOf i).toNat)
    case atStart => exact ⟨.inl ⟨rfl, rfl⟩, rfl⟩
    case round =>
      obtain ⟨hrel, rfl⟩ := hrel
      rcases hrel with ⟨rfl, rfl⟩ | ⟨rfl, rfl⟩ | ⟨rfl, rfl, h1⟩ | ⟨rfl, rfl, h1⟩ | ⟨rfl, rfl, h1, h2⟩ | ⟨rfl, rfl, h1, h2⟩ | ⟨rfl, rfl, h1, h2⟩ | ⟨rfl, rfl, h1, h2⟩
      · go_wp2
        go_roundw
        case rel => exact ⟨.inr (.inl ⟨rfl, rfl⟩), trivial⟩
        case measure => simp [intOf]
      · by_cases h1 : m4 < n
        · go_wp2
          go_roundw
          case rel => exact ⟨.inr (.inr (.inl ⟨rfl, rfl, h1⟩)), trivial⟩
          case measure => simp [intOf]
        · go_wp2
          go_roundw
          case rel => exact ⟨.inr (.inr (.inr (.inl ⟨rfl, rfl, h1⟩))), trivial⟩
          case measure => simp [intOf]
      · by_cases h2 : m5 < m4
        · go_wp2
          go_roundw
          case rel => exact ⟨.inr (.inr (.inr (.inr (.inr (.inl ⟨rfl, rfl, h1, h2⟩))))), trivial⟩
          case measure => simp [intOf]
        · go_wp2
          go_roundw
          case rel => exact ⟨.inr (.inr (.inr (.inr (.inl ⟨rfl, rfl, h1, h2⟩)))), trivial⟩
          case measure => simp [intOf]
      · by_cases h2 : m5 < n
        · go_wp2
          go_roundw
          case rel => exact ⟨.inr (.inr (.inr (.inr (.inr (.inr (.inl ⟨rfl, rfl, h1, h2⟩)))))), trivial⟩
          case measure => simp [intOf]
        · go_wp2
          go_roundw
          case rel => exact ⟨.inr (.inr (.inr (.inr (.inr (.inr (.inr ⟨rfl, rfl, h1, h2⟩)))))), trivial⟩
          case measure => simp [intOf]
      all_goals
        have HP := Lib.hid (pack_of HL.out HM4.out HM5.out)
        have hb6 := hb5.alloc (.cells #[.slice A2 n cap2, .slice A4 m4 cap4, .slice A5 m5 cap5] 138)
        have c0 : w5.cell? _ = some _ := hb5.cell 0
        have c1 : w5.cell? _ = some _ := hb5.cell 1
        have f0 := hb5.free 0
        have f1 := hb5.free 1
        have hlt := hb5.lt
        have HH := Lib.hid h1
        have HH2 := Lib.hid h2
        clear hb5 hb6
        go_wp2
      · refine bodyPost_ret (v := .tuple #[.agg #[.int .i64 1, .slice A4 m4 cap4], .int .i64 0]) (by simp [results, Try.results39, go_sem, c0, c1, hlt]) rfl ⟨((hN5.setCell (by simp) _).setCell (by simp) _).alloc _, .inr ⟨HE.out, A4, m4, cap4, ?_, ?_⟩⟩
        · rw [HP.out.1, if_pos HH.out, if_neg HH2.out]
        · rw [HP.out.2, if_pos HH.out, if_neg HH2.out]
          exact (((r4.out.setBelow (by exact hb1) _).setBelow (by exact hb1) _).alloc _).base_le (Nat.le_of_lt hb1)
      · refine bodyPost_ret (v := .tuple #[.agg #[.int .i64 2, .slice A5 m5 cap5], .int .i64 0]) (by simp [results, Try.results39, go_sem, c0, c1, hlt]) rfl ⟨((hN5.setCell (by simp) _).setCell (by simp) _).alloc _, .inr ⟨HE.out, A5, m5, cap5, ?_, ?_⟩⟩
        · rw [HP.out.1, if_pos HH.out, if_pos HH2.out]
        · rw [HP.out.2, if_pos HH.out, if_pos HH2.out]
          exact (((r5.out.setBelow (by exact hb1) _).setBelow (by exact hb1) _).alloc _).base_le (Nat.le_of_lt hb1)
      · refine bodyPost_ret (v := .tuple #[.agg #[.int .i64 2, .slice A5 m5 cap5], .int .i64 0]) (by simp [results, Try.results39, go_sem, c0, c1, hlt]) rfl ⟨((hN5.setCell (by simp) _).setCell (by simp) _).alloc _, .inr ⟨HE.out, A5, m5, cap5, ?_, ?_⟩⟩
        · rw [HP.out.1, if_neg HH.out, if_pos HH2.out]
        · rw [HP.out.2, if_neg HH.out, if_pos HH2.out]
          exact (((r5.out.setBelow (by exact hb1) _).setBelow (by exact hb1) _).alloc _).base_le (Nat.le_of_lt hb1)
      · refine bodyPost_ret (v := .tuple #[.agg #[.int .i64 0, .slice A2 n cap2], .int .i64 0]) (by simp [results, Try.results39, go_sem, c0, c1, hlt]) rfl ⟨((hN5.setCell (by simp) _).setCell (by simp) _).alloc _, .inr ⟨HE.out, A2, n, cap2, ?_, ?_⟩⟩
        · rw [HP.out.1, if_neg HH.out, if_neg HH2.out]
        · rw [HP.out.2, if_neg HH.out, if_neg HH2.out]
          exact (((r2.out.setBelow (by exact hb1) _).setBelow (by exact hb1) _).alloc _).base_le (Nat.le_of_lt hb1)
  · have b1 : (serE xs != 0) = true := by simpa using hE
    have HE := Lib.hid hE
    clear hE
    have c0 : w1.cell? _ = some _ := hb.cell 0
    have c1 : w1.cell? _ = some _ := hb.cell 1
    have f0 := hb.free 0
    have f1 := hb.free 1
    have hlt := hb.lt
    clear hb
    have hN := hN1
    go_wp2
    exact bodyPost_ret (v := .tuple #[.agg #[.int .i64 0, .slice none 0 0], .int .i64 (serE xs)]) (by simp [results, Try.results39, go_sem, c0, c1]) rfl ⟨((((New.refl w).alloc _).trans hN).setCell (by simp) _).setCell (by simp) _, .inl ⟨HE.out, rfl⟩⟩
end Go.Proofs.Ytifppmbolpegpaa

namespace Go.Proofs.Ytifppmbolpegpaa
open Go.RowKit Go.Sky

set_option maxHeartbeats 400000 in
theorem CheckOf_any (s : ByteArray) (w : World) (hs : s.size ≤ 3000) :
    Calls Try.prog 40 #[.string s] w fun e w' => e = .returned (.tuple #[.int .i64 (crcS s.data.toList), .int .i64 0]) ∧ New w w' := by
  have h1 : ¬ (3000 : Int) < (s.size : Int) := by omega
  go_enter Try.func40, Try.ntmps40
  go_wp2_with (go_at_call 77; refine (check_any s _ (by omega)).mono ?_; rintro e w1 ⟨rfl, hN1⟩)
  go_ret2
  exact ⟨rfl, hN1⟩

theorem Rd_new {α : Type} {k : Nat} {enc : α → List Value} (hk : ∀ x, (enc x).length = k) (w : World) (cs : Array Value) (t : TypeId) (B n : Nat) (xs : List α) (hB : B = w.heap.size) (hl : xs.length = n) (hf : cs.toList = xs.flatMap enc) :
    Rd (w.alloc (.cells cs t)) k enc (some ⟨B, 0, none⟩) n xs := by
  subst hB
  refine ⟨hl, fun _ => ⟨_, _, rfl, by simp, fun i x hx j u hu => ?_⟩⟩
  rw [World.cell?_alloc_at _ _ _ _ rfl, Nat.zero_add]
  have h := flat_at hk xs i x hx j u hu
  rw [← hf] at h
  simpa using h
theorem encX_len (x : Exch) : (encX x).length = 3 := rfl
theorem encP_len (x : Int × Int) : (encP x).length = 2 := rfl

set_option maxHeartbeats 400000 in
theorem Exchanges_any (w : World) :
    Calls Try.prog 38 #[] w fun e w' => e = .returned (.slice (some ⟨w.heap.size, 0, none⟩) 2 2) ∧ Rd w' 3 encX (some ⟨w.heap.size, 0, none⟩) 2 [⟨100, 505, 110⟩, ⟨200, 600, 204⟩] ∧ New w w' := by
  go_enter Try.func38, Try.ntmps38
  go_wp2
  go_ret
  exact ⟨rfl, Rd_new encX_len _ _ _ _ _ _ rfl rfl rfl, (New.refl _).alloc _⟩

set_option maxHeartbeats 400000 in
theorem Net_any (w : World) :
    Calls Try.prog 42 #[] w fun e w' => ∃ g, e = .returned (.agg #[.int .i64 4, .slice (some ⟨g, 0, none⟩) 4 4]) ∧ Rd w' 2 encP (some ⟨g, 0, none⟩) 4 [(0, 1), (1, 2), (2, 3), (0, 3)] ∧ New w w' := by
  go_enter Try.func42, Try.ntmps42
  go_wp2
  exact bodyPost_ret (v := .agg #[.int .i64 4, .slice (some ⟨w.heap.size + 1, 0, none⟩) 4 4]) (by simp [results, Try.results42, go_sem]) rfl ⟨_, rfl, Rd_new encP_len _ _ _ _ _ _ (by simp) rfl rfl, ((New.refl _).alloc _).alloc _⟩

theorem eql_rng_d (n : Nat) (a b c d : Int) (W : World) : (Op.equalIn (n + 2) 84 (.agg #[.int .i64 a, .int .i64 b]) (.agg #[.int .i64 c, .int .i64 d])).run Try.prog W = .ok (a == c && b == d) W := by
  have u := Try.underlying84
  have u3 := Try.underlying3
  have z3 := Try.sizeOf3
  have a3 := Try.isAgg3
  rw [Op.equalIn]
  by_cases h1 : a = c <;> by_cases h2 : b = d
  all_goals
    simp [run_underlying u, part, go_sem, h1, h2, a3, u3]
theorem eql_rng (a b c d : Int) (W : World) : (Op.equalIn 10000 84 (.agg #[.int .i64 a, .int .i64 b]) (.agg #[.int .i64 c, .int .i64 d])).run Try.prog W = .ok (a == c && b == d) W := eql_rng_d 9998 a b c d W
theorem guard_rng : (Try.prog).eqGuardType (Try.prog).depth 84 = false := by kernel_rfl

theorem awake_off : offAtS [⟨100, 505, 110⟩, ⟨200, 600, 204⟩] 0 300 = ((396, 400), 0) := by decide
theorem awake_way : packWay [5, 5, 5, 5, 5, 5, 9] = 2 := by decide
theorem awake_nums : packNums [5, 5, 5, 5, 5, 5, 9] = [5, 6, 9, 1] := by decide
theorem awake_ser : serE [5, 5, 5, 5, 5, 5, 9] = 0 := by decide
theorem awake_crc : crcS [0] = 57840 := by decide +kernel
theorem awake_net : netS 4 [(0, 1), (1, 2), (2, 3), (0, 3)] = (0, 0) := by decide
theorem awake_one : planF (maskS 4 [(0, 1), (1, 2), (2, 3), (0, 3)]) 1 4 [] = none := by decide
theorem awake_two : planF (maskS 4 [(0, 1), (1, 2), (2, 3), (0, 3)]) 2 4 [] = some [0, 1, 0, 1] := by decide +kernel

set_option maxRecDepth 100000 in
set_option maxHeartbeats 2000000 in
theorem awake_any (w : World) : Calls Try.prog 16 #[] w fun e w' => e = .returned (.bool true) ∧ New w w' := by
  go_enter Try.func16, Try.ntmps16
  go_wp2_with fail
  refine (Exchanges_any _).mono ?_
  rintro e w1 ⟨rfl, r1, n1⟩
  go_wp2_with fail
  refine (OffsetAt_any _ 2 2 _ 0 300 _ (by omega) r1).mono ?_
  rintro e w2 ⟨rfl, n2⟩
  rw [awake_off]
  go_wp2_with fail
  refine (Packed_any _ 7 7 [5, 5, 5, 5, 5, 5, 9] _ (by omega) (by exact Rd_new encI_len _ _ _ _ _ _ (by simp) rfl rfl)).mono ?_
  rintro e w3 ⟨n3, ⟨hbad, _⟩ | ⟨_, A3, m3, c3, rfl, o3⟩⟩
  · exact absurd awake_ser hbad
  have r3 := o3.rd
  clear o3
  rw [awake_way, awake_nums] at *
  have bR := ((Bx.mk w2 84 #[.int .i64 396, .int .i64 400]).alloc _).keep n3
  have HM3 := Lib.hid r3.len
  obtain rfl : 4 = m3 := HM3.out
  go_wp2_with fail
  refine (CheckOf_any _ _ (by decide)).mono ?_
  rintro e w4 ⟨rfl, n4⟩
  have bP := (Bx.mk w3 90 #[.int .i64 2, .slice A3 4 c3]).keep n4
  have bR := (bR.alloc (.cells #[.int .i64 2, .slice A3 4 c3] 90)).keep n4
  have r3 := (r3.keep ((New.refl _).alloc (.cells #[.int .i64 2, .slice A3 4 c3] 90))).keep n4
  rw [show crcS (ByteArray.mk #[0]).data.toList = 57840 from awake_crc]
  go_wp2_with fail
  refine (Net_any _).mono ?_
  rintro e w5 ⟨g5, rfl, r5, n5⟩
  go_wp2_with fail
  refine (planFor_any _ _ 4 4 _ _ (by omega) (by omega) r5).mono ?_
  rintro e w6 ⟨n6, ⟨hbad, _⟩ | ⟨_, A6, m6, c6, k6, r, rfl, r6, hk1, hk2, hno, hyes⟩⟩
  · exact absurd (by rw [awake_net]) hbad
  have hk : 2 = k6 := by
    rcases Nat.lt_or_ge k6 2 with h | h
    · obtain rfl : k6 = 1 := by omega
      rw [show (4 : Int).toNat = 4 from rfl, awake_one] at hyes
      cases hyes
    · rcases Nat.lt_or_ge 2 k6 with h2 | h2
      · have := hno 2 (by omega) h2
        rw [show (4 : Int).toNat = 4 from rfl, awake_two] at this
        cases this
      · omega
  subst hk
  rw [show (4 : Int).toNat = 4 from rfl, awake_two] at hyes
  injection hyes with hyes
  subst hyes
  have HM6 := Lib.hid r6.len
  obtain rfl : 4 = m6 := HM6.out
  clear hno hk1 hk2
  have bP := bP.keep (n5.trans n6)
  have bR := bR.keep (n5.trans n6)
  have r3 := r3.keep (n5.trans n6)
  have e1 := eql_rng
  have e2 := guard_rng
  have cR0 : w6.cell? _ = some _ := bR.cell 0
  have cR1 : w6.cell? _ = some _ := bR.cell 1
  have cP0 : w6.cell? _ = some _ := bP.cell 0
  have cP1 : w6.cell? _ = some _ := bP.cell 1
  have lR := bR.lt
  have lP := bP.lt
  have hN6 : New w w6 := ((((((n1.trans n2).alloc _).alloc _).trans n3).alloc _).trans n4).trans (n5.trans n6)
  clear r1 n1 n2 n3 n4 n5 n6
  go_wp2_with fail
  refine (samePacked_any 2 2 A3 _ 4 4 c3 4 [5, 6, 9, 1] [5, 6, 9, 1] _ (by omega) (by omega) (by exact r3.keep ((New.refl _).alloc _)) (by exact Rd_new encI_len _ _ _ _ _ _ rfl rfl rfl)).mono ?_
  rintro e w7 ⟨rfl, n7⟩
  have r6 := (r6.keep ((New.refl _).alloc _)).keep n7
  go_wp2_with fail
  refine (ints_is true A6 _ 4 4 c6 4 [0, 1, 0, 1] [0, 1, 0, 1] _ (by omega) (by omega) (by exact r6.keep ((New.refl _).alloc _)) (by exact Rd_new encI_len _ _ _ _ _ _ rfl rfl rfl) rfl).mono ?_
  rintro e w8 ⟨rfl, n8⟩
  go_wp2_with fail
  go_ret
  exact ⟨rfl, (((hN6.alloc _).trans n7).alloc _).trans n8⟩
end Go.Proofs.Ytifppmbolpegpaa

namespace Go.Proofs.Ytifppmbolpegpaa
open Go.RowKit Go.Sky

theorem bWithin_any (n lo hi : Int) (w : World) : Calls Try.prog 15 #[.int .i64 n, .int .i64 lo, .int .i64 hi] w fun e w' => e = .returned (.bool (inR n lo hi)) ∧ w = w' := by
  by_cases h1 : lo ≤ n
  · go_enter Try.func15, Try.ntmps15
    go_wp2
    go_ret
    exact ⟨by simp [inR, h1], rfl⟩
  · go_enter Try.func15, Try.ntmps15
    go_wp2
    go_ret
    exact ⟨by simp only [inR]; simp; omega, rfl⟩
theorem bWithin_is (n lo hi : Int) (c : Bool) (w : World) (h : inR n lo hi = c) : Calls Try.prog 15 #[.int .i64 n, .int .i64 lo, .int .i64 hi] w fun e w' => e = .returned (.bool c) ∧ w = w' := h ▸ bWithin_any n lo hi w

theorem bIsTick_any (n : Int) (w : World) : Calls Try.prog 56 #[.int .i64 n] w fun e w' => e = .returned (.bool (tick n)) ∧ w = w' := by
  go_enter Try.func56, Try.ntmps56
  go_wp2_with (go_at_call 15; refine (bWithin_any _ _ _ _).mono ?_; rintro e w' ⟨rfl, rfl⟩)
  go_ret
  exact ⟨rfl, rfl⟩

/-! ### Go's division that rounds to zero, and the floor -/
theorem tmod_bd (n : Int) {b : Int} (hb : 0 < b) : -b < n.tmod b ∧ n.tmod b < b := ⟨Int.lt_tmod_of_pos n hb, Int.tmod_lt_of_pos n hb⟩
theorem emod_of_tmod (n : Int) {b : Int} (hb : 0 < b) : n % b = if n.tmod b < 0 then n.tmod b + b else n.tmod b := by
  obtain ⟨h1, h2⟩ := tmod_bd n hb
  have h3 := Int.mul_tdiv_add_tmod n b
  have h4 : n % b = (n.tmod b) % b := by
    conv => lhs; rw [← h3]
    rw [Int.add_comm, Int.add_mul_emod_self_left]
  rw [h4]
  generalize n.tmod b = r at *
  split
  · rw [← Int.add_emod_right]
    exact Int.emod_eq_of_lt (by omega) (by omega)
  · exact Int.emod_eq_of_lt (by omega) (by omega)
theorem ediv_of_tdiv (n : Int) {b : Int} (hb : 0 < b) : n / b = if n.tmod b < 0 then n.tdiv b - 1 else n.tdiv b := by
  have h1 := emod_of_tmod n hb
  have h3 := Int.mul_tdiv_add_tmod n b
  have h4 := Int.mul_ediv_add_emod n b
  split
  · rename_i h
    rw [if_pos h] at h1
    have h5 : b * (n / b) = b * (n.tdiv b - 1) := by rw [Int.mul_sub]; omega
    exact Int.eq_of_mul_eq_mul_left (by omega) h5
  · rename_i h
    rw [if_neg h] at h1
    have h5 : b * (n / b) = b * (n.tdiv b) := by omega
    exact Int.eq_of_mul_eq_mul_left (by omega) h5

set_option maxHeartbeats 400000 in
theorem Mod_any (n b : Int) (w : World) (hb : 1 ≤ b) (hb1 : b ≤ 1000000000) : Calls Try.prog 10 #[.int .i64 n, .int .i64 b] w fun e w' => e = .returned (.int .i64 (n % b)) ∧ w = w' := by
  obtain ⟨h1, h2⟩ := tmod_bd n (b := b) (by omega)
  have HE := Lib.hid (emod_of_tmod n (b := b) (by omega))
  have h3 : -1000000000 ≤ n.tmod b := by omega
  have h4 : n.tmod b ≤ 1000000000 := by omega
  have hb0 : (b == 0) = false := by simp; omega
  by_cases hneg : n.tmod b < 0
  · have HV := Lib.hid (show n % b = n.tmod b + b by rw [HE.out, if_pos hneg])
    go_enter Try.func10, Try.ntmps10
    go_wp2
    go_ret
    exact ⟨by rw [HV.out]; rfl, rfl⟩
  · have HV := Lib.hid (show n % b = n.tmod b by rw [HE.out, if_neg hneg])
    go_enter Try.func10, Try.ntmps10
    go_wp2
    go_ret
    exact ⟨by rw [HV.out]; rfl, rfl⟩

/-- The quotient rounded up, as the reference has it. -/
def ceilI (n b : Int) : Int := -((-n) / b)
theorem ceil_up {n b : Int} (hb : 0 < b) : ceilI n b = upS n b := by
  unfold ceilI upS
  have h1 := Int.mul_ediv_add_emod (-n) b
  have h2 := Int.emod_nonneg (-n) (show b ≠ 0 by omega)
  have h3 := Int.emod_lt_of_pos (-n) hb
  have h4 := Int.mul_ediv_add_emod (n + b - 1) b
  have h5 := Int.emod_nonneg (n + b - 1) (show b ≠ 0 by omega)
  have h6 := Int.emod_lt_of_pos (n + b - 1) hb
  generalize (-n) / b = q at *
  generalize (n + b - 1) / b = r at *
  generalize (-n) % b = x at *
  generalize (n + b - 1) % b = y at *
  have h7 : b * (q + r) = b - 1 - x - y := by rw [Int.mul_add]; omega
  have h8 : -b < b * (q + r) := by omega
  have h9 : b * (q + r) < b := by omega
  have h10 : q + r = 0 := by
    rcases Int.lt_trichotomy (q + r) 0 with h | h | h
    · have := Int.mul_le_mul_of_nonneg_left (show q + r ≤ -1 by omega) (show 0 ≤ b by omega)
      omega
    · exact h
    · have := Int.mul_le_mul_of_nonneg_left (show 1 ≤ q + r by omega) (show 0 ≤ b by omega)
      omega
  omega

end Go.Proofs.Ytifppmbolpegpaa

namespace Go.Proofs.Ytifppmbolpegpaa
open Go.RowKit Go.Sky

theorem encX_one (x : Exch) : ∀ u ∈ encX x, u.oneCell' = true := by intro u hu; simp [encX] at hu; rcases hu with rfl | rfl | rfl <;> rfl
theorem infoExch : (Try.prog.info? 136).map (fun i => (i.zero, i.size, i.bytes)) = some (some (.agg #[.int .i64 0, .int .i64 0, .int .i64 0]), 3, 24) := by kernel_rfl

theorem exErr_of (x : Exch) : exErr x = if (tick x.s && tick x.t && tick x.r) = true then (if x.r < x.s then 9 else 0) else 2 := by
  unfold exErr
  rw [firstE_two]
  cases tick x.s && tick x.t && tick x.r
  · rfl
  · by_cases h : x.s ≤ x.r
    · rw [if_pos (by rfl), if_pos rfl, if_neg (by omega)]; simp [errU, h]
    · rw [if_pos (by rfl), if_pos rfl, if_pos (by omega)]; simp [errU, h]

theorem timeE_of (d t : Int) : timeE d t = if (inR d 0 1000 && tick t) = true then 0 else 2 := by
  unfold timeE
  rw [firstE_two]
  cases inR d 0 1000 <;> cases tick t <;> rfl

end Go.Proofs.Ytifppmbolpegpaa

namespace Go.Proofs.Ytifppmbolpegpaa
open Go.RowKit Go.Sky

theorem sw_way : packWay [1, 2, 3, 4, 5, 6] = 1 := by decide
theorem sw_nums : packNums [1, 2, 3, 4, 5, 6] = [1, 6] := by decide
theorem sw_ser : serE [1, 2, 3, 4, 5, 6] = 0 := by decide

set_option maxRecDepth 100000 in
set_option maxHeartbeats 2000000 in
theorem stationAwake_any (w : World) : Calls Try.prog 23 #[] w fun e w' => e = .returned (.bool true) ∧ New w w' := by
  go_enter Try.func23, Try.ntmps23
  go_wp2_with fail
  refine (Exchanges_any _).mono ?_
  rintro e w1 ⟨rfl, r1, n1⟩
  go_wp2_with fail
  refine (OffsetAt_any _ 2 2 _ 0 300 _ (by omega) r1).mono ?_
  rintro e w2 ⟨rfl, n2⟩
  rw [awake_off]
  go_wp2_with fail
  refine (Packed_any _ 6 6 [1, 2, 3, 4, 5, 6] _ (by omega) (by exact Rd_new encI_len _ _ _ _ _ _ (by simp) rfl rfl)).mono ?_
  rintro e w3 ⟨n3, ⟨hbad, _⟩ | ⟨_, A3, m3, c3, rfl, o3⟩⟩
  · exact absurd sw_ser hbad
  have r3 := o3.rd
  clear o3
  rw [sw_way, sw_nums] at *
  have bR := ((Bx.mk w2 84 #[.int .i64 396, .int .i64 400]).alloc _).keep n3
  have HM3 := Lib.hid r3.len
  obtain rfl : 2 = m3 := HM3.out
  have bP := Bx.mk w3 90 #[.int .i64 1, .slice A3 2 c3]
  have bR := bR.alloc (.cells #[.int .i64 1, .slice A3 2 c3] 90)
  have r3 := r3.keep ((New.refl _).alloc (.cells #[.int .i64 1, .slice A3 2 c3] 90))
  have e1 := eql_rng
  have e2 := guard_rng
  have cR0 : World.cell? _ _ = some _ := bR.cell 0
  have cR1 : World.cell? _ _ = some _ := bR.cell 1
  have cP0 : World.cell? _ _ = some _ := bP.cell 0
  have cP1 : World.cell? _ _ = some _ := bP.cell 1
  have lR := bR.lt
  have lP := bP.lt
  have hN4 : New w (w3.alloc (.cells #[.int .i64 1, .slice A3 2 c3] 90)) := ((((n1.trans n2).alloc _).alloc _).trans n3).alloc _
  go_wp2_with fail
  refine (samePacked_any 1 1 A3 _ 2 2 c3 2 [1, 6] [1, 6] _ (by omega) (by omega) (by exact r3.keep ((New.refl _).alloc _)) (by exact Rd_new encI_len _ _ _ _ _ _ (by simp) rfl rfl)).mono ?_
  rintro e w7 ⟨rfl, n7⟩
  go_wp2_with fail
  go_ret
  exact ⟨rfl, (hN4.alloc _).trans n7⟩
end Go.Proofs.Ytifppmbolpegpaa
