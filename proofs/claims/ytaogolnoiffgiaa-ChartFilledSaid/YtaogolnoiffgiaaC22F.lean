/- Contracts of the small functions: within, first, unless, up, isTick, CheckExchange, timeErr, offset.
   Contracts on slices of numbers: Clone, CopyInts, IndexFunc, ContainsFunc, seriesErr, Ints.
   Contracts: Index and Contains at pairs.
   Contracts: timeErr, offset, common.
   Contracts: offsets, OffsetAt, TrueAt, OffsetBy.
   Contracts: OffsetAt, TrueAt, OffsetBy.
   Contracts: ContainsFunc at numbers, seriesErr, Ints, SamePacked.
   Contracts: runs and differences of the program.
   Contracts: differences of the program.
   Contract: Packed.
   Contracts: check, CheckOf.
   Contract: CheckNet.
   Contracts: disturb, open.
   Contracts: planned, PlanFor.
   Contracts: CheckOf, Exchanges, Net, awake.
   Contracts: base's Within, Mod, IsTick, Floor, Ceil, Size.
   Contracts: the order of lists (cmp.Compare, slices.Compare, Before); groups of the program.
   Contracts: groups of the program: a search whose closure is asked of the slice's own numbers; group; GroupOf.
   Contract: CheckPlan.
   Contracts: the reference of clocks. -/
import Derived.BigQuiet
import Derived.Deep.AppendLies
import Derived.Deep.Draws
import Derived.Deep.Quiet
import Derived.Deep.QuietTactic
import Derived.Lib.Hide
import Derived.StillTail
import Derived.Test.YtaogolnoiffgiaaProg
import Derived.WalkKit
import Derived.WalkLawsBesides
import Derived.WalkSpells
import Derived.Test.YtaogolnoiffgiaaC22A
import Derived.Test.YtaogolnoiffgiaaC22B
import Derived.Test.YtaogolnoiffgiaaC22C

namespace Go.Proofs.Ytaogolnoiffgiaa
open Go.RowKit Go.Sky

def encI (n : Int) : List Value := [.int .i64 n]

theorem firstE_drop (xs : List Int) (k : Nat) (hk : k < xs.length) : firstE (xs.drop k) = if xs[k] = 0 then firstE (xs.drop (k + 1)) else xs[k] := by
  rw [List.drop_eq_getElem_cons hk]; rfl

theorem cells_new (w : World) (cs : Array Value) (t : TypeId) (B : Nat) (hB : B = w.heap.size) (l : List Value) (hl : cs.toList = l) : ∀ j u, l[j]? = some u → (w.alloc (.cells cs t)).cell? ⟨B, j, none⟩ = some u := by
  subst hB; subst hl
  intro j u hu
  rw [World.cell?_alloc_at _ _ _ _ rfl]
  simpa using hu

end Go.Proofs.Ytaogolnoiffgiaa

namespace Go.Proofs.Ytaogolnoiffgiaa
open Go.RowKit Go.Sky

theorem infoInt : (Try.prog.info? 3).map (fun i => (i.zero, i.size, i.bytes)) = some (some (.int .i64 0), 1, 8) := by kernel_rfl
theorem encI_len (x : Int) : (encI x).length = 1 := rfl
theorem encI_one (x : Int) : ∀ u ∈ encI x, u.oneCell' = true := by intro u hu; simp [encI] at hu; subst hu; rfl

set_option maxHeartbeats 400000 in
theorem copyInts_any (A : Option Addr) (n cap : Nat) (xs : List Int) (w : World) (hn : n ≤ 1000000) (hr : Rd w 1 encI A n xs) :
    Calls Try.prog 18 #[.slice A n cap] w fun e w' => ∃ A' cap', e = .returned (.slice A' n cap') ∧ Own w' w.heap.size 3 1 encI A' n cap' xs ∧ New w w' := by
  obtain ⟨i0, hi, hz0, hz1, hz2⟩ := info_parts infoInt
  have HR := Lib.hid hr; clear hr
  go_enter Try.func18, Try.ntmps18
  go_wp2_with (at_builtin; refine wpList_pour _ rfl _ _ 22 rfl 3 i0 _ 1 8 Try.underlying22 hi hz0 hz1 hz2 rfl (by omega) w.heap.size encI _ 0 0 [] rfl (by exact Own.empty _ _ _ _ encI_len _ (by simp) (by simp)) A n cap xs rfl (by exact HR.out.keep ((New.refl _).alloc _)) encI_one (by unfold maxLen; omega) (by omega) (by simp) ?_; intro A2 cap2 w2 hown2 hg2 hN2)
  go_ret
  refine ⟨A2, cap2, rfl, ?_, hN2 w ((New.refl w).alloc _) (Nat.le_refl _)⟩
  rw [Nat.zero_add] at hown2
  exact hown2

/-- The first index at which p holds, or -1: a search for a closure's answer. -/
def idxS {α : Type} (p : α → Bool) (xs : List α) : Int := match xs.findIdx? p with | some i => (i : Int) | none => -1

theorem idxS_hit {α : Type} (p : α → Bool) (xs : List α) (k : Nat) (x : α) (hx : xs[k]? = some x) (hp : p x = true) (hno : ∀ j y, j < k → xs[j]? = some y → p y = false) : idxS p xs = k := by
  have h : xs.findIdx? p = some k := by
    rw [List.findIdx?_eq_some_iff_getElem]
    obtain ⟨hk, rfl⟩ := List.getElem?_eq_some_iff.1 hx
    exact ⟨hk, hp, fun j hj => by simp [hno j xs[j] hj (List.getElem?_eq_getElem (by omega))]⟩
  unfold idxS; rw [h]
theorem idxS_miss {α : Type} (p : α → Bool) (xs : List α) (n : Nat) (hl : xs.length = n) (hno : ∀ j y, j < n → xs[j]? = some y → p y = false) : idxS p xs = -1 := by
  have h : xs.findIdx? p = none := by
    rw [List.findIdx?_eq_none_iff]
    intro x hx
    obtain ⟨j, hj, rfl⟩ := List.getElem_of_mem hx
    exact hno j _ (by omega) (List.getElem?_eq_getElem hj)
  unfold idxS; rw [h]
theorem idxS_any {α : Type} (p : α → Bool) (xs : List α) : decide (0 ≤ idxS p xs) = xs.any p := by
  unfold idxS
  cases h : xs.findIdx? p with
  | none =>
    rw [List.findIdx?_eq_none_iff] at h
    simp only [show ¬ (0 : Int) ≤ -1 by omega, decide_false]
    symm
    rw [List.any_eq_false]
    intro x hx
    simp [h x hx]
  | some i =>
    rw [List.findIdx?_eq_some_iff_getElem] at h
    obtain ⟨hi, hp, _⟩ := h
    simp only [show (0 : Int) ≤ (i : Int) by omega, decide_true]
    symm
    rw [List.any_eq_true]
    exact ⟨_, List.getElem_mem hi, hp⟩

set_option maxRecDepth 100000 in
set_option maxHeartbeats 400000 in
theorem idxFuncI (g : Nat) (cb : Array Value) (p : Int → Bool) (A : Option Addr) (n cap : Nat) (xs : List Int) (w : World) (hn : n ≤ 1000000) (hr : Rd w 1 encI A n xs) (eg : ∀ (args : Array Value) (W : World), (callFunc g args).run Try.prog W = .ok (.enter g args) W)
    (hp : ∀ x W, New w W → Calls Try.prog g (#[.int .i64 x] ++ cb) W fun e w' => e = .returned (.bool (p x)) ∧ New W w') :
    Calls Try.prog 124 #[.slice A n cap, .func (.func g) #[] cb] w fun e w' => e = .returned (.int .i64 (idxS p xs)) ∧ New w w' := by
  have HR := Lib.hid hr; clear hr
  have HP := Lib.hid hp; clear hp
  go_enter Try.func124, Try.ntmps124
  go_wp2
  go_loopw [5, 8] (fun _ i wr => ∃ k : Nat, k ≤ n ∧ i = .int .i64 k ∧ Hid (∀ j x, j < k → xs[j]? = some x → p x = false) ∧ New w wr) (fun _ i _ => n - (intOf i).toNat)
  case atStart => exact ⟨0, by omega, rfl, (fun j x hj => absurd hj (by omega)), New.refl _⟩
  case round =>
    obtain ⟨k, hk, rfl, HF, hN⟩ := hrel
    by_cases hlt : k < n
    · obtain ⟨b, o, x, rfl, hb, hx, hc⟩ := (HR.out.keep hN).at_ hlt
      have g0 := hc 0 _ rfl
      simp only [Nat.add_zero, Nat.mul_one] at g0
      have HX := Lib.hid hx
      clear hx hc
      obtain ⟨q, hq⟩ : ∃ q, p x = q := ⟨_, rfl⟩
      have HQ := Lib.hid hq
      cases q
      all_goals
        go_wp2_with fail
        refine (HP.out x _ hN).mono ?_
        rintro e w1 ⟨he, hn1⟩
        rw [HQ.out] at he
        subst he
        clear hq
      · go_wp2
        go_roundw
        case rel => exact ⟨k + 1, by omega, by go_num, fun j y hj hy => by
          rcases Nat.lt_or_ge j k with h | h
          · exact HF.out j y h hy
          · obtain rfl : j = k := by omega
            have hxy := HX.out
            rw [hy] at hxy
            injection hxy with hxy
            rw [hxy]
            exact HQ.out, hN.trans hn1⟩
        case measure => simp [intOf]; omega
      · go_wp2
        go_ret
        exact ⟨by rw [idxS_hit p xs k x HX.out HQ.out HF.out]; rfl, hN.trans hn1⟩
    · go_wp2
      go_ret
      exact ⟨by rw [idxS_miss p xs n HR.out.len (fun j y hj hy => HF.out j y (by omega) hy)]; rfl, hN⟩
end Go.Proofs.Ytaogolnoiffgiaa

namespace Go.Proofs.Ytaogolnoiffgiaa
open Go.RowKit Go.Sky

def encP (p : Int × Int) : List Value := [.int .i64 p.1, .int .i64 p.2]

theorem eql_pair_d (n : Nat) (a b c d : Int) (W : World) : (Op.equalIn (n + 2) 60 (.agg #[.int .i64 a, .int .i64 b]) (.agg #[.int .i64 c, .int .i64 d])).run Try.prog W = .ok (a == c && b == d) W := by
  have u := Try.underlying60
  have u3 := Try.underlying3
  have z3 := Try.sizeOf3
  have a3 := Try.isAgg3
  rw [Op.equalIn]
  by_cases h1 : a = c <;> by_cases h2 : b = d
  all_goals
    simp [run_underlying u, part, go_sem, h1, h2, a3, u3, List.range']

theorem eql_pair (a b c d : Int) (W : World) : (Op.equalIn 10000 60 (.agg #[.int .i64 a, .int .i64 b]) (.agg #[.int .i64 c, .int .i64 d])).run Try.prog W = .ok (a == c && b == d) W := eql_pair_d 9998 a b c d W
theorem guard_pair : (Try.prog).eqGuardType (Try.prog).depth 60 = false := by kernel_rfl

end Go.Proofs.Ytaogolnoiffgiaa

namespace Go.Proofs.Ytaogolnoiffgiaa
open Go.RowKit Go.Sky

def encR (r : Int × Int) : List Value := [.int .i64 r.1, .int .i64 r.2]
def encX (x : Exch) : List Value := [.int .i64 x.s, .int .i64 x.t, .int .i64 x.r]

end Go.Proofs.Ytaogolnoiffgiaa

namespace Go.Proofs.Ytaogolnoiffgiaa
open Go.RowKit Go.Sky

theorem infoRange : (Try.prog.info? 97).map (fun i => (i.zero, i.size, i.bytes)) = some (some (.agg #[.int .i64 0, .int .i64 0]), 2, 16) := by kernel_rfl
theorem encR_len (x : Int × Int) : (encR x).length = 2 := rfl
theorem encR_one (x : Int × Int) : ∀ u ∈ encR x, u.oneCell' = true := by intro u hu; simp [encR] at hu; rcases hu with rfl | rfl <;> rfl

def OffsPost (w : World) (xs : List Exch) (d t : Int) (e : Ending) (w' : World) : Prop :=
  New w w' ∧ ((offsErr xs d t ≠ 0 ∧ e = .returned (.tuple #[.slice none 0 0, .int .i64 (offsErr xs d t)])) ∨
    (offsErr xs d t = 0 ∧ ∃ A cap, e = .returned (.tuple #[.slice A xs.length cap, .int .i64 0]) ∧ Own w' w.heap.size 97 2 encR A xs.length cap (xs.map (offBy · d t))))

end Go.Proofs.Ytaogolnoiffgiaa

namespace Go.Proofs.Ytaogolnoiffgiaa
open Go.RowKit Go.Sky

theorem offAt_err {xs : List Exch} {d t : Int} (h : offsErr xs d t ≠ 0) : offAtS xs d t = ((0, 0), offsErr xs d t) := by unfold offAtS; rw [if_neg h]
theorem offAt_clash {xs : List Exch} {d t : Int} (h : offsErr xs d t = 0) (h2 : ¬ (comS (xs.map (offBy · d t))).1 ≤ (comS (xs.map (offBy · d t))).2) : offAtS xs d t = ((0, 0), 13) := by unfold offAtS; rw [if_pos h, if_neg h2]
theorem offAt_ok {xs : List Exch} {d t : Int} (h : offsErr xs d t = 0) (h2 : (comS (xs.map (offBy · d t))).1 ≤ (comS (xs.map (offBy · d t))).2) : offAtS xs d t = (comS (xs.map (offBy · d t)), 0) := by unfold offAtS; rw [if_pos h, if_pos h2]


theorem exE_one (x : Exch) (d t : Int) : firstE [exErr x, timeE d t] = if exErr x = 0 then timeE d t else exErr x := firstE_two _ _

end Go.Proofs.Ytaogolnoiffgiaa

namespace Go.Proofs.Ytaogolnoiffgiaa
open Go.RowKit Go.Sky

theorem enters_go {f : FuncId} {fn : Func} {c : Code} (hf : (Try.prog).funcs[f]? = some fn) (hname : (fn.name == "runtime.NumGoroutine") = false) (hb : fn.body = some c) :
    ∀ (args : Array Value) (W : World), (callFunc f args).run Try.prog W = .ok (.enter f args) W := by
  intro args w
  have h1 : fn.name ≠ "runtime.NumGoroutine" := by simpa using hname
  simp [callFunc, hf, h1, hb, mark]

set_option maxRecDepth 100000 in
set_option maxHeartbeats 400000 in
theorem containsFuncI (g : Nat) (cb : Array Value) (p : Int → Bool) (A : Option Addr) (n cap : Nat) (xs : List Int) (w : World) (hn : n ≤ 1000000) (hr : Rd w 1 encI A n xs) (eg : ∀ (args : Array Value) (W : World), (callFunc g args).run Try.prog W = .ok (.enter g args) W)
    (hp : ∀ x W, New w W → Calls Try.prog g (#[.int .i64 x] ++ cb) W fun e w' => e = .returned (.bool (p x)) ∧ New W w') :
    Calls Try.prog 82 #[.slice A n cap, .func (.func g) #[] cb] w fun e w' => e = .returned (.bool (xs.any p)) ∧ New w w' := by
  have HR := Lib.hid hr; clear hr
  have HP := Lib.hid hp; clear hp
  have HG := Lib.hid eg; clear eg
  have HA := Lib.hid (idxS_any p xs)
  go_enter Try.func82, Try.ntmps82
  go_wp2_with (go_at_call 124; refine (idxFuncI g cb p A n cap xs _ hn HR.out HG.out HP.out).mono ?_; rintro e w1 ⟨rfl, hn1⟩)
  go_ret
  exact ⟨by rw [← HA.out]; rfl, hn1⟩

def strange (n : Int) : Bool := !inR n (-1000000000) 1000000000
def serE (xs : List Int) : Int := firstE [errU (decide (((xs.length : Nat) : Int) ≤ 200)) 8, errU (!xs.any strange) 2]

set_option maxRecDepth 100000 in
set_option maxHeartbeats 1000000 in
theorem ints_any (A B : Option Addr) (n m c1 c2 : Nat) (xs ys : List Int) (w : World) (hn : n ≤ 1000000) (hm : m ≤ 1000000) (hr : Rd w 1 encI A n xs) (hs : Rd w 1 encI B m ys) :
    Calls Try.prog 89 #[.slice A n c1, .slice B m c2] w fun e w' => e = .returned (.bool (decide (xs = ys))) ∧ New w w' := by
  have HR := Lib.hid hr; clear hr
  have HS := Lib.hid hs; clear hs
  by_cases hnm : n = m
  · subst hnm
    have d0 : ((n : Int) != (n : Int)) = false := by simp
    go_enter Try.func89, Try.ntmps89
    go_wp2
    go_loopw [5] (fun i wr => ∃ k : Nat, k ≤ n ∧ i = .int .i64 k ∧ Hid (xs.take k = ys.take k) ∧ New w wr) (fun i _ => n - (intOf i).toNat)
    case atStart => exact ⟨0, by omega, rfl, rfl, New.refl _⟩
    case round =>
      obtain ⟨k, hk, rfl, HF, hN⟩ := hrel
      by_cases hlt : k < n
      · obtain ⟨b, o, x, rfl, hb, hx, hc⟩ := (HR.out.keep hN).at_ hlt
        obtain ⟨b', o', y, rfl, hb', hy, hc'⟩ := (HS.out.keep hN).at_ hlt
        have g0 := hc 0 _ rfl
        have g1 := hc' 0 _ rfl
        simp only [Nat.add_zero, Nat.mul_one] at g0 g1
        have HX := Lib.hid (take_snoc xs k x hx)
        have HY := Lib.hid (take_snoc ys k y hy)
        have HX1 := Lib.hid hx
        have HY1 := Lib.hid hy
        clear hx hy hc hc'
        have l1 : (0 : Int) ≤ (k : Int) := by omega
        have l2 : (k : Int) < (n : Int) := by omega
        by_cases hxy : x = y
        · have dxy : (x != y) = false := by simpa using hxy
          have HXY := Lib.hid hxy; clear hxy
          go_wp2
          go_quiet (fail)
          go_wp2
          go_roundw
          case rel => exact ⟨k + 1, by omega, by go_num, by rw [HX.out, HY.out, HF.out, HXY.out]; rfl, hN.drewN _⟩
          case measure => simp [intOf]; omega
        · have dxy : (x != y) = true := by simpa using hxy
          have HXY := Lib.hid hxy; clear hxy
          go_wp2
          go_quiet (fail)
          go_wp2
          go_ret
          refine ⟨?_, hN.drewN _⟩
          have : ¬ xs = ys := by
            intro e
            subst e
            have h := HX1.out
            rw [HY1.out] at h
            injection h with h
            exact HXY.out h.symm
          simp [this]
      · go_wp2
        go_ret
        refine ⟨?_, hN⟩
        have : xs = ys := by
          have h := HF.out
          rw [List.take_of_length_le (by rw [HR.out.len]; omega), List.take_of_length_le (by rw [HS.out.len]; omega)] at h
          exact h
        simp [this]
  · have d0 : ((n : Int) != (m : Int)) = true := by simp; omega
    have hne : ¬ xs = ys := by
      intro e
      have h1 := HR.out.len
      have h2 := HS.out.len
      rw [e] at h1
      omega
    have HN := Lib.hid hne
    clear hnm hne
    go_enter Try.func89, Try.ntmps89
    go_wp2
    go_ret
    exact ⟨by simp [HN.out], New.refl _⟩

theorem ints_is (c : Bool) (A B : Option Addr) (n m c1 c2 : Nat) (xs ys : List Int) (w : World) (hn : n ≤ 1000000) (hm : m ≤ 1000000) (hr : Rd w 1 encI A n xs) (hs : Rd w 1 encI B m ys) (hc : decide (xs = ys) = c) :
    Calls Try.prog 89 #[.slice A n c1, .slice B m c2] w fun e w' => e = .returned (.bool c) ∧ New w w' := hc ▸ ints_any A B n m c1 c2 xs ys w hn hm hr hs

end Go.Proofs.Ytaogolnoiffgiaa

namespace Go.Proofs.Ytaogolnoiffgiaa
open Go.RowKit Go.Sky

end Go.Proofs.Ytaogolnoiffgiaa

namespace Go.Proofs.Ytaogolnoiffgiaa
open Go.RowKit Go.Sky

theorem abs_getD (xs : List Int) (hb : ∀ x ∈ xs, -1000000000 ≤ x ∧ x ≤ 1000000000) (j : Nat) : -1000000000 ≤ xs.getD j 0 ∧ xs.getD j 0 ≤ 1000000000 := by
  rw [List.getD_eq_getElem?_getD]
  cases h : xs[j]? with
  | none => simp
  | some x => exact hb x (List.mem_of_getElem? h)

end Go.Proofs.Ytaogolnoiffgiaa

namespace Go.Proofs.Ytaogolnoiffgiaa
open Go.RowKit Go.Sky

theorem serE_zero {xs : List Int} (h : serE xs = 0) : xs.length ≤ 200 ∧ ∀ x ∈ xs, -1000000000 ≤ x ∧ x ≤ 1000000000 := by
  unfold serE at h
  rw [firstE_two] at h
  by_cases h1 : errU (decide (((xs.length : Nat) : Int) ≤ 200)) 8 = 0
  · rw [if_pos h1, errU_zero (by decide)] at h
    rw [errU_zero (by decide)] at h1
    refine ⟨by simp at h1; omega, fun x hx => ?_⟩
    simp only [Bool.not_eq_true', List.any_eq_false] at h
    have := h x hx
    simp [strange, inR] at this
    exact this
  · rw [if_neg h1] at h; exact absurd h h1

def PackedPost (w : World) (xs : List Int) (e : Ending) (w' : World) : Prop :=
  New w w' ∧ ((serE xs ≠ 0 ∧ e = .returned (.tuple #[.agg #[.int .i64 0, .slice none 0 0], .int .i64 (serE xs)])) ∨
    (serE xs = 0 ∧ ∃ A n cap, e = .returned (.tuple #[.agg #[.int .i64 (packWay xs), .slice A n cap], .int .i64 0]) ∧ Own w' w.heap.size 3 1 encI A n cap (packNums xs)))

/-- The way that is best so far, by how many have been looked at. -/
def BestRel (a d r : Nat) (b i : Value) : Prop :=
  (i = .int .i64 0 ∧ b = .int .i64 0) ∨ (i = .int .i64 1 ∧ b = .int .i64 0) ∨ (i = .int .i64 2 ∧ b = .int .i64 1 ∧ d < a) ∨ (i = .int .i64 2 ∧ b = .int .i64 0 ∧ ¬ d < a) ∨
  (i = .int .i64 3 ∧ b = .int .i64 1 ∧ d < a ∧ ¬ r < d) ∨ (i = .int .i64 3 ∧ b = .int .i64 2 ∧ d < a ∧ r < d) ∨ (i = .int .i64 3 ∧ b = .int .i64 2 ∧ ¬ d < a ∧ r < a) ∨ (i = .int .i64 3 ∧ b = .int .i64 0 ∧ ¬ d < a ∧ ¬ r < a)

end Go.Proofs.Ytaogolnoiffgiaa

namespace Go.Proofs.Ytaogolnoiffgiaa
open Go.RowKit Go.Sky

theorem ofInt_i64 (a : Nat) (ha : a < 9223372036854775808) : (BitVec.ofInt 64 (a : Int)).toNat = a := by
  rw [BitVec.ofInt_natCast, BitVec.toNat_ofNat]; exact Nat.mod_eq_of_lt (by omega)
theorem i64_xor_nat (a b : Nat) (ha : a < 9223372036854775808) (hb : b < 9223372036854775808) : bits .xor .i64 (a : Int) (b : Int) = ((a ^^^ b : Nat) : Int) := by
  have hx : a ^^^ b < 2 ^ 63 := Nat.xor_lt_two_pow (by omega) (by omega)
  show IntKind.i64.wrap ((BitVec.ofInt 64 (a : Int) ^^^ BitVec.ofInt 64 (b : Int)).toNat : Int) = _
  rw [BitVec.toNat_xor, ofInt_i64 a ha, ofInt_i64 b hb, IntKind.wrap_i64]
  omega

theorem crcBit_big {r : Nat} (h : 65535 < r * 2) : crcBit r = (r * 2) ^^^ 69665 := by unfold crcBit; rw [if_pos h]
theorem crcBit_small {r : Nat} (h : ¬ 65535 < r * 2) : crcBit r = r * 2 := by unfold crcBit; rw [if_neg h]
theorem crc_big {m : Nat} (hm : m < 65536) (hb : 65535 < m * 2) : bits .xor .i64 ((m : Int) * 2) 69665 = ((crcBit m : Nat) : Int) := by
  rw [crcBit_big hb]
  have e1 : ((m : Int) * 2) = ((m * 2 : Nat) : Int) := by omega
  have e2 : (69665 : Int) = ((69665 : Nat) : Int) := by omega
  rw [e1, e2]
  exact i64_xor_nat _ _ (by omega) (by omega)
theorem crc_small {m : Nat} (hb : ¬ 65535 < m * 2) : (m : Int) * 2 = ((crcBit m : Nat) : Int) := by
  rw [crcBit_small hb]; omega
theorem crc_in {q : Nat} {c : UInt8} (hq : q < 65536) : bits .xor .i64 (q : Int) ((c.toNat : Int) * 256) = ((q ^^^ (c.toNat * 256) : Nat) : Int) ∧ q ^^^ (c.toNat * 256) < 65536 := by
  have h2 : c.toNat * 256 < 2 ^ 16 := by have := c.toNat_lt; omega
  refine ⟨?_, ?_⟩
  · have e1 : ((c.toNat : Int) * 256) = ((c.toNat * 256 : Nat) : Int) := by omega
    rw [e1]
    exact i64_xor_nat _ _ (by omega) (by omega)
  · have h1 : q < 2 ^ 16 := hq
    exact Nat.xor_lt_two_pow h1 h2

/-- What holds of the remainder and the counter of the inner loop. -/
def CrcRel (r0 : Nat) (r i : Value) : Prop := ∃ (j m : Nat), j ≤ 8 ∧ i = .int .i64 j ∧ r = .int .i64 m ∧ m < 65536 ∧ m = crcBits r0 j

end Go.Proofs.Ytaogolnoiffgiaa

namespace Go.Proofs.Ytaogolnoiffgiaa
open Go.RowKit Go.Sky

end Go.Proofs.Ytaogolnoiffgiaa

namespace Go.Proofs.Ytaogolnoiffgiaa
open Go.RowKit Go.Sky

def encU (n : Nat) : List Value := [.int .u64 (n : Int)]

theorem infoUint : (Try.prog.info? 234).map (fun i => (i.zero, i.size, i.bytes)) = some (some (.int .u64 0), 1, 8) := by kernel_rfl

theorem or_mask {m y : Nat} (hm : m < 256) (hy : y < 8) : bits .or .u64 (m : Int) (IntKind.u64.wrap (2 ^ y)) = ((m ||| 2 ^ y : Nat) : Int) := by
  have h2 : (2 : Nat) ^ y < 256 := Nat.lt_of_lt_of_le (Nat.pow_lt_pow_right (by omega) hy) (by decide)
  have e : IntKind.u64.wrap ((2 : Int) ^ y) = ((2 ^ y : Nat) : Int) := by
    rw [IntKind.wrap_u64]
    have e1 : ((2 : Int) ^ y) = ((2 ^ y : Nat) : Int) := by simp
    rw [e1]
    generalize 2 ^ y = t at *
    omega
  rw [e]
  exact u64_or_nat _ _ (by omega) (by omega)

end Go.Proofs.Ytaogolnoiffgiaa

namespace Go.Proofs.Ytaogolnoiffgiaa
open Go.RowKit Go.Sky

def PlanPost (w : World) (o : Option (List Int)) (e : Ending) (w' : World) : Prop :=
  ∃ A m cap, e = .returned (.slice A m cap) ∧ New w w' ∧ ((o = none ∧ A = none ∧ m = 0 ∧ cap = 0) ∨ (∃ r a, o = some r ∧ A = some a ∧ Rd w' 1 encI A m r))

end Go.Proofs.Ytaogolnoiffgiaa

namespace Go.Proofs.Ytaogolnoiffgiaa
open Go.RowKit Go.Sky

theorem Rd_new {α : Type} {k : Nat} {enc : α → List Value} (hk : ∀ x, (enc x).length = k) (w : World) (cs : Array Value) (t : TypeId) (B n : Nat) (xs : List α) (hB : B = w.heap.size) (hl : xs.length = n) (hf : cs.toList = xs.flatMap enc) :
    Rd (w.alloc (.cells cs t)) k enc (some ⟨B, 0, none⟩) n xs := by
  subst hB
  refine ⟨hl, fun _ => ⟨_, _, rfl, by simp, fun i x hx j u hu => ?_⟩⟩
  rw [World.cell?_alloc_at _ _ _ _ rfl, Nat.zero_add]
  have h := flat_at hk xs i x hx j u hu
  rw [← hf] at h
  simpa using h
theorem encX_len (x : Exch) : (encX x).length = 3 := rfl
theorem encP_len (x : Int × Int) : (encP x).length = 2 := rfl

theorem eql_rng_d (n : Nat) (a b c d : Int) (W : World) : (Op.equalIn (n + 2) 97 (.agg #[.int .i64 a, .int .i64 b]) (.agg #[.int .i64 c, .int .i64 d])).run Try.prog W = .ok (a == c && b == d) W := by
  have u := Try.underlying97
  have u3 := Try.underlying3
  have z3 := Try.sizeOf3
  have a3 := Try.isAgg3
  rw [Op.equalIn]
  by_cases h1 : a = c <;> by_cases h2 : b = d
  all_goals
    simp [run_underlying u, part, go_sem, h1, h2, a3, u3]
theorem eql_rng (a b c d : Int) (W : World) : (Op.equalIn 10000 97 (.agg #[.int .i64 a, .int .i64 b]) (.agg #[.int .i64 c, .int .i64 d])).run Try.prog W = .ok (a == c && b == d) W := eql_rng_d 9998 a b c d W
theorem guard_rng : (Try.prog).eqGuardType (Try.prog).depth 97 = false := by kernel_rfl

theorem awake_off : offAtS [⟨100, 505, 110⟩, ⟨200, 600, 204⟩] 0 300 = ((396, 400), 0) := by decide
theorem awake_way : packWay [5, 5, 5, 5, 5, 5, 9] = 2 := by decide
theorem awake_nums : packNums [5, 5, 5, 5, 5, 5, 9] = [5, 6, 9, 1] := by decide
theorem awake_ser : serE [5, 5, 5, 5, 5, 5, 9] = 0 := by decide
theorem awake_crc : crcS [0] = 57840 := by decide +kernel
theorem awake_net : netS 4 [(0, 1), (1, 2), (2, 3), (0, 3)] = (0, 0) := by decide
theorem awake_one : planF (maskS 4 [(0, 1), (1, 2), (2, 3), (0, 3)]) 1 4 [] = none := by decide
theorem awake_two : planF (maskS 4 [(0, 1), (1, 2), (2, 3), (0, 3)]) 2 4 [] = some [0, 1, 0, 1] := by decide +kernel

end Go.Proofs.Ytaogolnoiffgiaa

namespace Go.Proofs.Ytaogolnoiffgiaa
open Go.RowKit Go.Sky

theorem bWithin_any (n lo hi : Int) (w : World) : Calls Try.prog 19 #[.int .i64 n, .int .i64 lo, .int .i64 hi] w fun e w' => e = .returned (.bool (inR n lo hi)) ∧ w = w' := by
  by_cases h1 : lo ≤ n
  · go_enter Try.func19, Try.ntmps19
    go_wp2
    go_ret
    exact ⟨by simp [inR, h1], rfl⟩
  · go_enter Try.func19, Try.ntmps19
    go_wp2
    go_ret
    exact ⟨by simp only [inR]; simp; omega, rfl⟩
theorem bWithin_is (n lo hi : Int) (c : Bool) (w : World) (h : inR n lo hi = c) : Calls Try.prog 19 #[.int .i64 n, .int .i64 lo, .int .i64 hi] w fun e w' => e = .returned (.bool c) ∧ w = w' := h ▸ bWithin_any n lo hi w

theorem bIsTick_any (n : Int) (w : World) : Calls Try.prog 36 #[.int .i64 n] w fun e w' => e = .returned (.bool (tick n)) ∧ w = w' := by
  go_enter Try.func36, Try.ntmps36
  go_wp2_with (go_at_call 19; refine (bWithin_any _ _ _ _).mono ?_; rintro e w' ⟨rfl, rfl⟩)
  go_ret
  exact ⟨rfl, rfl⟩

/-! ### Go's division that rounds to zero, and the floor -/
theorem tmod_bd (n : Int) {b : Int} (hb : 0 < b) : -b < n.tmod b ∧ n.tmod b < b := ⟨Int.lt_tmod_of_pos n hb, Int.tmod_lt_of_pos n hb⟩
theorem emod_of_tmod (n : Int) {b : Int} (hb : 0 < b) : n % b = if n.tmod b < 0 then n.tmod b + b else n.tmod b := by
  obtain ⟨h1, h2⟩ := tmod_bd n hb
  have h3 := Int.mul_tdiv_add_tmod n b
  have h4 : n % b = (n.tmod b) % b := by
    conv => lhs; rw [← h3]
    rw [Int.add_comm, Int.add_mul_emod_self_left]
  rw [h4]
  generalize n.tmod b = r at *
  split
  · rw [← Int.add_emod_right]
    exact Int.emod_eq_of_lt (by omega) (by omega)
  · exact Int.emod_eq_of_lt (by omega) (by omega)
theorem ediv_of_tdiv (n : Int) {b : Int} (hb : 0 < b) : n / b = if n.tmod b < 0 then n.tdiv b - 1 else n.tdiv b := by
  have h1 := emod_of_tmod n hb
  have h3 := Int.mul_tdiv_add_tmod n b
  have h4 := Int.mul_ediv_add_emod n b
  split
  · rename_i h
    rw [if_pos h] at h1
    have h5 : b * (n / b) = b * (n.tdiv b - 1) := by rw [Int.mul_sub]; omega
    exact Int.eq_of_mul_eq_mul_left (by omega) h5
  · rename_i h
    rw [if_neg h] at h1
    have h5 : b * (n / b) = b * (n.tdiv b) := by omega
    exact Int.eq_of_mul_eq_mul_left (by omega) h5

set_option maxHeartbeats 400000 in
theorem Mod_any (n b : Int) (w : World) (hb : 1 ≤ b) (hb1 : b ≤ 1000000000) : Calls Try.prog 14 #[.int .i64 n, .int .i64 b] w fun e w' => e = .returned (.int .i64 (n % b)) ∧ w = w' := by
  obtain ⟨h1, h2⟩ := tmod_bd n (b := b) (by omega)
  have HE := Lib.hid (emod_of_tmod n (b := b) (by omega))
  have h3 : -1000000000 ≤ n.tmod b := by omega
  have h4 : n.tmod b ≤ 1000000000 := by omega
  have hb0 : (b == 0) = false := by simp; omega
  by_cases hneg : n.tmod b < 0
  · have HV := Lib.hid (show n % b = n.tmod b + b by rw [HE.out, if_pos hneg])
    go_enter Try.func14, Try.ntmps14
    go_wp2
    go_ret
    exact ⟨by rw [HV.out]; rfl, rfl⟩
  · have HV := Lib.hid (show n % b = n.tmod b by rw [HE.out, if_neg hneg])
    go_enter Try.func14, Try.ntmps14
    go_wp2
    go_ret
    exact ⟨by rw [HV.out]; rfl, rfl⟩

/-- The quotient rounded up, as the reference has it. -/
def ceilI (n b : Int) : Int := -((-n) / b)
theorem ceil_up {n b : Int} (hb : 0 < b) : ceilI n b = upS n b := by
  unfold ceilI upS
  have h1 := Int.mul_ediv_add_emod (-n) b
  have h2 := Int.emod_nonneg (-n) (show b ≠ 0 by omega)
  have h3 := Int.emod_lt_of_pos (-n) hb
  have h4 := Int.mul_ediv_add_emod (n + b - 1) b
  have h5 := Int.emod_nonneg (n + b - 1) (show b ≠ 0 by omega)
  have h6 := Int.emod_lt_of_pos (n + b - 1) hb
  generalize (-n) / b = q at *
  generalize (n + b - 1) / b = r at *
  generalize (-n) % b = x at *
  generalize (n + b - 1) % b = y at *
  have h7 : b * (q + r) = b - 1 - x - y := by rw [Int.mul_add]; omega
  have h8 : -b < b * (q + r) := by omega
  have h9 : b * (q + r) < b := by omega
  have h10 : q + r = 0 := by
    rcases Int.lt_trichotomy (q + r) 0 with h | h | h
    · have := Int.mul_le_mul_of_nonneg_left (show q + r ≤ -1 by omega) (show 0 ≤ b by omega)
      omega
    · exact h
    · have := Int.mul_le_mul_of_nonneg_left (show 1 ≤ q + r by omega) (show 0 ≤ b by omega)
      omega
  omega

end Go.Proofs.Ytaogolnoiffgiaa

namespace Go.Proofs.Ytaogolnoiffgiaa
open Go.RowKit Go.Sky

theorem bit_and_nat (a b : Nat) (ha : a < 9223372036854775808) (hb : b < 9223372036854775808) : bits .and .i64 (a : Int) (b : Int) = ((a &&& b : Nat) : Int) := by
  have hx : a &&& b ≤ a := Nat.and_le_left
  show IntKind.i64.wrap ((BitVec.ofInt 64 (a : Int) &&& BitVec.ofInt 64 (b : Int)).toNat : Int) = _
  rw [BitVec.toNat_and, ofInt_i64 a ha, ofInt_i64 b hb, IntKind.wrap_i64]
  omega
theorem bit_one {p k : Nat} (hp : p < 65536) : (bits .and .i64 ((p : Int) / 2 ^ k) 1 == 1) = p.testBit k := by
  have hdiv : (p : Int) / 2 ^ k = ((p / 2 ^ k : Nat) : Int) := by simp
  have hle : p / 2 ^ k ≤ p := Nat.div_le_self _ _
  rw [hdiv, Nat.testBit_eq_decide_div_mod_eq]
  generalize p / 2 ^ k = q at *
  have e := bit_and_nat q 1 (by omega) (by omega)
  rw [Nat.and_one_is_mod] at e
  rw [show ((1 : Nat) : Int) = 1 from rfl] at e
  rw [e]
  rw [Bool.eq_iff_iff]
  simp
  omega
theorem bit_zero {p k : Nat} (hp : p < 65536) : (bits .and .i64 ((p : Int) / 2 ^ k) 1 == 0) = !p.testBit k := by
  have hdiv : (p : Int) / 2 ^ k = ((p / 2 ^ k : Nat) : Int) := by simp
  have hle : p / 2 ^ k ≤ p := Nat.div_le_self _ _
  rw [hdiv, Nat.testBit_eq_decide_div_mod_eq]
  generalize p / 2 ^ k = q at *
  have e := bit_and_nat q 1 (by omega) (by omega)
  rw [Nat.and_one_is_mod] at e
  rw [show ((1 : Nat) : Int) = 1 from rfl] at e
  rw [e]
  rw [Bool.eq_iff_iff]
  simp
  omega

theorem isNaN_any (a : Int) (w : World) : Calls Try.prog 186 #[.int .i64 a] w fun e w' => e = .returned (.bool false) ∧ w = w' := by
  have d : (a != a) = false := by simp
  go_enter Try.func186, Try.ntmps186
  go_wp2
  go_ret
  exact ⟨rfl, rfl⟩

set_option maxHeartbeats 400000 in
theorem cmpI_any (a b : Int) (w : World) : Calls Try.prog 175 #[.int .i64 a, .int .i64 b] w fun e w' => e = .returned (.int .i64 (cmpI a b)) ∧ w = w' := by
  by_cases h1 : a < b
  · have HV := Lib.hid (show cmpI a b = -1 by unfold cmpI; rw [if_pos h1])
    go_enter Try.func175, Try.ntmps175
    go_wp2_with (go_at_call 186; refine (isNaN_any _ _).mono ?_; rintro e w' ⟨rfl, rfl⟩)
    go_ret
    exact ⟨by rw [HV.out]; rfl, rfl⟩
  · by_cases h2 : b < a
    · have HV := Lib.hid (show cmpI a b = 1 by unfold cmpI; rw [if_neg h1, if_pos h2])
      go_enter Try.func175, Try.ntmps175
      go_wp2_with (go_at_call 186; refine (isNaN_any _ _).mono ?_; rintro e w' ⟨rfl, rfl⟩)
      go_ret
      exact ⟨by rw [HV.out]; rfl, rfl⟩
    · have HV := Lib.hid (show cmpI a b = 0 by unfold cmpI; rw [if_neg h1, if_neg h2])
      go_enter Try.func175, Try.ntmps175
      go_wp2_with (go_at_call 186; refine (isNaN_any _ _).mono ?_; rintro e w' ⟨rfl, rfl⟩)
      go_ret
      exact ⟨by rw [HV.out]; rfl, rfl⟩

set_option maxRecDepth 100000 in
set_option maxHeartbeats 1000000 in
theorem compare_any (A B : Option Addr) (n m c1 c2 : Nat) (xs ys : List Int) (w : World) (hn : n ≤ 1000000) (_hm : m ≤ 1000000) (hr : Rd w 1 encI A n xs) (hs : Rd w 1 encI B m ys) :
    Calls Try.prog 157 #[.slice A n c1, .slice B m c2] w fun e w' => e = .returned (.int .i64 (lexC xs ys)) ∧ w = w' := by
  have HL := Lib.hid hr.len
  have HM := Lib.hid hs.len
  have HR := Lib.hid hr; clear hr
  have HS := Lib.hid hs; clear hs
  go_enter Try.func157, Try.ntmps157
  go_wp2
  go_loopw [11] (fun i wr => ∃ k : Nat, k ≤ n ∧ i = .int .i64 (k : Int) ∧ Hid (lexC xs ys = lexC (xs.drop k) (ys.drop k)) ∧ wr = w) (fun i _ => n - (intOf i).toNat)
  case atStart => exact ⟨0, by omega, rfl, rfl, rfl⟩
  case round =>
    obtain ⟨k, hk, rfl, HF, rfl⟩ := hrel
    by_cases hlt : k < n
    · obtain ⟨b, o, x, rfl, hb, hx, hc⟩ := HR.out.at_ hlt
      have g0 := hc 0 _ rfl
      simp only [Nat.add_zero, Nat.mul_one] at g0
      have HX := Lib.hid hx
      clear hx hc
      by_cases hkm : k < m
      · obtain ⟨b', o', y, rfl, hb', hy, hc'⟩ := HS.out.at_ hkm
        have g1 := hc' 0 _ rfl
        simp only [Nat.add_zero, Nat.mul_one] at g1
        have HY := Lib.hid hy
        clear hy hc'
        have hst := lexC_drop HX.out HY.out
        rw [← HF.out] at hst
        obtain ⟨c, hc⟩ : ∃ c, cmpI x y = c := ⟨_, rfl⟩
        rw [hc] at hst
        have HC := Lib.hid hc
        have HST := Lib.hid hst
        clear hst hc
        go_wp2_with fail
        refine (cmpI_any _ _ _).mono ?_
        rintro e w' ⟨rfl, rfl⟩
        rw [HC.out]
        by_cases hc0 : c = 0
        · have HV := Lib.hid (show lexC xs ys = lexC (xs.drop (k + 1)) (ys.drop (k + 1)) by rw [HST.out, if_pos hc0])
          subst hc0
          go_wp2_with fail
          go_roundw
          case rel => exact ⟨k + 1, by omega, by go_num, HV, trivial⟩
          case measure => simp [intOf]; omega
        · have HV := Lib.hid (show lexC xs ys = c by rw [HST.out, if_neg hc0])
          have hcb : (c != 0) = true := by simpa using hc0
          clear hc0
          go_wp2_with fail
          go_ret
          exact ⟨by rw [HV.out]; rfl, rfl⟩
      · have HV := Lib.hid (show lexC xs ys = 1 by rw [HF.out, lexC_over (by rw [HL.out]; exact hlt) (by rw [HM.out]; omega)])
        go_wp2_with fail
        go_ret
        exact ⟨by rw [HV.out]; rfl, rfl⟩
    · obtain rfl : k = n := by omega
      have hst := lexC_end (xs := xs) (ys := ys) (k := k) (by rw [HL.out]; exact Nat.le_refl _)
      rw [← HF.out, HM.out] at hst
      by_cases hkm : k < m
      · have HV := Lib.hid (show lexC xs ys = -1 by rw [hst, if_pos hkm])
        clear hst
        go_wp2_with fail
        go_ret
        exact ⟨by rw [HV.out]; rfl, rfl⟩
      · have HV := Lib.hid (show lexC xs ys = 0 by rw [hst, if_neg hkm])
        clear hst
        go_wp2_with fail
        go_ret
        exact ⟨by rw [HV.out]; rfl, rfl⟩

end Go.Proofs.Ytaogolnoiffgiaa

namespace Go.Proofs.Ytaogolnoiffgiaa
open Go.RowKit Go.Sky

set_option maxRecDepth 100000 in
set_option maxHeartbeats 400000 in
theorem idxFuncM (g : Nat) (cb : Array Value) (p : Int → Bool) (A : Option Addr) (n cap : Nat) (xs : List Int) (w : World) (hn : n ≤ 1000000) (hr : Rd w 1 encI A n xs) (eg : ∀ (args : Array Value) (W : World), (callFunc g args).run Try.prog W = .ok (.enter g args) W)
    (hp : ∀ x, x ∈ xs → ∀ W, New w W → Calls Try.prog g (#[.int .i64 x] ++ cb) W fun e w' => e = .returned (.bool (p x)) ∧ New W w') :
    Calls Try.prog 124 #[.slice A n cap, .func (.func g) #[] cb] w fun e w' => e = .returned (.int .i64 (idxS p xs)) ∧ New w w' := by
  have HR := Lib.hid hr; clear hr
  have HP := Lib.hid hp; clear hp
  go_enter Try.func124, Try.ntmps124
  go_wp2
  go_loopw [5, 8] (fun _ i wr => ∃ k : Nat, k ≤ n ∧ i = .int .i64 k ∧ Hid (∀ j x, j < k → xs[j]? = some x → p x = false) ∧ New w wr) (fun _ i _ => n - (intOf i).toNat)
  case atStart => exact ⟨0, by omega, rfl, (fun j x hj => absurd hj (by omega)), New.refl _⟩
  case round =>
    obtain ⟨k, hk, rfl, HF, hN⟩ := hrel
    by_cases hlt : k < n
    · obtain ⟨b, o, x, rfl, hb, hx, hc⟩ := (HR.out.keep hN).at_ hlt
      have g0 := hc 0 _ rfl
      simp only [Nat.add_zero, Nat.mul_one] at g0
      have HX := Lib.hid hx
      clear hx hc
      obtain ⟨q, hq⟩ : ∃ q, p x = q := ⟨_, rfl⟩
      have HQ := Lib.hid hq
      cases q
      all_goals
        go_wp2_with fail
        refine (HP.out x (List.mem_of_getElem? HX.out) _ hN).mono ?_
        rintro e w1 ⟨he, hn1⟩
        rw [HQ.out] at he
        subst he
        clear hq
      · go_wp2
        go_roundw
        case rel => exact ⟨k + 1, by omega, by go_num, fun j y hj hy => by
          rcases Nat.lt_or_ge j k with h | h
          · exact HF.out j y h hy
          · obtain rfl : j = k := by omega
            have hxy := HX.out
            rw [hy] at hxy
            injection hxy with hxy
            rw [hxy]
            exact HQ.out, hN.trans hn1⟩
        case measure => simp [intOf]; omega
      · go_wp2
        go_ret
        exact ⟨by rw [idxS_hit p xs k x HX.out HQ.out HF.out]; rfl, hN.trans hn1⟩
    · go_wp2
      go_ret
      exact ⟨by rw [idxS_miss p xs n HR.out.len (fun j y hj hy => HF.out j y (by omega) hy)]; rfl, hN⟩

set_option maxRecDepth 100000 in
set_option maxHeartbeats 400000 in
theorem containsFuncM (g : Nat) (cb : Array Value) (p : Int → Bool) (A : Option Addr) (n cap : Nat) (xs : List Int) (w : World) (hn : n ≤ 1000000) (hr : Rd w 1 encI A n xs) (eg : ∀ (args : Array Value) (W : World), (callFunc g args).run Try.prog W = .ok (.enter g args) W)
    (hp : ∀ x, x ∈ xs → ∀ W, New w W → Calls Try.prog g (#[.int .i64 x] ++ cb) W fun e w' => e = .returned (.bool (p x)) ∧ New W w') :
    Calls Try.prog 82 #[.slice A n cap, .func (.func g) #[] cb] w fun e w' => e = .returned (.bool (xs.any p)) ∧ New w w' := by
  have HR := Lib.hid hr; clear hr
  have HP := Lib.hid hp; clear hp
  have HG := Lib.hid eg; clear eg
  have HA := Lib.hid (idxS_any p xs)
  go_enter Try.func82, Try.ntmps82
  go_wp2_with (go_at_call 124; refine (idxFuncM g cb p A n cap xs _ hn HR.out HG.out HP.out).mono ?_; rintro e w1 ⟨rfl, hn1⟩)
  go_ret
  exact ⟨by rw [← HA.out]; rfl, hn1⟩

theorem grp_stay {ms : List Nat} {set k : Nat} (h : grpTo ms set k = none) : ∀ d, grpTo ms set (k + d) = none
  | 0 => h
  | d + 1 => by rw [← Nat.add_assoc]; exact grp_none (grp_stay h d)
theorem grpS_none {ms : List Nat} {set k s : Nat} (h : grpTo ms set k = none) (hk : k ≤ s) : grpS ms set s = [] := by
  obtain ⟨d, rfl⟩ := Nat.exists_eq_add_of_le hk
  unfold grpS
  rw [grp_stay h d]
  rfl
theorem grp_lt {ms : List Nat} {set i : Nat} {out : List Int} (h : grpTo ms set i = some out) : ∀ x ∈ out, 0 ≤ x ∧ x < (i : Int) := by
  rcases grp_mem ms set i with ⟨_, h2⟩ | ⟨_, h2⟩
  · rw [h2] at h; injection h with h; rw [← h]; exact memTo_lt set i
  · rw [h2] at h; cases h
theorem grp_len {ms : List Nat} {set i : Nat} {out : List Int} (h : grpTo ms set i = some out) : out.length ≤ i := by
  rcases grp_mem ms set i with ⟨_, h2⟩ | ⟨_, h2⟩
  · rw [h2] at h; injection h with h; rw [← h]; exact memTo_len set i
  · rw [h2] at h; cases h
theorem grpS_len (ms : List Nat) (set s : Nat) : (grpS ms set s).length ≤ s := by
  unfold grpS
  cases h : grpTo ms set s with
  | none => simp
  | some out => exact grp_len h

theorem better_of {l b : List Int} {m2 m : Nat} (hl : l.length = m2) (hb : b.length = m) : better l b = (decide (m < m2) || (decide (m2 = m) && decide (lexC l b < 0))) := by
  unfold better; rw [hl, hb]
theorem best_take {ms : List Nat} {s N m2 m : Nat} (hl : (grpS ms N s).length = m2) (hb : (bestTo ms s N).length = m) (h : m < m2 ∨ (m2 = m ∧ lexC (grpS ms N s) (bestTo ms s N) < 0)) : bestTo ms s (N + 1) = grpS ms N s := by
  rw [best_succ, better_of hl hb, if_pos]
  rcases h with h | ⟨h1, h2⟩
  · simp [h]
  · simp [h1, h2]
theorem best_keep {ms : List Nat} {s N m2 m : Nat} (hl : (grpS ms N s).length = m2) (hb : (bestTo ms s N).length = m) (h : ¬ m < m2) (h' : m2 = m → ¬ lexC (grpS ms N s) (bestTo ms s N) < 0) : bestTo ms s (N + 1) = bestTo ms s N := by
  rw [best_succ, better_of hl hb, if_neg]
  by_cases h2 : m2 = m
  · have := h' h2
    simp [h2, this]
  · simp [h, h2]

end Go.Proofs.Ytaogolnoiffgiaa

namespace Go.Proofs.Ytaogolnoiffgiaa
open Go.RowKit Go.Sky

theorem idxZ_S {α : Type} (p : α → Bool) (xs : List α) : idxZ p xs = idxS p xs := rfl

/-- What CheckPlan answers: the net's error, or the plan's. -/
def chkF (st : Int) (ps : List (Int × Int)) (sl : List Int) : Int × Int := if (netS st ps).2 ≠ 0 then (0, (netS st ps).2) else chkS st ps sl

end Go.Proofs.Ytaogolnoiffgiaa

namespace Go.Proofs.Ytaogolnoiffgiaa
open Go.RowKit Go.Sky

theorem encX_one (x : Exch) : ∀ u ∈ encX x, u.oneCell' = true := by intro u hu; simp [encX] at hu; rcases hu with rfl | rfl | rfl <;> rfl
theorem exErr_of (x : Exch) : exErr x = if (tick x.s && tick x.t && tick x.r) = true then (if x.r < x.s then 9 else 0) else 2 := by
  unfold exErr
  rw [firstE_two]
  cases tick x.s && tick x.t && tick x.r
  · rfl
  · by_cases h : x.s ≤ x.r
    · rw [if_pos (by rfl), if_pos rfl, if_neg (by omega)]; simp [errU, h]
    · rw [if_pos (by rfl), if_pos rfl, if_pos (by omega)]; simp [errU, h]

theorem timeE_of (d t : Int) : timeE d t = if (inR d 0 1000 && tick t) = true then 0 else 2 := by
  unfold timeE
  rw [firstE_two]
  cases inR d 0 1000 <;> cases tick t <;> rfl

end Go.Proofs.Ytaogolnoiffgiaa
