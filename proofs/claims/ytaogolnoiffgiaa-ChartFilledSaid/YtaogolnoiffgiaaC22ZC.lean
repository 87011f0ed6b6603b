/- Contracts: the reference of polygons: checked, their area, their turns.
   Contracts: the turns of a polygon around a cell (program, reference).
   Contracts: the turns of a polygon around a cell in the reference. -/
import Derived.BigQuiet
import Derived.Deep.AppendLies
import Derived.Deep.Draws
import Derived.Deep.Quiet
import Derived.Deep.QuietTactic
import Derived.Laws.BitsAllLaws
import Derived.Laws.Rows
import Derived.Lib.Hide
import Derived.LoopIn
import Derived.LoopNIn
import Derived.MapKept
import Derived.Maps.Keyed
import Derived.Maps.OwnIn
import Derived.OrdersIn
import Derived.OwnWalkIn
import Derived.RangeFuncBound
import Derived.RangeFuncCalls
import Derived.RangeFuncLeaves
import Derived.RangeFuncNested
import Derived.Shelf.Abstract
import Derived.Shelf.RegionOpen
import Derived.StillTail
import Derived.TacticsIn
import Derived.TacticsInMore
import Derived.Test.YtaogolnoiffgiaaProg
import Derived.WalkKit
import Derived.WalkLawsBesides
import Derived.WalkSpells
import Derived.Test.YtaogolnoiffgiaaC22E
import Derived.Test.YtaogolnoiffgiaaC22I
import Derived.Test.YtaogolnoiffgiaaC22U
import Derived.Test.YtaogolnoiffgiaaC22ZB

namespace Go.Proofs.Ytaogolnoiffgiaa
open Go.RowKit Go.Sky Go.Sky.Ch

theorem idx_find {α : Type} {p : α → Bool} {xs : List α} {k : Nat} (h : idxS p xs = (k : Int)) : xs.findIdx? p = some k := by
  unfold idxS at h
  cases hf : xs.findIdx? p with
  | none => rw [hf] at h; simp only at h; omega
  | some i => rw [hf] at h; simp only at h; rw [show i = k by omega]
theorem idx_none {α : Type} {p : α → Bool} {xs : List α} (h : ∀ j x, j < xs.length → xs[j]? = some x → p x = false) : xs.findIdx? p = none := by
  rw [List.findIdx?_eq_none_iff]
  intro x hx
  obtain ⟨i, hi, rfl⟩ := List.getElem_of_mem hx
  exact h i _ hi (List.getElem?_eq_getElem hi)
theorem prev_idx {c : List Pl} {n k j : Nat} (hn : c.length = n) (hk : k < n) (hj : (k + n - 1) % n = j) : prevP c k = c.getD j (0, 0) ∧ j < n := by
  have hlt : j < n := by rw [← hj]; exact Nat.mod_lt _ (by omega)
  refine ⟨?_, hlt⟩
  unfold prevP
  rw [List.getD_eq_getElem?_getD, hn]
  by_cases h0 : k = 0
  · subst h0
    rw [if_pos rfl]
    have : j = n - 1 := by rw [← hj, Nat.zero_add, Nat.mod_eq_of_lt (by omega)]
    rw [this]
  · rw [if_neg h0]
    have : j = k - 1 := by rw [← hj, show k + n - 1 = (k - 1) + n by omega, Nat.add_mod_right, Nat.mod_eq_of_lt (by omega)]
    rw [this]

set_option maxRecDepth 100000 in
set_option maxHeartbeats 4000000 in
theorem refCon_any (A : Option Addr) (n cap : Nat) (c : List Pl) (w : World) (hn : n ≤ 1000000) (hr : Rd w 2 encPl A n c) :
    Calls Try.prog 50 #[.slice A n cap] w fun e w' => e = .returned (.tuple #[.int .i64 (conS c).1, .int .i64 (conS c).2]) ∧ New w w' := by
  have HL := Lib.hid hr.len
  have HR := Lib.hid hr
  clear hr
  by_cases h4 : n < 4
  · have HV := Lib.hid (show conS c = (0, 10) by unfold conS; rw [if_pos (by rw [HL.out]; exact h4)])
    go_enter Try.func50, Try.ntmps50
    go_wp2_with fail
    go_ret2
    exact ⟨by rw [HV.out]; rfl, New.refl _⟩
  by_cases h2 : 200 < n
  · have HV := Lib.hid (show conS c = (0, 8) by unfold conS; rw [if_neg (by rw [HL.out]; exact h4), if_pos (by rw [HL.out]; exact h2)])
    go_enter Try.func50, Try.ntmps50
    go_wp2_with fail
    go_ret2
    exact ⟨by rw [HV.out]; rfl, New.refl _⟩
  have HV := Lib.hid (show conS c = conM c by unfold conS; rw [if_neg (by rw [HL.out]; exact h4), if_neg (by rw [HL.out]; exact h2)])
  go_enter Try.func50, Try.ntmps50
  go_wp2_with fail
  go_loopw [4, 5] (fun i _ wr => ∃ k : Nat, k ≤ n ∧ i = .int .i64 (k : Int) ∧ Hid (∀ j x, j < k → c[j]? = some x → plBad x = false) ∧ New w wr) (fun i _ _ => n - (intOf i).toNat)
  case atStart => exact ⟨0, by omega, rfl, fun j x hj => absurd hj (by omega), New.refl _⟩
  case round =>
    obtain ⟨k, hk, rfl, HF, hN⟩ := hrel
    by_cases hlt : k < n
    · obtain ⟨b, o, p, rfl, hb, hx, hc⟩ := (HR.out.keep hN).at_ hlt
      have g0 := hc 0 _ rfl
      have g1 := hc 1 _ rfl
      simp only [Nat.add_zero] at g0
      have HX := Lib.hid hx
      have i0 : (0 : Int) ≤ (k : Int) := by omega
      have i1 : (k : Int) < (n : Int) := by omega
      clear hx hc
      obtain ⟨E, hE⟩ : ∃ E, placeE p.1 p.2 = E := ⟨_, rfl⟩
      have HE := Lib.hid hE
      have hz : (E = 0 ∧ (E != 0) = false ∧ Hid (plBad p = false)) ∨ (E = 2 ∧ (E != 0) = true ∧ Hid (plBad p = true)) := by
        rw [← hE]
        unfold placeE plBad
        cases placeOk p.1 p.2
        · exact .inr ⟨rfl, rfl, rfl⟩
        · exact .inl ⟨rfl, rfl, rfl⟩
      clear hE
      rcases hz with ⟨rfl, b2, HB⟩ | ⟨rfl, b2, HB⟩
      · go_wp2_with fail
        refine (refPlace_is HE.out _).mono ?_
        rintro e w2 ⟨rfl, n2⟩
        go_wp2_with fail
        go_roundw
        case rel => exact ⟨k + 1, by omega, by go_num, fun j z hj hz => by
          rcases Nat.lt_or_ge j k with h | h
          · exact HF.out j z h hz
          · obtain rfl : j = k := by omega
            have hxy := HX.out
            rw [hz] at hxy
            injection hxy with hxy
            rw [hxy]; exact HB.out, hN.trans n2⟩
        case measure => simp [intOf]; omega
      · have HW := Lib.hid (show conM c = ((k : Int), 2) by
          unfold conM
          rw [idx_find (idxS_hit plBad c k p HX.out HB.out HF.out)])
        go_wp2_with fail
        refine (refPlace_is HE.out _).mono ?_
        rintro e w2 ⟨rfl, n2⟩
        go_wp2_with fail
        go_ret2
        exact ⟨by rw [HV.out, HW.out]; rfl, hN.trans n2⟩
    · obtain rfl : k = n := by omega
      have HW := Lib.hid (show conS c = fb (gapAt c) k by
        rw [HV.out]
        unfold conM
        rw [idx_none (fun j x hj => HF.out j x (by rw [← HL.out]; exact hj)), HL.out])
      have HPL := Lib.hid (show ∀ p ∈ c, placeOk p.1 p.2 = true by
        intro p hp
        obtain ⟨i, hi, rfl⟩ := List.getElem_of_mem hp
        have := HF.out i _ (by rw [← HL.out]; exact hi) (List.getElem?_eq_getElem hi)
        unfold plBad at this
        simpa using this)
      obtain ⟨w1, hw1⟩ : ∃ W, wr = W := ⟨_, rfl⟩
      rw [hw1] at hN ⊢
      clear hw1 HF HV
      go_wp2_with fail
      go_loopw [6] (fun i wr => ∃ m : Nat, m ≤ k ∧ i = .int .i64 (m : Int) ∧ Hid (∀ j, j < m → gapAt c j = 0) ∧ New w wr) (fun i _ => k - (intOf i).toNat)
      case atStart => exact ⟨0, by omega, rfl, fun j hj => absurd hj (by omega), hN⟩
      case round =>
        clear hN
        obtain ⟨m, hm, rfl, HF, hN⟩ := hrel
        by_cases hlt : m < k
        · obtain ⟨b, o, p, rfl, hb, hx, hc⟩ := (HR.out.keep hN).at_ hlt
          have g0 := hc 0 _ rfl
          have g1 := hc 1 _ rfl
          simp only [Nat.add_zero] at g0
          obtain ⟨j, hj⟩ : ∃ j, (m + k - 1) % k = j := ⟨_, rfl⟩
          have hpj := prev_idx HL.out hlt hj
          obtain ⟨b', o', q, hA, hb', hy, hcy⟩ := (HR.out.keep hN).at_ hpj.2
          injection hA with hA
          injection hA with ea eb
          subst ea eb
          have e0 := hcy 0 _ rfl
          have e1 := hcy 1 _ rfl
          simp only [Nat.add_zero] at e0
          have hq : prevP c m = q := by rw [hpj.1, List.getD_eq_getElem?_getD, hy]; rfl
          have HGP := Lib.hid (show gapAt c m = if sqS q.1 q.2 p.1 p.2 = 1 then 0 else 14 by unfold gapAt; rw [hx]; dsimp only; rw [hq])
          have bq := place_bd (HPL.out q (List.mem_of_getElem? hy))
          have j0 : (0 : Int) ≤ (j : Int) := by omega
          have j1 : (j : Int) < (k : Int) := by have := hpj.2; omega
          have hji : ((m : Int) + (k : Int) - 1) % (k : Int) = (j : Int) := by
            rw [← hj, Int.natCast_emod]
            congr 1
            omega
          have i0 : (0 : Int) ≤ (m : Int) := by omega
          have i1 : (m : Int) < (k : Int) := by omega
          have i2 : (0 : Int) ≤ (m : Int) + (k : Int) - 1 := by omega
          have i3 : (m : Int) + (k : Int) - 1 ≤ 100000000 := by omega
          have hk0 : (k : Int) ≠ 0 := by omega
          clear hx hc hy hcy hpj hj hq
          obtain ⟨d, hd⟩ : ∃ d, dirS q p = d := ⟨_, rfl⟩
          have HD := Lib.hid hd
          have hdd := dir_dec q p
          rw [hd] at hdd
          clear hd
          obtain ⟨t, ht⟩ : ∃ t, (sqS q.1 q.2 p.1 p.2 != 1) = t := ⟨_, rfl⟩
          rw [ht] at hdd
          have HT := Lib.hid ht
          clear ht
          cases t
          all_goals
            go_wp2_with fail
            (refine wp_region_new (by kernel_rfl) (by kernel_rfl) ?_; (repeat (go_big_quiet_step (((go_at_call 110; exact quiet_new (refDir_is HD.out _ ⟨by omega, by omega⟩)))))); refine wpQuiet_nil ?_)
            intro w2 n2
          · go_wp2_with fail
            go_roundw
            case rel => exact ⟨m + 1, by omega, by go_num, fun j hj => by
              rcases Nat.lt_or_ge j m with h | h
              · exact HF.out j h
              · obtain rfl : j = m := by omega
                rw [HGP.out, if_pos (by simpa using HT.out)], hN.trans n2⟩
            case measure => simp [intOf]; omega
          · have HH := Lib.hid (show fb (gapAt c) k = ((m : Int), 14) by
              have hne : ¬ sqS q.1 q.2 p.1 p.2 = 1 := by simpa using HT.out
              rw [fb_hit hlt HF.out (by rw [HGP.out, if_neg hne]; decide), HGP.out, if_neg hne])
            go_wp2_with fail
            go_ret2
            exact ⟨by rw [HW.out, HH.out]; rfl, hN.trans n2⟩
        · obtain rfl : m = k := by omega
          have HB := Lib.hid (fb_none HF.out)
          go_wp2_with fail
          go_ret2
          exact ⟨by rw [HW.out, HB.out]; rfl, hN⟩
theorem refCon_is {c : List Pl} {u v : Int} (h1 : (conS c).1 = u) (h2 : (conS c).2 = v) (A : Option Addr) (n cap : Nat) (w : World) (hn : n ≤ 1000000) (hr : Rd w 2 encPl A n c) :
    Calls Try.prog 50 #[.slice A n cap] w fun e w' => e = .returned (.tuple #[.int .i64 u, .int .i64 v]) ∧ New w w' := h1 ▸ h2 ▸ refCon_any A n cap c w hn hr

/-- A place and the next one. -/
theorem next_at {c : List Pl} {W : World} {b o n i : Nat} (hr : Rd W 2 encPl (some ⟨b, o, none⟩) n c) (hi : i < n) : ∃ (p q : Pl) (j : Nat), c.getD i (0, 0) = p ∧ nextP c i = q ∧ j < n ∧ ((i : Int) + 1) % (n : Int) = (j : Int) ∧ p ∈ c ∧ q ∈ c ∧
    W.cell? ⟨b, o + i * 2, none⟩ = some (.int .i64 p.1) ∧ W.cell? ⟨b, o + i * 2 + 1, none⟩ = some (.int .i64 p.2) ∧ W.cell? ⟨b, o + j * 2, none⟩ = some (.int .i64 q.1) ∧ W.cell? ⟨b, o + j * 2 + 1, none⟩ = some (.int .i64 q.2) := by
  have hj : (i + 1) % n < n := Nat.mod_lt _ (by omega)
  obtain ⟨b1, o1, p, hA, _, hx, hc⟩ := hr.at_ hi
  injection hA with hA
  injection hA with ea eb
  subst ea eb
  obtain ⟨b2, o2, q, hA2, _, hy, hd⟩ := hr.at_ hj
  injection hA2 with hA2
  injection hA2 with ea eb
  subst ea eb
  refine ⟨p, q, (i + 1) % n, by rw [List.getD_eq_getElem?_getD, hx]; rfl, by unfold nextP; rw [hr.len, hy]; rfl, hj, by simp, List.mem_of_getElem? hx, List.mem_of_getElem? hy, ?_, hc 1 _ rfl, ?_, hd 1 _ rfl⟩
  · have := hc 0 _ rfl; simpa using this
  · have := hd 0 _ rfl; simpa using this

theorem area2_bd {c : List Pl} (h : ∀ p ∈ c, PlB p) (hc : c ≠ []) : ∀ k : Nat, -(900 * (k : Int)) ≤ area2 c k ∧ area2 c k ≤ 900 * (k : Int)
  | 0 => by simp [area2]
  | k + 1 => by
    have h1 := mul_bd30 (atP_bd h k).1 (nextP_bd h k).2
    have h2 := mul_bd30 (nextP_bd h k).1 (atP_bd h k).2
    have := area2_bd h hc k
    unfold area2
    unfold atP at h1 h2
    omega

set_option maxRecDepth 100000 in
set_option maxHeartbeats 4000000 in
theorem refArea_any (A : Option Addr) (n cap : Nat) (c : List Pl) (w : World) (hn : 1 ≤ n ∧ n ≤ 200) (hr : Rd w 2 encPl A n c) (hp : ∀ p ∈ c, PlB p) :
    Calls Try.prog 51 #[.slice A n cap] w fun e w' => e = .returned (.int .i64 (areaS c)) ∧ New w w' := by
  have HL := Lib.hid hr.len
  have HR := Lib.hid hr
  have HP := Lib.hid hp
  have HB := Lib.hid (area2_bd hp (fun e => by have := hr.len; rw [e] at this; simp at this; omega))
  clear hr hp
  go_enter Try.func51, Try.ntmps51
  go_wp2_with fail
  go_loopw [3, 4] (fun z i wr => ∃ k : Nat, k ≤ n ∧ i = .int .i64 (k : Int) ∧ z = .int .i64 (area2 c k) ∧ New w wr) (fun _ i _ => n - (intOf i).toNat)
  case atStart => exact ⟨0, by omega, rfl, rfl, New.refl _⟩
  case round =>
    obtain ⟨k, hk, rfl, rfl, hN⟩ := hrel
    have hbd := HB.out k
    by_cases hlt : k < n
    · obtain ⟨b, o, _, rfl, hb, _, _⟩ := (HR.out.keep hN).at_ hlt
      obtain ⟨p, q, j, hp, hq, hj, hji, pm, qm, p0, p1, q0, q1⟩ := next_at (HR.out.keep hN) hlt
      have HST := Lib.hid (show area2 c (k + 1) = area2 c k + (p.1 * q.2 - q.1 * p.2) by rw [area2, hp, hq])
      have bp := HP.out p pm
      have bq := HP.out q qm
      have m1 := mul_bd30 bp.1 bq.2
      have m2 := mul_bd30 bq.1 bp.2
      have i0 : (0 : Int) ≤ (k : Int) := by omega
      have i1 : (k : Int) < (n : Int) := by omega
      have j0 : (0 : Int) ≤ (j : Int) := by omega
      have j1 : (j : Int) < (n : Int) := by omega
      clear hp hq pm qm bp bq
      have b1 := Bx.mk wr 73 #[.int .i64 q.1, .int .i64 q.2]
      have N1 := hN.alloc (.cells #[.int .i64 q.1, .int .i64 q.2] 73)
      have n1 := (New.refl wr).alloc (.cells #[.int .i64 q.1, .int .i64 q.2] 73)
      have P0 := n1.cell p0
      have P1 := n1.cell p1
      obtain ⟨W1, hW1⟩ : ∃ W1, wr.alloc (.cells #[.int .i64 q.1, .int .i64 q.2] 73) = W1 := ⟨_, rfl⟩
      have lb1 : b < W1.heap.size := by rw [← hW1]; simp; omega
      rw [hW1] at b1 N1 P0 P1
      have k0 : W1.cell? ⟨wr.heap.size, 0, none⟩ = some (.int .i64 q.1) := b1.cell 0
      have k1 : W1.cell? ⟨wr.heap.size, 1, none⟩ = some (.int .i64 q.2) := b1.cell 1
      have lk := b1.lt
      clear b1 n1
      obtain ⟨z, hz⟩ : ∃ z, area2 c k = z := ⟨_, rfl⟩
      rw [hz] at hbd HST ⊢
      clear hz
      go_wp2_with fail
      try rw [hW1]
      clear hW1
      go_wp2_with fail
      (refine wp_region_new (by kernel_rfl) (by kernel_rfl) ?_; (repeat (go_big_quiet_step ((fail)))); refine wpQuiet_nil ?_)
      intro w3 n3
      go_wp2_with fail
      go_roundw
      case rel => exact ⟨k + 1, by omega, by go_num, by rw [HST.out]; congr 1; omega, N1.trans n3⟩
      case measure => simp [intOf]; omega
    · obtain rfl : k = n := by omega
      have HV := Lib.hid (show areaS c = (area2 c k).tdiv 2 by unfold areaS; rw [HL.out])
      obtain ⟨z, hz⟩ : ∃ z, area2 c k = z := ⟨_, rfl⟩
      rw [hz] at hbd HV ⊢
      clear hz
      go_wp2_with fail
      go_ret
      exact ⟨by rw [HV.out]; rfl, hN⟩
theorem refArea_is {c : List Pl} {v : Int} (h : areaS c = v) (A : Option Addr) (n cap : Nat) (w : World) (hn : 1 ≤ n ∧ n ≤ 200) (hr : Rd w 2 encPl A n c) (hp : ∀ p ∈ c, PlB p) :
    Calls Try.prog 51 #[.slice A n cap] w fun e w' => e = .returned (.int .i64 v) ∧ New w w' := h ▸ refArea_any A n cap c w hn hr hp
end Go.Proofs.Ytaogolnoiffgiaa

namespace Go.Proofs.Ytaogolnoiffgiaa
open Go.RowKit Go.Sky Go.Sky.Ch Go.Shelf
attribute [local go_sem] Oper.semAt_some

def stepT {m : Nat} (q : List Pl) (x y : Int) (s : Int) (i : Fin m) : Int := s + turnP x y (atP q i.val) (nextP q i.val)
def tF {m : Nat} (q : List Pl) (x y : Int) (pre : List (Fin m)) : Int := pre.foldl (stepT q x y) 0
theorem tF_snoc {m : Nat} (q : List Pl) (x y : Int) (pre : List (Fin m)) (i : Fin m) : tF q x y (pre ++ [i]) = stepT q x y (tF q x y pre) i := by unfold tF; rw [List.foldl_append]; rfl
theorem tF_first {m : Nat} (q : List Pl) (x y : Int) : ∀ j, j ≤ m → tF q x y (firstF m j) = turnsTo q x y j
  | 0, _ => rfl
  | j + 1, h => by
    rw [firstF_step (show j < m by omega), tF_snoc, tF_first q x y j (by omega)]
    rfl
theorem tF_bd {m : Nat} {q : List Pl} (hs : StepsOf q) (hm : q.length = m) (x y : Int) : ∀ (pre : List (Fin m)) (s : Int) (k : Nat), -(k : Int) ≤ s ∧ s ≤ (k : Int) → -((k + pre.length : Nat) : Int) ≤ pre.foldl (stepT q x y) s ∧ pre.foldl (stepT q x y) s ≤ ((k + pre.length : Nat) : Int)
  | [], s, k, h => by simpa using h
  | i :: pre, s, k, h => by
    have h1 := turnP_bd (x := x) (y := y) (hs i.val (by rw [hm]; exact i.isLt))
    have := tF_bd hs hm x y pre (stepT q x y s i) (k + 1) (by unfold stepT atP; omega)
    rw [List.foldl_cons, List.length_cons]
    rw [show k + (pre.length + 1) = k + 1 + pre.length by omega]
    exact this

/-- Between two rounds of turns. -/
structure TuI (m : Nat) (w0 : World) (Bc Bw B0 : Nat) (q : List Pl) (x y : Int) (pre : List (Fin m)) (W : World) : Prop where
  r3 : Bx W Bc 73 #[.int .i64 x, .int .i64 y]
  r5 : Bx W Bw 3 #[.int .i64 (tF q x y pre)]
  bl : New w0 W
  sz : B0 ≤ W.heap.size
theorem tuI_own (m : Nat) (w0 : World) (Bc Bw B0 : Nat) (q : List Pl) (x y : Int) (B : Nat) (hB : w0.heap.size ≤ B) : OwnFrom B (TuI m w0 Bc Bw B0 q x y) := fun s W W' row hs hg hr =>
  ⟨hs.r3.grown hg (bx_ne3 hs.r3 hr), hs.r5.grown hg (bx_ne3 hs.r5 hr), hs.bl.grown hg (fun k e => by have := (hr k e).1; omega), Nat.le_trans hs.sz hg.size⟩

set_option maxRecDepth 100000 in
set_option maxHeartbeats 8000000 in
theorem cTurns_any (A : Option Addr) (m cap : Nat) (q : List Pl) (x y : Int) (w : World) (h1 : 1 ≤ m) (hm : m ≤ 200) (hr : Rd w 2 encPl A m q) (hst : StepsOf q) (hpl : ∀ p ∈ q, PlB p) :
    Calls Try.prog 109 #[.slice A m cap, .agg #[.int .i64 x, .int .i64 y]] w fun e w' => e = .returned (.int .i64 (turnsS q x y)) ∧ New w w' := by
  have HL := Lib.hid hr.len
  have HR := Lib.hid hr
  have HST := Lib.hid hst
  have HPL := Lib.hid hpl
  clear hr hst hpl
  refine (callsIn_wide (n := 6)).1 (callsIn_of_wp_marks Try.func109 rfl trivial ?_ rfl)
  simp only [Try.ntmps109, List.size_toArray, List.length_cons, List.length_nil, Nat.reduceAdd, Nat.reduceSub, Array.replicate_succ, Array.replicate_zero, List.push_toArray, List.append_toArray, List.nil_append, List.cons_append]
  gi_wp2_with fail
  refine ⟨trivial, (callsIn_wide.2 (steps_any A m cap _)).mono ?_⟩
  rintro e w2 ⟨rfl, rfl⟩
  gi_wp2_with fail
  have kN := (((New.refl w).alloc (.cells #[.int .i64 x, .int .i64 y] 73)).alloc (.cells #[.int .i64 0] 3)).alloc (.cells #[.slice A m cap] 82)
  have k3 := ((Bx.mk w 73 #[.int .i64 x, .int .i64 y]).alloc (.cells #[.int .i64 0] 3)).alloc (.cells #[.slice A m cap] 82)
  have k5 := (Bx.mk_at (w.alloc (.cells #[.int .i64 x, .int .i64 y] 73)) 3 #[.int .i64 0] (w.heap.size + 1) (by simp)).alloc (.cells #[.slice A m cap] 82)
  have k8 := Bx.mk_at ((w.alloc (.cells #[.int .i64 x, .int .i64 y] 73)).alloc (.cells #[.int .i64 0] 3)) 82 #[.slice A m cap] (w.heap.size + 1 + 1) (by simp)
  obtain ⟨V, hV⟩ : ∃ V, ((w.alloc (.cells #[.int .i64 x, .int .i64 y] 73)).alloc (.cells #[.int .i64 0] 3)).alloc (.cells #[.slice A m cap] 82) = V := ⟨_, rfl⟩
  have hvs : V.heap.size = w.heap.size + 3 := by rw [← hV]; simp
  rw [hV] at kN k3 k5 k8 ⊢
  obtain ⟨Bs, hBs⟩ : ∃ b, w.heap.size + 1 + 1 = b := ⟨_, rfl⟩
  obtain ⟨Bw, hBw⟩ : ∃ b, w.heap.size + 1 = b := ⟨_, rfl⟩
  obtain ⟨Bc, hBc⟩ : ∃ b, w.heap.size = b := ⟨_, rfl⟩
  rw [hBs] at k8 ⊢
  rw [hBw] at k5 ⊢
  rw [hBc] at k3 ⊢
  have o1 : w.heap.size ≤ Bw := by omega
  have o3 : Bw < Bs := by omega
  have o4 : Bs < V.heap.size := by omega
  have o5 : Bc ≠ Bw := by omega
  have o6 : Bw ≠ Bc := by omega
  clear hV hvs hBs hBw hBc
  have hI0 : TuI m w Bc Bw V.heap.size q x y [] V := ⟨k3, k5, kN, Nat.le_refl _⟩
  refine wpIn_rangeFunc_ownH (α := Fin m) rfl (by omega) (gf := 139) (lb := #[.pointer (some ⟨Bs, 0, none⟩)]) rfl trivial (enters_of Try.func139 (by kernel_rfl) rfl)
    (steps_stops 5 (by omega) Bs w A m cap q V (by omega) (by omega) HR.out kN k8) keepB_t (keepB_b (Below.size kN) o4) (Below.refl _ _) (fun _ => rfl)
    (TuI m w Bc Bw V.heap.size q x y) (fun _ _ _ => False) (tuI_own m w Bc Bw V.heap.size q x y _ (Below.size kN)) (fun _ _ _ _ _ h _ _ => h) hI0
    (fun i a' W => ∃ B, V.heap.size ≤ B ∧ Bx W B 73 #[.int .i64 (atP q i.val).1, .int .i64 (atP q i.val).2] ∧ Bx W (B + 1) 73 #[.int .i64 (nextP q i.val).1, .int .i64 (nextP q i.val).2] ∧
      a' = { tmps := #[.slice A m cap, .agg #[.int .i64 x, .int .i64 y], undef, .pointer (some ⟨Bc, 0, none⟩), .int .i64 0, .pointer (some ⟨Bw, 0, none⟩), .pointer (some ⟨B, 0, none⟩), .pointer (some ⟨B + 1, 0, none⟩), .slice A m cap, .func (.func 139) #[] #[.pointer (some ⟨Bs, 0, none⟩)], .agg #[.int .i64 (atP q i.val).1, .int .i64 (atP q i.val).2], .agg #[.int .i64 (nextP q i.val).1, .int .i64 (nextP q i.val).2], undef, undef, undef, undef, undef, undef, undef, undef, undef, undef, undef, undef, undef, undef, undef, undef, undef, undef, undef, undef, undef, undef, undef], defers := [] })
    (fun i a' _ X Y row hs hg hr => by obtain ⟨B, h1, h2, h3, h4⟩ := hs; exact ⟨B, h1, h2.grown hg (bx_ne3 h2 hr), h3.grown hg (bx_ne3 h3 hr), h4⟩)
    ?assign ?body ?done ?stop
  case assign =>
    rintro l pre i W K hI hK
    have hs := hI.sz
    unfold encPV
    gi_wp2
    refine hK _ _ (((KeepsOthers.alloc _ _).trans (KeepsOthers.alloc _ _)).from _) ⟨((Below.refl _ W).alloc (Below.size hI.bl) _).alloc (Nat.le_trans (Below.size hI.bl) (by simp)) _, fun hb => (Below.heap_alloc _ _ _ (by simp; omega)).trans (Below.heap_alloc W _ _ hb)⟩ ⟨(hI.r3.alloc _).alloc _, (hI.r5.alloc _).alloc _, (hI.bl.alloc _).alloc _, by simp; omega⟩ ?_
    exact ⟨W.heap.size, hs, (Bx.mk _ _ _).alloc _, Bx.mk_at _ _ _ _ (by simp), by simp⟩
  case body =>
    rintro l pre i a' W hl ⟨r, hr⟩ hI ⟨B, hB, bX, bY, rfl⟩ hlt
    have h3 := hI.r3
    have h5 := hI.r5
    have hbl := hI.bl
    have hsz := hI.sz
    have ba := atP_bd HPL.out i.val
    have bn := nextP_bd HPL.out i.val
    have hs5 := tF_bd HST.out HL.out x y pre 0 0 (by omega)
    have hus := turnP_bd (x := x) (y := y) (HST.out i.val (by rw [HL.out]; exact i.isLt))
    rw [HL.out] at hlt
    have hs6 : -200 ≤ tF q x y pre ∧ tF q x y pre ≤ 200 := by unfold tF; omega
    have HSN := Lib.hid (show tF q x y (pre ++ [i]) = tF q x y pre + turnP x y (atP q i.val) (nextP q i.val) by rw [tF_snoc]; rfl)
    clear hs5
    obtain ⟨p, hp⟩ : ∃ p, atP q i.val = p := ⟨_, rfl⟩
    obtain ⟨u, hu⟩ : ∃ p, nextP q i.val = p := ⟨_, rfl⟩
    have hpg : q.getD i.val (0, 0) = p := hp
    rw [hp] at HSN bX ba ⊢
    rw [hu] at HSN bY bn hus ⊢
    rw [hpg] at hus
    obtain ⟨⟨ba1, ba2⟩, ba3, ba4⟩ := ba
    obtain ⟨⟨bn1, bn2⟩, bn3, bn4⟩ := bn
    have HTP := Lib.hid (show turnP x y p u = if x < p.1 ∧ min p.2 u.2 = y then u.2 - p.2 else 0 from rfl)
    obtain ⟨z, hz⟩ : ∃ z, tF q x y pre = z := ⟨_, rfl⟩
    rw [hz] at HSN h5 hs6
    have c0 : W.cell? ⟨Bc, 0, none⟩ = some (.int .i64 x) := h3.cell 0
    have c1 : W.cell? ⟨Bc, 1, none⟩ = some (.int .i64 y) := h3.cell 1
    have lc := h3.lt
    have a0 : W.cell? ⟨Bw, 0, none⟩ = some (.int .i64 z) := h5.cell 0
    have f0 := h5.free 0
    have l5 := h5.lt
    have x0 : W.cell? ⟨B, 0, none⟩ = some (.int .i64 p.1) := bX.cell 0
    have x1 : W.cell? ⟨B, 1, none⟩ = some (.int .i64 p.2) := bX.cell 1
    have y0 : W.cell? ⟨B + 1, 0, none⟩ = some (.int .i64 u.1) := bY.cell 0
    have y1 : W.cell? ⟨B + 1, 1, none⟩ = some (.int .i64 u.2) := bY.cell 1
    have lX := bX.lt
    have lY := bY.lt
    clear hI hI0 bX bY hp hu hpg hz
    by_cases hx : x < p.1
    · have dx : decide (x < p.1) = true := decide_eq_true hx
      by_cases hle : p.2 ≤ u.2
      · have hmin : min p.2 u.2 = p.2 := by omega
        rw [hmin] at HTP
        clear hmin
        by_cases hy : p.2 = y
        · have dy : (p.2 == y) = true := by simpa using hy
          have HE := Lib.hid (show turnP x y p u = u.2 - p.2 by rw [HTP.out, if_pos ⟨hx, hy⟩])
          have T5 := h5.set 0 (.int .i64 (z + (u.2 - p.2)))
          have T3 := h3.far (p := ⟨Bw, 0, none⟩) o5 (.int .i64 (z + (u.2 - p.2)))
          have TN := hbl.setCell (p := ⟨Bw, 0, none⟩) o1 (.int .i64 (z + (u.2 - p.2)))
          have TK : KeepsFrom V.heap.size W (W.setCell ⟨Bw, 0, none⟩ (.int .i64 (z + (u.2 - p.2)))) := (KeepsOthers.setCell _ _ _).from _
          have TB : KeepB w.heap.size Bs W (W.setCell ⟨Bw, 0, none⟩ (.int .i64 (z + (u.2 - p.2)))) :=
            ⟨(Below.refl _ W).setCell (p := ⟨Bw, 0, none⟩) o1 _, fun _ => Below.heap_setCell _ ⟨Bw, 0, none⟩ _ _ (by show Bs ≠ Bw; omega)⟩
          have TZ := Nat.le_trans hsz TK.size
          clear hx hy hus HTP h3 h5
          gi_wp2_with fail
          exact ⟨TK, TB, ⟨T3, by rw [HSN.out, HE.out]; exact T5, TN, TZ⟩⟩
        · have dy : (p.2 == y) = false := by simpa using hy
          have HE := Lib.hid (show turnP x y p u = 0 by rw [HTP.out, if_neg (fun h => hy h.2)])
          clear hx hy hus HTP
          gi_wp2_with fail
          exact ⟨KeepsFrom.refl _ _, ⟨Below.refl _ _, fun _ => rfl⟩, ⟨h3, by rw [HSN.out, HE.out, Int.add_zero]; exact h5, hbl, hsz⟩⟩
      · have hmin : min p.2 u.2 = u.2 := by omega
        rw [hmin] at HTP
        clear hmin
        by_cases hy : u.2 = y
        · have dy : (u.2 == y) = true := by simpa using hy
          have HE := Lib.hid (show turnP x y p u = u.2 - p.2 by rw [HTP.out, if_pos ⟨hx, hy⟩])
          have T5 := h5.set 0 (.int .i64 (z + (u.2 - p.2)))
          have T3 := h3.far (p := ⟨Bw, 0, none⟩) o5 (.int .i64 (z + (u.2 - p.2)))
          have TN := hbl.setCell (p := ⟨Bw, 0, none⟩) o1 (.int .i64 (z + (u.2 - p.2)))
          have TK : KeepsFrom V.heap.size W (W.setCell ⟨Bw, 0, none⟩ (.int .i64 (z + (u.2 - p.2)))) := (KeepsOthers.setCell _ _ _).from _
          have TB : KeepB w.heap.size Bs W (W.setCell ⟨Bw, 0, none⟩ (.int .i64 (z + (u.2 - p.2)))) :=
            ⟨(Below.refl _ W).setCell (p := ⟨Bw, 0, none⟩) o1 _, fun _ => Below.heap_setCell _ ⟨Bw, 0, none⟩ _ _ (by show Bs ≠ Bw; omega)⟩
          have TZ := Nat.le_trans hsz TK.size
          clear hx hy hus HTP h3 h5
          gi_wp2_with fail
          exact ⟨TK, TB, ⟨T3, by rw [HSN.out, HE.out]; exact T5, TN, TZ⟩⟩
        · have dy : (u.2 == y) = false := by simpa using hy
          have HE := Lib.hid (show turnP x y p u = 0 by rw [HTP.out, if_neg (fun h => hy h.2)])
          clear hx hy hus HTP
          gi_wp2_with fail
          exact ⟨KeepsFrom.refl _ _, ⟨Below.refl _ _, fun _ => rfl⟩, ⟨h3, by rw [HSN.out, HE.out, Int.add_zero]; exact h5, hbl, hsz⟩⟩
    · have dx : decide (x < p.1) = false := decide_eq_false hx
      have HE := Lib.hid (show turnP x y p u = 0 by rw [HTP.out, if_neg (fun h => hx h.1)])
      clear hx hus HTP
      gi_wp2_with fail
      exact ⟨KeepsFrom.refl _ _, ⟨Below.refl _ _, fun _ => rfl⟩, ⟨h3, by rw [HSN.out, HE.out, Int.add_zero]; exact h5, hbl, hsz⟩⟩
  case stop =>
    rintro D c pre W _ _ h _
    exact h.elim
  case done =>
    rintro D ys W hD rfl hI hK
    have h5' := hI.r5
    have hbl := hI.bl
    have HAR := Lib.hid (show turnsS q x y = tF q x y (firstF m m) by rw [tF_first q x y m (Nat.le_refl _)]; unfold turnsS; rw [HL.out])
    clear hI hI0
    obtain ⟨z, hz⟩ : ∃ z, tF q x y (firstF m m) = z := ⟨_, rfl⟩
    rw [hz] at h5' HAR
    have a0 : W.cell? ⟨Bw, 0, none⟩ = some (.int .i64 z) := h5'.cell 0
    have l5 := h5'.lt
    have HBL := Lib.hid hbl
    clear h5' hbl hz
    gi_wp2_with fail
    refine ⟨by simp, .inl ⟨_, _, rfl, run_takeDeferred hK, ?_⟩⟩
    have hg := grownBy_putObj' W D (.deferred none)
    exact ⟨_, results_tmp rfl _ _ _, by rw [HAR.out]; rfl, HBL.out.grown hg (fun k e => by cases e; exact Nat.le_trans (Below.size kN) hD)⟩
theorem cTurns_is {q : List Pl} {x y v : Int} (h : turnsS q x y = v) (A : Option Addr) (m cap : Nat) (w : World) (h1 : 1 ≤ m) (hm : m ≤ 200) (hr : Rd w 2 encPl A m q) (hst : StepsOf q) (hpl : ∀ p ∈ q, PlB p) :
    Calls Try.prog 109 #[.slice A m cap, .agg #[.int .i64 x, .int .i64 y]] w fun e w' => e = .returned (.int .i64 v) ∧ New w w' := h ▸ cTurns_any A m cap q x y w h1 hm hr hst hpl

def tuE (c : List Pl) (x y : Int) : Int := firstE [(conS c).2, placeE x y]
def tuV (c : List Pl) (x y : Int) : Int := if tuE c x y = 0 then turnsS c x y else 0
theorem cContourErr_is {c : List Pl} {v : Int} (h : (conS c).2 = v) (A : Option Addr) (n cap : Nat) (w : World) (hn : n ≤ 1000000) (hr : Rd w 2 encPl A n c) :
    Calls Try.prog 107 #[.slice A n cap] w fun e w' => e = .returned (.int .i64 v) ∧ New w w' := h ▸ cContourErr_any A n cap c w hn hr

set_option maxRecDepth 100000 in
set_option maxHeartbeats 4000000 in
theorem cTurnsAround_any (A : Option Addr) (n cap : Nat) (c : List Pl) (x y : Int) (w : World) (hn : n ≤ 1000000) (hr : Rd w 2 encPl A n c) :
    Calls Try.prog 49 #[.slice A n cap, .agg #[.int .i64 x, .int .i64 y]] w fun e w' => e = .returned (.tuple #[.int .i64 (tuV c x y), .int .i64 (tuE c x y)]) ∧ New w w' := by
  have HR := Lib.hid hr
  have HL := Lib.hid hr.len
  clear hr
  have HV := Lib.hid (show tuV c x y = if tuE c x y = 0 then turnsS c x y else 0 from rfl)
  have HE := Lib.hid (show firstE [(conS c).2, placeE x y] = tuE c x y from rfl)
  obtain ⟨q1, h1⟩ : ∃ v, (conS c).2 = v := ⟨_, rfl⟩
  obtain ⟨q2, h2⟩ : ∃ v, placeE x y = v := ⟨_, rfl⟩
  have H1 := Lib.hid h1
  have H2 := Lib.hid h2
  rw [h1, h2] at HE
  clear h1 h2
  obtain ⟨E, hE⟩ : ∃ v, tuE c x y = v := ⟨_, rfl⟩
  rw [hE] at HV HE ⊢
  clear hE
  have N0 := (New.refl w).alloc (.cells #[.int .i64 x, .int .i64 y] 73)
  have b0 := Bx.mk w 73 #[.int .i64 x, .int .i64 y]
  obtain ⟨W2, hW2⟩ : ∃ W2, w.alloc (.cells #[.int .i64 x, .int .i64 y] 73) = W2 := ⟨_, rfl⟩
  rw [hW2] at N0 b0
  have k0 : W2.cell? ⟨w.heap.size, 0, none⟩ = some (.int .i64 x) := b0.cell 0
  have k1 : W2.cell? ⟨w.heap.size, 1, none⟩ = some (.int .i64 y) := b0.cell 1
  have l0 := b0.lt
  go_enter Try.func49, Try.ntmps49
  go_wp2_with fail
  try rw [hW2]
  clear hW2
  (refine wp_region_tail 4 (by kernel_rfl) (by kernel_rfl) ?_; simp only [List.take_succ_cons, List.take_zero, List.drop_succ_cons, List.drop_zero]; (repeat (go_big_quiet_step ((first | (go_at_call 107; with_reducible exact quiet_new (cContourErr_is H1.out _ _ _ _ hn (HR.out.keep (N0.trans (plus_new _ _))))) | (go_at_call 98; with_reducible exact quiet_new (cPlaceErr_is H2.out _)))))); refine wpQuiet_nil ?_)
  intro w3 n3
  by_cases hE0 : E = 0
  · subst hE0
    have HW := Lib.hid (HV.out.trans (if_pos rfl))
    have hz := firstE_zero HE.out
    have z1 : q1 = 0 := hz q1 (by simp)
    have hc0 : (conS c).2 = 0 := H1.out.trans z1
    have HST := Lib.hid (steps_ok hc0)
    obtain ⟨h4, h200, hpl⟩ := conS_ok hc0
    rw [HL.out] at h4 h200
    have HPL := Lib.hid hpl
    obtain ⟨kv, hkv⟩ : ∃ v, turnsS c x y = v := ⟨_, rfl⟩
    rw [hkv] at HW
    have HKV := Lib.hid hkv
    clear hkv HV hz z1 hc0 hpl
    go_wp2_with (go_at_call 80; refine (cFirst_any _ 2 2 [_, _] _ (by omega) rfl (cells_new _ _ _ _ (by simp) _ rfl)).mono ?_; rintro e W4 ⟨rfl, hW4⟩; rw [HE.out]; have n4 : New w3 W4 := hW4 ▸ (New.refl w3).alloc _; clear hW4; have N4 := (N0.trans n3).trans n4; have b4 := (b0.keep n3).keep n4; have x0 := b4.cell 0; have x1 := b4.cell 1; have lb := b4.lt; simp only [List.getElem?_toArray, List.getElem?_cons_zero, List.getElem?_cons_succ] at x0 x1)
    refine (cTurns_is HKV.out A n cap _ (by omega) h200 (HR.out.keep N4) HST.out HPL.out).mono ?_
    rintro e w5 ⟨rfl, n5⟩
    go_wp2_with fail
    go_ret2
    exact ⟨by rw [HW.out]; rfl, N4.trans n5⟩
  · have HW := Lib.hid (HV.out.trans (if_neg hE0))
    have bE : (E != 0) = true := by simpa using hE0
    clear hE0
    go_wp2_with (go_at_call 80; refine (cFirst_any _ 2 2 [_, _] _ (by omega) rfl (cells_new _ _ _ _ (by simp) _ rfl)).mono ?_; rintro e W4 ⟨rfl, hW4⟩; rw [HE.out]; have n4 : New w3 W4 := hW4 ▸ (New.refl w3).alloc _; clear hW4; have N4 := (N0.trans n3).trans n4)
    go_ret2
    exact ⟨by rw [HW.out]; rfl, N4⟩
theorem cTurnsAround_is {c : List Pl} {x y v E : Int} (h1 : tuV c x y = v) (h2 : tuE c x y = E) (A : Option Addr) (n cap : Nat) (w : World) (hn : n ≤ 1000000) (hr : Rd w 2 encPl A n c) :
    Calls Try.prog 49 #[.slice A n cap, .agg #[.int .i64 x, .int .i64 y]] w fun e w' => e = .returned (.tuple #[.int .i64 v, .int .i64 E]) ∧ New w w' := h1 ▸ h2 ▸ cTurnsAround_any A n cap c x y w hn hr
end Go.Proofs.Ytaogolnoiffgiaa

namespace Go.Proofs.Ytaogolnoiffgiaa
open Go.RowKit Go.Sky Go.Sky.Ch

theorem turn_bools {x y : Int} {p u : Pl} (h : sqS p.1 p.2 u.1 u.2 = 1) : turnP x y p u = if ((p.1 != u.1) || decide (p.1 ≤ x)) = true then 0 else (if ((p.2 == y) && (u.2 == y + 1)) = true then 1 else 0) - (if ((u.2 == y) && (p.2 == y + 1)) = true then 1 else 0) := by
  rw [turn_eq h]
  unfold turnR
  congr 1
  · simp
  · congr 1 <;> simp

set_option maxRecDepth 100000 in
set_option maxHeartbeats 8000000 in
theorem refTurns_any (A : Option Addr) (n cap : Nat) (c : List Pl) (x y : Int) (w : World) (hn : 1 ≤ n ∧ n ≤ 200) (hr : Rd w 2 encPl A n c) (hst : StepsOf c) (hpl : ∀ p ∈ c, PlB p) (hp : PlOk x y) :
    Calls Try.prog 52 #[.slice A n cap, .agg #[.int .i64 x, .int .i64 y]] w fun e w' => e = .returned (.int .i64 (turnsS c x y)) ∧ New w w' := by
  have HL := Lib.hid hr.len
  have HR := Lib.hid hr
  have HP := Lib.hid hpl
  have HS := Lib.hid hst
  have HB := Lib.hid (turnsTo_bd hst x y)
  obtain ⟨px, py⟩ := hp
  clear hr hst hpl
  have b0 := Bx.mk w 73 #[.int .i64 x, .int .i64 y]
  have N0 := (New.refl w).alloc (.cells #[.int .i64 x, .int .i64 y] 73)
  obtain ⟨W0, hW0⟩ : ∃ W, w.alloc (.cells #[.int .i64 x, .int .i64 y] 73) = W := ⟨_, rfl⟩
  rw [hW0] at b0 N0
  go_enter Try.func52, Try.ntmps52
  go_wp2_with fail
  try rw [hW0]
  clear hW0
  obtain ⟨sb, hsb⟩ : ∃ s, w.heap.size = s := ⟨_, rfl⟩
  rw [hsb] at b0
  try rw [hsb]
  clear hsb
  go_loopw [5, 6] (fun z i wr => ∃ k : Nat, k ≤ n ∧ i = .int .i64 (k : Int) ∧ z = .int .i64 (turnsTo c x y k) ∧ New W0 wr) (fun _ i _ => n - (intOf i).toNat)
  case atStart => exact ⟨0, by omega, rfl, rfl, New.refl _⟩
  case round =>
    obtain ⟨k, hk, rfl, rfl, hN⟩ := hrel
    have hbd := HB.out k (by rw [HL.out]; exact hk)
    by_cases hlt : k < n
    · obtain ⟨b, o, _, rfl, hb, _, _⟩ := (HR.out.keep (N0.trans hN)).at_ hlt
      obtain ⟨p, u, j, hp, hq, hj, hji, pm, qm, p0, p1, q0, q1⟩ := next_at (HR.out.keep (N0.trans hN)) hlt
      have hus := HS.out k (by rw [HL.out]; exact hlt)
      rw [hp, hq] at hus
      have HSTEP := Lib.hid (show turnsTo c x y (k + 1) = turnsTo c x y k + turnP x y p u by rw [turnsTo, hp, hq])
      have HTT := Lib.hid (turn_bools (x := x) (y := y) hus)
      obtain ⟨⟨bp1, bp2⟩, bp3, bp4⟩ := HP.out p pm
      obtain ⟨⟨bq1, bq2⟩, bq3, bq4⟩ := HP.out u qm
      have i0 : (0 : Int) ≤ (k : Int) := by omega
      have i1 : (k : Int) < (n : Int) := by omega
      have j0 : (0 : Int) ≤ (j : Int) := by omega
      have j1 : (j : Int) < (n : Int) := by omega
      clear hp hq pm qm hus
      obtain ⟨z, hz⟩ : ∃ z, turnsTo c x y k = z := ⟨_, rfl⟩
      rw [hz] at hbd HSTEP ⊢
      clear hz
      obtain ⟨e1, h1⟩ : ∃ e, (p.1 != u.1) = e := ⟨_, rfl⟩
      obtain ⟨e2, h2⟩ : ∃ e, decide (p.1 ≤ x) = e := ⟨_, rfl⟩
      obtain ⟨e3, h3⟩ : ∃ e, (p.2 == y) = e := ⟨_, rfl⟩
      obtain ⟨e4, h4⟩ : ∃ e, (u.2 == y + 1) = e := ⟨_, rfl⟩
      obtain ⟨e5, h5⟩ : ∃ e, (u.2 == y) = e := ⟨_, rfl⟩
      obtain ⟨e6, h6⟩ : ∃ e, (p.2 == y + 1) = e := ⟨_, rfl⟩
      rw [h1, h2, h3, h4, h5, h6] at HTT
      go_wp2
      refine wp_region_takes0 wr (New.refl _) 8 8 #[true, true, true, true, true, true, true, true, false, false, false, false, false, false, false, false] (by kernel_rfl) (by kernel_rfl) (by kernel_rfl) (by kernel_rfl) (by kernel_rfl) (by kernel_rfl) ?_
      simp only [List.take_succ_cons, List.take_zero]
      (repeat (go_big_quiet_step ((fail))))
      refine wpQuiet_nil ?_
      intro W1 n1
      refine take_lenS 8 _ #[true, true, true, true, true, true, true, true, true, false, false, false, false, false, false, false] (.tmp 22) 82 (some ⟨b, o, none⟩) n cap rfl rfl rfl rfl 73 Try.underlying82 rfl (by kernel_rfl) (by kernel_rfl) (by kernel_rfl) (by kernel_rfl) (by kernel_rfl) ?_
      simp [Act.put]
      refine take_next 9 3 #[true, true, true, true, true, true, true, true, true, true, true, true, false, false, false, false] rfl (by kernel_rfl) (by kernel_rfl) (by kernel_rfl) (by kernel_rfl) (by decide) ?_
      simp only [List.take_succ_cons, List.take_zero, List.drop_succ_cons, List.drop_zero]
      (repeat (go_big_quiet_step ((fail))))
      refine wpQuiet_nil ?_
      refine two_next 12 13 (by kernel_rfl) (new_plus n1) ?o1 ?o2
      case' o1 =>
        refine wpOpIn_list rfl ?_
        gi_wp2
        refine one_next 13 (by kernel_rfl) (new_plus (n1.alloc _)) (wpOpIn_list rfl ?_)
        gi_wp2
        refine one_next 14 (by kernel_rfl) (new_plus ((n1.alloc _).alloc _)) (wpOpIn_list rfl ?_)
        gi_wp2
        refine one_next 15 (by kernel_rfl) (new_plus ((n1.alloc _).alloc _)) (wpOpIn_list rfl ?_)
        gi_wp2
        have nn := (n1.alloc (.cells #[.int .i64 p.1, .int .i64 p.2] 73)).alloc (.cells #[.int .i64 u.1, .int .i64 u.2] 73)
        have b7 := (Bx.mk W1 73 #[.int .i64 p.1, .int .i64 p.2]).alloc (.cells #[.int .i64 u.1, .int .i64 u.2] 73)
        have b8 := Bx.mk_at (W1.alloc (.cells #[.int .i64 p.1, .int .i64 p.2] 73)) 73 #[.int .i64 u.1, .int .i64 u.2] (W1.heap.size + 1) (by simp)
        refine end_any (new_plus nn) (by kernel_rfl) ?_
        obtain ⟨W3, hW3⟩ : ∃ W3, (W1.alloc (.cells #[.int .i64 p.1, .int .i64 p.2] 73)).alloc (.cells #[.int .i64 u.1, .int .i64 u.2] 73) = W3 := ⟨_, rfl⟩
      case' o2 =>
        refine wpOpIn_list rfl ?_
        gi_wp2
        refine one_next 12 (by kernel_rfl) (new_plus (n1.alloc _)) (wpOpIn_list rfl ?_)
        gi_wp2
        refine one_next 14 (by kernel_rfl) (new_plus ((n1.alloc _).alloc _)) (wpOpIn_list rfl ?_)
        gi_wp2
        refine one_next 15 (by kernel_rfl) (new_plus ((n1.alloc _).alloc _)) (wpOpIn_list rfl ?_)
        gi_wp2
        have nn := (n1.alloc (.cells #[.int .i64 u.1, .int .i64 u.2] 73)).alloc (.cells #[.int .i64 p.1, .int .i64 p.2] 73)
        have b8 := (Bx.mk W1 73 #[.int .i64 u.1, .int .i64 u.2]).alloc (.cells #[.int .i64 p.1, .int .i64 p.2] 73)
        have b7 := Bx.mk_at (W1.alloc (.cells #[.int .i64 u.1, .int .i64 u.2] 73)) 73 #[.int .i64 p.1, .int .i64 p.2] (W1.heap.size + 1) (by simp)
        refine end_any (new_plus nn) (by kernel_rfl) ?_
        obtain ⟨W3, hW3⟩ : ∃ W3, (W1.alloc (.cells #[.int .i64 u.1, .int .i64 u.2] 73)).alloc (.cells #[.int .i64 p.1, .int .i64 p.2] 73) = W3 := ⟨_, rfl⟩
      all_goals
        rw [hW3] at nn b7 b8
        rw [hW3]
        clear hW3
        have N3 := hN.trans nn
        have bc := b0.keep N3
        have l7 := b7.lt
        have l8 := b8.lt
        have lc := bc.lt
        have s0 : World.cell? _ _ = some (.int .i64 p.1) := b7.cell 0
        have s1 : World.cell? _ _ = some (.int .i64 p.2) := b7.cell 1
        have t0 : World.cell? _ _ = some (.int .i64 u.1) := b8.cell 0
        have t1 : World.cell? _ _ = some (.int .i64 u.2) := b8.cell 1
        have v0 : World.cell? _ _ = some (.int .i64 x) := bc.cell 0
        have v1 : World.cell? _ _ = some (.int .i64 y) := bc.cell 1
        clear b7 b8 bc nn n1 p0 p1 q0 q1 hb
        cases e1
        · cases e2
          · cases e3 <;> cases e5 <;> (try cases e4) <;> (try cases e6)
            all_goals
              go_wp2
              go_roundw
              case rel => exact ⟨k + 1, by omega, by go_num, by rw [HSTEP.out, HTT.out]; simp <;> omega, N3⟩
              case measure => simp [intOf]; omega
          · go_wp2
            go_roundw
            case rel => exact ⟨k + 1, by omega, by go_num, by rw [HSTEP.out, HTT.out]; simp <;> omega, N3⟩
            case measure => simp [intOf]; omega
        · go_wp2
          go_roundw
          case rel => exact ⟨k + 1, by omega, by go_num, by rw [HSTEP.out, HTT.out]; simp <;> omega, N3⟩
          case measure => simp [intOf]; omega
    · obtain rfl : k = n := by omega
      have HV := Lib.hid (show turnsS c x y = turnsTo c x y k by unfold turnsS; rw [HL.out])
      go_wp2_with fail
      go_ret
      exact ⟨by rw [HV.out]; rfl, N0.trans hN⟩
theorem refTurns_is {c : List Pl} {x y v : Int} (h : turnsS c x y = v) (A : Option Addr) (n cap : Nat) (w : World) (hn : 1 ≤ n ∧ n ≤ 200) (hr : Rd w 2 encPl A n c) (hst : StepsOf c) (hpl : ∀ p ∈ c, PlB p) (hp : PlOk x y) :
    Calls Try.prog 52 #[.slice A n cap, .agg #[.int .i64 x, .int .i64 y]] w fun e w' => e = .returned (.int .i64 v) ∧ New w w' := h ▸ refTurns_any A n cap c x y w hn hr hst hpl hp
end Go.Proofs.Ytaogolnoiffgiaa
