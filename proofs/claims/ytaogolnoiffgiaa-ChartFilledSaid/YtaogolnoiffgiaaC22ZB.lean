/- Contracts: the stations that are left out (an iterator).
   Contracts: the steps of a polygon (an iterator).
   Contracts: the worst station.
   Contracts: the area of a polygon. -/
import Derived.BigQuiet
import Derived.Deep.AppendLies
import Derived.Deep.Draws
import Derived.Deep.Quiet
import Derived.Deep.QuietTactic
import Derived.Laws.BitsAllLaws
import Derived.Laws.Rows
import Derived.Lib.Hide
import Derived.LoopIn
import Derived.LoopNIn
import Derived.MapKept
import Derived.Maps.Keyed
import Derived.Maps.OwnIn
import Derived.OrdersIn
import Derived.OwnWalkIn
import Derived.RangeFuncBound
import Derived.RangeFuncCalls
import Derived.RangeFuncLeaves
import Derived.RangeFuncNested
import Derived.Shelf.Abstract
import Derived.Shelf.RegionOpen
import Derived.StillTail
import Derived.TacticsIn
import Derived.TacticsInMore
import Derived.Test.YtaogolnoiffgiaaProg
import Derived.WalkKit
import Derived.WalkLawsBesides
import Derived.WalkSpells
import Derived.Test.YtaogolnoiffgiaaC22E
import Derived.Test.YtaogolnoiffgiaaC22I
import Derived.Test.YtaogolnoiffgiaaC22R
import Derived.Test.YtaogolnoiffgiaaC22T

namespace Go.Proofs.Ytaogolnoiffgiaa
open Go.RowKit Go.Sky Go.Sky.Ch Go.Shelf
attribute [local go_sem] Oper.semAt_some

theorem rd_from {α : Type} {w : World} {k b o n cap : Nat} {enc : α → List Value} {xs : List α} (h : Rd w k enc (some ⟨b, o, none⟩) n xs) (j : Nat) (_hj : j ≤ n) (hcap : n ≤ cap) :
    Rd w k enc (if cap = j then some ⟨b, o, none⟩ else some ⟨b, o + j * k, none⟩) (n - j) (xs.drop j) := by
  refine ⟨by rw [List.length_drop, h.1], fun hn => ?_⟩
  rw [if_neg (by omega)]
  obtain ⟨b', o', e, hb, hc⟩ := h.2 (by omega)
  injection e with e
  injection e with e1 e2
  subst e1 e2
  refine ⟨_, _, rfl, hb, fun i x hx c u hu => ?_⟩
  rw [List.getElem?_drop] at hx
  have := hc (j + i) x hx c u hu
  rw [show o + j * k + i * k + c = o + (j + i) * k + c by rw [Nat.add_mul]; omega]
  exact this

def encLV {m : Nat} (q : List Sta) (i : Fin m) : Array Value := #[.int .i64 ((i.val : Nat) : Int), .agg #[.int .i64 (leftE q i.val).lo, .int .i64 (leftE q i.val).den, .int .i64 (leftE q i.val).hi, .int .i64 (leftE q i.val).den]]
def firstF (m j : Nat) : List (Fin m) := (List.range j).filterMap fun i => if h : i < m then some ⟨i, h⟩ else none
theorem firstF_step {m j : Nat} (h : j < m) : firstF m (j + 1) = firstF m j ++ [⟨j, h⟩] := by
  unfold firstF
  rw [List.range_succ, List.filterMap_append]
  simp [h]
theorem firstF_len {m : Nat} : ∀ j, j ≤ m → (firstF m j).length = j
  | 0, _ => rfl
  | j + 1, h => by rw [firstF_step (show j < m by omega), List.length_append, firstF_len j (by omega)]; rfl
def stepW {m : Nat} (q : List Sta) (s : Nat × (Int × Int)) (i : Fin m) : Nat × (Int × Int) := if lessS s.2.1 s.2.2 (farS (leftE q i.val)).1 (farS (leftE q i.val)).2 = true then (i.val, farS (leftE q i.val)) else s
def wF {m : Nat} (q : List Sta) (pre : List (Fin m)) : Nat × (Int × Int) := pre.foldl (stepW q) (0, (0, 1))
theorem wF_snoc {m : Nat} (q : List Sta) (pre : List (Fin m)) (x : Fin m) : wF q (pre ++ [x]) = stepW q (wF q pre) x := by unfold wF; rw [List.foldl_append]; rfl
structure WOk (m : Nat) (s : Nat × (Int × Int)) : Prop where
  lt : s.1 < m
  a : 0 ≤ s.2.1 ∧ s.2.1 ≤ 6000000000000000
  b : 1 ≤ s.2.2 ∧ s.2.2 ≤ 233280000000
theorem wF_ok {m : Nat} {q : List Sta} (hl : ∀ s ∈ q, StOk s) (h2 : 2 ≤ q.length) (h5 : q.length ≤ 5) (hm : 1 ≤ m) : ∀ (pre : List (Fin m)) (s : Nat × (Int × Int)), WOk m s → WOk m (pre.foldl (stepW q) s)
  | [], _, h => h
  | x :: pre, s, h => wF_ok hl h2 h5 hm pre _ (by
    unfold stepW
    split
    · have := far_ok (left_ok hl h2 h5 x.val)
      exact ⟨x.isLt, ⟨this.1, this.2.1⟩, this.2.2⟩
    · exact h)
theorem wF_first {m : Nat} (q : List Sta) : ∀ j, j ≤ m → wF q (firstF m j) = worstTo q j
  | 0, _ => rfl
  | j + 1, h => by
    rw [firstF_step (show j < m by omega), wF_snoc, wF_first q j (by omega)]
    rfl
theorem grownNew {w W : World} (h : New w W) : w.grownBy W none := ⟨h.os, h.tape, h.output, Below.size h, fun k hk _ => h.block k hk⟩
/-- What a round keeps: whatever lay when the caller began; the box of the slice. -/
def KeepB (n0 Bc : Nat) (A B : World) : Prop := Below n0 A B ∧ (Bc < A.heap.size → B.heap[Bc]? = A.heap[Bc]?)
theorem keepB_t {n0 Bc : Nat} {A B C : World} (h : KeepB n0 Bc A B) (k : KeepB n0 Bc B C) : KeepB n0 Bc A C :=
  ⟨h.1.trans k.1, fun hb => (k.2 (Nat.lt_of_lt_of_le hb (Below.size h.1))).trans (h.2 hb)⟩
theorem keepB_b {n0 Bc : Nat} {w : World} (hn : n0 ≤ w.heap.size) (hb : Bc < w.heap.size) (W : World) (l : Nat) (o o' : Obj) (hl : w.heap.size ≤ l) (h : W.heap[l]? = some o) (h1 : o.isCells = false) (h2 : o.isWalk = false) : KeepB n0 Bc W (W.putObj l o') :=
  ⟨belowK_b hn W l o o' hl h h1 h2, fun _ => World.putObj_heap_other (by omega)⟩

theorem leftOut_any (A : Option Addr) (n cap : Nat) (w : World) : Calls Try.prog 129 #[.slice A n cap] w fun e w' =>
    e = .returned (.func (.func 153) #[] #[.pointer (some ⟨w.heap.size, 0, none⟩)]) ∧ w' = w.alloc (.cells #[.slice A n cap] 71) := by
  go_enter Try.func129, Try.ntmps129
  go_wp2
  go_ret
  exact ⟨by simp, rfl⟩

set_option maxRecDepth 100000 in
set_option maxHeartbeats 8000000 in
theorem leftIt (n : Nat) (hn : 1 ≤ n) (l Bs : Nat) (w0 : World) (A : Option Addr) (m cap : Nat) (q : List Sta) (J Jx : List (Fin m) → World → Prop)
    (hY : ∀ pre x W, J pre W → pre.length < q.length → YieldAt Fence.wide (n - 1) Try.prog l (encLV q x) W fun e W' =>
      (e = .returned (.bool true) ∧ J (pre ++ [x]) W' ∧ KeepB w0.heap.size Bs W W') ∨ (e = .returned (.bool false) ∧ Jx (pre ++ [x]) W'))
    (W : World) (h2 : 2 ≤ m) (hm : m ≤ 5) (hcap : m ≤ cap) (hr : Rd w0 6 encSt A m q) (hs : ∀ s ∈ q, StOk s) (hw : New w0 W)
    (hb : Bx W Bs 71 #[.slice A m cap]) (hJ : AbidesFrom W.heap.size J) (h0 : J [] W) :
    CallsIn Fence.wide n Try.prog 153 #[.func (.yield l) #[] #[], .pointer (some ⟨Bs, 0, none⟩)] W fun e W' => (∃ v, e = .returned v) ∧
      ((∃ ys, ys = firstF m m ∧ J ys W') ∨ (∃ pre : List (Fin m), True ∧ Jx pre W')) := by
  obtain ⟨i0, hi, hz0, hz1, hz2⟩ := info_parts infoSta
  have HY := Lib.hid hY
  have HL := Lib.hid hr.len
  have HR := Lib.hid hr
  have HS := Lib.hid hs
  have HJ := Lib.hid hJ
  clear hY hr hs hJ
  have c0 : W.cell? ⟨Bs, 0, none⟩ = some (.slice A m cap) := hb.cell 0
  have lb := hb.lt
  refine callsIn_of_wp Try.func153 rfl trivial ?_ rfl
  simp only [Try.ntmps153, List.size_toArray, List.length_cons, List.length_nil, Nat.reduceAdd, Nat.reduceSub, Array.replicate_succ, Array.replicate_zero, List.push_toArray, List.append_toArray, List.nil_append, List.cons_append]
  gi_wp2
  gi_loopw [10] (fun h wr => ∃ (i : Nat), i ≤ m ∧ h = .int .i64 (i : Int) ∧ J (firstF m i) wr ∧ New w0 wr ∧ Bx wr Bs 71 #[.slice A m cap]) (fun h _ => m - (intOf h).toNat)
  case atStart => exact ⟨0, by omega, rfl, h0, hw, hb⟩
  case round =>
    clear h0 hw hb c0 lb
    obtain ⟨i, hi', rfl, hJ, hN, hBC⟩ := hrel
    by_cases hlt : i < m
    · obtain ⟨b, o, x, rfl, hb, hx, hcx⟩ := (HR.out.keep hN).at_ hlt
      have g0 := hcx 0 _ rfl
      have g1 := hcx 1 _ rfl
      have g2 := hcx 2 _ rfl
      have g3 := hcx 3 _ rfl
      have g4 := hcx 4 _ rfl
      have g5 := hcx 5 _ rfl
      simp only [Nat.add_zero] at g0
      have HX := Lib.hid hx
      have HXO := Lib.hid (HS.out x (List.mem_of_getElem? hx))
      have HJJ := Lib.hid hJ
      have i0' : (0 : Int) ≤ (i : Int) := by omega
      have i1 : (i : Int) < (m : Int) := by omega
      clear hx hcx hJ
      have HBC := Lib.hid hBC
      clear hBC
      have nB := (New.refl wr).alloc (.cells (encSt x).toArray 99)
      have bB := Bx.mk wr 99 (encSt x).toArray
      have sB := HBC.out.keep nB
      obtain ⟨W1, hW1⟩ : ∃ W1, wr.alloc (.cells (encSt x).toArray 99) = W1 := ⟨_, rfl⟩
      have hW1' : wr.alloc (.cells #[.string x.n, .int .i64 x.x, .int .i64 x.y, .int .i64 x.lo, .int .i64 x.hi, .int .i64 x.a] 99) = W1 := hW1
      rw [hW1] at nB bB sB
      have k0 : W1.cell? ⟨Bs, 0, none⟩ = some (.slice (some ⟨b, o, none⟩) m cap) := sB.cell 0
      have lk := sB.lt
      have N1 := hN.trans nB
      clear hW1
      gi_wp2_with fail
      try rw [hW1']
      have HT := Lib.hid ((HR.out.keep N1).take (show i ≤ m by omega))
      have HD := Lib.hid (rd_from (HR.out.keep N1) (i + 1) (by omega) hcap)
      have hle : (i : Int) ≤ (cap : Int) := by omega
      have hle2 : (i : Int) + 1 ≤ (m : Int) := by omega
      refine wpIn_region_takes0 W1 (New.refl _) 0 11 #[false, false, false, false, false, false, false, false, false, false, false] _ (by kernel_rfl) (by kernel_rfl) (by kernel_rfl) (by kernel_rfl) (by kernel_rfl) (by kernel_rfl) (fun _ _ h => h) ?_
      simp only [List.take_zero]
      refine wpQuiet_nil ?_
      intro W5 n5
      refine take_next 1 3 #[false, true, true, true, false, false, false, false, false, false, false] rfl (by kernel_rfl) (by kernel_rfl) (by kernel_rfl) (by kernel_rfl) (by decide) ?_
      simp only [List.take_succ_cons, List.take_zero, List.drop_succ_cons, List.drop_zero]
      (repeat (go_big_quiet_step ((fail))))
      refine wpQuiet_nil ?_
      refine take_next 5 4 #[false, true, true, true, false, true, true, true, true, false, false] rfl (by kernel_rfl) (by kernel_rfl) (by kernel_rfl) (by kernel_rfl) (by decide) ?_
      simp only [List.take_succ_cons, List.take_zero, List.drop_succ_cons, List.drop_zero]
      (repeat (go_big_quiet_step ((fail))))
      refine wpQuiet_nil ?_
      obtain ⟨D, hD⟩ : ∃ D : Option Addr, (if cap = i + 1 then some ⟨b, o, none⟩ else some ⟨b, o + (i + 1) * 6, none⟩) = D := ⟨_, rfl⟩
      rw [hD] at HD ⊢
      clear hD
      refine one_next 0 (by kernel_rfl) (new_plus n5) (wpOpIn_list rfl ?_)
      gi_wp2
      have ho6 := Sky.Own.empty W5 W1.heap.size 99 6 encSt_len W5.heap.size rfl n5.size
      have n6 := n5.alloc (.cells #[] 99)
      obtain ⟨W6, hW6⟩ : ∃ W6, W5.alloc (.cells #[] 99) = W6 := ⟨_, rfl⟩
      rw [hW6] at ho6 n6
      try rw [hW6]
      clear hW6
      refine one_next 4 (by kernel_rfl) (new_plus n6) (wpOpIn_list rfl ?_)
      refine wpListIn_flow _ rfl _ _ 71 rfl 99 i0 _ 6 56 Try.underlying71 hi hz0 hz1 hz2 rfl (by omega) W1.heap.size encSt _ 0 0 [] rfl (by exact ho6) (some ⟨b, o, none⟩) i cap (q.take i) rfl (by exact HT.out.keep n6) encSt_one (by simp only [maxLen]; omega) (by omega) (by exact n6.size) ?_
      intro A7 c7 w7 hown7 hg7 hN7
      have n7 := hN7 W1 n6 (Nat.le_refl _)
      clear hN7 hg7 ho6 n6 n5
      gi_wp2
      refine one_next 9 (by kernel_rfl) (new_plus n7) (wpOpIn_list rfl ?_)
      refine wpListIn_flow _ rfl _ _ 71 rfl 99 i0 _ 6 56 Try.underlying71 hi hz0 hz1 hz2 rfl (by omega) W1.heap.size encSt A7 (0 + i) c7 ([] ++ q.take i) rfl (by exact hown7) _ (m - (i + 1)) (cap - (i + 1)) (q.drop (i + 1)) rfl (by exact HD.out.keep n7) encSt_one (by simp only [maxLen]; omega) (by omega) (by exact n7.size) ?_
      intro A8 c8 w8 hown8 hg8 hN8
      have n8 := hN8 W1 n7 (Nat.le_refl _)
      clear hN8 hg8 hown7 n7
      gi_wp2
      refine one_next 10 (by kernel_rfl) (new_plus n8) (wpOpIn_list rfl ?_)
      gi_wp2
      refine end_any (new_plus n8) (by kernel_rfl) ?_
      rw [List.nil_append, Nat.zero_add] at hown8
      have HO8 := Lib.hid (show Rd w8 6 encSt A8 (i + (m - (i + 1))) (others q i) from hown8.rd)
      obtain ⟨M, hM⟩ : ∃ M, i + (m - (i + 1)) = M := ⟨_, rfl⟩
      have hM1 : 1 ≤ M := by omega
      have hM4 : M ≤ 4 := by omega
      have N8 := N1.trans n8
      have B8 := bB.keep n8
      have hoth : ∀ t ∈ others q i, StOk t := fun t ht => HS.out t (others_mem ht)
      have HOT := Lib.hid hoth
      have HE4 := Lib.hid (ends4 (l := others q i) (x := x.x) (y := x.y) hoth ⟨HXO.out.x, HXO.out.y⟩ (by rw [others_len (by rw [HL.out]; omega), HL.out]; omega) (by rw [others_len (by rw [HL.out]; omega), HL.out]; omega))
      have HLE := Lib.hid (show leftE q i = ⟨(endsS (others q i) x.x x.y).lo - (endsS (others q i) x.x x.y).den * x.hi, (endsS (others q i) x.x x.y).hi - (endsS (others q i) x.x x.y).den * x.lo, (endsS (others q i) x.x x.y).den⟩ by unfold leftE; rw [HX.out])
      have e0 : w8.cell? ⟨wr.heap.size, 0, none⟩ = some (.string x.n) := B8.cell 0
      have e1 : w8.cell? ⟨wr.heap.size, 1, none⟩ = some (.int .i64 x.x) := B8.cell 1
      have e2 : w8.cell? ⟨wr.heap.size, 2, none⟩ = some (.int .i64 x.y) := B8.cell 2
      have e3 : w8.cell? ⟨wr.heap.size, 3, none⟩ = some (.int .i64 x.lo) := B8.cell 3
      have e4 : w8.cell? ⟨wr.heap.size, 4, none⟩ = some (.int .i64 x.hi) := B8.cell 4
      have le := B8.lt
      have n8' := nB.trans n8
      clear hown8 hoth n8 bB sB k0 lk nB HT HD
      gi_wp2_with fail
      rw [hM] at HO8
      try rw [hM]
      clear hM
      refine ⟨trivial, (callsIn_wide.2 (cEnds_any A8 M c8 (others q i) x.x x.y _ hM1 (by omega) HO8.out HOT.out ⟨HXO.out.x, HXO.out.y⟩)).mono ?_⟩
      rintro e w9 ⟨rfl, n9⟩
      obtain ⟨⟨el, eh, ed⟩, hel⟩ : ∃ v, endsS (others q i) x.x x.y = v := ⟨_, rfl⟩
      rw [hel] at HE4 HLE ⊢
      dsimp only at HLE ⊢
      have q1 : -3000000000000000 ≤ el ∧ el ≤ 3000000000000000 := HE4.out.lo
      have q2 : -3000000000000000 ≤ eh ∧ eh ≤ 3000000000000000 := HE4.out.hi
      have q3 : 1 ≤ ed ∧ ed ≤ 233280000000 := HE4.out.den
      have p1 := mulBd (V := 10000) (by omega) q3.2 HXO.out.lo.1 HXO.out.lo.2
      have p2 := mulBd (V := 10000) (by omega) q3.2 HXO.out.hi.1 HXO.out.hi.2
      obtain ⟨ml, hml⟩ : ∃ v, ed * x.lo = v := ⟨_, rfl⟩
      obtain ⟨mh, hmh⟩ : ∃ v, ed * x.hi = v := ⟨_, rfl⟩
      rw [hml] at p1 HLE
      rw [hmh] at p2 HLE
      have y1 : -9223372036854775808 ≤ el - mh ∧ el - mh ≤ 9223372036854775807 := by omega
      have y2 : -9223372036854775808 ≤ eh - ml ∧ eh - ml ≤ 9223372036854775807 := by omega
      have y3 : -9223372036854775808 ≤ ml ∧ ml ≤ 9223372036854775807 := by omega
      have y4 : -9223372036854775808 ≤ mh ∧ mh ≤ 9223372036854775807 := by omega
      have B9 := B8.keep n9
      have f3 : w9.cell? ⟨wr.heap.size, 3, none⟩ = some (.int .i64 x.lo) := B9.cell 3
      have f4 : w9.cell? ⟨wr.heap.size, 4, none⟩ = some (.int .i64 x.hi) := B9.cell 4
      have lf := B9.lt
      have N9 := N8.trans n9
      have M9 := n8'.trans n9
      clear hel B8 B9 e0 e1 e2 e3 e4 le n9 N8 n8' p1 p2 q1 q2 q3
      have M10 := (M9.alloc (.cells #[.int .i64 (el - mh), .int .i64 ed] 197)).alloc (.cells #[.int .i64 (eh - ml), .int .i64 ed] 197)
      have N10 := (N9.alloc (.cells #[.int .i64 (el - mh), .int .i64 ed] 197)).alloc (.cells #[.int .i64 (eh - ml), .int .i64 ed] 197)
      have HJ3 := Lib.hid (HJ.out (firstF m i) wr _ none HJJ.out (grownNew M10) (fun r e => by cases e))
      have HBC3 := Lib.hid (HBC.out.keep M10)
      have HST := Lib.hid (firstF_step hlt)
      obtain ⟨fn, tmps, assign, body, hy, hR⟩ := HY.out (firstF m i) ⟨i, hlt⟩ _ HJ3.out (by rw [firstF_len i (by omega), HL.out]; exact hlt)
      unfold encLV at hy
      dsimp only at hy
      rw [HLE.out] at hy
      dsimp only at hy
      have HRR := Lib.hid hR
      have HN10 := Lib.hid N10
      clear hR M9 M10 N9 N10
      gi_wp2_with fail
      refine HRR.out.mono ?_
      rintro e W3 (⟨rfl, hJ3, hk3⟩ | ⟨rfl, hJx3⟩)
      · gi_wp2
        go_roundw
        case rel => exact ⟨i + 1, by omega, by go_num, by rw [HST.out]; exact hJ3, Below.trans HN10.out hk3.1, (hk3.2 HBC3.out.lt).trans HBC3.out⟩
        case measure => simp [intOf]; omega
      · gi_wp2
        refine bodyPost_ret (results_none rfl _ _ _) rfl ?_
        exact ⟨⟨_, rfl⟩, .inr ⟨_, trivial, hJx3⟩⟩
    · obtain rfl : i = m := by omega
      have HBC := Lib.hid hBC
      clear hBC
      gi_wp2
      go_end0
      exact ⟨⟨_, rfl⟩, .inl ⟨_, rfl, hJ⟩⟩

theorem left_stops (n : Nat) (hn : 1 ≤ n) (Bs : Nat) (w0 : World) (A : Option Addr) (m cap : Nat) (q : List Sta) (w : World) (h2 : 2 ≤ m) (hm : m ≤ 5) (hcap : m ≤ cap) (hr : Rd w0 6 encSt A m q) (hs : ∀ s ∈ q, StOk s) (hw : New w0 w)
    (hb : Bx w Bs 71 #[.slice A m cap]) :
    SeqStopsK Fence.wide n Try.prog 153 #[.pointer (some ⟨Bs, 0, none⟩)] (encLV (m := m) q) (KeepB w0.heap.size Bs) (fun ys => ys = firstF m m) (fun _ => True) q.length w := fun l J Jx W hW hJ _ hY h0 =>
  leftIt n hn l Bs w0 A m cap q J Jx hY W h2 hm hcap hr hs (hw.trans hW) (hb.keep hW) hJ h0
end Go.Proofs.Ytaogolnoiffgiaa

namespace Go.Proofs.Ytaogolnoiffgiaa
open Go.RowKit Go.Sky Go.Sky.Ch Go.Shelf
attribute [local go_sem] Oper.semAt_some

def atP (c : List Pl) (i : Nat) : Pl := c.getD i (0, 0)
def encPV {m : Nat} (c : List Pl) (i : Fin m) : Array Value := #[.agg #[.int .i64 (atP c i.val).1, .int .i64 (atP c i.val).2], .agg #[.int .i64 (nextP c i.val).1, .int .i64 (nextP c i.val).2]]
theorem atP_of {c : List Pl} {i : Nat} {p : Pl} (h : c[i]? = some p) : atP c i = p := by unfold atP; rw [List.getD_eq_getElem?_getD, h]; rfl

theorem steps_any (A : Option Addr) (n cap : Nat) (w : World) : Calls Try.prog 108 #[.slice A n cap] w fun e w' =>
    e = .returned (.func (.func 139) #[] #[.pointer (some ⟨w.heap.size, 0, none⟩)]) ∧ w' = w.alloc (.cells #[.slice A n cap] 82) := by
  go_enter Try.func108, Try.ntmps108
  go_wp2
  go_ret
  exact ⟨by simp, rfl⟩

set_option maxRecDepth 100000 in
set_option maxHeartbeats 8000000 in
theorem stepsIt (n : Nat) (hn : 1 ≤ n) (l Bs : Nat) (w0 : World) (A : Option Addr) (m cap : Nat) (q : List Pl) (J Jx : List (Fin m) → World → Prop)
    (hY : ∀ pre x W, J pre W → pre.length < q.length → YieldAt Fence.wide (n - 1) Try.prog l (encPV q x) W fun e W' =>
      (e = .returned (.bool true) ∧ J (pre ++ [x]) W' ∧ KeepB w0.heap.size Bs W W') ∨ (e = .returned (.bool false) ∧ Jx (pre ++ [x]) W'))
    (W : World) (h2 : 1 ≤ m) (hm : m ≤ 1000) (hr : Rd w0 2 encPl A m q) (hw : New w0 W)
    (hb : Bx W Bs 82 #[.slice A m cap]) (hJ : AbidesFrom W.heap.size J) (h0 : J [] W) :
    CallsIn Fence.wide n Try.prog 139 #[.func (.yield l) #[] #[], .pointer (some ⟨Bs, 0, none⟩)] W fun e W' => (∃ v, e = .returned v) ∧
      ((∃ ys, ys = firstF m m ∧ J ys W') ∨ (∃ pre : List (Fin m), True ∧ Jx pre W')) := by
  have HY := Lib.hid hY
  have HL := Lib.hid hr.len
  have HR := Lib.hid hr
  have HJ := Lib.hid hJ
  clear hY hr hJ
  have c0 : W.cell? ⟨Bs, 0, none⟩ = some (.slice A m cap) := hb.cell 0
  have lb := hb.lt
  refine callsIn_of_wp Try.func139 rfl trivial ?_ rfl
  simp only [Try.ntmps139, List.size_toArray, List.length_cons, List.length_nil, Nat.reduceAdd, Nat.reduceSub, Array.replicate_succ, Array.replicate_zero, List.push_toArray, List.append_toArray, List.nil_append, List.cons_append]
  gi_wp2
  gi_loopw [7] (fun h wr => ∃ (i : Nat), i ≤ m ∧ h = .int .i64 (i : Int) ∧ J (firstF m i) wr ∧ New w0 wr ∧ Bx wr Bs 82 #[.slice A m cap]) (fun h _ => m - (intOf h).toNat)
  case atStart => exact ⟨0, by omega, rfl, h0, hw, hb⟩
  case round =>
    clear h0 hw hb c0 lb
    obtain ⟨i, hi', rfl, hJ, hN, hBC⟩ := hrel
    by_cases hlt : i < m
    · obtain ⟨b, o, x, rfl, hb, hx, hcx⟩ := (HR.out.keep hN).at_ hlt
      have g0 := hcx 0 _ rfl
      have g1 := hcx 1 _ rfl
      simp only [Nat.add_zero] at g0
      have HX := Lib.hid (atP_of hx)
      have HJJ := Lib.hid hJ
      have i0' : (0 : Int) ≤ (i : Int) := by omega
      have i1 : (i : Int) < (m : Int) := by omega
      clear hx hcx hJ
      have HBC := Lib.hid hBC
      clear hBC
      have nB := (New.refl wr).alloc (.cells #[.int .i64 x.1, .int .i64 x.2] 73)
      have bB := Bx.mk wr 73 #[.int .i64 x.1, .int .i64 x.2]
      have sB := HBC.out.keep nB
      obtain ⟨W1, hW1⟩ : ∃ W1, wr.alloc (.cells #[.int .i64 x.1, .int .i64 x.2] 73) = W1 := ⟨_, rfl⟩
      rw [hW1] at nB bB sB
      have k0 : W1.cell? ⟨Bs, 0, none⟩ = some (.slice (some ⟨b, o, none⟩) m cap) := sB.cell 0
      have lk := sB.lt
      have d0 : W1.cell? ⟨wr.heap.size, 0, none⟩ = some (.int .i64 x.1) := bB.cell 0
      have d1 : W1.cell? ⟨wr.heap.size, 1, none⟩ = some (.int .i64 x.2) := bB.cell 1
      have ld := bB.lt
      have N1 := hN.trans nB
      have hjm : (i + 1) % m < m := Nat.mod_lt _ (by omega)
      obtain ⟨b', o', y, hA, hb', hy, hcy⟩ := (HR.out.keep N1).at_ hjm
      injection hA with hA
      injection hA with ea eb
      subst ea eb
      have HNX := Lib.hid (show nextP q i = y by unfold nextP; rw [HL.out, hy]; rfl)
      have e0 := hcy 0 _ rfl
      have e1 := hcy 1 _ rfl
      simp only [Nat.add_zero] at e0
      have hle2 : (i : Int) + 1 ≤ (m : Int) := by omega
      obtain ⟨j, hj⟩ : ∃ j, (i + 1) % m = j := ⟨_, rfl⟩
      rw [hj] at hjm e0 e1
      have hji : ((i : Int) + 1) % (m : Int) = (j : Int) := by rw [← hj]; simp
      have j0 : (0 : Int) ≤ (j : Int) := by omega
      have j1 : (j : Int) < (m : Int) := by omega
      clear hy hcy hb
      gi_wp2_with fail
      try rw [hW1]
      refine Wd.wpIn_region_tail 10 (by kernel_rfl) (by kernel_rfl) (by kernel_rfl) ?_
      simp only [List.take_succ_cons, List.take_zero, List.drop_succ_cons, List.drop_zero]
      (repeat (go_big_quiet_step ((fail))))
      refine wpQuiet_nil ?_
      intro W5 n5
      have N5 := nB.trans n5
      have HJ3 := Lib.hid (HJ.out (firstF m i) wr _ none HJJ.out (grownNew N5) (fun r e => by cases e))
      have HBC3 := Lib.hid (HBC.out.keep N5)
      have HST := Lib.hid (firstF_step hlt)
      obtain ⟨fn, tmps, assign, body, hyy, hR⟩ := HY.out (firstF m i) ⟨i, hlt⟩ _ HJ3.out (by rw [firstF_len i (by omega), HL.out]; exact hlt)
      unfold encPV at hyy
      dsimp only at hyy
      rw [HX.out, HNX.out] at hyy
      have HRR := Lib.hid hR
      have HN5 := Lib.hid (hN.trans N5)
      clear hR
      gi_wp2_with fail
      refine HRR.out.mono ?_
      rintro e W3 (⟨rfl, hJ3, hk3⟩ | ⟨rfl, hJx3⟩)
      · gi_wp2
        go_roundw
        case rel => exact ⟨i + 1, by omega, by go_num, by rw [HST.out]; exact hJ3, Below.trans HN5.out hk3.1, (hk3.2 HBC3.out.lt).trans HBC3.out⟩
        case measure => simp [intOf]; omega
      · gi_wp2
        refine bodyPost_ret (results_none rfl _ _ _) rfl ?_
        exact ⟨⟨_, rfl⟩, .inr ⟨_, trivial, hJx3⟩⟩
    · obtain rfl : i = m := by omega
      have HBC := Lib.hid hBC
      clear hBC
      gi_wp2
      go_end0
      exact ⟨⟨_, rfl⟩, .inl ⟨_, rfl, hJ⟩⟩

theorem steps_stops (n : Nat) (hn : 1 ≤ n) (Bs : Nat) (w0 : World) (A : Option Addr) (m cap : Nat) (q : List Pl) (w : World) (h2 : 1 ≤ m) (hm : m ≤ 1000) (hr : Rd w0 2 encPl A m q) (hw : New w0 w)
    (hb : Bx w Bs 82 #[.slice A m cap]) :
    SeqStopsK Fence.wide n Try.prog 139 #[.pointer (some ⟨Bs, 0, none⟩)] (encPV (m := m) q) (KeepB w0.heap.size Bs) (fun ys => ys = firstF m m) (fun _ => True) q.length w := fun l J Jx W hW hJ _ hY h0 =>
  stepsIt n hn l Bs w0 A m cap q J Jx hY W h2 hm hr (hw.trans hW) (hb.keep hW) hJ h0
end Go.Proofs.Ytaogolnoiffgiaa

namespace Go.Proofs.Ytaogolnoiffgiaa
open Go.RowKit Go.Sky Go.Sky.Ch Go.Shelf
attribute [local go_sem] Oper.semAt_some

set_option maxRecDepth 100000 in
set_option maxHeartbeats 4000000 in
theorem cSeveral_any (A : Option Addr) (n cap : Nat) (l : List Sta) (w : World) (hn : n ≤ 1000000) (hr : Rd w 6 encSt A n l) (hs : ∀ s ∈ l, s.n.size ≤ 1000) :
    Calls Try.prog 128 #[.slice A n cap] w fun e w' => e = .returned (.int .i64 (sevE l)) ∧ New w w' := by
  have HV := Lib.hid (show firstE [(ckS l).2, errU (decide (1 < n)) 10] = sevE l by unfold sevE; rw [hr.len])
  have HR := Lib.hid hr
  have HS := Lib.hid hs
  clear hr hs
  by_cases h1 : 1 < n
  · have d1 : decide ((1 : Int) < (n : Int)) = true := decide_eq_true (by omega)
    have d2 : decide (1 < n) = true := decide_eq_true h1
    rw [d2] at HV
    go_enter Try.func128, Try.ntmps128
    go_wp2_with fail
    refine (cStationsErr_any A n cap l _ hn HR.out HS.out).mono ?_
    rintro e w1 ⟨rfl, n1⟩
    go_wp2_with (first | (go_at_call 81; refine (cUnless_any _ _ _).mono ?_; rintro e w' ⟨rfl, rfl⟩) | (go_at_call 80; refine (cFirst_any _ 2 2 [_, _] _ (by omega) rfl (cells_new _ _ _ _ (by simp) _ rfl)).mono ?_; rintro e w' ⟨rfl, rfl⟩; rw [HV.out]))
    go_ret
    exact ⟨rfl, n1.alloc _⟩
  · have d1 : decide ((1 : Int) < (n : Int)) = false := decide_eq_false (by omega)
    have d2 : decide (1 < n) = false := decide_eq_false h1
    rw [d2] at HV
    go_enter Try.func128, Try.ntmps128
    go_wp2_with fail
    refine (cStationsErr_any A n cap l _ hn HR.out HS.out).mono ?_
    rintro e w1 ⟨rfl, n1⟩
    go_wp2_with (first | (go_at_call 81; refine (cUnless_any _ _ _).mono ?_; rintro e w' ⟨rfl, rfl⟩) | (go_at_call 80; refine (cFirst_any _ 2 2 [_, _] _ (by omega) rfl (cells_new _ _ _ _ (by simp) _ rfl)).mono ?_; rintro e w' ⟨rfl, rfl⟩; rw [HV.out]))
    go_ret
    exact ⟨rfl, n1.alloc _⟩
theorem cSeveral_is {l : List Sta} {v : Int} (h : sevE l = v) (A : Option Addr) (n cap : Nat) (w : World) (hn : n ≤ 1000000) (hr : Rd w 6 encSt A n l) (hs : ∀ s ∈ l, s.n.size ≤ 1000) :
    Calls Try.prog 128 #[.slice A n cap] w fun e w' => e = .returned (.int .i64 v) ∧ New w w' := h ▸ cSeveral_any A n cap l w hn hr hs

/-- Between two rounds of WorstOf. -/
structure WorI (m : Nat) (w0 : World) (Bw Bm B0 : Nat) (q : List Sta) (pre : List (Fin m)) (W : World) : Prop where
  r5 : Bx W Bw 3 #[.int .i64 ((wF q pre).1 : Int)]
  r6 : Bx W Bm 197 #[.int .i64 (wF q pre).2.1, .int .i64 (wF q pre).2.2]
  bl : New w0 W
  sz : B0 ≤ W.heap.size
theorem bx_ne3 {W : World} {b : Nat} {t : TypeId} {cs : Array Value} {row : Option Nat} {B : Nat} (h : Bx W b t cs) (hr : ∀ r, row = some r → B ≤ r ∧ ∃ o : Obj, W.heap[r]? = some o ∧ o.isCells = false) : some b ≠ row := by
  intro e
  obtain ⟨_, o, ho, hc⟩ := hr b e.symm
  unfold Bx at h
  rw [h] at ho
  injection ho with ho
  subst ho
  cases hc
theorem worI_own (m : Nat) (w0 : World) (Bw Bm B0 : Nat) (q : List Sta) (B : Nat) (hB : w0.heap.size ≤ B) : OwnFrom B (WorI m w0 Bw Bm B0 q) := fun s W W' row hs hg hr =>
  ⟨hs.r5.grown hg (bx_ne3 hs.r5 hr), hs.r6.grown hg (bx_ne3 hs.r6 hr), hs.bl.grown hg (fun k e => by have := (hr k e).1; omega), Nat.le_trans hs.sz hg.size⟩

set_option maxRecDepth 100000 in
set_option maxHeartbeats 8000000 in
theorem cWorstOf_any (A : Option Addr) (m cap : Nat) (q : List Sta) (w : World) (hm : m ≤ 1000000) (hcap : m ≤ cap) (hr : Rd w 6 encSt A m q) (hs : ∀ s ∈ q, s.n.size ≤ 1000) :
    Calls Try.prog 78 #[.slice A m cap] w fun e w' => e = .returned (.tuple #[.string (worstS q).1, .int .i64 (worstS q).2]) ∧ New w w' := by
  have HL := Lib.hid hr.len
  have HR := Lib.hid hr
  have HS := Lib.hid hs
  clear hr hs
  obtain ⟨E, hE⟩ : ∃ E, sevE q = E := ⟨_, rfl⟩
  have HE := Lib.hid hE
  by_cases h0 : E = 0
  · subst h0
    obtain ⟨hck, h2⟩ := sev_ok hE
    have h5 := (ckS_le hck).2.1
    have HST := Lib.hid (ckS_ok hck)
    have HV := Lib.hid (show worstS q = (nameAt q (worstTo q m).1, 0) by unfold worstS; rw [if_pos hE, HL.out])
    rw [HL.out] at h2 h5
    clear hE hck
    refine (callsIn_wide (n := 6)).1 (callsIn_of_wp_marks Try.func78 rfl trivial ?_ rfl)
    simp only [Try.ntmps78, List.size_toArray, List.length_cons, List.length_nil, Nat.reduceAdd, Nat.reduceSub, Array.replicate_succ, Array.replicate_zero, List.push_toArray, List.append_toArray, List.nil_append, List.cons_append]
    gi_wp2_with fail
    refine ⟨trivial, (callsIn_wide.2 (cSeveral_is HE.out A m cap _ hm HR.out HS.out)).mono ?_⟩
    rintro e w1 ⟨rfl, n1⟩
    gi_wp2_with fail
    refine ⟨trivial, (callsIn_wide.2 (leftOut_any A m cap _)).mono ?_⟩
    rintro e w2 ⟨rfl, rfl⟩
    gi_wp2_with fail
    have kN := ((n1.alloc (.cells #[.int .i64 0] 3)).alloc (.cells #[.int .i64 0, .int .i64 1] 197)).alloc (.cells #[.slice A m cap] 71)
    have k5 := ((Bx.mk w1 3 #[.int .i64 0]).alloc (.cells #[.int .i64 0, .int .i64 1] 197)).alloc (.cells #[.slice A m cap] 71)
    have k6 := (Bx.mk_at (w1.alloc (.cells #[.int .i64 0] 3)) 197 #[.int .i64 0, .int .i64 1] (w1.heap.size + 1) (by simp)).alloc (.cells #[.slice A m cap] 71)
    have k8 := Bx.mk_at ((w1.alloc (.cells #[.int .i64 0] 3)).alloc (.cells #[.int .i64 0, .int .i64 1] 197)) 71 #[.slice A m cap] (w1.heap.size + 1 + 1) (by simp)
    obtain ⟨V, hV⟩ : ∃ V, ((w1.alloc (.cells #[.int .i64 0] 3)).alloc (.cells #[.int .i64 0, .int .i64 1] 197)).alloc (.cells #[.slice A m cap] 71) = V := ⟨_, rfl⟩
    have hvs : V.heap.size = w1.heap.size + 3 := by rw [← hV]; simp
    rw [hV] at kN k5 k6 k8 ⊢
    obtain ⟨Bs, hBs⟩ : ∃ b, w1.heap.size + 1 + 1 = b := ⟨_, rfl⟩
    obtain ⟨Bm, hBm⟩ : ∃ b, w1.heap.size + 1 = b := ⟨_, rfl⟩
    obtain ⟨Bw, hBw⟩ : ∃ b, w1.heap.size = b := ⟨_, rfl⟩
    rw [hBs] at k8 ⊢
    rw [hBm] at k6 ⊢
    rw [hBw] at k5 ⊢
    have o1 : w.heap.size ≤ Bw := by have := n1.size; omega
    have o2 : Bw < Bm := by omega
    have o3 : Bm < Bs := by omega
    have o4 : Bs < V.heap.size := by omega
    clear hV hvs hBs hBm hBw n1
    have HW0 := Lib.hid (fun pre : List (Fin m) => wF_ok (q := q) HST.out (by rw [HL.out]; exact h2) (by rw [HL.out]; exact h5) (show 1 ≤ m by omega) pre (0, (0, 1)) ⟨by omega, by show (0 : Int) ≤ 0 ∧ (0 : Int) ≤ _; omega, by show (1 : Int) ≤ 1 ∧ (1 : Int) ≤ _; omega⟩)
    have HLK := Lib.hid (fun i => left_ok (l := q) HST.out (by rw [HL.out]; exact h2) (by rw [HL.out]; exact h5) i)
    have hI0 : WorI m w Bw Bm V.heap.size q [] V := ⟨k5, k6, kN, Nat.le_refl _⟩
    refine wpIn_rangeFunc_ownH (α := Fin m) rfl (by omega) (gf := 153) (lb := #[.pointer (some ⟨Bs, 0, none⟩)]) rfl trivial (enters_of Try.func153 (by kernel_rfl) rfl)
      (left_stops 5 (by omega) Bs w A m cap q V h2 h5 hcap HR.out HST.out kN k8) keepB_t (keepB_b (Below.size kN) o4) (Below.refl _ _) (fun _ => rfl)
      (WorI m w Bw Bm V.heap.size q) (fun _ _ _ => False) (worI_own m w Bw Bm V.heap.size q _ (Below.size kN)) (fun _ _ _ _ _ h _ _ => h) hI0
      (fun x a' W => ∃ B, V.heap.size ≤ B ∧ Bx W B 202 #[.int .i64 (leftE q x.val).lo, .int .i64 (leftE q x.val).den, .int .i64 (leftE q x.val).hi, .int .i64 (leftE q x.val).den] ∧
        a' = { tmps := #[.slice A m cap, undef, .string { data := #[] }, .int .i64 0, .int .i64 0, .pointer (some ⟨Bw, 0, none⟩), .pointer (some ⟨Bm, 0, none⟩), .int .i64 ((x.val : Nat) : Int), .pointer (some ⟨B, 0, none⟩), undef, .slice A m cap, .int .i64 0, .int .i64 0, .bool false, undef, .agg #[.int .i64 0, .int .i64 1], .slice A m cap, .func (.func 153) #[] #[.pointer (some ⟨Bs, 0, none⟩)], .int .i64 ((x.val : Nat) : Int), .agg #[.int .i64 (leftE q x.val).lo, .int .i64 (leftE q x.val).den, .int .i64 (leftE q x.val).hi, .int .i64 (leftE q x.val).den], undef, undef, undef, undef, undef, undef, undef, undef, undef, undef, undef, undef], defers := [] })
      (fun x a' _ X Y row hs hg hr => by obtain ⟨B, h1, h2, h3⟩ := hs; exact ⟨B, h1, h2.grown hg (bx_ne3 h2 hr), h3⟩)
      ?assign ?body ?done ?stop
    case assign =>
      rintro l pre x W K hI hK
      have hs := hI.sz
      unfold encLV
      gi_wp2
      refine hK _ _ ((KeepsOthers.alloc _ _).from _) ⟨(Below.refl _ W).alloc (Below.size hI.bl) _, fun hb => Below.heap_alloc W _ _ hb⟩ ⟨hI.r5.alloc _, hI.r6.alloc _, hI.bl.alloc _, by simp; omega⟩ ?_
      exact ⟨W.heap.size, hs, Bx.mk _ _ _, rfl⟩
    case body =>
      rintro l pre x a' W hl ⟨r, hr⟩ hI ⟨B, hB, bX, rfl⟩ hlt
      have h5 := hI.r5
      have h6 := hI.r6
      have hbl := hI.bl
      have hsz := hI.sz
      have HSN := Lib.hid (wF_snoc q pre x)
      have HWK := Lib.hid (HW0.out pre)
      have HWE := Lib.hid (show wF q pre = pre.foldl (stepW q) (0, (0, 1)) from rfl)
      rw [← HWE.out] at HWK
      obtain ⟨⟨wi, ma, mb⟩, hwf⟩ : ∃ s, wF q pre = s := ⟨_, rfl⟩
      rw [hwf] at h5 h6 HSN HWK
      dsimp only at h5 h6
      have HLX := Lib.hid (HLK.out x.val)
      have HFO := Lib.hid (far_ok HLX.out)
      obtain ⟨⟨v1, v2⟩, hv⟩ : ∃ v, farS (leftE q x.val) = v := ⟨_, rfl⟩
      have HFV := Lib.hid hv
      rw [hv] at HFO
      have hma : 0 ≤ ma ∧ ma ≤ 6000000000000000 := HWK.out.a
      have hmb : 1 ≤ mb ∧ mb ≤ 233280000000 := HWK.out.b
      have hv1 : 0 ≤ v1 ∧ v1 ≤ 6000000000000000 := ⟨HFO.out.1, HFO.out.2.1⟩
      have hv2 : 1 ≤ v2 ∧ v2 ≤ 233280000000 := HFO.out.2.2
      obtain ⟨lt, hlt2⟩ : ∃ t, lessS ma mb v1 v2 = t := ⟨_, rfl⟩
      have HLT := Lib.hid hlt2
      have HST2 := Lib.hid (show stepW q (wi, ma, mb) x = if lt = true then (x.val, (v1, v2)) else (wi, ma, mb) by unfold stepW; rw [HFV.out]; dsimp only; rw [HLT.out])
      clear hI hI0 hwf hv hlt2 HWE
      obtain ⟨⟨le1, le2, le3⟩, hle⟩ : ∃ v, leftE q x.val = v := ⟨_, rfl⟩
      rw [hle] at bX HLX HFV ⊢
      dsimp only at bX ⊢
      have x0 : W.cell? ⟨B, 0, none⟩ = some (.int .i64 le1) := bX.cell 0
      have x1 : W.cell? ⟨B, 1, none⟩ = some (.int .i64 le3) := bX.cell 1
      have x2 : W.cell? ⟨B, 2, none⟩ = some (.int .i64 le2) := bX.cell 2
      have x3 : W.cell? ⟨B, 3, none⟩ = some (.int .i64 le3) := bX.cell 3
      have lX := bX.lt
      clear hle
      gi_wp2_with fail
      refine ⟨trivial, CallsIn.inRound l (callsIn_wide.2 ((cFar_is (e := ⟨le1, le2, le3⟩) HFV.out _ HLX.out).mono ?_))⟩
      rintro e w8 ⟨rfl, n8⟩
      have n9 := n8.alloc (.cells #[.int .i64 v1, .int .i64 v2] 197)
      have b9 := Bx.mk w8 197 #[.int .i64 v1, .int .i64 v2]
      obtain ⟨W9, hW9⟩ : ∃ W9, w8.alloc (.cells #[.int .i64 v1, .int .i64 v2] 197) = W9 := ⟨_, rfl⟩
      rw [hW9] at n9 b9
      have r6 := h6.keep n9
      have y0 : W9.cell? ⟨Bm, 0, none⟩ = some (.int .i64 ma) := r6.cell 0
      have y1 : W9.cell? ⟨Bm, 1, none⟩ = some (.int .i64 mb) := r6.cell 1
      have z0 : W9.cell? ⟨w8.heap.size, 0, none⟩ = some (.int .i64 v1) := b9.cell 0
      have z1 : W9.cell? ⟨w8.heap.size, 1, none⟩ = some (.int .i64 v2) := b9.cell 1
      have ly := r6.lt
      have lz := b9.lt
      have hs8 := n8.size
      clear x0 x1 x2 x3 lX n8
      dsimp only
      gi_wp2_with fail
      try rw [hW9]
      refine ⟨trivial, CallsIn.inRound l (callsIn_wide.2 ((cIsLess_is HLT.out _ ⟨by omega, by omega⟩ ⟨by omega, by omega⟩ ⟨by omega, by omega⟩ ⟨by omega, by omega⟩).mono ?_))⟩
      rintro e w10 ⟨rfl, n10⟩
      have n11 := n9.trans n10
      have b10 := b9.keep n10
      have hg := grownNew n11
      have hkf : KeepsFrom V.heap.size W w10 := KeepsFrom.of_grownBy hg (fun j e => by cases e)
      have hkb : KeepB w.heap.size Bs W w10 := ⟨n11.below (Below.size hbl), fun hb => n11.heap (Array.getElem?_eq_getElem hb) |>.trans (Array.getElem?_eq_getElem hb).symm⟩
      have t5 := h5.keep n11
      have t6 := h6.keep n11
      have hbl2 := hbl.trans n11
      have hsz2 := Nat.le_trans hsz n11.size
      clear hg y0 y1 z0 z1 ly lz r6 b9 n9 n10
      cases lt
      · have HE2 := Lib.hid (show wF q (pre ++ [x]) = (wi, ma, mb) by rw [HSN.out, HST2.out]; rfl)
        gi_wp2_with fail
        exact ⟨hkf, hkb, ⟨by rw [HE2.out]; exact t5, by rw [HE2.out]; exact t6, hbl2, hsz2⟩⟩
      · have HE2 := Lib.hid (show wF q (pre ++ [x]) = (x.val, (v1, v2)) by rw [HSN.out, HST2.out]; rfl)
        have w0' : w10.cell? ⟨w8.heap.size, 0, none⟩ = some (.int .i64 v1) := b10.cell 0
        have w1' : w10.cell? ⟨w8.heap.size, 1, none⟩ = some (.int .i64 v2) := b10.cell 1
        have a0 : w10.cell? ⟨Bw, 0, none⟩ = some (.int .i64 (wi : Int)) := t5.cell 0
        have a1 : w10.cell? ⟨Bm, 0, none⟩ = some (.int .i64 ma) := t6.cell 0
        have a2 : w10.cell? ⟨Bm, 1, none⟩ = some (.int .i64 mb) := t6.cell 1
        have f0 := t5.free 0
        have f1 := t6.free 0
        have f2 := t6.free 1
        have l5 := t5.lt
        have l6 := t6.lt
        have lb := b10.lt
        have ne1 : Bw ≠ Bm := by omega
        have ne2 : Bm ≠ Bw := by omega
        have ne3 : w8.heap.size ≠ Bw := by have := h5.lt; omega
        have ne4 : w8.heap.size ≠ Bm := by have := h6.lt; omega
        have T5 := (((t5.set 0 (.int .i64 ((x.val : Nat) : Int))).far (p := ⟨Bm, 0, none⟩) ne1 (.int .i64 v1)).far (p := ⟨Bm, 1, none⟩) ne1 (.int .i64 v2)).drew
        have T6 := (((t6.far (p := ⟨Bw, 0, none⟩) ne2 (.int .i64 ((x.val : Nat) : Int))).set 0 (.int .i64 v1)).set 1 (.int .i64 v2)).drew
        have TN := (((hbl2.setCell (p := ⟨Bw, 0, none⟩) o1 (.int .i64 ((x.val : Nat) : Int))).setCell (p := ⟨Bm, 0, none⟩) (by show w.heap.size ≤ Bm; omega) (.int .i64 v1)).setCell (p := ⟨Bm, 1, none⟩) (by show w.heap.size ≤ Bm; omega) (.int .i64 v2)).drew
        have TK0 : KeepsFrom V.heap.size W (((w10.setCell ⟨Bw, 0, none⟩ (.int .i64 ((x.val : Nat) : Int))).setCell ⟨Bm, 0, none⟩ (.int .i64 v1)).setCell ⟨Bm, 1, none⟩ (.int .i64 v2)) :=
          ((hkf.trans ((KeepsOthers.setCell _ _ _).from _)).trans ((KeepsOthers.setCell _ _ _).from _)).trans ((KeepsOthers.setCell _ _ _).from _)
        have TK : KeepsFrom V.heap.size W (((w10.setCell ⟨Bw, 0, none⟩ (.int .i64 ((x.val : Nat) : Int))).setCell ⟨Bm, 0, none⟩ (.int .i64 v1)).setCell ⟨Bm, 1, none⟩ (.int .i64 v2)).drew := ⟨TK0.size, TK0.same⟩
        have TB : KeepB w.heap.size Bs W (((w10.setCell ⟨Bw, 0, none⟩ (.int .i64 ((x.val : Nat) : Int))).setCell ⟨Bm, 0, none⟩ (.int .i64 v1)).setCell ⟨Bm, 1, none⟩ (.int .i64 v2)).drew :=
          keepB_t hkb ⟨((((Below.refl _ w10).setCell (p := ⟨Bw, 0, none⟩) o1 _).setCell (p := ⟨Bm, 0, none⟩) (by show w.heap.size ≤ Bm; omega) _).setCell (p := ⟨Bm, 1, none⟩) (by show w.heap.size ≤ Bm; omega) _).drew,
            fun _ => ((Below.heap_setCell _ ⟨Bm, 1, none⟩ _ _ (by show Bs ≠ Bm; omega)).trans (Below.heap_setCell _ ⟨Bm, 0, none⟩ _ _ (by show Bs ≠ Bm; omega))).trans (Below.heap_setCell _ ⟨Bw, 0, none⟩ _ _ (by show Bs ≠ Bw; omega))⟩
        have TZ : V.heap.size ≤ (((w10.setCell ⟨Bw, 0, none⟩ (.int .i64 ((x.val : Nat) : Int))).setCell ⟨Bm, 0, none⟩ (.int .i64 v1)).setCell ⟨Bm, 1, none⟩ (.int .i64 v2)).drew.heap.size := Nat.le_trans hsz TK.size
        gi_wp2_with fail
        gi_region
        all_goals
          exact ⟨TK, TB, ⟨by rw [HE2.out]; exact T5, by rw [HE2.out]; exact T6, TN, TZ⟩⟩
    case stop =>
      rintro D c pre W _ _ h _
      exact h.elim
    case done =>
      rintro D ys W hD rfl hI hK
      have h5' := hI.r5
      have hbl := hI.bl
      have HWK := Lib.hid (HW0.out (firstF m m))
      rw [show (firstF m m).foldl (stepW q) (0, (0, 1)) = worstTo q m from wF_first q m (Nat.le_refl _)] at HWK
      rw [wF_first q m (Nat.le_refl _)] at h5'
      clear hI hI0
      obtain ⟨wi, hwi⟩ : ∃ v, (worstTo q m).1 = v := ⟨_, rfl⟩
      have hwm : wi < m := by rw [← hwi]; exact HWK.out.lt
      rw [hwi] at h5' HV
      clear hwi HWK
      obtain ⟨b, o, s, rfl, hb, hx, hc⟩ := (HR.out.keep hbl).at_ hwm
      have g0 := hc 0 _ rfl
      simp only [Nat.add_zero] at g0
      have HNA := Lib.hid (show nameAt q wi = s.n by unfold nameAt; rw [hx])
      have a0 : W.cell? ⟨Bw, 0, none⟩ = some (.int .i64 (wi : Int)) := h5'.cell 0
      have l5 := h5'.lt
      have i0 : (0 : Int) ≤ (wi : Int) := by omega
      have i1 : (wi : Int) < (m : Int) := by omega
      have HBL := Lib.hid hbl
      clear hx hc h5' hbl
      gi_wp2_with fail
      refine ⟨by simp, .inl ⟨_, _, rfl, run_takeDeferred hK, ?_⟩⟩
      have hg := grownBy_putObj' W D (.deferred none)
      exact ⟨_, results_tmp2 rfl _ _ _, by rw [HV.out, HNA.out]; rfl, HBL.out.grown hg (fun k e => by cases e; exact Nat.le_trans (Below.size kN) hD)⟩
  · have b0 : (E != 0) = true := by simpa using h0
    have HV := Lib.hid (show worstS q = (.empty, E) by unfold worstS; rw [hE, if_neg h0])
    clear hE h0
    go_enter Try.func78, Try.ntmps78
    go_wp2_with fail
    refine (cSeveral_is HE.out A m cap _ hm HR.out HS.out).mono ?_
    rintro e w1 ⟨rfl, n1⟩
    go_wp2_with fail
    go_ret2
    exact ⟨by rw [HV.out]; rfl, n1⟩
end Go.Proofs.Ytaogolnoiffgiaa

namespace Go.Proofs.Ytaogolnoiffgiaa
open Go.RowKit Go.Sky Go.Sky.Ch Go.Shelf
attribute [local go_sem] Oper.semAt_some

def stepA {m : Nat} (q : List Pl) (s : Int) (i : Fin m) : Int := s + ((atP q i.val).1 * (nextP q i.val).2 - (nextP q i.val).1 * (atP q i.val).2)
def aF {m : Nat} (q : List Pl) (pre : List (Fin m)) : Int := pre.foldl (stepA q) 0
theorem aF_snoc {m : Nat} (q : List Pl) (pre : List (Fin m)) (x : Fin m) : aF q (pre ++ [x]) = stepA q (aF q pre) x := by unfold aF; rw [List.foldl_append]; rfl
theorem aF_first {m : Nat} (q : List Pl) : ∀ j, j ≤ m → aF q (firstF m j) = area2 q j
  | 0, _ => rfl
  | j + 1, h => by
    rw [firstF_step (show j < m by omega), aF_snoc, aF_first q j (by omega)]
    rfl
def PlB (p : Pl) : Prop := (0 ≤ p.1 ∧ p.1 ≤ 30) ∧ (0 ≤ p.2 ∧ p.2 ≤ 30)
theorem atP_bd {q : List Pl} (h : ∀ p ∈ q, PlB p) (i : Nat) : PlB (atP q i) := by
  unfold atP
  rw [List.getD_eq_getElem?_getD]
  cases hx : q[i]? with
  | none => exact ⟨⟨by decide, by decide⟩, by decide, by decide⟩
  | some p => exact h p (List.mem_of_getElem? hx)
theorem nextP_bd {q : List Pl} (h : ∀ p ∈ q, PlB p) (i : Nat) : PlB (nextP q i) := by
  unfold nextP
  cases hx : q[(i + 1) % q.length]? with
  | none => exact ⟨⟨by decide, by decide⟩, by decide, by decide⟩
  | some p => exact h p (List.mem_of_getElem? hx)
theorem mul_bd30 {a b : Int} (ha : 0 ≤ a ∧ a ≤ 30) (hb : 0 ≤ b ∧ b ≤ 30) : 0 ≤ a * b ∧ a * b ≤ 900 := by
  constructor
  · exact Int.mul_nonneg ha.1 hb.1
  · have := Int.mul_le_mul ha.2 hb.2 hb.1 (by decide : (0 : Int) ≤ 30)
    omega
theorem aF_bd {m : Nat} {q : List Pl} (h : ∀ p ∈ q, PlB p) : ∀ (pre : List (Fin m)) (s : Int) (k : Nat), -(900 * (k : Int)) ≤ s ∧ s ≤ 900 * (k : Int) → -(900 * ((k + pre.length : Nat) : Int)) ≤ pre.foldl (stepA q) s ∧ pre.foldl (stepA q) s ≤ 900 * ((k + pre.length : Nat) : Int)
  | [], s, k, hs => by simpa using hs
  | x :: pre, s, k, hs => by
    have h1 := mul_bd30 (atP_bd h x.val).1 (nextP_bd h x.val).2
    have h2 := mul_bd30 (nextP_bd h x.val).1 (atP_bd h x.val).2
    have := aF_bd h pre (stepA q s x) (k + 1) (by unfold stepA; omega)
    rw [List.foldl_cons, List.length_cons]
    rw [show k + (pre.length + 1) = k + 1 + pre.length by omega]
    exact this

/-- Between two rounds of AreaOf. -/
structure ArI (m : Nat) (w0 : World) (Bw B0 : Nat) (q : List Pl) (pre : List (Fin m)) (W : World) : Prop where
  r5 : Bx W Bw 3 #[.int .i64 (aF q pre)]
  bl : New w0 W
  sz : B0 ≤ W.heap.size
theorem arI_own (m : Nat) (w0 : World) (Bw B0 : Nat) (q : List Pl) (B : Nat) (hB : w0.heap.size ≤ B) : OwnFrom B (ArI m w0 Bw B0 q) := fun s W W' row hs hg hr =>
  ⟨hs.r5.grown hg (bx_ne3 hs.r5 hr), hs.bl.grown hg (fun k e => by have := (hr k e).1; omega), Nat.le_trans hs.sz hg.size⟩

theorem conS_ok {c : List Pl} (h : (conS c).2 = 0) : 4 ≤ c.length ∧ c.length ≤ 200 ∧ ∀ p ∈ c, PlB p := by
  unfold conS at h
  split at h
  · cases h
  · split at h
    · cases h
    · refine ⟨by omega, by omega, ?_⟩
      unfold conM at h
      rcases hfi : c.findIdx? plBad with _ | i
      · intro p hp
        have := List.findIdx?_eq_none_iff.1 hfi p hp
        unfold plBad at this
        exact place_bd (by simpa using this)
      · rw [hfi] at h
        cases h

set_option maxRecDepth 100000 in
set_option maxHeartbeats 8000000 in
theorem cAreaOf_any (A : Option Addr) (m cap : Nat) (q : List Pl) (w : World) (hm : m ≤ 1000000) (hr : Rd w 2 encPl A m q) :
    Calls Try.prog 48 #[.slice A m cap] w fun e w' => New w w' ∧ ((∃ r, (conS q).2 = r ∧ r ≠ 0 ∧ e = .returned (.tuple #[.int .i64 0, .int .i64 r])) ∨ ((conS q).2 = 0 ∧ e = .returned (.tuple #[.int .i64 (areaS q), .int .i64 0]))) := by
  have HL := Lib.hid hr.len
  have HR := Lib.hid hr
  clear hr
  obtain ⟨E, hE⟩ : ∃ E, (conS q).2 = E := ⟨_, rfl⟩
  have HE := Lib.hid hE
  by_cases h0 : E = 0
  · subst h0
    obtain ⟨h4, h200, hpl⟩ := conS_ok hE
    rw [HL.out] at h4 h200
    have HPL := Lib.hid hpl
    clear hE hpl
    refine (callsIn_wide (n := 6)).1 (callsIn_of_wp_marks Try.func48 rfl trivial ?_ rfl)
    simp only [Try.ntmps48, List.size_toArray, List.length_cons, List.length_nil, Nat.reduceAdd, Nat.reduceSub, Array.replicate_succ, Array.replicate_zero, List.push_toArray, List.append_toArray, List.nil_append, List.cons_append]
    gi_wp2_with fail
    refine ⟨trivial, (callsIn_wide.2 (cContourErr_any A m cap q _ hm HR.out)).mono ?_⟩
    rintro e w1 ⟨rfl, n1⟩
    rw [HE.out]
    gi_wp2_with fail
    refine ⟨trivial, (callsIn_wide.2 (steps_any A m cap _)).mono ?_⟩
    rintro e w2 ⟨rfl, rfl⟩
    gi_wp2_with fail
    have kN := (n1.alloc (.cells #[.int .i64 0] 3)).alloc (.cells #[.slice A m cap] 82)
    have k5 := (Bx.mk w1 3 #[.int .i64 0]).alloc (.cells #[.slice A m cap] 82)
    have k8 := Bx.mk_at (w1.alloc (.cells #[.int .i64 0] 3)) 82 #[.slice A m cap] (w1.heap.size + 1) (by simp)
    obtain ⟨V, hV⟩ : ∃ V, (w1.alloc (.cells #[.int .i64 0] 3)).alloc (.cells #[.slice A m cap] 82) = V := ⟨_, rfl⟩
    have hvs : V.heap.size = w1.heap.size + 2 := by rw [← hV]; simp
    rw [hV] at kN k5 k8 ⊢
    obtain ⟨Bs, hBs⟩ : ∃ b, w1.heap.size + 1 = b := ⟨_, rfl⟩
    obtain ⟨Bw, hBw⟩ : ∃ b, w1.heap.size = b := ⟨_, rfl⟩
    rw [hBs] at k8 ⊢
    rw [hBw] at k5 ⊢
    have o1 : w.heap.size ≤ Bw := by have := n1.size; omega
    have o3 : Bw < Bs := by omega
    have o4 : Bs < V.heap.size := by omega
    clear hV hvs hBs hBw n1
    have hI0 : ArI m w Bw V.heap.size q [] V := ⟨k5, kN, Nat.le_refl _⟩
    refine wpIn_rangeFunc_ownH (α := Fin m) rfl (by omega) (gf := 139) (lb := #[.pointer (some ⟨Bs, 0, none⟩)]) rfl trivial (enters_of Try.func139 (by kernel_rfl) rfl)
      (steps_stops 5 (by omega) Bs w A m cap q V (by omega) (by omega) HR.out kN k8) keepB_t (keepB_b (Below.size kN) o4) (Below.refl _ _) (fun _ => rfl)
      (ArI m w Bw V.heap.size q) (fun _ _ _ => False) (arI_own m w Bw V.heap.size q _ (Below.size kN)) (fun _ _ _ _ _ h _ _ => h) hI0
      (fun x a' W => ∃ B, V.heap.size ≤ B ∧ Bx W B 73 #[.int .i64 (atP q x.val).1, .int .i64 (atP q x.val).2] ∧ Bx W (B + 1) 73 #[.int .i64 (nextP q x.val).1, .int .i64 (nextP q x.val).2] ∧
        a' = { tmps := #[.slice A m cap, undef, .int .i64 0, .int .i64 0, .int .i64 0, .pointer (some ⟨Bw, 0, none⟩), .pointer (some ⟨B, 0, none⟩), .pointer (some ⟨B + 1, 0, none⟩), .slice A m cap, .int .i64 0, .int .i64 0, .bool false, undef, .slice A m cap, .func (.func 139) #[] #[.pointer (some ⟨Bs, 0, none⟩)], .agg #[.int .i64 (atP q x.val).1, .int .i64 (atP q x.val).2], .agg #[.int .i64 (nextP q x.val).1, .int .i64 (nextP q x.val).2], undef, undef, undef, undef, undef, undef, undef, undef, undef, undef, undef, undef, undef, undef, undef], defers := [] })
      (fun x a' _ X Y row hs hg hr => by obtain ⟨B, h1, h2, h3, h4⟩ := hs; exact ⟨B, h1, h2.grown hg (bx_ne3 h2 hr), h3.grown hg (bx_ne3 h3 hr), h4⟩)
      ?assign ?body ?done ?stop
    case assign =>
      rintro l pre x W K hI hK
      have hs := hI.sz
      unfold encPV
      gi_wp2
      refine hK _ _ (((KeepsOthers.alloc _ _).trans (KeepsOthers.alloc _ _)).from _) ⟨((Below.refl _ W).alloc (Below.size hI.bl) _).alloc (Nat.le_trans (Below.size hI.bl) (by simp)) _, fun hb => (Below.heap_alloc _ _ _ (by simp; omega)).trans (Below.heap_alloc W _ _ hb)⟩ ⟨(hI.r5.alloc _).alloc _, (hI.bl.alloc _).alloc _, by simp; omega⟩ ?_
      exact ⟨W.heap.size, hs, (Bx.mk _ _ _).alloc _, Bx.mk_at _ _ _ _ (by simp), by simp⟩
    case body =>
      rintro l pre x a' W hl ⟨r, hr⟩ hI ⟨B, hB, bX, bY, rfl⟩ hlt
      have h5 := hI.r5
      have hbl := hI.bl
      have hsz := hI.sz
      have ba := atP_bd HPL.out x.val
      have bn := nextP_bd HPL.out x.val
      have m1 := mul_bd30 ba.1 bn.2
      have m2 := mul_bd30 bn.1 ba.2
      have hs5 := aF_bd HPL.out pre 0 0 (by omega)
      rw [HL.out] at hlt
      have hs6 : -180000 ≤ aF q pre ∧ aF q pre ≤ 180000 := by unfold aF; omega
      have HSN := Lib.hid (show aF q (pre ++ [x]) = aF q pre + ((atP q x.val).1 * (nextP q x.val).2 - (nextP q x.val).1 * (atP q x.val).2) by rw [aF_snoc]; rfl)
      clear hs5
      have a0 : W.cell? ⟨Bw, 0, none⟩ = some (.int .i64 (aF q pre)) := h5.cell 0
      have f0 := h5.free 0
      have l5 := h5.lt
      have x0 : W.cell? ⟨B, 0, none⟩ = some (.int .i64 (atP q x.val).1) := bX.cell 0
      have x1 : W.cell? ⟨B, 1, none⟩ = some (.int .i64 (atP q x.val).2) := bX.cell 1
      have y0 : W.cell? ⟨B + 1, 0, none⟩ = some (.int .i64 (nextP q x.val).1) := bY.cell 0
      have y1 : W.cell? ⟨B + 1, 1, none⟩ = some (.int .i64 (nextP q x.val).2) := bY.cell 1
      have lX := bX.lt
      have lY := bY.lt
      have T5 := h5.set 0 (.int .i64 (aF q pre + ((atP q x.val).1 * (nextP q x.val).2 - (nextP q x.val).1 * (atP q x.val).2)))
      have TN := hbl.setCell (p := ⟨Bw, 0, none⟩) o1 (.int .i64 (aF q pre + ((atP q x.val).1 * (nextP q x.val).2 - (nextP q x.val).1 * (atP q x.val).2)))
      have TK : KeepsFrom V.heap.size W (W.setCell ⟨Bw, 0, none⟩ (.int .i64 (aF q pre + ((atP q x.val).1 * (nextP q x.val).2 - (nextP q x.val).1 * (atP q x.val).2)))) := (KeepsOthers.setCell _ _ _).from _
      have TB : KeepB w.heap.size Bs W (W.setCell ⟨Bw, 0, none⟩ (.int .i64 (aF q pre + ((atP q x.val).1 * (nextP q x.val).2 - (nextP q x.val).1 * (atP q x.val).2)))) :=
        ⟨(Below.refl _ W).setCell (p := ⟨Bw, 0, none⟩) o1 _, fun _ => Below.heap_setCell _ ⟨Bw, 0, none⟩ _ _ (by show Bs ≠ Bw; omega)⟩
      have TZ := Nat.le_trans hsz TK.size
      clear hI hI0 bX bY
      gi_wp2_with fail
      exact ⟨TK, TB, ⟨by rw [HSN.out]; exact T5, TN, TZ⟩⟩
    case stop =>
      rintro D c pre W _ _ h _
      exact h.elim
    case done =>
      rintro D ys W hD rfl hI hK
      have h5' := hI.r5
      have hbl := hI.bl
      have HAR := Lib.hid (show areaS q = (aF q (firstF m m)).tdiv 2 by rw [aF_first q m (Nat.le_refl _)]; unfold areaS; rw [HL.out])
      have hs5 := aF_bd HPL.out (firstF m m) 0 0 (by omega)
      rw [firstF_len m (Nat.le_refl _)] at hs5
      have hs6 : -180000 ≤ aF q (firstF m m) ∧ aF q (firstF m m) ≤ 180000 := by unfold aF; omega
      clear hI hI0 hs5
      obtain ⟨z, hz⟩ : ∃ z, aF q (firstF m m) = z := ⟨_, rfl⟩
      rw [hz] at h5' HAR hs6
      have a0 : W.cell? ⟨Bw, 0, none⟩ = some (.int .i64 z) := h5'.cell 0
      have l5 := h5'.lt
      have HBL := Lib.hid hbl
      clear h5' hbl hz
      gi_wp2_with fail
      refine ⟨by simp, .inl ⟨_, _, rfl, run_takeDeferred hK, ?_⟩⟩
      have hg := grownBy_putObj' W D (.deferred none)
      exact ⟨_, results_tmp2 rfl _ _ _, HBL.out.grown hg (fun k e => by cases e; exact Nat.le_trans (Below.size kN) hD), .inr ⟨HE.out, by rw [HAR.out]; rfl⟩⟩
  · have b0 : (E != 0) = true := by simpa using h0
    go_enter Try.func48, Try.ntmps48
    go_wp2_with fail
    refine (cContourErr_any A m cap q _ hm HR.out).mono ?_
    rintro e w1 ⟨rfl, n1⟩
    rw [HE.out]
    go_wp2_with fail
    go_ret2
    exact ⟨n1, .inl ⟨E, HE.out, h0, rfl⟩⟩
end Go.Proofs.Ytaogolnoiffgiaa
