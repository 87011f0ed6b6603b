/- Contracts of chapter 4: a valid profile is checked and opened; the borders of its slabs, as a range over a function asks them.
   Contract of chapter 4: where a frequency is reflected.
   Contracts of chapter 4: a valid profile is checked and opened; the example's virtual height.
   Contracts: chapter 4's examples, and that they are as specified. -/
import Derived.BigQuiet
import Derived.Deep.AppendLies
import Derived.Deep.DeepCutAuto
import Derived.Deep.Draws
import Derived.Deep.Quiet
import Derived.Deep.QuietTactic
import Derived.Lib.Hide
import Derived.LoopIn
import Derived.LoopNIn
import Derived.OrdersIn
import Derived.OwnWalk
import Derived.OwnWalkIn
import Derived.RangeFuncBound
import Derived.RangeFuncCalls
import Derived.RangeFuncLeaves
import Derived.RangeFuncNested
import Derived.Shelf.Abstract
import Derived.Shelf.RegionOpen
import Derived.StillTail
import Derived.TacticsIn
import Derived.TacticsInMore
import Derived.Test.YteabmmibmopnkaaProg
import Derived.WalkKit
import Derived.WalkLawsBesides
import Derived.WalkSpells
import Derived.Test.YteabmmibmopnkaaC12K
import Derived.Test.YteabmmibmopnkaaC12N

namespace Go.Proofs.Yteabmmibmopnkaa
open Go.RowKit Go.Sky Go.Shelf
attribute [local go_sem] Oper.semAt_some

/-- The height of the lower border of slab i. -/
def hgtS (base : Int) (zs : List (Int × Int)) : Nat → Int
  | 0 => base
  | i + 1 => hgtS base zs i + (slAt zs i).2
def encH {m : Nat} (base : Int) (zs : List (Int × Int)) (x : Fin m) : Array Value := #[.int .i64 ((x.val : Nat) : Int), .int .i64 (hgtS base zs x.val)]
structure SkOk (base : Int) (zs : List (Int × Int)) : Prop where
  base : 0 ≤ base ∧ base ≤ 500
  len : 0 < zs.length ∧ zs.length ≤ 12
  sl : ∀ x ∈ zs, (0 ≤ x.1 ∧ x.1 ≤ 9000000) ∧ (0 ≤ x.2 ∧ x.2 ≤ 500)
theorem hgt_in {base : Int} {zs : List (Int × Int)} (h : SkOk base zs) : ∀ i : Nat, 0 ≤ hgtS base zs i ∧ hgtS base zs i ≤ 500 + 500 * i
  | 0 => by have := h.base; rw [hgtS]; omega
  | i + 1 => by
    have ih := hgt_in h i
    rw [hgtS]
    unfold slAt
    cases hx : zs[i]? with
    | none => simp; omega
    | some x => have := (h.sl x (List.mem_of_getElem? hx)).2; simp; omega

set_option maxRecDepth 100000 in
set_option maxHeartbeats 2000000 in
theorem bordersIt (n : Nat) (hn : 1 ≤ n) (base : Int) (zs : List (Int × Int)) (A : Option Addr) (m cap : Nat) (w : World) (hok : SkOk base zs) (hr : Rd w 2 encR2 A m zs) :
    BoundStops Fence.wide n Try.prog 177 #[.agg #[.int .i64 base, .slice A m cap]] (encH (m := m) base zs) (fun xs => xs.map (·.val) = List.range m) (fun pre => ∃ k, k < m ∧ pre.map (·.val) = List.range (k + 1)) m w := by
  intro l J Jx W hW hJ hY h0
  have HY := Lib.hid hY; clear hY
  have HOK := Lib.hid hok
  have hm := hr.len
  have hm12 : m ≤ 12 := by have := hok.len; omega
  have hrW := hr.keep (show New w W from hW)
  clear hok hr
  obtain ⟨hb0, hb1⟩ := HOK.out.base
  show CallsIn Fence.wide n Try.prog 177 #[.agg #[.int .i64 base, .slice A m cap], .func (.yield l) #[] #[]] W _
  have HRW := Lib.hid (hrW.keep ((New.refl W).alloc (.cells #[.int .i64 base, .slice A m cap] 161)))
  have J0 : J [] (W.alloc (.cells #[.int .i64 base, .slice A m cap] 161)) := hJ [] W _ none h0 (World.grownBy_alloc W _ none) (fun r e => by cases e)
  have hsz : W.heap.size ≤ (W.alloc (.cells #[.int .i64 base, .slice A m cap] 161)).heap.size := by simp
  have HJ := Lib.hid hJ
  clear hrW h0 hJ
  refine callsIn_of_wp Try.func177 rfl trivial ?_ rfl
  simp only [Try.ntmps177, List.size_toArray, List.length_cons, List.length_nil, Nat.reduceAdd, Nat.reduceSub, Array.replicate_succ, Array.replicate_zero, List.push_toArray, List.append_toArray, List.nil_append, List.cons_append]
  gi_wp2
  gi_loopw [4, 5, 6, 14] (fun v4 _ _ i wr => ∃ (k : Nat) (pre : List (Fin m)), k ≤ m ∧ i = .int .i64 (k : Int) ∧ v4 = .int .i64 (hgtS base zs k) ∧ Hid (pre.map (·.val) = List.range k) ∧ J pre wr ∧ Hid (Sky.Rd wr 2 encR2 A m zs)) (fun _ _ _ i _ => m - (intOf i).toNat)
  case atStart => exact ⟨0, [], by omega, rfl, rfl, rfl, J0, HRW⟩
  case round =>
    clear J0 HRW hsz
    obtain ⟨k, pre, hk, rfl, rfl, HP, hJk, HRD⟩ := hrel
    by_cases hlt : k < m
    · obtain ⟨b, o, x, rfl, hb, hx, hc⟩ := HRD.out.at_ hlt
      have g0 := hc 0 _ rfl
      have g1 := hc 1 _ rfl
      simp only [Nat.add_zero] at g0
      have hh := hgt_in HOK.out k
      have hxs := HOK.out.sl x (List.mem_of_getElem? hx)
      have HN := Lib.hid (show hgtS base zs (k + 1) = hgtS base zs k + x.2 by rw [hgtS]; unfold slAt; rw [hx]; rfl)
      have hlen : pre.length < m := by
        have h := congrArg List.length HP.out
        rw [List.length_map, List.length_range] at h
        omega
      have hJa : J pre (wr.alloc (.cells #[.int .i64 x.1, .int .i64 x.2] 164)) := HJ.out pre wr _ none hJk (World.grownBy_alloc wr _ none) (fun r e => by cases e)
      have ra := HRD.out.keep ((New.refl wr).alloc (.cells #[.int .i64 x.1, .int .i64 x.2] 164))
      have bx := Bx.mk wr 164 #[.int .i64 x.1, .int .i64 x.2]
      obtain ⟨fn, tmps, assign, body, hy, hR⟩ := HY.out pre ⟨k, hlt⟩ _ hJa hlen
      unfold encH at hy
      dsimp only at hy
      obtain ⟨H, hH⟩ : ∃ H, hgtS base zs k = H := ⟨_, rfl⟩
      rw [hH] at hy hh HN ⊢
      obtain ⟨hh0, hh1⟩ := hh
      obtain ⟨⟨_, _⟩, xs0, xs1⟩ := hxs
      clear hc hx hH hJk
      gi_wp2
      refine hR.mono ?_
      rintro e W3 (⟨rfl, hJ3, hk3⟩ | ⟨rfl, hJx3⟩)
      · have b3 := hk3.bx bx
        have r3 := Lib.hid (hk3.rd ra)
        have d1 : W3.cell? ⟨wr.heap.size, 1, none⟩ = some (.int .i64 x.2) := b3.cell 1
        have l3 := b3.lt
        clear bx ra hJa g0 g1
        gi_wp2
        go_roundw
        case rel => exact ⟨k + 1, _, by omega, by go_num, by rw [HN.out], by show List.map _ _ = _; rw [List.map_append, HP.out, List.range_succ]; rfl, hJ3, r3⟩
        case measure => simp [intOf]; omega
      · gi_wp2
        refine bodyPost_ret (results_none rfl _ _ _) rfl ?_
        exact ⟨⟨_, rfl⟩, .inr ⟨_, ⟨k, hlt, by rw [List.map_append, HP.out, List.range_succ]; rfl⟩, hJx3⟩⟩
    · obtain rfl : m = k := by omega
      gi_wp2
      go_end0
      exact ⟨⟨_, rfl⟩, .inl ⟨pre, HP.out, hJk⟩⟩
end Go.Proofs.Yteabmmibmopnkaa

namespace Go.Proofs.Yteabmmibmopnkaa
open Go.RowKit Go.Sky Go.Shelf
attribute [local go_sem] Oper.semAt_some

theorem bx_ne2 {W : World} {b : Nat} {t : TypeId} {cs : Array Value} {row : Option Nat} {B : Nat} (h : Bx W b t cs) (hr : ∀ r, row = some r → B ≤ r ∧ ∃ o : Obj, W.heap[r]? = some o ∧ o.isCells = false) : some b ≠ row := by
  intro e
  obtain ⟨_, o, ho, hc⟩ := hr b e.symm
  unfold Bx at h
  rw [h] at ho
  injection ho with ho
  subst ho
  cases hc
theorem rd_turn2 {α : Type} {W W' : World} {k n : Nat} {enc : α → List Value} {A : Option Addr} {xs : List α} {row : Option Nat} {B : Nat} (h : Sky.Rd W k enc A n xs) (hg : W.grownBy W' row)
    (hr : ∀ r, row = some r → B ≤ r ∧ ∃ o : Obj, W.heap[r]? = some o ∧ o.isCells = false) : Sky.Rd W' k enc A n xs :=
  ⟨h.1, fun hn => by
    obtain ⟨b, o, e, hb, hc⟩ := h.2 hn
    exact ⟨b, o, e, Nat.lt_of_lt_of_le hb hg.size, fun i x hx j u hu => cell_kept (hc i x hx j u hu) hg (fun r e => (hr r e).2)⟩⟩

/-- Between two rounds. -/
structure RfI (f base : Int) (A : Option Addr) (m cap : Nat) (zs : List (Int × Int)) (w : World) (pre : List (Fin m)) (W : World) : Prop where
  no : ∀ x ∈ pre, (slAt zs x.val).1 < f * f
  bs : Bx W w.heap.size 161 #[.int .i64 base, .slice A m cap]
  bf : Bx W (w.heap.size + 1) 3 #[.int .i64 f]
  r4 : Bx W (w.heap.size + 1 + 1) 3 #[.int .i64 0]
  r5 : Bx W (w.heap.size + 1 + 1 + 1) 3 #[.int .i64 0]
  rd : Sky.Rd W 2 encR2 A m zs
  bl : New w W
  sz : w.heap.size + 4 ≤ W.heap.size
/-- A slab reflects. -/
structure RfX (f base : Int) (m : Nat) (zs : List (Int × Int)) (w : World) (pre : List (Fin m)) (W : World) : Prop where
  hit : ∃ q x, pre = q ++ [x] ∧ (∀ y ∈ q, (slAt zs y.val).1 < f * f) ∧ f * f ≤ (slAt zs x.val).1 ∧ Bx W (w.heap.size + 1 + 1) 3 #[.int .i64 (hgtS base zs x.val)] ∧ Bx W (w.heap.size + 1 + 1 + 1) 3 #[.int .i64 ((x.val : Nat) : Int)]
  bl : New w W
  sz : w.heap.size + 4 ≤ W.heap.size
theorem rfI_own (f base : Int) (A : Option Addr) (m cap : Nat) (zs : List (Int × Int)) (w : World) (B : Nat) (hB : w.heap.size ≤ B) : OwnFrom B (RfI f base A m cap zs w) := fun _ _ _ _ hs hg hr =>
  ⟨hs.no, hs.bs.grown hg (bx_ne2 hs.bs hr), hs.bf.grown hg (bx_ne2 hs.bf hr), hs.r4.grown hg (bx_ne2 hs.r4 hr), hs.r5.grown hg (bx_ne2 hs.r5 hr), rd_turn2 hs.rd hg hr,
    hs.bl.grown hg (fun k e => Nat.le_trans hB (hr k e).1), Nat.le_trans hs.sz hg.size⟩
theorem rfX_own (f base : Int) (m : Nat) (zs : List (Int × Int)) (w : World) (B : Nat) (hB : w.heap.size ≤ B) : OwnFrom B (RfX f base m zs w) := fun s W W' row hs hg hr => by
  obtain ⟨q, x, e, h1, h2, h3, h4⟩ := hs.hit
  exact ⟨⟨q, x, e, h1, h2, h3.grown hg (bx_ne2 h3 hr), h4.grown hg (bx_ne2 h4 hr)⟩, hs.bl.grown hg (fun k e => Nat.le_trans hB (hr k e).1), Nat.le_trans hs.sz hg.size⟩

set_option maxRecDepth 100000 in
set_option maxHeartbeats 4000000 in
theorem reflected_at (f base : Int) (A : Option Addr) (m cap i0 : Nat) (zs : List (Int × Int)) (w : World) (hok : SkOk base zs) (hf0 : 1 ≤ f) (hf1 : f ≤ 3000) (hi0 : i0 < m) (hbef : ∀ i, i < i0 → (slAt zs i).1 < f * f) (hat : f * f ≤ (slAt zs i0).1) (hr : Sky.Rd w 2 encR2 A m zs) :
    Calls Try.prog 140 #[.agg #[.int .i64 base, .slice A m cap], .int .i64 f] w fun e w' => e = .returned (.tuple #[.int .i64 (hgtS base zs i0), .int .i64 (i0 : Int)]) ∧ New w w' := by
  have hL := hr.len
  have HOK := Lib.hid hok
  have HBEF := Lib.hid hbef
  have HAT := Lib.hid hat
  have HR := Lib.hid hr
  obtain ⟨g0, g1⟩ := ff_in hf0 hf1
  clear hok hbef hat hr
  refine (callsIn_wide (n := 6)).1 (callsIn_of_wp_marks Try.func140 rfl trivial ?_ rfl)
  simp only [Try.ntmps140, List.size_toArray, List.length_cons, List.length_nil, Nat.reduceAdd, Nat.reduceSub, Array.replicate_succ, Array.replicate_zero, List.push_toArray, List.append_toArray, List.nil_append, List.cons_append]
  have bs := (((Bx.mk w 161 #[.int .i64 base, .slice A m cap]).alloc (.cells #[.int .i64 f] 3)).alloc (.cells #[.int .i64 0] 3)).alloc (.cells #[.int .i64 0] 3)
  have bf := ((Bx.mk_at (w.alloc (.cells #[.int .i64 base, .slice A m cap] 161)) 3 #[.int .i64 f] (w.heap.size + 1) (by simp)).alloc (.cells #[.int .i64 0] 3)).alloc (.cells #[.int .i64 0] 3)
  have r4 := (Bx.mk_at ((w.alloc (.cells #[.int .i64 base, .slice A m cap] 161)).alloc (.cells #[.int .i64 f] 3)) 3 #[.int .i64 0] (w.heap.size + 1 + 1) (by simp)).alloc (.cells #[.int .i64 0] 3)
  have r5 := Bx.mk_at (((w.alloc (.cells #[.int .i64 base, .slice A m cap] 161)).alloc (.cells #[.int .i64 f] 3)).alloc (.cells #[.int .i64 0] 3)) 3 #[.int .i64 0] (w.heap.size + 1 + 1 + 1) (by simp)
  have nn := ((((New.refl w).alloc (.cells #[.int .i64 base, .slice A m cap] 161)).alloc (.cells #[.int .i64 f] 3)).alloc (.cells #[.int .i64 0] 3)).alloc (.cells #[.int .i64 0] 3)
  gi_wp2
  obtain ⟨W0, hW0⟩ : ∃ W0, (((w.alloc (.cells #[.int .i64 base, .slice A m cap] 161)).alloc (.cells #[.int .i64 f] 3)).alloc (.cells #[.int .i64 0] 3)).alloc (.cells #[.int .i64 0] 3) = W0 := ⟨_, rfl⟩
  have hsz : W0.heap.size = w.heap.size + 4 := by rw [← hW0]; simp
  rw [hW0] at bs bf r4 r5 nn ⊢
  clear hW0
  have hI0 : RfI f base A m cap zs w [] W0 := ⟨fun x hx => absurd hx (List.not_mem_nil), bs, bf, r4, r5, HR.out.keep nn, nn, by omega⟩
  clear bs bf r4 r5
  refine wpIn_range_bound rfl (by omega) (gf := 177) (rb := #[.agg #[.int .i64 base, .slice A m cap]]) rfl trivial (enters_of Try.func177 (by kernel_rfl) rfl) (encs := encH (m := m) base zs) (fun _ => rfl)
    (bordersIt 5 (by omega) base zs A m cap W0 HOK.out (HR.out.keep nn)) (RfI f base A m cap zs w) (RfX f base m zs w) (rfI_own f base A m cap zs w _ (by omega)) (rfX_own f base m zs w _ (by omega)) hI0
    (fun x => { tmps := #[.agg #[.int .i64 base, .slice A m cap], .int .i64 f, .pointer (some ⟨w.heap.size, 0, none⟩), .pointer (some ⟨w.heap.size + 1, 0, none⟩), .pointer (some ⟨w.heap.size + 1 + 1, 0, none⟩), .pointer (some ⟨w.heap.size + 1 + 1 + 1, 0, none⟩), .int .i64 ((x.val : Nat) : Int), .int .i64 (hgtS base zs x.val), .agg #[.int .i64 base, .slice A m cap], .func (.func 177) #[.agg #[.int .i64 base, .slice A m cap]] #[], .int .i64 ((x.val : Nat) : Int), .int .i64 (hgtS base zs x.val), undef, undef, undef, undef, undef, undef, undef, undef, undef, undef, undef, undef, undef], defers := [] })
    ?assign ?body ?done ?stop
  case assign =>
    intro l x W K hK
    unfold encH
    gi_wp2
    exact hK
  case body =>
    intro l pre x W hI hlt
    obtain ⟨b, o, y, rfl, hb, hy, hc⟩ := hI.rd.at_ x.isLt
    have y0 := hc 0 _ rfl
    simp only [Nat.add_zero] at y0
    have HY := Lib.hid (show slAt zs x.val = y by unfold slAt; rw [hy]; rfl)
    have i0' : (0 : Int) ≤ ((x.val : Nat) : Int) := by omega
    have i1' : ((x.val : Nat) : Int) < (m : Int) := by have := x.isLt; omega
    have bs := hI.bs
    have bf := hI.bf
    have r4 := hI.r4
    have r5 := hI.r5
    have c1 : W.cell? ⟨w.heap.size, 1, none⟩ = some (.slice (some ⟨b, o, none⟩) m cap) := bs.cell 1
    have d0 : W.cell? ⟨w.heap.size + 1, 0, none⟩ = some (.int .i64 f) := bf.cell 0
    have ls := bs.lt
    have lf := bf.lt
    have HI := Lib.hid hI
    clear hI hy hc hI0
    gi_wp2
    refine wpIn_region_tail 10 (by kernel_rfl) (by kernel_rfl) (by kernel_rfl) ?_
    simp only [List.take_succ_cons, List.take_zero, List.drop_succ_cons, List.drop_zero]
    (repeat (go_big_quiet_step ((fail))))
    refine wpQuiet_nil ?_
    intro W2 n2
    have hKO : KeepsOthers W W2 := ⟨n2.size, fun k o hk _ => n2.heap hk⟩
    have s4 := r4.keep n2
    have s5 := r5.keep n2
    have k4 : W2.cell? ⟨w.heap.size + 1 + 1, 0, none⟩ = some (.int .i64 0) := s4.cell 0
    have k5 : W2.cell? ⟨w.heap.size + 1 + 1 + 1, 0, none⟩ = some (.int .i64 0) := s5.cell 0
    have f4 := s4.free 0
    have f5 := s5.free 0
    have l4 := s4.lt
    have l5 := s5.lt
    by_cases hge : f * f ≤ y.1
    · gi_wp2
      have b4 := (s4.set 0 (.int .i64 (hgtS base zs x.val))).far (p := ⟨w.heap.size + 1 + 1 + 1, 0, none⟩) (by simp) (.int .i64 ((x.val : Nat) : Int))
      have b5 := (s5.far (p := ⟨w.heap.size + 1 + 1, 0, none⟩) (by simp) (.int .i64 (hgtS base zs x.val))).set 0 (.int .i64 ((x.val : Nat) : Int))
      have NN := ((HI.out.bl.trans n2).setCell (p := ⟨w.heap.size + 1 + 1, 0, none⟩) (by simp; omega) (.int .i64 (hgtS base zs x.val))).setCell (p := ⟨w.heap.size + 1 + 1 + 1, 0, none⟩) (by simp; omega) (.int .i64 ((x.val : Nat) : Int))
      refine ⟨((hKO.trans (KeepsOthers.setCell _ _ _)).trans (KeepsOthers.setCell _ _ _)).from _, ⟨pre, x, rfl, HI.out.no, by rw [HY.out]; exact hge, b4, b5⟩, NN, ?_⟩
      have := HI.out.sz
      have := n2.size
      simp [World.setCell]
      omega
    · gi_wp2
      refine ⟨hKO.from _, KC.new n2, ?_, HI.out.bs.keep n2, HI.out.bf.keep n2, s4, s5, HI.out.rd.keep n2, HI.out.bl.trans n2, Nat.le_trans HI.out.sz n2.size⟩
      intro z hz
      rcases List.mem_append.1 hz with hz | hz
      · exact HI.out.no z hz
      · rw [List.mem_singleton.1 hz, HY.out]; omega
  case done =>
    intro D xs W hD hS hI hK
    exfalso
    have hm : i0 ∈ xs.map (·.val) := by rw [hS]; exact List.mem_range.2 hi0
    obtain ⟨y, hy, e⟩ := List.mem_map.1 hm
    have h1 := hI.no y hy
    have h2 := HAT.out
    rw [← e] at h2
    omega
  case stop =>
    intro D pre W hD hSp hX hK
    obtain ⟨q, x, rfl, hq, hx, r4, r5⟩ := hX.hit
    obtain ⟨k, hkm, hk⟩ := hSp
    rw [List.map_append, List.range_succ] at hk
    obtain ⟨hk1, hk2⟩ := List.append_inj' hk rfl
    have hxk : x.val = k := by simpa using hk2
    have hxi : x.val = i0 := by
      rcases Nat.lt_trichotomy x.val i0 with h | h | h
      · have := HBEF.out x.val h; omega
      · exact h
      · exfalso
        have hm : i0 ∈ q.map (·.val) := by rw [hk1]; exact List.mem_range.2 (by omega)
        obtain ⟨y, hy, e⟩ := List.mem_map.1 hm
        have h1 := hq y hy
        have h2 := HAT.out
        rw [← e] at h2
        omega
    rw [hxi] at r4 r5
    have hbl := hX.bl
    gi_wp2
    refine ⟨by simp, .inl ⟨_, _, rfl, run_takeDeferred hK, ?_⟩⟩
    have ht := grownBy_putObj' W D (.deferred none)
    have b4 := r4.grown ht (by simp; omega)
    have b5 := r5.grown ht (by simp; omega)
    have d4 := b4.cell 0
    have d5 := b5.cell 0
    have hBB := hbl.grown ht (fun k e => by cases e; omega)
    refine ⟨.tuple #[.int .i64 (hgtS base zs i0), .int .i64 (i0 : Int)], ?_, rfl, hBB⟩
    simp [results, Try.results140, go_sem, d4, d5]
end Go.Proofs.Yteabmmibmopnkaa

namespace Go.Proofs.Yteabmmibmopnkaa
open Go.RowKit Go.Sky

theorem slabBad (x : Int × Int) (w : World) (h : (0 ≤ x.1 ∧ x.1 ≤ 9000000) ∧ (0 ≤ x.2 ∧ x.2 ≤ 500)) :
    Calls Try.prog 194 #[.agg #[.int .i64 x.1, .int .i64 x.2]] w fun e w' => e = .returned (.bool false) ∧ New w w' := by
  have N0 := (New.refl w).alloc (.cells #[.int .i64 x.1, .int .i64 x.2] 164)
  have H1 := Lib.hid (inR_true h.1.1 h.1.2)
  have H2 := Lib.hid (inR_true h.2.1 h.2.2)
  clear h
  go_enter Try.func194, Try.ntmps194
  go_wp2_with fail
  refine (pWithin_is _ _ _ true _ H1.out).mono ?_
  rintro e w' ⟨rfl, rfl⟩
  go_wp2_with fail
  refine (isThick_is _ true _ H2.out).mono ?_
  rintro e w' ⟨rfl, rfl⟩
  go_wp2
  go_ret
  exact ⟨rfl, N0⟩

set_option maxRecDepth 100000 in
set_option maxHeartbeats 1000000 in
theorem idxSlab (A : Option Addr) (n cap : Nat) (zs : List (Int × Int)) (w : World) (hn : n ≤ 1000) (hr : Rd w 2 encR2 A n zs) (h : ∀ x ∈ zs, (0 ≤ x.1 ∧ x.1 ≤ 9000000) ∧ (0 ≤ x.2 ∧ x.2 ≤ 500)) :
    Calls Try.prog 193 #[.slice A n cap, .func (.func 194) #[] #[]] w fun e w' => e = .returned (.int .i64 (-1)) ∧ New w w' := by
  have HR := Lib.hid hr; clear hr
  have HH := Lib.hid h; clear h
  go_enter Try.func193, Try.ntmps193
  go_wp2
  go_loopw [5, 8] (fun _ i wr => ∃ k : Nat, k ≤ n ∧ i = .int .i64 k ∧ New w wr) (fun _ i _ => n - (intOf i).toNat)
  case atStart => exact ⟨0, by omega, rfl, New.refl _⟩
  case round =>
    obtain ⟨k, hk, rfl, hN⟩ := hrel
    by_cases hlt : k < n
    · obtain ⟨b, o, x, rfl, hb, hx, hc⟩ := (HR.out.keep hN).at_ hlt
      have g0 := hc 0 _ rfl
      have g1 := hc 1 _ rfl
      simp only [Nat.add_zero] at g0
      have HX := Lib.hid (HH.out x (List.mem_of_getElem? hx))
      clear hx hc
      go_wp2_with fail
      refine (slabBad x _ HX.out).mono ?_
      rintro e w1 ⟨rfl, hn1⟩
      go_wp2
      go_roundw
      case rel => exact ⟨k + 1, by omega, by go_num, hN.trans hn1⟩
      case measure => simp [intOf]; omega
    · go_wp2
      go_ret
      exact ⟨rfl, hN⟩

set_option maxRecDepth 100000 in
set_option maxHeartbeats 2000000 in
theorem checkProfile_ok (base : Int) (zs : List (Int × Int)) (A : Option Addr) (n cap : Nat) (w : World) (hok : SkOk base zs) (hr : Rd w 2 encR2 A n zs) :
    Calls Try.prog 175 #[.agg #[.int .i64 base, .slice A n cap]] w fun e w' => e = .returned (.tuple #[.int .i64 0, .int .i64 0]) ∧ New w w' := by
  have hL := hr.len
  have HR := Lib.hid hr; clear hr
  have hlen := hok.len
  have HB := Lib.hid (inR_true hok.base.1 hok.base.2)
  have HOK := Lib.hid hok
  clear hok
  have t1 : decide ((0 : Int) < (n : Int)) = true := decide_eq_true (by omega)
  have t1' : decide (0 < n) = true := decide_eq_true (by omega)
  have t2 : decide ((n : Int) ≤ 12) = true := decide_eq_true (by omega)
  have N0 := (New.refl w).alloc (.cells #[.int .i64 base, .slice A n cap] 88)
  have b0 := Bx.mk w 88 #[.int .i64 base, .slice A n cap]
  have c0 : World.cell? _ ⟨w.heap.size, 0, none⟩ = some (.int .i64 base) := b0.cell 0
  have c1 : World.cell? _ ⟨w.heap.size, 1, none⟩ = some (.slice A n cap) := b0.cell 1
  have l0 := b0.lt
  go_enter Try.func175, Try.ntmps175
  go_wp2
  (refine wp_region_tail 14 (by kernel_rfl) (by kernel_rfl) ?_; simp only [List.take_succ_cons, List.take_zero, List.drop_succ_cons, List.drop_zero]; (repeat (go_big_quiet_step ((first | (go_at_call 141; exact quiet_same (isThick_is _ true _ HB.out)) | (go_at_call 46; exact quiet_same (pUnless_true _ _ _ (by first | rfl | assumption))))))); refine wpQuiet_nil ?_)
  intro w1 n1
  go_wp2_with fail
  refine (pFirst_any _ 3 3 [_, _, _] _ (by omega) rfl (cells_new _ _ _ _ (by simp) _ rfl)).mono ?_
  rintro e W2 ⟨rfl, hW2⟩
  have n12 : New w1 W2 := by rw [← hW2]; exact (New.refl _).alloc _
  have b2 := (b0.keep n1).keep n12
  have N2 := N0.trans (n1.trans n12)
  clear hW2 b0 N0 c0 c1 l0 n1 n12
  rw [show firstE [0, 0, 0] = 0 from rfl]
  have c1 : W2.cell? ⟨w.heap.size, 1, none⟩ = some (.slice A n cap) := b2.cell 1
  have l2 := b2.lt
  go_wp2_with fail
  refine (idxSlab A n cap zs _ (by omega) (HR.out.keep N2) HOK.out.sl).mono ?_
  rintro e w3 ⟨rfl, n3⟩
  go_wp2
  go_ret2
  exact ⟨rfl, N2.trans n3⟩

set_option maxRecDepth 100000 in
set_option maxHeartbeats 1000000 in
theorem openSky_ok (base : Int) (zs : List (Int × Int)) (A : Option Addr) (n cap : Nat) (w : World) (hok : SkOk base zs) (hr : Rd w 2 encR2 A n zs) :
    Calls Try.prog 137 #[.agg #[.int .i64 base, .slice A n cap]] w fun e w' => e = .returned (.tuple #[.agg #[.int .i64 base, .slice A n cap], .int .i64 0]) ∧ New w w' := by
  have HR := Lib.hid hr; clear hr
  have HT := Lib.hid hok; clear hok
  have b0 := (Bx.mk w 88 #[.int .i64 base, .slice A n cap]).alloc (.cells #[.int .i64 0, .slice none 0 0] 161)
  have b1 := Bx.mk_at (w.alloc (.cells #[.int .i64 base, .slice A n cap] 88)) 161 #[.int .i64 0, .slice none 0 0] (w.heap.size + 1) (by simp)
  have N0 := ((New.refl w).alloc (.cells #[.int .i64 base, .slice A n cap] 88)).alloc (.cells #[.int .i64 0, .slice none 0 0] 161)
  go_enter Try.func137, Try.ntmps137
  go_wp2_with fail
  refine (checkProfile_ok base zs A n cap _ HT.out (HR.out.keep N0)).mono ?_
  rintro e w1 ⟨rfl, n1⟩
  have b2 := b0.keep n1
  have b3 := b1.keep n1
  have N1 := N0.trans n1
  clear b0 b1 N0 n1
  have c0 : w1.cell? ⟨w.heap.size, 0, none⟩ = some (.int .i64 base) := b2.cell 0
  have c1 : w1.cell? ⟨w.heap.size, 1, none⟩ = some (.slice A n cap) := b2.cell 1
  have d0 : w1.cell? ⟨w.heap.size + 1, 0, none⟩ = some (.int .i64 0) := b3.cell 0
  have d1 : w1.cell? ⟨w.heap.size + 1, 1, none⟩ = some (.slice none 0 0) := b3.cell 1
  have f0 := b3.free 0
  have f1 := b3.free 1
  have l3 := b3.lt
  go_wp2_with fail
  have bb := (b3.set 0 (.int .i64 base)).set 1 (.slice A n cap)
  have NN := (N1.setCell (p := ⟨w.heap.size + 1, 0, none⟩) (by simp) (.int .i64 base)).setCell (p := ⟨w.heap.size + 1, 1, none⟩) (by simp) (.slice A n cap)
  generalize (w1.setCell ⟨w.heap.size + 1, 0, none⟩ (.int .i64 base)).setCell ⟨w.heap.size + 1, 1, none⟩ (.slice A n cap) = W5 at bb NN ⊢
  have e0 : W5.cell? ⟨w.heap.size + 1, 0, none⟩ = some (.int .i64 base) := bb.cell 0
  have e1 : W5.cell? ⟨w.heap.size + 1, 1, none⟩ = some (.slice A n cap) := bb.cell 1
  clear c0 c1 d0 d1 f0 f1
  exact bodyPost_ret (v := .tuple #[.agg #[.int .i64 base, .slice A n cap], .int .i64 0]) (by simp [results, Try.results137, go_sem, e0, e1]) rfl ⟨rfl, NN⟩

set_option maxRecDepth 100000 in
set_option maxHeartbeats 1000000 in
theorem reflectedAt_ok (f base : Int) (A : Option Addr) (m cap i0 : Nat) (zs : List (Int × Int)) (w : World) (hok : SkOk base zs) (hf0 : 1 ≤ f) (hf1 : f ≤ 3000) (hi0 : i0 < m) (hbef : ∀ i, i < i0 → (slAt zs i).1 < f * f) (hat : f * f ≤ (slAt zs i0).1) (hr : Rd w 2 encR2 A m zs) :
    Calls Try.prog 94 #[.agg #[.int .i64 base, .slice A m cap], .int .i64 f] w fun e w' => e = .returned (.tuple #[.int .i64 (hgtS base zs i0), .int .i64 (i0 : Int), .int .i64 0]) ∧ New w w' := by
  have HR := Lib.hid hr; clear hr
  have HT := Lib.hid hok; clear hok
  have HB := Lib.hid hbef; clear hbef
  have HA := Lib.hid hat; clear hat
  have HF := Lib.hid (show errU (inR f 1 3000) 2 = 0 by rw [inR_true hf0 hf1]; rfl)
  have hii : ¬ (i0 : Int) < 0 := by omega
  have N0 := (New.refl w).alloc (.cells #[.int .i64 base, .slice A m cap] 88)
  go_enter Try.func94, Try.ntmps94
  go_wp2_with fail
  refine (openSky_ok base zs A m cap _ HT.out (HR.out.keep N0)).mono ?_
  rintro e w1 ⟨rfl, n1⟩
  have N1 := (N0.trans n1).alloc (.cells #[.int .i64 base, .slice A m cap] 161)
  have b1 := Bx.mk w1 161 #[.int .i64 base, .slice A m cap]
  clear N0 n1
  go_wp2_with fail
  refine (freqErr_is f 0 _ HF.out).mono ?_
  rintro e w' ⟨rfl, rfl⟩
  go_wp2_with fail
  refine (pFirst_any _ 2 2 [_, _] _ (by omega) rfl (cells_new _ _ _ _ (by simp) _ rfl)).mono ?_
  rintro e W2 ⟨rfl, hW2⟩
  have b2 := b1.keep (show New (w1.alloc (.cells #[.int .i64 base, .slice A m cap] 161)) W2 by rw [← hW2]; exact (New.refl _).alloc _)
  have N2 := N1.trans (show New (w1.alloc (.cells #[.int .i64 base, .slice A m cap] 161)) W2 by rw [← hW2]; exact (New.refl _).alloc _)
  clear hW2 b1 N1
  rw [show firstE [0, 0] = 0 from rfl]
  have c0 : W2.cell? ⟨w1.heap.size, 0, none⟩ = some (.int .i64 base) := b2.cell 0
  have c1 : W2.cell? ⟨w1.heap.size, 1, none⟩ = some (.slice A m cap) := b2.cell 1
  have l2 := b2.lt
  go_wp2_with fail
  refine (reflected_at f base A m cap i0 zs _ HT.out hf0 hf1 hi0 HB.out HA.out (HR.out.keep N2)).mono ?_
  rintro e w3 ⟨rfl, n3⟩
  go_wp2
  go_ret3
  exact ⟨rfl, N2.trans n3⟩
end Go.Proofs.Yteabmmibmopnkaa

namespace Go.Proofs.Yteabmmibmopnkaa
open Go.RowKit Go.Sky

def exZ : List (Int × Int) := [(90000, 20), (250000, 10)]
def exP : List Pt := [⟨300, 99, 101⟩, ⟨500, 124, 126⟩]
theorem exZ_ok : SkOk 100 exZ := ⟨by decide, by decide, by decide⟩
theorem ex_idx : indexS 90000 500 = (1250, 1250) := by decide +kernel
theorem ex_bef : ∀ i, i < 1 → (slAt exZ i).1 < (500 : Int) * 500 := by
  intro i hi
  obtain rfl : i = 0 := by omega
  decide
theorem exP_ok : TrOk exP 0 0 := by
  refine ⟨by decide, by decide, by decide, by decide, ?_, ?_⟩
  · intro i hi
    have : i = 0 ∨ i = 1 := by have : exP.length = 2 := rfl; omega
    rcases this with rfl | rfl <;> decide
  · intro i hi
    have : i = 0 := by have : exP.length = 2 := rfl; omega
    subst this
    decide
theorem exP_lam : lamS exP 0 0 1 = ([(18, 22)], 0) := by decide +kernel

set_option maxHeartbeats 400000 in
theorem Sky_any (w : World) : Calls Try.prog 41 #[] w fun e w' => ∃ g, e = .returned (.agg #[.int .i64 100, .slice (some ⟨g, 0, none⟩) 2 2]) ∧ Rd w' 2 encR2 (some ⟨g, 0, none⟩) 2 exZ ∧ New w w' := by
  go_enter Try.func41, Try.ntmps41
  go_wp2
  exact bodyPost_ret (v := .agg #[.int .i64 100, .slice (some ⟨w.heap.size + 1, 0, none⟩) 2 2]) (by simp [results, Try.results41, go_sem]) rfl ⟨_, rfl, Rd_new encR2_len _ _ _ _ _ _ (by simp) rfl rfl, ((New.refl _).alloc _).alloc _⟩
set_option maxHeartbeats 400000 in
theorem Trace_any (w : World) : Calls Try.prog 42 #[] w fun e w' => ∃ g, e = .returned (.agg #[.slice (some ⟨g, 0, none⟩) 2 2, .int .i64 0, .int .i64 0]) ∧ Rd w' 3 encQ (some ⟨g, 0, none⟩) 2 exP ∧ New w w' := by
  go_enter Try.func42, Try.ntmps42
  go_wp2
  exact bodyPost_ret (v := .agg #[.slice (some ⟨w.heap.size + 1, 0, none⟩) 2 2, .int .i64 0, .int .i64 0]) (by simp [results, Try.results42, go_sem]) rfl ⟨_, rfl, Rd_new encQ_len _ _ _ _ _ _ (by simp) rfl rfl, ((New.refl _).alloc _).alloc _⟩

set_option maxRecDepth 100000 in
set_option maxHeartbeats 4000000 in
theorem virtual_ex (g : Nat) (w : World) (hr : Rd w 2 encR2 (some ⟨g, 0, none⟩) 2 exZ) :
    Calls Try.prog 95 #[.agg #[.int .i64 100, .slice (some ⟨g, 0, none⟩) 2 2], .int .i64 500, .int .i64 1] w fun e w' => e = .returned (.agg #[.int .i64 125, .int .i64 125]) ∧ New w w' := by
  obtain ⟨b, o, hA, hb, hc⟩ := hr.some_ (by omega)
  injection hA with hA
  injection hA with hA1 hA2
  subst hA1 hA2
  have g0 := hc 0 (90000, 20) rfl 0 _ rfl
  have g1 := hc 0 (90000, 20) rfl 1 _ rfl
  simp only [Nat.zero_mul, Nat.add_zero] at g0 g1
  have HIX := Lib.hid ex_idx
  clear hr hc
  have b0 := (Bx.mk w 161 #[.int .i64 100, .slice (some ⟨g, 0, none⟩) 2 2]).alloc (.cells #[.int .i64 0, .int .i64 0] 36)
  have b1 := Bx.mk_at (w.alloc (.cells #[.int .i64 100, .slice (some ⟨g, 0, none⟩) 2 2] 161)) 36 #[.int .i64 0, .int .i64 0] (w.heap.size + 1) (by simp)
  have N0 := ((New.refl w).alloc (.cells #[.int .i64 100, .slice (some ⟨g, 0, none⟩) 2 2] 161)).alloc (.cells #[.int .i64 0, .int .i64 0] 36)
  go_enter Try.func95, Try.ntmps95
  go_wp2
  obtain ⟨W0, hW0⟩ : ∃ W0, (w.alloc (.cells #[.int .i64 100, .slice (some ⟨g, 0, none⟩) 2 2] 161)).alloc (.cells #[.int .i64 0, .int .i64 0] 36) = W0 := ⟨_, rfl⟩
  rw [hW0] at b0 b1 N0 ⊢
  clear hW0
  have c0 : W0.cell? ⟨w.heap.size, 0, none⟩ = some (.int .i64 100) := b0.cell 0
  have c1 : W0.cell? ⟨w.heap.size, 1, none⟩ = some (.slice (some ⟨g, 0, none⟩) 2 2) := b0.cell 1
  have l0 := b0.lt
  (refine wp_region_new (by kernel_rfl) (by kernel_rfl) ?_; (repeat (go_big_quiet_step ((fail)))); refine wpQuiet_nil ?_)
  intro W1 n1
  have N1 := N0.trans n1
  have bs := b0.keep n1
  have br := b1.keep n1
  clear c0 c1 l0 b0 b1 N0 n1
  have c1 : W1.cell? ⟨w.heap.size, 1, none⟩ = some (.slice (some ⟨g, 0, none⟩) 2 2) := bs.cell 1
  have ls := bs.lt
  go_wp2
  go_loopw [7, 8, 10, 11, 26] (fun lo hi _ _ i wr => ((i = .int .i64 0 ∧ lo = .int .i64 100000 ∧ hi = .int .i64 100000) ∨ (i = .int .i64 1 ∧ lo = .int .i64 125000 ∧ hi = .int .i64 125000)) ∧ New w wr ∧ Bx wr (w.heap.size + 1) 36 #[.int .i64 0, .int .i64 0]) (fun _ _ _ _ i _ => 1 - (intOf i).toNat)
  case atStart => exact ⟨.inl ⟨rfl, rfl, rfl⟩, N1, br⟩
  case round =>
    clear N1 br c1 ls bs
    obtain ⟨⟨rfl, rfl, rfl⟩ | ⟨rfl, rfl, rfl⟩, hN, br⟩ := hrel
    · have v0 := hN.cell g0
      have v1 := hN.cell g1
      have bx := Bx.mk wr 164 #[.int .i64 90000, .int .i64 20]
      have nx := hN.alloc (.cells #[.int .i64 90000, .int .i64 20] 164)
      have brx := br.alloc (.cells #[.int .i64 90000, .int .i64 20] 164)
      go_wp2_with fail
      refine (pIndex_is 90000 500 (1250, 1250) _ (by omega) (by omega) (by omega) (by omega) HIX.out).mono ?_
      rintro e w2 ⟨rfl, n2⟩
      have bx2 := (bx.keep n2).alloc (.cells #[.int .i64 1250, .int .i64 1250] 36)
      have bi := Bx.mk w2 36 #[.int .i64 1250, .int .i64 1250]
      have br2 := (brx.keep n2).alloc (.cells #[.int .i64 1250, .int .i64 1250] 36)
      have N2 := (nx.trans n2).alloc (.cells #[.int .i64 1250, .int .i64 1250] 36)
      have e1 : w2.cell? ⟨wr.heap.size, 1, none⟩ = some (.int .i64 20) := (bx.keep n2).cell 1
      have le := (bx.keep n2).lt
      have le2 : wr.heap.size < w2.heap.size + 1 := by omega
      have d0 : World.cell? _ ⟨w2.heap.size, 0, none⟩ = some (.int .i64 1250) := bi.cell 0
      have d1 : World.cell? _ ⟨w2.heap.size, 1, none⟩ = some (.int .i64 1250) := bi.cell 1
      have ld := bi.lt
      clear bx nx brx v0 v1
      go_wp2
      (refine wp_region_new (by kernel_rfl) (by kernel_rfl) ?_; (repeat (go_big_quiet_step ((fail)))); refine wpQuiet_nil ?_)
      intro W4 n4
      go_wp2
      go_roundw
      case rel => exact ⟨.inr ⟨rfl, rfl, rfl⟩, N2.trans n4, br2.keep n4⟩
      case measure => simp [intOf]
    · go_wp2_with fail
      refine (pFloor_is 125000 1000 125 _ (by omega) (by omega) (by omega) (by omega) (by decide)).mono ?_
      rintro e w' ⟨rfl, rfl⟩
      go_wp2_with fail
      refine (pCeil_is 125000 1000 125 _ (by omega) (by omega) (by omega) (by omega) (by decide)).mono ?_
      rintro e w' ⟨rfl, rfl⟩
      have k0 : wr.cell? ⟨w.heap.size + 1, 0, none⟩ = some (.int .i64 0) := br.cell 0
      have k1 : wr.cell? ⟨w.heap.size + 1, 1, none⟩ = some (.int .i64 0) := br.cell 1
      have f0 := br.free 0
      have f1 := br.free 1
      have lb := br.lt
      go_wp2_with fail
      have bb := (br.set 0 (.int .i64 125)).set 1 (.int .i64 125)
      have NN := (hN.setCell (p := ⟨w.heap.size + 1, 0, none⟩) (by simp) (.int .i64 125)).setCell (p := ⟨w.heap.size + 1, 1, none⟩) (by simp) (.int .i64 125)
      generalize (wr.setCell ⟨w.heap.size + 1, 0, none⟩ (.int .i64 125)).setCell ⟨w.heap.size + 1, 1, none⟩ (.int .i64 125) = W5 at bb NN ⊢
      have e0 : W5.cell? ⟨w.heap.size + 1, 0, none⟩ = some (.int .i64 125) := bb.cell 0
      have e1 : W5.cell? ⟨w.heap.size + 1, 1, none⟩ = some (.int .i64 125) := bb.cell 1
      clear k0 k1 f0 f1
      exact bodyPost_ret (v := .agg #[.int .i64 125, .int .i64 125]) (by simp [results, Try.results95, go_sem, e0, e1]) rfl ⟨rfl, NN⟩

set_option maxRecDepth 100000 in
set_option maxHeartbeats 1000000 in
theorem virtualAt_ex (g : Nat) (w : World) (hr : Rd w 2 encR2 (some ⟨g, 0, none⟩) 2 exZ) :
    Calls Try.prog 40 #[.agg #[.int .i64 100, .slice (some ⟨g, 0, none⟩) 2 2], .int .i64 500] w fun e w' => e = .returned (.tuple #[.agg #[.int .i64 125, .int .i64 125], .int .i64 0]) ∧ New w w' := by
  have HR := Lib.hid hr; clear hr
  have b0 := (Bx.mk w 88 #[.int .i64 100, .slice (some ⟨g, 0, none⟩) 2 2]).alloc (.cells #[.int .i64 0, .int .i64 0] 36)
  have b1 := Bx.mk_at (w.alloc (.cells #[.int .i64 100, .slice (some ⟨g, 0, none⟩) 2 2] 88)) 36 #[.int .i64 0, .int .i64 0] (w.heap.size + 1) (by simp)
  have N0 := ((New.refl w).alloc (.cells #[.int .i64 100, .slice (some ⟨g, 0, none⟩) 2 2] 88)).alloc (.cells #[.int .i64 0, .int .i64 0] 36)
  go_enter Try.func40, Try.ntmps40
  go_wp2_with fail
  refine (reflectedAt_ok 500 100 _ 2 2 1 exZ _ exZ_ok (by omega) (by omega) (by omega) ex_bef (by decide) (HR.out.keep N0)).mono ?_
  rintro e w1 ⟨rfl, n1⟩
  have b2 := b0.keep n1
  have b3 := b1.keep n1
  have N1 := N0.trans n1
  clear b0 b1 N0 n1
  have c0 : w1.cell? ⟨w.heap.size, 0, none⟩ = some (.int .i64 100) := b2.cell 0
  have c1 : w1.cell? ⟨w.heap.size, 1, none⟩ = some (.slice (some ⟨g, 0, none⟩) 2 2) := b2.cell 1
  have ls := b2.lt
  go_wp2_with fail
  refine (virtual_ex g _ (HR.out.keep N1)).mono ?_
  rintro e w2 ⟨rfl, n2⟩
  have b4 := b3.keep n2
  have N2 := N1.trans n2
  clear c0 c1 ls b2 b3 N1 n2
  have k0 : w2.cell? ⟨w.heap.size + 1, 0, none⟩ = some (.int .i64 0) := b4.cell 0
  have k1 : w2.cell? ⟨w.heap.size + 1, 1, none⟩ = some (.int .i64 0) := b4.cell 1
  have f0 := b4.free 0
  have f1 := b4.free 1
  have lb := b4.lt
  go_wp2_with fail
  have bb := (b4.set 0 (.int .i64 125)).set 1 (.int .i64 125)
  have NN := (N2.setCell (p := ⟨w.heap.size + 1, 0, none⟩) (by simp) (.int .i64 125)).setCell (p := ⟨w.heap.size + 1, 1, none⟩) (by simp) (.int .i64 125)
  generalize (w2.setCell ⟨w.heap.size + 1, 0, none⟩ (.int .i64 125)).setCell ⟨w.heap.size + 1, 1, none⟩ (.int .i64 125) = W5 at bb NN ⊢
  have e0 : W5.cell? ⟨w.heap.size + 1, 0, none⟩ = some (.int .i64 125) := bb.cell 0
  have e1 : W5.cell? ⟨w.heap.size + 1, 1, none⟩ = some (.int .i64 125) := bb.cell 1
  clear k0 k1 f0 f1
  exact bodyPost_ret (v := .tuple #[.agg #[.int .i64 125, .int .i64 125], .int .i64 0]) (by simp [results, Try.results40, go_sem, e0, e1]) rfl ⟨rfl, NN⟩

set_option maxRecDepth 100000 in
set_option maxHeartbeats 2000000 in
theorem profileAwake_any (w : World) : Calls Try.prog 9 #[] w fun e w' => e = .returned (.bool true) ∧ New w w' := by
  have heq := eql_rng
  have hgu := guard_rng
  go_enter Try.func9, Try.ntmps9
  go_wp2_with fail
  refine (Sky_any _).mono ?_
  rintro e w1 ⟨g, rfl, r1, n1⟩
  go_wp2_with fail
  refine (virtualAt_ex g _ r1).mono ?_
  rintro e w2 ⟨rfl, n2⟩
  have b2 := Bx.mk w2 36 #[.int .i64 125, .int .i64 125]
  have N2 := (n1.trans n2).alloc (.cells #[.int .i64 125, .int .i64 125] 36)
  clear r1 n1 n2
  go_wp2_with fail
  refine (Trace_any _).mono ?_
  rintro e w3 ⟨g3, rfl, r3, n3⟩
  have b3 := b2.keep n3
  have N3 := N2.trans n3
  clear b2 N2 n3
  go_wp2_with fail
  refine (Laminated_any exP 0 0 _ 2 2 _ exP_ok (by omega) r3).mono ?_
  rintro e w4 ⟨n4, ⟨A', c', _, rfl, hrd, _⟩ | ⟨h0, _⟩⟩
  · rw [show lamS exP 0 0 (2 - 1) = ([(18, 22)], 0) from exP_lam] at hrd
    have HRD := Lib.hid hrd
    have b4 := b3.keep n4
    have N4 := N3.trans n4
    clear hrd b3 N3 n4 r3
    have c0 : w4.cell? ⟨w2.heap.size, 0, none⟩ = some (.int .i64 125) := b4.cell 0
    have c1 : w4.cell? ⟨w2.heap.size, 1, none⟩ = some (.int .i64 125) := b4.cell 1
    have lb := b4.lt
    go_wp2_with fail
    refine (ranges_like A' (some ⟨w4.heap.size, 0, none⟩) 1 c' 1 [(18, 22)] _ (by omega) (HRD.out.keep ((New.refl _).alloc _)) (Rd_new encR2_len _ _ _ _ _ _ rfl rfl rfl)).mono ?_
    rintro e w5 ⟨rfl, n5⟩
    go_wp2
    go_ret
    exact ⟨rfl, N4.trans (((New.refl _).alloc _).trans n5)⟩
  · exact absurd (by rw [show lamS exP 0 0 (2 - 1) = ([(18, 22)], 0) from exP_lam]) h0
end Go.Proofs.Yteabmmibmopnkaa
