/- Contract: Contradicting. -/
import Derived.Test.YtjpkcmlepjbamaaW24
import Derived.Test.YtjpkcmlepjbamaaQAl
namespace Go.Proofs.Ytjpkcmlepjbamaa
open Go.RowKit Go.Sky Go.Shelf
attribute [local go_sem] Oper.semAt_some

theorem contra_bad {xs : List Exch} {d t : Int} (h : offsErr xs d t ≠ 0) : contraS xs d t = ((0, 0), offsErr xs d t) := by unfold contraS; rw [if_neg h]

theorem bx_ne {W : World} {b : Nat} {t : TypeId} {cs : Array Value} {row : Option Nat} {B : Nat} (h : Bx W b t cs) (hr : ∀ r, row = some r → B ≤ r ∧ ∃ o : Obj, W.heap[r]? = some o ∧ o.isCells = false) : some b ≠ row := by
  intro e
  obtain ⟨_, o, ho, hc⟩ := hr b e.symm
  unfold Bx at h
  rw [h] at ho
  injection ho with ho
  subst ho
  cases hc
theorem rd_turn {α : Type} {W W' : World} {k n : Nat} {enc : α → List Value} {A : Option Addr} {xs : List α} {row : Option Nat} {B : Nat} (h : Rd W k enc A n xs) (hg : W.grownBy W' row)
    (hr : ∀ r, row = some r → B ≤ r ∧ ∃ o : Obj, W.heap[r]? = some o ∧ o.isCells = false) : Rd W' k enc A n xs :=
  ⟨h.1, fun hn => by
    obtain ⟨b, o, e, hb, hc⟩ := h.2 hn
    exact ⟨b, o, e, Nat.lt_of_lt_of_le hb hg.size, fun i x hx j u hu => cell_kept (hc i x hx j u hu) hg (fun r e => (hr r e).2)⟩⟩

theorem rd_two {W : World} {b : Nat} {t : TypeId} {y z : Int × Int} (h : Bx W b t #[.int .i64 y.1, .int .i64 y.2, .int .i64 z.1, .int .i64 z.2]) : Rd W 2 encR (some ⟨b, 0, none⟩) 2 [y, z] :=
  ⟨rfl, fun _ => ⟨b, 0, rfl, h.lt, fun i x hx j u hu => by
    rw [h.cell]
    match i, hx with
    | 0, hx => injection hx with hx; subst hx; match j, hu with
      | 0, hu => exact hu
      | 1, hu => exact hu
    | 1, hx => injection hx with hx; subst hx; match j, hu with
      | 0, hu => exact hu
      | 1, hu => exact hu⟩⟩

/-- Between two rounds: no pair so far clashes; the results' cells hold nothing yet; all offsets lie where they lay. -/
structure CtI (m : Nat) (L : List (Int × Int)) (A1 : Option Addr) (c1 : Nat) (w w1 : World) (pre : List (Fin m × Fin m)) (W : World) : Prop where
  no : ∀ p ∈ pre, clashAt L (val2 p) = false
  r6 : Bx W w.heap.size 52 #[.int .i64 0, .int .i64 0]
  r7 : Bx W (w.heap.size + 1) 25 #[.int .i64 0]
  al : Bx W w1.heap.size 131 #[.slice A1 m c1]
  rd : Rd W 2 encR A1 m L
  bl : Below w.heap.size w W
  sz : w1.heap.size + 2 ≤ W.heap.size
/-- A pair clashes: it lies in the result's cell. -/
structure CtX (m : Nat) (L : List (Int × Int)) (w : World) (c : Code) (pre : List (Fin m × Fin m)) (W : World) : Prop where
  jump : c = .ret
  hit : ∃ q x, pre = q ++ [x] ∧ (∀ p ∈ q, clashAt L (val2 p) = false) ∧ clashAt L (val2 x) = true ∧ Bx W w.heap.size 52 #[.int .i64 ((x.1.val : Nat) : Int), .int .i64 ((x.2.val : Nat) : Int)]
  r7 : Bx W (w.heap.size + 1) 25 #[.int .i64 0]
  bl : Below w.heap.size w W

theorem ctI_own (m : Nat) (L : List (Int × Int)) (A1 : Option Addr) (c1 : Nat) (w w1 : World) (B : Nat) (hB : w.heap.size ≤ B) : OwnFrom B (CtI m L A1 c1 w w1) := fun s W W' row hs hg hr =>
  ⟨hs.no, hs.r6.grown hg (bx_ne hs.r6 hr), hs.r7.grown hg (bx_ne hs.r7 hr), hs.al.grown hg (bx_ne hs.al hr), rd_turn hs.rd hg hr,
    hs.bl.grown hg hs.bl.size (fun k e => Nat.le_trans hB (hr k e).1), Nat.le_trans hs.sz hg.size⟩
theorem ctX_own (m : Nat) (L : List (Int × Int)) (w : World) (B : Nat) (hB : w.heap.size ≤ B) (c : Code) : OwnFrom B (CtX m L w c) := fun s W W' row hs hg hr => by
  obtain ⟨q, x, e, h1, h2, h3⟩ := hs.hit
  exact ⟨hs.jump, ⟨q, x, e, h1, h2, h3.grown hg (bx_ne h3 hr)⟩, hs.r7.grown hg (bx_ne hs.r7 hr), hs.bl.grown hg hs.bl.size (fun k e => Nat.le_trans hB (hr k e).1)⟩

set_option maxRecDepth 100000 in
set_option maxHeartbeats 4000000 in
theorem Contradicting_ok (A : Option Addr) (n cap : Nat) (xs : List Exch) (d t : Int) (w : World) (hn : n ≤ 1000) (hr : Rd w 3 encX A n xs) (h0 : offsErr xs d t = 0) :
    Calls Try.prog 35 #[.slice A n cap, .int .i64 d, .int .i64 t] w fun e w' =>
      e = .returned (.tuple #[.agg #[.int .i64 (contraS xs d t).1.1, .int .i64 (contraS xs d t).1.2], .int .i64 (contraS xs d t).2]) ∧ New w w' := by
  have HL := Lib.hid hr.len
  have HR := Lib.hid hr
  have H0 := Lib.hid h0
  clear hr h0
  refine (callsIn_wide (n := 6)).1 (callsIn_of_wp_marks Try.func35 rfl trivial ?_ rfl)
  simp only [Try.ntmps35, List.size_toArray, List.length_cons, List.length_nil, Nat.reduceAdd, Nat.reduceSub, Array.replicate_succ, Array.replicate_zero, List.push_toArray, List.append_toArray, List.nil_append, List.cons_append]
  gi_wp2_with fail
  refine ⟨trivial, (callsIn_wide.2 (offsets_any A n cap xs d t _ hn (HR.out.keep (((New.refl _).alloc _).alloc _)))).mono ?_⟩
  rintro e w1 ⟨nw, ⟨hbad, _⟩ | ⟨_, A1, c1, rfl, hown⟩⟩
  · exact absurd H0.out hbad
  rw [HL.out] at hown ⊢
  have hr6 := ((Bx.mk w 52 #[.int .i64 0, .int .i64 0]).alloc (.cells #[.int .i64 0] 25)).keep nw
  have hr7 := (Bx.mk_at (w.alloc (.cells #[.int .i64 0, .int .i64 0] 52)) 25 #[.int .i64 0] (w.heap.size + 1) (by simp)).keep nw
  have hN1 := hn2of (hn2of nw)
  have hrd := hown.rd
  have hsz := nw.size
  clear nw hown
  simp at hsz
  gi_wp2_with fail
  refine ⟨trivial, (callsIn_wide.2 (pairs_any _ _)).mono ?_⟩
  rintro e w2 ⟨rfl, rfl⟩
  gi_wp2_with fail
  obtain ⟨L, hL⟩ : ∃ L, xs.map (offBy · d t) = L := ⟨_, rfl⟩
  rw [hL] at hrd
  have HLL := Lib.hid hL
  clear hL
  have hI0 : CtI n L A1 c1 w w1 [] ((w1.alloc (.cells #[.slice A1 n c1] 131)).alloc (.cells #[.int .i64 (n : Int)] 3)) :=
    ⟨fun p hp => absurd hp (List.not_mem_nil), (hr6.alloc _).alloc _, (hr7.alloc _).alloc _, (Bx.mk _ _ _).alloc _, hrd.keep (((New.refl _).alloc _).alloc _), ((hN1.alloc _).alloc _), by simp⟩
  have hcnt : ((w1.alloc (.cells #[.slice A1 n c1] 131)).alloc (.cells #[.int .i64 (n : Int)] 3)).cell? ⟨w1.heap.size + 1, 0, none⟩ = some (.int .i64 (n : Int)) :=
    (Bx.mk_at (w1.alloc (.cells #[.slice A1 n c1] 131)) 3 #[.int .i64 (n : Int)] (w1.heap.size + 1) (by simp)).cell 0
  have hsz0 : ((w1.alloc (.cells #[.slice A1 n c1] 131)).alloc (.cells #[.int .i64 (n : Int)] 3)).heap.size = w1.heap.size + 2 := by simp
  obtain ⟨W0, hW0⟩ : ∃ W0, ((w1.alloc (.cells #[.slice A1 n c1] 131)).alloc (.cells #[.int .i64 (n : Int)] 3)) = W0 := ⟨_, rfl⟩
  rw [hW0] at hI0 hcnt hsz0 ⊢
  clear hW0 hr6 hr7 hN1 hrd
  refine wpIn_rangeFunc_ownH (α := Fin n × Fin n) rfl (by omega) (gf := 134) (lb := #[.pointer (some ⟨w1.heap.size + 1, 0, none⟩)]) rfl trivial (enters_of Try.func134 (by kernel_rfl) rfl)
    (pairs_stops 5 (by omega) (w1.heap.size + 1) W0.heap.size n W0 (by omega) (Nat.le_refl _) (by omega) hcnt) belowK_t (belowK_b (by omega)) (Below.refl _ _) (fun _ => rfl)
    (CtI n L A1 c1 w w1) (CtX n L w) (ctI_own n L A1 c1 w w1 _ (by omega)) (ctX_own n L w _ (by omega)) hI0
    (fun x a' W => ∃ B, w1.heap.size + 1 < B ∧ Bx W B 52 #[.int .i64 ((x.1.val : Nat) : Int), .int .i64 ((x.2.val : Nat) : Int)] ∧
      a' = { tmps := #[.slice A n cap, .int .i64 d, .int .i64 t, undef, undef, undef, .pointer (some ⟨w.heap.size, 0, none⟩), .pointer (some ⟨w.heap.size + 1, 0, none⟩), .pointer (some ⟨w1.heap.size, 0, none⟩), .int .i64 0, .pointer (some ⟨B, 0, none⟩), undef, undef, .tuple #[.slice A1 n c1, .int .i64 0], .slice A n cap, .int .i64 d, .int .i64 t, .tuple #[.slice A1 n c1, .int .i64 0], .slice A1 n c1, .int .i64 0, .int .i64 0, .bool false, undef, undef, .slice A1 n c1, .int .i64 (n : Int), .func (.func 134) #[] #[.pointer (some ⟨w1.heap.size + 1, 0, none⟩)], .agg #[.int .i64 ((x.1.val : Nat) : Int), .int .i64 ((x.2.val : Nat) : Int)], undef, undef, undef, undef, undef, undef, undef, undef, undef, undef, undef, undef, undef, undef, undef, undef, undef, undef, undef], defers := [] })
    (fun x a' _ X Y row hs hg hr => by obtain ⟨B, h1, h2, h3⟩ := hs; exact ⟨B, h1, h2.grown hg (bx_ne h2 hr), h3⟩)
    ?assign ?body ?done ?stop
  case assign =>
    rintro l pre x W K hI hK
    have hs := hI.sz
    unfold encF
    gi_wp2
    exact hK _ _ ((KeepsOthers.alloc _ _).from _) ((Below.refl _ W).alloc (by omega) _) ⟨hI.no, hI.r6.alloc _, hI.r7.alloc _, hI.al.alloc _, hI.rd.keep ((New.refl _).alloc _), hI.bl.alloc hI.bl.size _, by simp; omega⟩ ⟨W.heap.size, by omega, Bx.mk _ _ _, rfl⟩
  case body =>
    rintro l pre x a' W hl ⟨r, hr⟩ hI ⟨B, hB, bX, rfl⟩ hlt
    have hr6 := hI.r6
    have hr7 := hI.r7
    have hal := hI.al
    obtain ⟨ba, oa, y, rfl, hba, hy, hcy⟩ := hI.rd.at_ x.1.isLt
    obtain ⟨bb, ob, z, hAA, hbb, hz, hcz⟩ := hI.rd.at_ x.2.isLt
    injection hAA with hAA
    injection hAA with hA1 hA2
    subst hA1 hA2
    have p0 := hcy 0 _ rfl
    have p1 := hcy 1 _ rfl
    have q0 := hcz 0 _ rfl
    have q1 := hcz 1 _ rfl
    simp only [Nat.add_zero] at p0 q0
    have i0 : (0 : Int) ≤ ((x.1.val : Nat) : Int) := by omega
    have i1 : ((x.1.val : Nat) : Int) < (n : Int) := by have := x.1.isLt; omega
    have j0 : (0 : Int) ≤ ((x.2.val : Nat) : Int) := by omega
    have j1 : ((x.2.val : Nat) : Int) < (n : Int) := by have := x.2.isLt; omega
    have a0 : W.cell? _ = some _ := hal.cell 0
    have b0 : W.cell? _ = some _ := bX.cell 0
    have b1 : W.cell? _ = some _ := bX.cell 1
    have lal := hal.lt
    have lbX := bX.lt
    have HYC := Lib.hid (show clashAt L (val2 x) = clashR y z by
      unfold clashAt val2
      rw [List.getD_eq_getElem?_getD, List.getD_eq_getElem?_getD]
      show clashR (L[x.1.val]?.getD (0, 0)) (L[x.2.val]?.getD (0, 0)) = _
      rw [hy, hz]; rfl)
    have HI := Lib.hid hI
    clear hI hy hz hcy hcz hI0 hcnt
    gi_wp2_with fail
    refine wpIn_region_takes 10 8 #[true, true, true, true, true, true, true, true, true, true, false, false, false, false, false, false, false, false] (fun a' w' => New W w' ∧ ∃ v11 v39 : Value, a' = { tmps := #[.slice A n cap, .int .i64 d, .int .i64 t, undef, undef, undef, .pointer (some ⟨w.heap.size, 0, none⟩), .pointer (some ⟨w.heap.size + 1, 0, none⟩), .pointer (some ⟨w1.heap.size, 0, none⟩), .int .i64 0, .pointer (some ⟨B, 0, none⟩), v11, .bool (decide ((comS [y, z]).1 ≤ (comS [y, z]).2)), .tuple #[.slice (some ⟨ba, oa, none⟩) n c1, .int .i64 0], .slice A n cap, .int .i64 d, .int .i64 t, .tuple #[.slice (some ⟨ba, oa, none⟩) n c1, .int .i64 0], .slice (some ⟨ba, oa, none⟩) n c1, .int .i64 0, .int .i64 0, .bool false, undef, undef, .slice (some ⟨ba, oa, none⟩) n c1, .int .i64 (n : Int), .func (.func 134) #[] #[.pointer (some ⟨w1.heap.size + 1, 0, none⟩)], .agg #[.int .i64 ((x.1.val : Nat) : Int), .int .i64 ((x.2.val : Nat) : Int)], .tuple #[.agg #[.int .i64 (comS [y, z]).1, .int .i64 (comS [y, z]).2], .bool (decide ((comS [y, z]).1 ≤ (comS [y, z]).2))], .slice (some ⟨ba, oa, none⟩) n c1, .pointer (some ⟨B, 0, none⟩), .int .i64 ((x.1.val : Nat) : Int), .pointer (some ⟨ba, oa + x.1.val * 2, none⟩), .agg #[.int .i64 y.1, .int .i64 y.2], .slice (some ⟨ba, oa, none⟩) n c1, .pointer (some ⟨B, 1, none⟩), .int .i64 ((x.2.val : Nat) : Int), .pointer (some ⟨ba, oa + x.2.val * 2, none⟩), .agg #[.int .i64 z.1, .int .i64 z.2], v39, .tuple #[.agg #[.int .i64 (comS [y, z]).1, .int .i64 (comS [y, z]).2], .bool (decide ((comS [y, z]).1 ≤ (comS [y, z]).2))], .agg #[.int .i64 (comS [y, z]).1, .int .i64 (comS [y, z]).2], .bool (decide ((comS [y, z]).1 ≤ (comS [y, z]).2)), undef, undef, undef, undef], defers := [] }) (by kernel_rfl) (by kernel_rfl) (by kernel_rfl) (by kernel_rfl) (by kernel_rfl) (by kernel_rfl) ?after ?walk
    case walk =>
      simp only [List.take_succ_cons, List.take_zero]
      (repeat (go_big_quiet_step ((fail))))
      refine wpQuiet_nil ?_
      intro W1 n1
      have hSz := n1.size
      refine two_next 10 15 (by kernel_rfl) (new_plus n1) (wpOpIn_list rfl ?_) (wpOpIn_list rfl ?_)
      · gi_wp2
        have hRd := rd_two (Bx.mk W1 38 #[.int .i64 y.1, .int .i64 y.2, .int .i64 z.1, .int .i64 z.2])
        refine two_next 11 15 (by kernel_rfl) (new_plus (n1.alloc _)) (wpOpIn_list rfl ?_) (wpOpIn_list rfl ?_)
        · gi_wp2_with fail
          refine ⟨trivial, CallsIn.inRound l (callsIn_wide.2 ((common_any _ 2 2 [y, z] _ (by omega) (by omega) hRd).mono ?_))⟩
          rintro e w2 ⟨rfl, n2⟩
          gi_wp2
          have n3 := hn2of n2
          have n4 := n1.trans n3
          have hSz2 := n4.size
          refine take_next 12 3 #[true, true, true, true, true, true, true, true, true, true, true, true, true, true, true, false, false, false] rfl (by kernel_rfl) (by kernel_rfl) (by kernel_rfl) (by kernel_rfl) (by decide) ?_
          simp only [List.take_succ_cons, List.take_zero, List.drop_succ_cons, List.drop_zero]
          (repeat (go_big_quiet_step ((fail))))
          refine wpQuiet_nil ?_
          refine one_next 15 (by kernel_rfl) (new_plus n4) (wpOpIn_list rfl ?_)
          gi_wp2
          obtain ⟨bt, hb0⟩ : ∃ bt, w2.heap.size = bt := ⟨_, rfl⟩
          have hbt : W.heap.size ≤ bt := by omega
          have bb' := Bx.mk_at w2 38 #[.int .i64 0, .int .i64 0] bt hb0.symm
          rw [hb0]
          have c0 : World.cell? _ _ = some _ := bb'.cell 0
          have c1' : World.cell? _ _ = some _ := bb'.cell 1
          have e0 := bb'.free 0
          have e1 := bb'.free 1
          have hlt' := bb'.lt
          refine one_next 16 (by kernel_rfl) (new_plus (n4.alloc _)) (wpOpIn_list rfl ?_)
          gi_wp2
          have n6 := n4.alloc (.cells #[.int .i64 (comS [y, z]).1, .int .i64 (comS [y, z]).2] 38)
          refine one_next 17 (by kernel_rfl) (new_plus n6) (wpOpIn_list rfl ?_)
          gi_wp2
          exact end_any (new_plus n6) (by kernel_rfl) ⟨n6, _, _, rfl⟩
        · gi_wp2
          have hRd := hRd.keep ((New.refl _).alloc (.cells #[.int .i64 0, .int .i64 0] 38))
          have bb0 := Bx.mk_at (W1.alloc (.cells #[.int .i64 y.1, .int .i64 y.2, .int .i64 z.1, .int .i64 z.2] 38)) 38 #[.int .i64 0, .int .i64 0] (W1.heap.size + 1) (by simp)
          refine one_next 11 (by kernel_rfl) (new_plus ((n1.alloc _).alloc _)) (wpOpIn_list rfl ?_)
          gi_wp2_with fail
          refine ⟨trivial, CallsIn.inRound l (callsIn_wide.2 ((common_any _ 2 2 [y, z] _ (by omega) (by omega) hRd).mono ?_))⟩
          rintro e w2 ⟨rfl, n2⟩
          gi_wp2
          have n4 := n1.trans (hn2of (hn2of n2))
          have hSz2 := n4.size
          refine take_next 12 3 #[true, true, true, true, true, true, true, true, true, true, true, true, true, true, true, true, false, false] rfl (by kernel_rfl) (by kernel_rfl) (by kernel_rfl) (by kernel_rfl) (by decide) ?_
          simp only [List.take_succ_cons, List.take_zero, List.drop_succ_cons, List.drop_zero]
          (repeat (go_big_quiet_step ((fail))))
          refine wpQuiet_nil ?_
          obtain ⟨bt, hb0⟩ : ∃ bt, W1.heap.size + 1 = bt := ⟨_, rfl⟩
          have hbt : W.heap.size ≤ bt := by omega
          rw [hb0] at bb0
          rw [hb0]
          have bb' := bb0.keep n2
          have c0 : World.cell? _ _ = some _ := bb'.cell 0
          have c1' : World.cell? _ _ = some _ := bb'.cell 1
          have e0 := bb'.free 0
          have e1 := bb'.free 1
          have hlt' := bb'.lt
          refine one_next 16 (by kernel_rfl) (new_plus n4) (wpOpIn_list rfl ?_)
          gi_wp2
          have n6 := ((n4).setCell (p := ⟨bt, 0, none⟩) hbt (.int .i64 (comS [y, z]).1)).setCell (p := ⟨bt, 1, none⟩) hbt (.int .i64 (comS [y, z]).2)
          refine one_next 17 (by kernel_rfl) (new_plus n6) (wpOpIn_list rfl ?_)
          gi_wp2
          exact end_any (new_plus n6) (by kernel_rfl) ⟨n6, _, _, rfl⟩
      · gi_wp2
        have bb0 := Bx.mk W1 38 #[.int .i64 0, .int .i64 0]
        refine one_next 10 (by kernel_rfl) (new_plus (n1.alloc _)) (wpOpIn_list rfl ?_)
        gi_wp2
        have hRd := rd_two (Bx.mk_at (W1.alloc (.cells #[.int .i64 0, .int .i64 0] 38)) 38 #[.int .i64 y.1, .int .i64 y.2, .int .i64 z.1, .int .i64 z.2] (W1.heap.size + 1) (by simp))
        refine one_next 11 (by kernel_rfl) (new_plus ((n1.alloc _).alloc _)) (wpOpIn_list rfl ?_)
        gi_wp2_with fail
        refine ⟨trivial, CallsIn.inRound l (callsIn_wide.2 ((common_any _ 2 2 [y, z] _ (by omega) (by omega) hRd).mono ?_))⟩
        rintro e w2 ⟨rfl, n2⟩
        gi_wp2
        have n4 := n1.trans (hn2of (hn2of n2))
        have hSz2 := n4.size
        refine take_next 12 3 #[true, true, true, true, true, true, true, true, true, true, true, true, true, true, true, true, false, false] rfl (by kernel_rfl) (by kernel_rfl) (by kernel_rfl) (by kernel_rfl) (by decide) ?_
        simp only [List.take_succ_cons, List.take_zero, List.drop_succ_cons, List.drop_zero]
        (repeat (go_big_quiet_step ((fail))))
        refine wpQuiet_nil ?_
        obtain ⟨bt, hb0⟩ : ∃ bt, W1.heap.size = bt := ⟨_, rfl⟩
        have hbt : W.heap.size ≤ bt := by omega
        rw [hb0] at bb0
        rw [hb0]
        have bb' := (bb0.alloc _).keep n2
        have c0 : World.cell? _ _ = some _ := bb'.cell 0
        have c1' : World.cell? _ _ = some _ := bb'.cell 1
        have e0 := bb'.free 0
        have e1 := bb'.free 1
        have hlt' := bb'.lt
        refine one_next 16 (by kernel_rfl) (new_plus n4) (wpOpIn_list rfl ?_)
        gi_wp2
        have n6 := ((n4).setCell (p := ⟨bt, 0, none⟩) hbt (.int .i64 (comS [y, z]).1)).setCell (p := ⟨bt, 1, none⟩) hbt (.int .i64 (comS [y, z]).2)
        refine one_next 17 (by kernel_rfl) (new_plus n6) (wpOpIn_list rfl ?_)
        gi_wp2
        exact end_any (new_plus n6) (by kernel_rfl) ⟨n6, _, _, rfl⟩
    case after =>
      rintro a' W' ⟨nW, v11, v39, rfl⟩
      have bX' := bX.keep nW
      have r6 := hr6.keep nW
      have r7 := hr7.keep nW
      have b0' : W'.cell? _ = some _ := bX'.cell 0
      have b1' : W'.cell? _ = some _ := bX'.cell 1
      have c60 : W'.cell? _ = some _ := r6.cell 0
      have c61 : W'.cell? _ = some _ := r6.cell 1
      have c70 : W'.cell? _ = some _ := r7.cell 0
      have f60 := r6.free 0
      have f61 := r6.free 1
      have f70 := r7.free 0
      have l6 := r6.lt
      have l7 := r7.lt
      have lX := bX'.lt
      clear a0 b0 b1 p0 p1 q0 q1
      have hKO : KeepsOthers W W' := ⟨nW.size, fun k o hk _ => nW.heap hk⟩
      have hlW := (Array.getElem?_eq_some_iff.1 hr).1
      by_cases hcl : (comS [y, z]).1 ≤ (comS [y, z]).2
      · gi_wp2
        have hNC : clashAt L (val2 x) = false := by rw [HYC.out]; unfold clashR; rw [decide_eq_true hcl]; rfl
        refine ⟨hKO.from _, nW.below (by omega), ?_, r6, r7, hal.keep nW, HI.out.rd.keep nW, HI.out.bl.trans (nW.below HI.out.bl.size), Nat.le_trans HI.out.sz nW.size⟩
        intro p hp
        rcases List.mem_append.1 hp with hp | hp
        · exact HI.out.no p hp
        · rw [List.mem_singleton.1 hp]; exact hNC
      · gi_wp2
        have hYC : clashAt L (val2 x) = true := by rw [HYC.out]; unfold clashR; rw [decide_eq_false (by omega)]; rfl
        refine ⟨(((hKO.trans (KeepsOthers.setCell _ _ _)).trans (KeepsOthers.setCell _ _ _)).trans (KeepsOthers.setCell _ _ _)).from _, rfl, ⟨pre, x, rfl, HI.out.no, hYC, ?_⟩, ?_, ?_⟩
        · exact ((r6.set 0 _).set 1 _).far (by simp) _
        · exact ((r7.far (by simp) _).far (by simp) _).set 0 _
        · exact (((HI.out.bl.trans (nW.below HI.out.bl.size)).setCell (Nat.le_refl _) _).setCell (Nat.le_refl _) _).setCell (by simp) _
  case done =>
    rintro D ys W hD hys hI hK
    have HNO := Lib.hid hI.no
    have r6 := hI.r6
    have r7 := hI.r7
    have cR0 : W.cell? _ = some _ := r6.cell 0
    have cR1 : W.cell? _ = some _ := r6.cell 1
    have cR7 : W.cell? _ = some _ := r7.cell 0
    have f0 := r6.free 0
    have f1 := r6.free 1
    have f7 := r7.free 0
    have l6 := r6.lt
    have l7 := r7.lt
    have HV := Lib.hid (show contraS xs d t = ((0, 0), 12) by
      unfold contraS
      rw [if_pos H0.out, HLL.out, HL.out, find_miss (fun y hy => by
        rw [← hys] at hy
        obtain ⟨p, hp, rfl⟩ := List.mem_map.1 hy
        exact HNO.out p hp)])
    have hB := hI.bl
    gi_wp2
    have hK' : (((W.setCell ⟨w.heap.size, 0, none⟩ (.int .i64 0)).setCell ⟨w.heap.size, 1, none⟩ (.int .i64 0)).setCell ⟨w.heap.size + 1, 0, none⟩ (.int .i64 12)).heap[D]? = some (.deferred (some [])) := by
      rw [Below.heap_setCell _ _ _ _ (by simp; omega), Below.heap_setCell _ _ _ _ (by simp; omega), Below.heap_setCell _ _ _ _ (by simp; omega)]; exact hK
    refine ⟨by simp, .inl ⟨_, _, rfl, run_takeDeferred hK', ?_⟩⟩
    have b6 := ((r6.set 0 (.int .i64 0)).set 1 (.int .i64 0)).far (p := ⟨w.heap.size + 1, 0, none⟩) (by simp) (.int .i64 12)
    have b7 := ((r7.far (p := ⟨w.heap.size, 0, none⟩) (by simp) (.int .i64 0)).far (p := ⟨w.heap.size, 1, none⟩) (by simp) (.int .i64 0)).set 0 (.int .i64 12)
    have ht := grownBy_putObj' (((W.setCell ⟨w.heap.size, 0, none⟩ (.int .i64 0)).setCell ⟨w.heap.size, 1, none⟩ (.int .i64 0)).setCell ⟨w.heap.size + 1, 0, none⟩ (.int .i64 12)) D (.deferred none)
    have c6 := b6.grown ht (by simp; omega)
    have c7 := b7.grown ht (by simp; omega)
    have d0 := c6.cell 0
    have d1 := c6.cell 1
    have d7 := c7.cell 0
    have hBB := (((hB.setCell (p := ⟨w.heap.size, 0, none⟩) (Nat.le_refl _) (.int .i64 0)).setCell (p := ⟨w.heap.size, 1, none⟩) (Nat.le_refl _) (.int .i64 0)).setCell (p := ⟨w.heap.size + 1, 0, none⟩) (by simp) (.int .i64 12)).grown ht (by simp [World.setCell]; omega) (fun k e => by cases e; omega)
    refine ⟨.tuple #[.agg #[.int .i64 0, .int .i64 0], .int .i64 12], ?_, by rw [HV.out], hBB⟩
    simp [results, Try.results35, go_sem, d0, d1, d7]
  case stop =>
    rintro D c pre W hD hpre hX hK
    obtain rfl := hX.jump
    obtain ⟨q, x, rfl, hq, hx, r6⟩ := hX.hit
    have HV := Lib.hid (show contraS xs d t = ((((x.1.val : Nat) : Int), ((x.2.val : Nat) : Int)), 0) by
      unfold contraS
      rw [if_pos H0.out, HLL.out, HL.out]
      rw [List.map_append] at hpre
      rw [find_hit hpre (fun y hy => by
        obtain ⟨p, hp, rfl⟩ := List.mem_map.1 hy
        exact hq p hp) hx]
      rfl)
    have hB := hX.bl
    have r7 := hX.r7
    have l6 := r6.lt
    have l7 := r7.lt
    gi_wp2
    refine ⟨by simp, .inl ⟨_, _, rfl, run_takeDeferred hK, ?_⟩⟩
    have ht := grownBy_putObj' W D (.deferred none)
    have c6 := r6.grown ht (by simp; omega)
    have c7 := r7.grown ht (by simp; omega)
    have d0 := c6.cell 0
    have d1 := c6.cell 1
    have d7 := c7.cell 0
    have hBB := hB.grown ht (by omega) (fun k e => by cases e; omega)
    refine ⟨.tuple #[.agg #[.int .i64 ((x.1.val : Nat) : Int), .int .i64 ((x.2.val : Nat) : Int)], .int .i64 0], ?_, by rw [HV.out], hBB⟩
    simp [results, Try.results35, go_sem, d0, d1, d7]

set_option maxRecDepth 100000 in
set_option maxHeartbeats 4000000 in
theorem Contradicting_bad (A : Option Addr) (n cap : Nat) (xs : List Exch) (d t : Int) (w : World) (hn : n ≤ 1000) (hr : Rd w 3 encX A n xs) (h0 : offsErr xs d t ≠ 0) :
    Calls Try.prog 35 #[.slice A n cap, .int .i64 d, .int .i64 t] w fun e w' =>
      e = .returned (.tuple #[.agg #[.int .i64 (contraS xs d t).1.1, .int .i64 (contraS xs d t).1.2], .int .i64 (contraS xs d t).2]) ∧ New w w' := by
  have HR := Lib.hid hr
  have HV := Lib.hid (contra_bad h0)
  clear hr
  refine (callsIn_wide (n := 6)).1 (callsIn_of_wp_marks Try.func35 rfl trivial ?_ rfl)
  simp only [Try.ntmps35, List.size_toArray, List.length_cons, List.length_nil, Nat.reduceAdd, Nat.reduceSub, Array.replicate_succ, Array.replicate_zero, List.push_toArray, List.append_toArray, List.nil_append, List.cons_append]
  gi_wp2_with fail
  refine ⟨trivial, (callsIn_wide.2 (offsets_any A n cap xs d t _ hn (HR.out.keep (((New.refl _).alloc _).alloc _)))).mono ?_⟩
  rintro e w1 ⟨nw, ⟨_, rfl⟩ | ⟨hbad, _⟩⟩
  · have r6 := ((Bx.mk w 52 #[.int .i64 0, .int .i64 0]).alloc (.cells #[.int .i64 0] 25)).keep nw
    have r7 := (Bx.mk_at (w.alloc (.cells #[.int .i64 0, .int .i64 0] 52)) 25 #[.int .i64 0] (w.heap.size + 1) (by simp)).keep nw
    have c60 : w1.cell? _ = some _ := r6.cell 0
    have c61 : w1.cell? _ = some _ := r6.cell 1
    have c70 : w1.cell? _ = some _ := r7.cell 0
    have f60 := r6.free 0
    have f61 := r6.free 1
    have f70 := r7.free 0
    have l6 := r6.lt
    have l7 := r7.lt
    have hN1 := hn2of (hn2of nw)
    have hsz := nw.size
    simp at hsz
    gi_wp2_with fail
    have b6 := (((r6.set 0 (.int .i64 0)).set 1 (.int .i64 0)).far (p := ⟨w.heap.size + 1, 0, none⟩) (by simp) (.int .i64 (offsErr xs d t))).alloc (.cells #[.slice none 0 0] 131)
    have b7 := (((r7.far (p := ⟨w.heap.size, 0, none⟩) (by simp) (.int .i64 0)).far (p := ⟨w.heap.size, 1, none⟩) (by simp) (.int .i64 0)).set 0 (.int .i64 (offsErr xs d t))).alloc (.cells #[.slice none 0 0] 131)
    have d0 := b6.cell 0
    have d1 := b6.cell 1
    have d7 := b7.cell 0
    have hBB := (((hN1.setCell (p := ⟨w.heap.size, 0, none⟩) (Nat.le_refl _) (.int .i64 0)).setCell (p := ⟨w.heap.size, 1, none⟩) (Nat.le_refl _) (.int .i64 0)).setCell (p := ⟨w.heap.size + 1, 0, none⟩) (by simp) (.int .i64 (offsErr xs d t))).alloc (.cells #[.slice none 0 0] 131)
    refine ⟨.tuple #[.agg #[.int .i64 0, .int .i64 0], .int .i64 (offsErr xs d t)], ?_, by rw [HV.out], hBB⟩
    simp [results, Try.results35, go_sem, d0, d1, d7]
  · exact absurd hbad h0

theorem Contradicting_any (A : Option Addr) (n cap : Nat) (xs : List Exch) (d t : Int) (w : World) (hn : n ≤ 1000) (hr : Rd w 3 encX A n xs) :
    Calls Try.prog 35 #[.slice A n cap, .int .i64 d, .int .i64 t] w fun e w' =>
      e = .returned (.tuple #[.agg #[.int .i64 (contraS xs d t).1.1, .int .i64 (contraS xs d t).1.2], .int .i64 (contraS xs d t).2]) ∧ New w w' := by
  by_cases h : offsErr xs d t = 0
  · exact Contradicting_ok A n cap xs d t w hn hr h
  · exact Contradicting_bad A n cap xs d t w hn hr h
end Go.Proofs.Ytjpkcmlepjbamaa
