/- Contract: Unpacked. -/
import Derived.Test.YtjpkcmlepjbamaaW28
import Derived.Test.YtjpkcmlepjbamaaW29a
namespace Go.Proofs.Ytjpkcmlepjbamaa
open Go.RowKit Go.Sky Go.Shelf
attribute [local go_sem] Oper.semAt_some

def UnpPost (w : World) (way : Int) (ns : List Int) (e : Ending) (w' : World) : Prop :=
  ∃ A' n' cap', e = .returned (.tuple #[.slice A' n' cap', .int .i64 (unpS way ns).2]) ∧ Rd w' 1 encI A' n' (unpS way ns).1 ∧ New w w'

theorem unp_parts {way : Int} {n : Nat} (hw : way ≠ 0) (h : firstE [errU (inR way 0 2) 15, errU (decide ((n : Int) ≤ 400)) 8, errU (decide (way = 0) || decide (n % 2 = 0)) 10] = 0) : (way = 1 ∨ way = 2) ∧ n ≤ 400 ∧ n % 2 = 0 := by
  by_cases h1 : inR way 0 2 = true
  · by_cases h2 : (n : Int) ≤ 400
    · by_cases h3 : n % 2 = 0
      · unfold inR at h1
        have := of_decide_eq_true h1
        exact ⟨by omega, by omega, h3⟩
      · rw [h1, decide_eq_true h2, decide_eq_false hw, decide_eq_false h3] at h; exact absurd h (by simp [firstE, errU])
    · rw [h1, decide_eq_false h2] at h; exact absurd h (by simp [firstE, errU])
  · rw [Bool.not_eq_true] at h1; rw [h1] at h; exact absurd h (by simp [firstE, errU])

/-- Between two rounds of the first walk over the pairs. -/
structure CntI (way : Int) (ns : List Int) (A : Option Addr) (n cap h L : Nat) (w : World) (pre : List (Fin h)) (W : World) : Prop where
  ok : okL ns (pre.map valF) = true
  rN : Bx W w.heap.size 58 #[.int .i64 way, .slice A n cap]
  r2 : Bx W (w.heap.size + 1) 30 #[.slice none 0 0]
  r3 : Bx W (w.heap.size + 1 + 1) 25 #[.int .i64 0]
  rL : Bx W L 3 #[.int .i64 (sumL ns (pre.map valF))]
  bl : Below w.heap.size w W
/-- A count is none. -/
structure CntX (ns : List Int) (h : Nat) (w : World) (c : Code) (pre : List (Fin h)) (W : World) : Prop where
  jump : c = .ret
  bad : okL ns (pre.map valF) = false
  r2 : Bx W (w.heap.size + 1) 30 #[.slice none 0 0]
  r3 : Bx W (w.heap.size + 1 + 1) 25 #[.int .i64 2]
  bl : Below w.heap.size w W
theorem cntI_own (way : Int) (ns : List Int) (A : Option Addr) (n cap h L : Nat) (w : World) (B : Nat) (hB : w.heap.size ≤ B) : OwnFrom B (CntI way ns A n cap h L w) := fun _ _ _ _ hs hg hr =>
  ⟨hs.ok, hs.rN.grown hg (bx_ne hs.rN hr), hs.r2.grown hg (bx_ne hs.r2 hr), hs.r3.grown hg (bx_ne hs.r3 hr), hs.rL.grown hg (bx_ne hs.rL hr), hs.bl.grown hg hs.bl.size (fun k e => Nat.le_trans hB (hr k e).1)⟩
theorem cntX_own (ns : List Int) (h : Nat) (w : World) (B : Nat) (hB : w.heap.size ≤ B) (c : Code) : OwnFrom B (CntX ns h w c) := fun _ _ _ _ hs hg hr =>
  ⟨hs.jump, hs.bad, hs.r2.grown hg (bx_ne hs.r2 hr), hs.r3.grown hg (bx_ne hs.r3 hr), hs.bl.grown hg hs.bl.size (fun k e => Nat.le_trans hB (hr k e).1)⟩

theorem unp_bad {way : Int} {ns : List Int} (h : unpE way ns ≠ 0) : unpS way ns = ([], unpE way ns) := by unfold unpS; rw [if_pos h]
theorem unp_plain {ns : List Int} (h : unpE 0 ns = 0) : unpS 0 ns = if serE ns ≠ 0 then ([], serE ns) else (ns, 0) := by unfold unpS; rw [if_neg (by rw [h]; decide), if_pos rfl]

theorem putObj_other (W : World) (l k : Nat) (o : Obj) (h : k ≠ l) : (W.putObj l o).heap[k]? = W.heap[k]? := World.putObj_heap_other h
theorem unp_go {way : Int} {ns : List Int} {h : Nat} (hl : ns.length = 2 * h) (hE : unpE way ns = 0) (hw : ¬ way = 0) : unpS way ns = if cntsOk ns h = false then (([] : List Int), (2 : Int)) else if 200 < sumU ns h then ([], 8) else match runU way (expU ns h) with
    | some r => (r.1, 0)
    | none => ([], 2) := by
  unfold unpS
  rw [if_neg (by rw [hE]; decide), if_neg hw, show ns.length / 2 = h by omega]
  rfl
theorem unp_cnt {way : Int} {ns : List Int} {h : Nat} (hl : ns.length = 2 * h) (hE : unpE way ns = 0) (hw : ¬ way = 0) (hc : cntsOk ns h = false) : unpS way ns = ([], 2) := by rw [unp_go hl hE hw, if_pos hc]
theorem unp_large {way : Int} {ns : List Int} {h : Nat} (hl : ns.length = 2 * h) (hE : unpE way ns = 0) (hw : ¬ way = 0) (hc : cntsOk ns h = true) (h2 : 200 < sumU ns h) : unpS way ns = ([], 8) := by rw [unp_go hl hE hw, if_neg (by rw [hc]; decide), if_pos h2]
theorem unp_some {way : Int} {ns out : List Int} {z : Int} {h : Nat} (hl : ns.length = 2 * h) (hE : unpE way ns = 0) (hw : ¬ way = 0) (hc : cntsOk ns h = true) (h2 : ¬ 200 < sumU ns h) (hr : runU way (expU ns h) = some (out, z)) : unpS way ns = (out, 0) := by rw [unp_go hl hE hw, if_neg (by rw [hc]; decide), if_neg h2, hr]
theorem unp_none {way : Int} {ns : List Int} {h : Nat} (hl : ns.length = 2 * h) (hE : unpE way ns = 0) (hw : ¬ way = 0) (hc : cntsOk ns h = true) (h2 : ¬ 200 < sumU ns h) (hr : runU way (expU ns h) = none) : unpS way ns = ([], 2) := by rw [unp_go hl hE hw, if_neg (by rw [hc]; decide), if_neg h2, hr]

set_option maxRecDepth 100000 in
set_option maxHeartbeats 4000000 in
theorem Unpacked_any (way : Int) (A : Option Addr) (n cap : Nat) (ns : List Int) (w : World) (hn : n ≤ 100000) (hcap : n ≤ cap) (hr : Rd w 1 encI A n ns) :
    Calls Try.prog 39 #[.agg #[.int .i64 way, .slice A n cap]] w (UnpPost w way ns) := by
  have HL := Lib.hid hr.len
  have HR := Lib.hid hr
  clear hr
  obtain ⟨i0, hi, hz0, hz1, hz2⟩ := info_parts infoInt
  have HE := Lib.hid (show unpE way ns = firstE [errU (inR way 0 2) 15, errU (decide ((n : Int) ≤ 400)) 8, errU (decide (way = 0) || decide (n % 2 = 0)) 10] by unfold unpE; rw [HL.out])
  refine (callsIn_wide (n := 6)).1 (callsIn_of_wp_marks Try.func39 rfl trivial ?_ rfl)
  simp only [Try.ntmps39, List.size_toArray, List.length_cons, List.length_nil, Nat.reduceAdd, Nat.reduceSub, Array.replicate_succ, Array.replicate_zero, List.push_toArray, List.append_toArray, List.nil_append, List.cons_append]
  gi_wp2_with fail
  have hb := ((Bx.mk w 58 #[.int .i64 way, .slice A n cap]).alloc (.cells #[.slice none 0 0] 30)).alloc (.cells #[.int .i64 0] 25)
  have r2 := (Bx.mk_at (w.alloc (.cells #[.int .i64 way, .slice A n cap] 58)) 30 #[.slice none 0 0] (w.heap.size + 1) (by simp)).alloc (.cells #[.int .i64 0] 25)
  have r3 := Bx.mk_at ((w.alloc (.cells #[.int .i64 way, .slice A n cap] 58)).alloc (.cells #[.slice none 0 0] 30)) 25 #[.int .i64 0] (w.heap.size + 1 + 1) (by simp)
  have hN := (((New.refl w).alloc (.cells #[.int .i64 way, .slice A n cap] 58)).alloc (.cells #[.slice none 0 0] 30)).alloc (.cells #[.int .i64 0] 25)
  obtain ⟨W0, hW0⟩ : ∃ W0, (((w.alloc (.cells #[.int .i64 way, .slice A n cap] 58)).alloc (.cells #[.slice none 0 0] 30)).alloc (.cells #[.int .i64 0] 25)) = W0 := ⟨_, rfl⟩
  rw [hW0] at hb r2 r3 hN ⊢
  clear hW0
  have c0 : W0.cell? _ = some _ := hb.cell 0
  have c1 : W0.cell? _ = some _ := hb.cell 1
  have lb := hb.lt
  have l2 := r2.lt
  have l3 := r3.lt
  by_cases hw0 : way = 0
  · subst hw0
    refine wpIn_wide.2 ?_
    rw [show ((0 : Int) == 0) = true from rfl]
    (refine wp_region_tail 18 (by kernel_rfl) (by kernel_rfl) ?_; simp only [List.take_succ_cons, List.take_zero, List.drop_succ_cons, List.drop_zero]; (repeat (go_big_quiet_step (((first | (go_at_call 96; exact quiet_same (within_any _ _ _ _)) | (go_at_call 86; exact quiet_same (unless_any _ _ _))))))); refine wpQuiet_nil ?_)
    intro W1 n1
    go_wp2_with fail
    refine (first_any _ 3 3 [_, _, _] _ (by omega) rfl (cells_new _ _ _ _ (by simp) _ rfl)).mono ?_
    rintro e W2 ⟨rfl, hW2'⟩
    have hW2 : W1.alloc (.cells #[.int .i64 (errU (inR 0 0 2) 15), .int .i64 (errU (decide ((n : Int) ≤ 400)) 8), .int .i64 (errU true 10)] 25) = W2 := hW2'
    clear hW2'
    rw [show firstE [errU (inR 0 0 2) 15, errU (decide ((n : Int) ≤ 400)) 8, errU true 10] = unpE 0 ns from by rw [HE.out]; rfl]
    have hb2 := (hb.keep n1).alloc (.cells #[.int .i64 (errU (inR 0 0 2) 15), .int .i64 (errU (decide ((n : Int) ≤ 400)) 8), .int .i64 (errU true 10)] 25)
    have r22 := (r2.keep n1).alloc (.cells #[.int .i64 (errU (inR 0 0 2) 15), .int .i64 (errU (decide ((n : Int) ≤ 400)) 8), .int .i64 (errU true 10)] 25)
    have r32 := (r3.keep n1).alloc (.cells #[.int .i64 (errU (inR 0 0 2) 15), .int .i64 (errU (decide ((n : Int) ≤ 400)) 8), .int .i64 (errU true 10)] 25)
    have hN2 := (hN.trans n1).alloc (.cells #[.int .i64 (errU (inR 0 0 2) 15), .int .i64 (errU (decide ((n : Int) ≤ 400)) 8), .int .i64 (errU true 10)] 25)
    rw [hW2] at hb2 r22 r32 hN2
    clear hW2 c0 c1 lb l2 l3 hb r2 r3 hN n1 HE
    have c0 : W2.cell? _ = some _ := hb2.cell 0
    have c1 : W2.cell? _ = some _ := hb2.cell 1
    have c2 : W2.cell? _ = some _ := r22.cell 0
    have c3 : W2.cell? _ = some _ := r32.cell 0
    have f2 := r22.free 0
    have f3 := r32.free 0
    have lb := hb2.lt
    have l2 := r22.lt
    have l3 := r32.lt
    by_cases hE : unpE 0 ns = 0
    · have HV0 := Lib.hid (unp_plain hE)
      rw [hE]
      clear hE
      go_wp2_with fail
      gi_wp2_with fail
      refine ⟨trivial, (callsIn_wide.2 (seriesErr_any A n cap ns _ (by omega) (HR.out.keep hN2))).mono ?_⟩
      rintro e W3 ⟨rfl, n3⟩
      have r24 := r22.keep n3
      have r34 := r32.keep n3
      have hb4 := hb2.keep n3
      have hN4 := hN2.trans n3
      clear c0 c1 c2 c3 f2 f3 lb l2 l3 hb2 r22 r32 hN2 n3
      have c0 : W3.cell? _ = some _ := hb4.cell 0
      have c1 : W3.cell? _ = some _ := hb4.cell 1
      have c2 : W3.cell? _ = some _ := r24.cell 0
      have c3 : W3.cell? _ = some _ := r34.cell 0
      have f2 := r24.free 0
      have f3 := r34.free 0
      have lb := hb4.lt
      have l2 := r24.lt
      have l3 := r34.lt
      by_cases hS : serE ns = 0
      · have HV := Lib.hid (show unpS 0 ns = (ns, 0) by rw [HV0.out, if_neg (by rw [hS]; decide)])
        rw [hS]
        clear hS
        gi_wp2_with fail
        refine ⟨trivial, (callsIn_wide.2 (cloneI_any A n cap ns _ (by omega) (HR.out.keep hN4))).mono ?_⟩
        rintro e W4 ⟨A4, c4, rfl, hown, n4⟩
        have r25 := r24.keep n4
        have r35 := r34.keep n4
        have hN5 := hN4.trans n4
        have q2 := l2
        have q3 := l3
        clear c0 c1 c2 c3 f2 f3 lb l2 l3 r24 r34 hb4 hN4
        have c2 : W4.cell? _ = some _ := r25.cell 0
        have c3 : W4.cell? _ = some _ := r35.cell 0
        have f2 := r25.free 0
        have f3 := r35.free 0
        have l2 := r25.lt
        have l3 := r35.lt
        gi_wp2_with fail
        have b2 := (r25.set 0 (.slice A4 n c4)).far (p := ⟨w.heap.size + 1 + 1, 0, none⟩) (by simp) (.int .i64 0)
        have b3 := (r35.far (p := ⟨w.heap.size + 1, 0, none⟩) (by simp) (.slice A4 n c4)).set 0 (.int .i64 0)
        have d2 := b2.cell 0
        have d3 := b3.cell 0
        have nF := (hN5.setCell (p := ⟨w.heap.size + 1, 0, none⟩) (by simp) (.slice A4 n c4)).setCell (p := ⟨w.heap.size + 1 + 1, 0, none⟩) (by show w.heap.size ≤ w.heap.size + 1 + 1; omega) (.int .i64 0)
        have hF := (hown.setBelow (p := ⟨w.heap.size + 1, 0, none⟩) q2 (.slice A4 n c4)).setBelow (p := ⟨w.heap.size + 1 + 1, 0, none⟩) q3 (.int .i64 0)
        refine ⟨.tuple #[.slice A4 n c4, .int .i64 0], ?_, ⟨A4, n, c4, by rw [HV.out], by rw [HV.out]; exact hF.rd, nF⟩⟩
        simp [results, Try.results39, go_sem, d2, d3]
      · have HV := Lib.hid (show unpS 0 ns = ([], serE ns) by rw [HV0.out, if_pos hS])
        have hSb : (serE ns != 0) = true := by simpa using hS
        gi_wp2_with fail
        have b2 := (r24.set 0 (.slice none 0 0)).far (p := ⟨w.heap.size + 1 + 1, 0, none⟩) (by simp) (.int .i64 (serE ns))
        have b3 := (r34.far (p := ⟨w.heap.size + 1, 0, none⟩) (by simp) (.slice none 0 0)).set 0 (.int .i64 (serE ns))
        have d2 := b2.cell 0
        have d3 := b3.cell 0
        have nF := (hN4.setCell (p := ⟨w.heap.size + 1, 0, none⟩) (by simp) (.slice none 0 0)).setCell (p := ⟨w.heap.size + 1 + 1, 0, none⟩) (by show w.heap.size ≤ w.heap.size + 1 + 1; omega) (.int .i64 (serE ns))
        refine ⟨.tuple #[.slice none 0 0, .int .i64 (serE ns)], ?_, ⟨none, 0, 0, by rw [HV.out], by rw [HV.out]; exact Rd.nil _ _ _ _, nF⟩⟩
        simp [results, Try.results39, go_sem, d2, d3]
    · have hEb : (unpE 0 ns != 0) = true := by simpa using hE
      have HV := Lib.hid (unp_bad hE)
      go_wp2_with fail
      gi_wp2_with fail
      have b2 := (r22.set 0 (.slice none 0 0)).far (p := ⟨w.heap.size + 1 + 1, 0, none⟩) (by simp) (.int .i64 (unpE 0 ns))
      have b3 := (r32.far (p := ⟨w.heap.size + 1, 0, none⟩) (by simp) (.slice none 0 0)).set 0 (.int .i64 (unpE 0 ns))
      have d2 := b2.cell 0
      have d3 := b3.cell 0
      have nF := (hN2.setCell (p := ⟨w.heap.size + 1, 0, none⟩) (by simp) (.slice none 0 0)).setCell (p := ⟨w.heap.size + 1 + 1, 0, none⟩) (by show w.heap.size ≤ w.heap.size + 1 + 1; omega) (.int .i64 (unpE 0 ns))
      refine ⟨.tuple #[.slice none 0 0, .int .i64 (unpE 0 ns)], ?_, ⟨none, 0, 0, by rw [HV.out], by rw [HV.out]; exact Rd.nil _ _ _ _, nF⟩⟩
      simp [results, Try.results39, go_sem, d2, d3]
  · have hwb : (way == 0) = false := by simpa using hw0
    rw [hwb]
    refine wpIn_wide.2 ?_
    (refine wp_region_tail 18 (by kernel_rfl) (by kernel_rfl) ?_; simp only [List.take_succ_cons, List.take_zero, List.drop_succ_cons, List.drop_zero]; (repeat (go_big_quiet_step (((first | (go_at_call 96; exact quiet_same (within_any _ _ _ _)) | (go_at_call 86; exact quiet_same (unless_any _ _ _))))))); refine wpQuiet_nil ?_)
    have hpar := Lib.hid (show ((n : Int) % 2 == 0) = decide (n % 2 = 0) by
      rw [Bool.eq_iff_iff]
      simp
      omega)
    intro W1 n1
    go_wp2_with fail
    refine (first_any _ 3 3 [_, _, _] _ (by omega) rfl (cells_new _ _ _ _ (by simp) _ rfl)).mono ?_
    rintro e W2 ⟨rfl, hW2'⟩
    have hW2 : W1.alloc (.cells #[.int .i64 (errU (inR way 0 2) 15), .int .i64 (errU (decide ((n : Int) ≤ 400)) 8), .int .i64 (errU ((n : Int) % 2 == 0) 10)] 25) = W2 := hW2'
    clear hW2'
    rw [show firstE [errU (inR way 0 2) 15, errU (decide ((n : Int) ≤ 400)) 8, errU ((n : Int) % 2 == 0) 10] = unpE way ns from by rw [HE.out, decide_eq_false hw0, Bool.false_or, hpar.out]]
    have hb2 := (hb.keep n1).alloc (.cells #[.int .i64 (errU (inR way 0 2) 15), .int .i64 (errU (decide ((n : Int) ≤ 400)) 8), .int .i64 (errU ((n : Int) % 2 == 0) 10)] 25)
    have r22 := (r2.keep n1).alloc (.cells #[.int .i64 (errU (inR way 0 2) 15), .int .i64 (errU (decide ((n : Int) ≤ 400)) 8), .int .i64 (errU ((n : Int) % 2 == 0) 10)] 25)
    have r32 := (r3.keep n1).alloc (.cells #[.int .i64 (errU (inR way 0 2) 15), .int .i64 (errU (decide ((n : Int) ≤ 400)) 8), .int .i64 (errU ((n : Int) % 2 == 0) 10)] 25)
    have hN2 := (hN.trans n1).alloc (.cells #[.int .i64 (errU (inR way 0 2) 15), .int .i64 (errU (decide ((n : Int) ≤ 400)) 8), .int .i64 (errU ((n : Int) % 2 == 0) 10)] 25)
    rw [hW2] at hb2 r22 r32 hN2
    clear hW2 c0 c1 lb l2 l3 hb r2 r3 hN n1
    have c0 : W2.cell? _ = some _ := hb2.cell 0
    have c1 : W2.cell? _ = some _ := hb2.cell 1
    have c2 : W2.cell? _ = some _ := r22.cell 0
    have c3 : W2.cell? _ = some _ := r32.cell 0
    have f2 := r22.free 0
    have f3 := r32.free 0
    have lb := hb2.lt
    have l2 := r22.lt
    have l3 := r32.lt
    by_cases hE : unpE way ns = 0
    · rw [hE]
      have HE0 := Lib.hid hE
      clear hE
      go_wp2_with fail
      gi_wp2_with fail
      refine ⟨trivial, (callsIn_wide.2 (Chunk_any _ _ ⟨_, _, _, rfl⟩)).mono ?_⟩
      rintro e W3 ⟨rfl, hW3⟩
      obtain ⟨hway, h400, hev⟩ := unp_parts (n := n) hw0 (HE.out.symm.trans HE0.out)
      obtain ⟨h, rfl⟩ : ∃ h, n = 2 * h := ⟨n / 2, by omega⟩
      have hq : ∀ x, Bx W2 (w.heap.size + x) 30 #[.slice none 0 0] → w.heap.size + x < W2.heap.size := fun x hx => hx.lt
      clear hq
      have kN := ((hb2.alloc (.cells #[.int .i64 0] 3)).alloc (.cells #[.slice A (2 * h) cap] 30)).alloc (.cells #[.int .i64 2] 3)
      have k2 := ((r22.alloc (.cells #[.int .i64 0] 3)).alloc (.cells #[.slice A (2 * h) cap] 30)).alloc (.cells #[.int .i64 2] 3)
      have k3 := ((r32.alloc (.cells #[.int .i64 0] 3)).alloc (.cells #[.slice A (2 * h) cap] 30)).alloc (.cells #[.int .i64 2] 3)
      have kL := ((Bx.mk W2 3 #[.int .i64 0]).alloc (.cells #[.slice A (2 * h) cap] 30)).alloc (.cells #[.int .i64 2] 3)
      have kA := (Bx.mk_at (W2.alloc (.cells #[.int .i64 0] 3)) 30 #[.slice A (2 * h) cap] (W2.heap.size + 1) (by simp)).alloc (.cells #[.int .i64 2] 3)
      have kB := Bx.mk_at ((W2.alloc (.cells #[.int .i64 0] 3)).alloc (.cells #[.slice A (2 * h) cap] 30)) 3 #[.int .i64 2] (W2.heap.size + 1 + 1) (by simp)
      have kW := ((hN2.alloc (.cells #[.int .i64 0] 3)).alloc (.cells #[.slice A (2 * h) cap] 30)).alloc (.cells #[.int .i64 2] 3)
      gi_wp2_with fail
      obtain ⟨V, hV⟩ : ∃ V, (((W2.alloc (.cells #[.int .i64 0] 3)).alloc (.cells #[.slice A (2 * h) cap] 30)).alloc (.cells #[.int .i64 2] 3)) = V := ⟨_, rfl⟩
      have hsz : V.heap.size = W2.heap.size + 3 := by rw [← hV]; simp
      rw [hV] at kN k2 k3 kL kA kB kW ⊢
      obtain ⟨ba, oa, hA⟩ : ∃ ba oa, 0 < h → A = some ⟨ba, oa, none⟩ := by
        by_cases h0 : 0 < h
        · obtain ⟨b, o, e, _⟩ := HR.out.some_ (by omega)
          exact ⟨b, o, fun _ => e⟩
        · exact ⟨0, 0, fun h1 => absurd h1 h0⟩
      have hI0 : CntI way ns A (2 * h) cap h W2.heap.size w [] V := ⟨rfl, kN, k2, k3, kL, kW⟩
      have hwW := hN2.size
      refine wpIn_rangeFunc_ownH (α := Fin h) rfl (by omega) (gf := 137) (lb := #[.pointer (some ⟨W2.heap.size + 1, 0, none⟩), .pointer (some ⟨W2.heap.size + 1 + 1, 0, none⟩)]) rfl trivial (enters_of Try.func137 (by kernel_rfl) rfl)
        (chunk_stops 5 (by omega) (W2.heap.size + 1) ba oa h cap A hA V (by omega) hcap kA kB) keepTwo_t (keepTwo_b (by omega)) (Below.refl _ _) (fun _ => rfl)
        (CntI way ns A (2 * h) cap h W2.heap.size w) (CntX ns h w) (cntI_own way ns A (2 * h) cap h W2.heap.size w _ (by omega)) (cntX_own ns h w _ (by omega)) hI0
        (fun x a' W => a' = { tmps := #[.agg #[.int .i64 way, .slice A (2 * h) cap], .pointer (some ⟨w.heap.size, 0, none⟩), .pointer (some ⟨w.heap.size + 1, 0, none⟩), .pointer (some ⟨w.heap.size + 1 + 1, 0, none⟩), .bool false, .int .i64 (0), undef, .pointer (some ⟨W2.heap.size, 0, none⟩), .slice (some ⟨ba, oa + 2 * x.val, none⟩) 2 2, undef, undef, undef, undef, .pointer (some ⟨w.heap.size, 0, none⟩), .int .i64 (way), .bool false, .pointer (some ⟨w.heap.size, 0, none⟩), .int .i64 (way), .bool (inR way 0 2), .int .i64 (errU (inR way 0 2) 15), .pointer (some ⟨w.heap.size, 1, none⟩), .slice A (2 * h) cap, .int .i64 (2 * (h : Int)), .bool (decide (2 * (h : Int) ≤ 400)), .int .i64 (errU (decide (2 * (h : Int) ≤ 400)) 8), .bool false, .bool false, .pointer (some ⟨w.heap.size, 1, none⟩), .slice A (2 * h) cap, .int .i64 (2 * (h : Int)), .int .i64 (0), .bool true, .bool true, .int .i64 (errU true 10), .slice (some ⟨W1.heap.size, 0, none⟩) 3 3, .int .i64 (0), .int .i64 (0), .bool false, undef, .bool false, undef, undef, undef, undef, undef, undef, undef, undef, undef, .pointer (some ⟨w.heap.size, 1, none⟩), .slice A (2 * h) cap, .func (.func 137) #[] #[.pointer (some ⟨W2.heap.size + 1, 0, none⟩), .pointer (some ⟨W2.heap.size + 1 + 1, 0, none⟩)], .slice (some ⟨ba, oa + 2 * x.val, none⟩) 2 2, undef, undef, undef, undef, undef, undef, undef, undef, undef, undef, undef, undef, undef, undef, undef, undef, undef, undef, undef, undef, undef, undef, undef, undef, undef, undef, undef, undef, undef, undef, undef, undef, undef, undef, undef, undef, undef, undef, undef, undef, undef, undef, undef], defers := [] })
        (fun x a' _ X Y row hs hg hr => hs)
        ?assign ?body ?done ?stop
      case assign =>
        rintro l pre x W K hI hK
        unfold encC
        gi_wp2
        exact hK _ _ ((KeepsOthers.refl _).from _) (KeepTwo.refl _ W) hI rfl
      case body =>
        rintro l pre x a' W hl ⟨r, hr⟩ hI rfl hlt
        obtain rfl := hA (by have := x.isLt; omega)
        have rL := hI.rL
        have r2' := hI.r2
        have r3' := hI.r3
        obtain ⟨bq, oq, v, e, hbq, hv, hcv⟩ := (HR.out.keep hI.bl).at_ (i := 2 * x.val + 1) (by have := x.isLt; omega)
        injection e with e
        injection e with e1 e2
        subst e1 e2
        have p1 := hcv 0 _ rfl
        simp only [Nat.mul_one, Nat.add_zero] at p1
        have p1' : W.cell? ⟨ba, oa + 2 * x.val + 1, none⟩ = some (.int .i64 v) := by rw [Nat.add_assoc]; exact p1
        have HVC := Lib.hid (show cntU ns x.val = v by unfold cntU; rw [List.getD_eq_getElem?_getD, hv]; rfl)
        have HI := Lib.hid hI
        clear hI hv hcv p1 hI0
        have q0 : W.cell? _ = some _ := rL.cell 0
        have g0 := rL.free 0
        have f2' := r2'.free 0
        have f3' := r3'.free 0
        have c2' : W.cell? _ = some _ := r2'.cell 0
        have c3' : W.cell? _ = some _ := r3'.cell 0
        have l7 := rL.lt
        have l8 := r2'.lt
        have l9 := r3'.lt
        gi_wp2_with fail
        refine ⟨trivial, CallsIn.inRound l (callsIn_wide.2 ((within_any _ _ _ _).mono ?_))⟩
        rintro e w' ⟨rfl, rfl⟩
        have hlW := (Array.getElem?_eq_some_iff.1 hr).1
        by_cases hc : inR v 1 200 = true
        · rw [hc]
          have hv1 : 1 ≤ v ∧ v ≤ 200 := by unfold inR at hc; exact of_decide_eq_true hc
          have HC := Lib.hid hc
          have hs := sumL_bd HI.out.ok
          have hpl : (pre.map valF).length < h := by rw [List.length_map]; exact hlt
          obtain ⟨s0, hs0⟩ : ∃ s0, s0 = sumL ns (pre.map valF) := ⟨_, rfl⟩
          rw [← hs0] at hs
          have hs1 : 0 ≤ s0 := hs.1
          have hs2 : s0 ≤ 40000 := by omega
          have HS0 := Lib.hid hs0
          rw [← hs0] at q0
          clear hc hs hs0 hpl
          gi_wp2_with fail
          refine wpIn_region_tail 5 (by kernel_rfl) (by kernel_rfl) (by kernel_rfl) ?_
          simp only [List.take_succ_cons, List.take_zero, List.drop_succ_cons, List.drop_zero]
          (repeat (go_big_quiet_step ((fail))))
          refine wpQuiet_nil ?_
          intro W3 n3
          have kL := rL.keep n3
          have q0 : W3.cell? _ = some _ := kL.cell 0
          have g0 := kL.free 0
          have l7 := kL.lt
          gi_wp2_with fail
          have hKO : KeepsOthers W W3 := ⟨n3.size, fun k o hk _ => n3.heap hk⟩
          have hsum : sumL ns ((pre ++ [x]).map valF) = s0 + v := by
            rw [List.map_append, show List.map valF [x] = [x.val] from rfl, sumL_app, ← HS0.out, HVC.out]
          have hok : okL ns ((pre ++ [x]).map valF) = true := by
            rw [List.map_append, show List.map valF [x] = [x.val] from rfl, okL_app, HI.out.ok, HVC.out, HC.out]; rfl
          refine ⟨(hKO.trans (KeepsOthers.setCell _ _ _)).from _, keepTwo_set (keepTwo_new n3 (by have := HI.out.rL.lt; omega)) (by simp) (by simp; omega) _, hok, (HI.out.rN.keep n3).far (by simp; omega) _, (HI.out.r2.keep n3).far (by simp; omega) _, (HI.out.r3.keep n3).far (by simp; omega) _, ?_, ?_⟩
          · rw [hsum]; exact kL.set 0 _
          · exact (HI.out.bl.trans (n3.below HI.out.bl.size)).setCell (by simp; omega) _
        · rw [Bool.not_eq_true] at hc
          rw [hc]
          gi_wp2_with fail
          have hok : okL ns ((pre ++ [x]).map valF) = false := by
            rw [List.map_append, show List.map valF [x] = [x.val] from rfl, okL_app, HVC.out, hc, Bool.and_false]
          refine ⟨((KeepsOthers.setCell _ _ _).trans (KeepsOthers.setCell _ _ _)).from _, rfl, hok, ?_, ?_, ?_⟩
          · exact (r2'.set 0 _).far (by simp) _
          · exact (r3'.far (by simp) _).set 0 _
          · exact (HI.out.bl.setCell (by simp) _).setCell (by simp; omega) _
      case done =>
        rintro D ys W hD hys hI hK
        have rN := hI.rN
        have r2' := hI.r2
        have r3' := hI.r3
        have rL := hI.rL
        have hB := hI.bl
        have hsu : sumL ns (ys.map valF) = sumU ns h := by rw [hys]; exact sumL_range ns h
        have hco : cntsOk ns h = true := by have := hI.ok; rw [hys] at this; exact this
        rw [hsu] at rL
        have hsb := sumU_bd hco
        obtain ⟨s0, hs0⟩ : ∃ s0, s0 = sumU ns h := ⟨_, rfl⟩
        rw [← hs0] at hsb rL
        obtain ⟨hs1, hs2⟩ := hsb
        have HS0 := Lib.hid hs0
        have HCO := Lib.hid hco
        clear hs0 hco hsu hys hI hI0
        have q0 : W.cell? _ = some _ := rL.cell 0
        have q1 : W.cell? _ = some _ := rN.cell 1
        have c2' : W.cell? _ = some _ := r2'.cell 0
        have c3' : W.cell? _ = some _ := r3'.cell 0
        have f2' := r2'.free 0
        have f3' := r3'.free 0
        have l7 := rL.lt
        have l8 := r2'.lt
        have l9 := r3'.lt
        have l10 := rN.lt
        by_cases h2 : 200 < s0
        · have HV := Lib.hid (show unpS way ns = ([], 8) from unp_large HL.out HE0.out hw0 HCO.out (by rw [← HS0.out]; exact h2))
          gi_wp2_with fail
          have hK' : ((W.setCell ⟨w.heap.size + 1, 0, none⟩ (.slice none 0 0)).setCell ⟨w.heap.size + 1 + 1, 0, none⟩ (.int .i64 8)).heap[D]? = some (.deferred (some [])) := by
            rw [Below.heap_setCell _ _ _ _ (by simp; omega), Below.heap_setCell _ _ _ _ (by simp; omega)]; exact hK
          refine ⟨by simp, .inl ⟨_, _, rfl, run_takeDeferred hK', ?_⟩⟩
          have b2 := (r2'.set 0 (.slice none 0 0)).far (p := ⟨w.heap.size + 1 + 1, 0, none⟩) (by simp) (.int .i64 8)
          have b3 := (r3'.far (p := ⟨w.heap.size + 1, 0, none⟩) (by simp) (.slice none 0 0)).set 0 (.int .i64 8)
          have ht := grownBy_putObj' ((W.setCell ⟨w.heap.size + 1, 0, none⟩ (.slice none 0 0)).setCell ⟨w.heap.size + 1 + 1, 0, none⟩ (.int .i64 8)) D (.deferred none)
          have e2 := b2.grown ht (by simp; omega)
          have e3 := b3.grown ht (by simp; omega)
          have d2 := e2.cell 0
          have d3 := e3.cell 0
          have hBB := ((hB.setCell (p := ⟨w.heap.size + 1, 0, none⟩) (by simp) (.slice none 0 0)).setCell (p := ⟨w.heap.size + 1 + 1, 0, none⟩) (by simp; omega) (.int .i64 8)).grown ht (by simp [World.setCell]; exact hB.size) (fun k e => by cases e; omega)
          refine ⟨.tuple #[.slice none 0 0, .int .i64 8], ?_, ⟨none, 0, 0, by rw [HV.out], by rw [HV.out]; exact Rd.nil _ _ _ _, hBB⟩⟩
          simp [results, Try.results39, go_sem, d2, d3]
        · gi_wp2_with fail
          refine ⟨trivial, (callsIn_wide.2 (Chunk_any _ _ ⟨_, _, _, rfl⟩)).mono ?_⟩
          rintro e W3 ⟨rfl, hW3⟩
          obtain ⟨W5, hW5⟩ : ∃ W5, (W.alloc (.cells #[.slice none 0 0] 30)).alloc (.cells #[.int .i64 0] 3) = W5 := ⟨_, rfl⟩
          have hsz5 : W5.heap.size = W.heap.size + 2 := by rw [← hW5]; simp
          have kO := (Bx.mk W 30 #[.slice none 0 0]).alloc (.cells #[.int .i64 0] 3)
          have kL := Bx.mk_at (W.alloc (.cells #[.slice none 0 0] 30)) 3 #[.int .i64 0] (W.heap.size + 1) (by simp)
          have n5 := ((New.refl W).alloc (.cells #[.slice none 0 0] 30)).alloc (.cells #[.int .i64 0] 3)
          have kA := (Bx.mk_at W5 30 #[.slice A (2 * h) cap] (W.heap.size + 1 + 1) (by omega)).alloc (.cells #[.int .i64 2] 3)
          have kB := Bx.mk_at (W5.alloc (.cells #[.slice A (2 * h) cap] 30)) 3 #[.int .i64 2] (W.heap.size + 1 + 1 + 1) (by simp; omega)
          have n7 := ((New.refl W5).alloc (.cells #[.slice A (2 * h) cap] 30)).alloc (.cells #[.int .i64 2] 3)
          rw [hW5] at hW3 kO kL n5
          have hKD : W.heap[D]? = some (.deferred (some [])) := hK
          have hDlt := (Array.getElem?_eq_some_iff.1 hKD).1
          have hszW := hB.size
          have hszW2 := rL.lt
          gi_wp2_with fail
          obtain ⟨V2, hV2⟩ : ∃ V2, (W5.alloc (.cells #[.slice A (2 * h) cap] 30)).alloc (.cells #[.int .i64 2] 3) = V2 := ⟨_, rfl⟩
          have hsz7 : V2.heap.size = W.heap.size + 4 := by rw [← hV2]; simp; omega
          rw [hV2]
          rw [hV2] at hW3 kA kB n7
          have n57 := n5.trans n7
          have hI2 : OutB way A (2 * h) cap W.heap.size (W.heap.size + 1) D V2.heap.size w 0 (some ([], 0)) V2 :=
            ⟨rN.keep n57, r2'.keep n57, r3'.keep n57, n57.heap hKD, ⟨[], 0, none, 0, 0, rfl, by omega, by omega, by omega, kO.keep n7, kL.keep n7, Go.Sky.Own.nil _ _ _ _ encI_len⟩, New.trans hB n57, Nat.le_refl _⟩
          have hBW : Below w.heap.size w W := hB
          clear hW5 hV2 hK
          refine wpIn_rangeFunc_ownH (α := Fin h) rfl (by omega) (gf := 137) (lb := #[.pointer (some ⟨W.heap.size + 1 + 1, 0, none⟩), .pointer (some ⟨W.heap.size + 1 + 1 + 1, 0, none⟩)]) rfl trivial (enters_of Try.func137 (by kernel_rfl) rfl)
            (chunk_stops 5 (by omega) (W.heap.size + 1 + 1) ba oa h cap A hA V2 (by omega) hcap kA kB) keepTwo_t (keepTwo_b (by omega)) (Below.refl _ _) (fun _ => rfl)
            (fun pre W' => OutB way A (2 * h) cap W.heap.size (W.heap.size + 1) D V2.heap.size w (sumL ns (pre.map valF)) (runL way ns (pre.map valF)) W') (OutX way ns h D w)
            (fun s X Y row hs hg hr => outB_turn hs (by omega) (by omega) hg hr) (outX_own way ns h D w _ (by omega) (by omega)) hI2
            (fun x a' _ => a' = { tmps := #[.agg #[.int .i64 way, .slice A (2 * h) cap], .pointer (some ⟨w.heap.size, 0, none⟩), .pointer (some ⟨w.heap.size + 1, 0, none⟩), .pointer (some ⟨w.heap.size + 1 + 1, 0, none⟩), .bool false, .int .i64 (0), undef, .pointer (some ⟨W2.heap.size, 0, none⟩), undef, .pointer (some ⟨W.heap.size, 0, none⟩), .pointer (some ⟨W.heap.size + 1, 0, none⟩), .slice (some ⟨ba, oa + 2 * x.val, none⟩) 2 2, undef, .pointer (some ⟨w.heap.size, 0, none⟩), .int .i64 (way), .bool false, .pointer (some ⟨w.heap.size, 0, none⟩), .int .i64 (way), .bool (inR way 0 2), .int .i64 (errU (inR way 0 2) 15), .pointer (some ⟨w.heap.size, 1, none⟩), .slice A (2 * h) cap, .int .i64 (2 * (h : Int)), .bool (decide (2 * (h : Int) ≤ 400)), .int .i64 (errU (decide (2 * (h : Int) ≤ 400)) 8), .bool false, .bool false, .pointer (some ⟨w.heap.size, 1, none⟩), .slice A (2 * h) cap, .int .i64 (2 * (h : Int)), .int .i64 (0), .bool true, .bool true, .int .i64 (errU true 10), .slice (some ⟨W1.heap.size, 0, none⟩) 3 3, .int .i64 (0), .int .i64 (0), .bool false, undef, .bool false, undef, undef, undef, undef, undef, undef, undef, undef, undef, .pointer (some ⟨w.heap.size, 1, none⟩), .slice A (2 * h) cap, .func (.func 137) #[] #[.pointer (some ⟨W2.heap.size + 1, 0, none⟩), .pointer (some ⟨W2.heap.size + 1 + 1, 0, none⟩)], undef, undef, undef, undef, undef, undef, undef, undef, undef, undef, undef, .int .i64 s0, .bool false, .pointer (some ⟨w.heap.size, 1, none⟩), .slice A (2 * h) cap, .func (.func 137) #[] #[.pointer (some ⟨W.heap.size + 1 + 1, 0, none⟩), .pointer (some ⟨W.heap.size + 1 + 1 + 1, 0, none⟩)], .slice (some ⟨ba, oa + 2 * x.val, none⟩) 2 2, undef, undef, undef, undef, undef, undef, undef, undef, undef, undef, undef, undef, undef, undef, undef, undef, undef, undef, undef, undef, undef, undef, undef, undef, undef, undef, undef], defers := [] })
            (fun x a' _ X Y row hs hg hr => hs)
            ?assign2 ?body2 ?done2 ?stop2
          case assign2 =>
            rintro l pre x X K hI hK
            unfold encC
            gi_wp2
            exact hK _ _ ((KeepsOthers.refl _).from _) (KeepTwo.refl _ X) hI rfl
          case body2 =>
            rintro l pre x a' X hl ⟨r, hr⟩ hI rfl hlt
            obtain rfl := hA (by have := x.isLt; omega)
            obtain ⟨bq, oq, v, e, hbq, hv, hcv⟩ := (HR.out.keep hI.bl).at_ (i := 2 * x.val + 1) (by have := x.isLt; omega)
            injection e with e
            injection e with e1 e2
            subst e1 e2
            have p1 := hcv 0 _ rfl
            simp only [Nat.mul_one, Nat.add_zero] at p1
            have p1' : X.cell? ⟨ba, oa + 2 * x.val + 1, none⟩ = some (.int .i64 v) := by rw [Nat.add_assoc]; exact p1
            have HVC := Lib.hid (show cntU ns x.val = v by unfold cntU; rw [List.getD_eq_getElem?_getD, hv]; rfl)
            have hcb := cntsOk_at x.isLt HCO.out
            rw [HVC.out] at hcb
            obtain ⟨v1, v2⟩ := hcb
            obtain ⟨c, rfl⟩ : ∃ c : Nat, v = (c : Int) := ⟨v.toNat, by omega⟩
            have HI := Lib.hid hI
            clear hI hv hcv p1 hI2
            gi_wp2_with fail
            gi_loopw [72] (fun i wr => ∃ k : Nat, k ≤ c ∧ i = .int .i64 (k : Int) ∧ OutB way (some ⟨ba, oa, none⟩) (2 * h) cap W.heap.size (W.heap.size + 1) D V2.heap.size w (sumL ns (pre.map valF) + (k : Int)) ((List.replicate k (valU ns x.val)).foldl (stepU way) (runL way ns (pre.map valF))) wr ∧ KeepsFrom V2.heap.size X wr ∧ KeepTwo (W.heap.size + 1 + 1) X wr) (fun i _ => c - (intOf i).toNat)
            case atStart => exact ⟨0, by omega, rfl, by simpa using HI.out, KeepsFrom.refl _ _, KeepTwo.refl _ _⟩
            case round =>
              obtain ⟨k, hk, rfl, hO, hKF, hKT⟩ := hrel
              by_cases hkc : k < c
              · obtain ⟨out, last, A', m, cap', hst, hm, hl1, hl2, bO, bL, hown⟩ := hO.st
                obtain ⟨bq, oq, u, e, hbq2, hu, hcu⟩ := (HR.out.keep hO.bl).at_ (i := 2 * x.val) (by have := x.isLt; omega)
                injection e with e
                injection e with e1 e2
                subst e1 e2
                have p0 := hcu 0 _ rfl
                simp only [Nat.mul_one, Nat.add_zero] at p0
                have HVU := Lib.hid (show valU ns x.val = u by unfold valU; rw [List.getD_eq_getElem?_getD, hu]; rfl)
                rw [HVU.out] at hst
                have HST := Lib.hid hst
                have hsl := sumL_bd (okL_fin HCO.out pre)
                rw [List.length_map] at hsl
                have hm2 : (m : Int) ≤ 100000 := by omega
                have hszO := hO.sz
                have hneA : ∀ b, b < V2.heap.size → some b ≠ A'.map (·.block) := fun b hb e => by have := hown.row_ge b e.symm; omega
                clear hst hu hcu hsl
                have cN : wr.cell? _ = some _ := hO.rN.cell 0
                have cO : wr.cell? _ = some _ := bO.cell 0
                have cL : wr.cell? _ = some _ := bL.cell 0
                have c2w : wr.cell? _ = some _ := hO.r2.cell 0
                have c3w : wr.cell? _ = some _ := hO.r3.cell 0
                have fO := bO.free 0
                have fL := bL.free 0
                have f2w := hO.r2.free 0
                have f3w := hO.r3.free 0
                have lN := hO.rN.lt
                have lO := bO.lt
                have lL := bL.lt
                have l2w := hO.r2.lt
                have l3w := hO.r3.lt
                rcases hway with hw1 | hw2
                · subst hw1
                  gi_wp2_with fail
                  refine ⟨trivial, CallsIn.inRound l (callsIn_wide.2 ((within_any _ _ _ _).mono ?_))⟩
                  rintro e w' ⟨rfl, rfl⟩
                  by_cases hin1 : inR u (-2000000000) 2000000000 = true
                  · have hub1 : -2000000000 ≤ u ∧ u ≤ 2000000000 := by unfold inR at hin1; exact of_decide_eq_true hin1
                    have HIN1 := Lib.hid hin1
                    rw [hin1]
                    clear hin1
                    gi_wp2_with fail
                    refine ⟨trivial, CallsIn.inRound l (callsIn_wide.2 ((isValue_any _ _).mono ?_))⟩
                    rintro e w' ⟨rfl, rfl⟩
                    by_cases hin : inR (u + last) (-1000000000) 1000000000 = true
                    · have HSTEP := Lib.hid (show stepU 1 (some (out, last)) u = some (out ++ [u + last], u + last) by rw [step_one, if_pos ⟨HIN1.out, hin⟩])
                      have hub : -1000000000 ≤ u + last ∧ u + last ≤ 1000000000 := by unfold inR at hin; exact of_decide_eq_true hin
                      rw [hin]
                      clear hin
                      gi_wp2_with (gi_at_builtin; refine wpListIn_pour _ rfl _ _ 30 rfl 3 i0 _ 1 8 Try.underlying30 hi hz0 hz1 hz2 rfl (by omega) V2.heap.size encI A' m cap' out rfl (by exact hown.alloc _) _ 1 1 [u + last] rfl (by exact rd_bx (Bx.mk _ _ _) encI_len [u + last] rfl 1 rfl) encI_one (by unfold maxLen; omega) (by omega) (by simp; omega) ?_; intro A2 cap2 w3 hown3 hg3 hN3; have bO3 := (bO.alloc (.cells #[.int .i64 (u + last)] 3)).grown hg3 (hneA _ (by omega)); have bL3 := (bL.alloc (.cells #[.int .i64 (u + last)] 3)).grown hg3 (hneA _ (by omega)); have cO3 : w3.cell? _ = some _ := bO3.cell 0; have cL3 : w3.cell? _ = some _ := bL3.cell 0; have fO3 := bO3.free 0; have fL3 := bL3.free 0; have lO3 := bO3.lt; have lL3 := bL3.lt)
                      obtain ⟨hB1, hB2, hB3⟩ := outB_push (Bc := W.heap.size + 1 + 1) (u + last) (some (out ++ [u + last], u + last)) hO.rN hO.r2 hO.r3 hO.kD hm (by exact hub.1) (by exact hub.2) rfl bO bL hown hO.bl hO.sz (by omega) (by omega) (by omega) (by omega) (by omega) (by omega) (by omega) (by omega) (by omega) (by omega) (by omega) (by omega) hown3 hg3
                      go_roundw
                      case rel =>
                        refine ⟨k + 1, by omega, by go_num, ?_, hKF.trans (hB2.from _), keepTwo_t hKT hB3⟩
                        rw [HVU.out, rep_step, HST.out, HSTEP.out, show sumL ns (pre.map valF) + ((k + 1 : Nat) : Int) = sumL ns (pre.map valF) + (k : Int) + 1 from by omega]
                        exact hB1
                      case measure => simp [intOf]; omega
                    · have HSTEP := Lib.hid (show stepU 1 (some (out, last)) u = none by rw [step_one, if_neg (fun h => hin h.2)])
                      rw [Bool.not_eq_true] at hin
                      rw [hin]
                      clear hin
                      gi_wp2_with fail
                      have hno : runL 1 ns ((pre ++ [x]).map valF) = none := by
                        rw [runL_snoc, HVC.out, HVU.out, show ((c : Int)).toNat = c from rfl]
                        exact rep_none (k := k + 1) (by omega) (by rw [rep_step, HST.out, HSTEP.out])
                      refine ⟨(hKF.trans (((KeepsOthers.setCell _ _ _).trans (KeepsOthers.setCell _ _ _)).from _)), rfl, hno, ?_, ?_, ?_, ?_⟩
                      · exact (hO.r2.set 0 _).far (by simp) _
                      · exact (hO.r3.far (by simp) _).set 0 _
                      · exact (Below.heap_setCell _ _ _ _ (by simp; omega)).trans ((Below.heap_setCell _ _ _ _ (by simp; omega)).trans hO.kD)
                      · exact (hO.bl.setCell (by simp) _).setCell (by simp; omega) _
                  · have HSTEP := Lib.hid (show stepU 1 (some (out, last)) u = none by rw [step_one, if_neg (fun h => hin1 h.1)])
                    rw [Bool.not_eq_true] at hin1
                    rw [hin1]
                    clear hin1
                    gi_wp2_with fail
                    have hno : runL 1 ns ((pre ++ [x]).map valF) = none := by
                      rw [runL_snoc, HVC.out, HVU.out, show ((c : Int)).toNat = c from rfl]
                      exact rep_none (k := k + 1) (by omega) (by rw [rep_step, HST.out, HSTEP.out])
                    refine ⟨(hKF.trans (((KeepsOthers.setCell _ _ _).trans (KeepsOthers.setCell _ _ _)).from _)), rfl, hno, ?_, ?_, ?_, ?_⟩
                    · exact (hO.r2.set 0 _).far (by simp) _
                    · exact (hO.r3.far (by simp) _).set 0 _
                    · exact (Below.heap_setCell _ _ _ _ (by simp; omega)).trans ((Below.heap_setCell _ _ _ _ (by simp; omega)).trans hO.kD)
                    · exact (hO.bl.setCell (by simp) _).setCell (by simp; omega) _
                · subst hw2
                  gi_wp2_with fail
                  refine ⟨trivial, CallsIn.inRound l (callsIn_wide.2 ((isValue_any _ _).mono ?_))⟩
                  rintro e w' ⟨rfl, rfl⟩
                  by_cases hin : inR u (-1000000000) 1000000000 = true
                  · have HSTEP := Lib.hid (show stepU 2 (some (out, last)) u = some (out ++ [u], u) by rw [step_two, if_pos hin])
                    have hub : -1000000000 ≤ u ∧ u ≤ 1000000000 := by unfold inR at hin; exact of_decide_eq_true hin
                    rw [hin]
                    clear hin
                    gi_wp2_with (gi_at_builtin; refine wpListIn_pour _ rfl _ _ 30 rfl 3 i0 _ 1 8 Try.underlying30 hi hz0 hz1 hz2 rfl (by omega) V2.heap.size encI A' m cap' out rfl (by exact hown.alloc _) _ 1 1 [u] rfl (by exact rd_bx (Bx.mk _ _ _) encI_len [u] rfl 1 rfl) encI_one (by unfold maxLen; omega) (by omega) (by simp; omega) ?_; intro A2 cap2 w3 hown3 hg3 hN3; have bO3 := (bO.alloc (.cells #[.int .i64 (u)] 3)).grown hg3 (hneA _ (by omega)); have bL3 := (bL.alloc (.cells #[.int .i64 (u)] 3)).grown hg3 (hneA _ (by omega)); have cO3 : w3.cell? _ = some _ := bO3.cell 0; have cL3 : w3.cell? _ = some _ := bL3.cell 0; have fO3 := bO3.free 0; have fL3 := bL3.free 0; have lO3 := bO3.lt; have lL3 := bL3.lt)
                    obtain ⟨hB1, hB2, hB3⟩ := outB_push (Bc := W.heap.size + 1 + 1) u (some (out ++ [u], u)) hO.rN hO.r2 hO.r3 hO.kD hm (by exact hub.1) (by exact hub.2) rfl bO bL hown hO.bl hO.sz (by omega) (by omega) (by omega) (by omega) (by omega) (by omega) (by omega) (by omega) (by omega) (by omega) (by omega) (by omega) hown3 hg3
                    go_roundw
                    case rel =>
                      refine ⟨k + 1, by omega, by go_num, ?_, hKF.trans (hB2.from _), keepTwo_t hKT hB3⟩
                      rw [HVU.out, rep_step, HST.out, HSTEP.out, show sumL ns (pre.map valF) + ((k + 1 : Nat) : Int) = sumL ns (pre.map valF) + (k : Int) + 1 from by omega]
                      exact hB1
                    case measure => simp [intOf]; omega
                  · have HSTEP := Lib.hid (show stepU 2 (some (out, last)) u = none by rw [step_two, if_neg hin])
                    rw [Bool.not_eq_true] at hin
                    rw [hin]
                    clear hin
                    gi_wp2_with fail
                    have hno : runL 2 ns ((pre ++ [x]).map valF) = none := by
                      rw [runL_snoc, HVC.out, HVU.out, show ((c : Int)).toNat = c from rfl]
                      exact rep_none (k := k + 1) (by omega) (by rw [rep_step, HST.out, HSTEP.out])
                    refine ⟨(hKF.trans (((KeepsOthers.setCell _ _ _).trans (KeepsOthers.setCell _ _ _)).from _)), rfl, hno, ?_, ?_, ?_, ?_⟩
                    · exact (hO.r2.set 0 _).far (by simp) _
                    · exact (hO.r3.far (by simp) _).set 0 _
                    · exact (Below.heap_setCell _ _ _ _ (by simp; omega)).trans ((Below.heap_setCell _ _ _ _ (by simp; omega)).trans hO.kD)
                    · exact (hO.bl.setCell (by simp) _).setCell (by simp; omega) _
              · obtain rfl : k = c := by omega
                gi_wp2_with fail
                refine ⟨hKF, hKT, ?_⟩
                dsimp only
                rw [sumL_snoc, runL_snoc, HVC.out]
                exact hO
          case done2 =>
            rintro D2 ys X hD2 hys hI hK2
            obtain ⟨out, last, A', m, cap', hst, hm, hl1, hl2, bO, bL, hown⟩ := hI.st
            rw [hys, runL_range] at hst
            have HV := Lib.hid (show unpS way ns = (out, 0) from unp_some HL.out HE0.out hw0 HCO.out (by rw [← HS0.out]; omega) hst)
            have r2x := hI.r2
            have r3x := hI.r3
            have cO : X.cell? _ = some _ := bO.cell 0
            have c2x : X.cell? _ = some _ := r2x.cell 0
            have c3x : X.cell? _ = some _ := r3x.cell 0
            have fO := bO.free 0
            have f2x := r2x.free 0
            have f3x := r3x.free 0
            have lO := bO.lt
            have l2x := r2x.lt
            have l3x := r3x.lt
            have hkD := hI.kD
            have hbl := hI.bl
            have hszI := hI.sz
            clear hst hI hI2
            gi_wp2_with fail
            have hkDW : ((X.setCell ⟨w.heap.size + 1, 0, none⟩ (.slice A' m cap')).setCell ⟨w.heap.size + 1 + 1, 0, none⟩ (.int .i64 0)).heap[D]? = some (.deferred (some [])) := by
              rw [Below.heap_setCell _ _ _ _ (by simp; omega), Below.heap_setCell _ _ _ _ (by simp; omega)]; exact hkD
            have hK2W : ((X.setCell ⟨w.heap.size + 1, 0, none⟩ (.slice A' m cap')).setCell ⟨w.heap.size + 1 + 1, 0, none⟩ (.int .i64 0)).heap[D2]? = some (.deferred (some [])) := by
              rw [Below.heap_setCell _ _ _ _ (by simp; omega), Below.heap_setCell _ _ _ _ (by simp; omega)]; exact hK2
            have b2 := (r2x.set 0 (.slice A' m cap')).far (p := ⟨w.heap.size + 1 + 1, 0, none⟩) (by simp) (.int .i64 0)
            have b3 := (r3x.far (p := ⟨w.heap.size + 1, 0, none⟩) (by simp) (.slice A' m cap')).set 0 (.int .i64 0)
            have hDD : D ≠ D2 := by omega
            have hk2 := (putObj_other ((X.setCell ⟨w.heap.size + 1, 0, none⟩ (.slice A' m cap')).setCell ⟨w.heap.size + 1 + 1, 0, none⟩ (.int .i64 0)) D2 D (.deferred none) (fun e => hDD e)).trans hkDW
            refine ⟨by simp, .inl ⟨_, _, rfl, run_takeDeferred hK2W, by simp, .inl ⟨_, _, rfl, run_takeDeferred hk2, ?_⟩⟩⟩
            have ht := grownBy_putObj' (((X.setCell ⟨w.heap.size + 1, 0, none⟩ (.slice A' m cap')).setCell ⟨w.heap.size + 1 + 1, 0, none⟩ (.int .i64 0))) D2 (.deferred none)
            have ht2 := grownBy_putObj' ((((X.setCell ⟨w.heap.size + 1, 0, none⟩ (.slice A' m cap')).setCell ⟨w.heap.size + 1 + 1, 0, none⟩ (.int .i64 0))).putObj D2 (.deferred none)) D (.deferred none)
            have e2 := (b2.grown ht (by simp; omega)).grown ht2 (by simp; omega)
            have e3 := (b3.grown ht (by simp; omega)).grown ht2 (by simp; omega)
            have d2 := e2.cell 0
            have d3 := e3.cell 0
            have hOwn := (hown.setBelow (p := ⟨w.heap.size + 1, 0, none⟩) (by show w.heap.size + 1 < V2.heap.size; omega) (.slice A' m cap')).setBelow (p := ⟨w.heap.size + 1 + 1, 0, none⟩) (by show w.heap.size + 1 + 1 < V2.heap.size; omega) (.int .i64 0)
            have hOwn2 := (hOwn.turn (B := 0) ht (fun r e => ⟨Nat.zero_le _, _, by cases e; exact hK2W, rfl⟩)).turn (B := 0) ht2 (fun r e => ⟨Nat.zero_le _, _, by cases e; exact hk2, rfl⟩)
            have hBB := (((hbl.setCell (p := ⟨w.heap.size + 1, 0, none⟩) (by simp) (.slice A' m cap')).setCell (p := ⟨w.heap.size + 1 + 1, 0, none⟩) (by simp; omega) (.int .i64 0)).grown ht (fun k e => by cases e; omega)).grown ht2 (fun k e => by cases e; omega)
            refine ⟨.tuple #[.slice A' m cap', .int .i64 0], ?_, ⟨A', m, cap', by rw [HV.out], by rw [HV.out]; exact hOwn2.rd, hBB⟩⟩
            simp [results, Try.results39, go_sem, d2, d3]
          case stop2 =>
            rintro D2 c pre X hD2 hpre hX hK2
            obtain rfl := hX.jump
            have HV := Lib.hid (show unpS way ns = ([], 2) from unp_none HL.out HE0.out hw0 HCO.out (by rw [← HS0.out]; omega) (by rw [← runL_range]; exact runL_none hpre hX.bad))
            have hbl := hX.bl
            have hkD := hX.kD
            have r2x := hX.r2
            have r3x := hX.r3
            have l2x := r2x.lt
            have l3x := r3x.lt
            gi_wp2_with fail
            have hkDW := hkD
            have hK2W := hK2
            have b2 := r2x
            have b3 := r3x
            have hDD : D ≠ D2 := by omega
            have hk2 := (putObj_other X D2 D (.deferred none) (fun e => hDD e)).trans hkDW
            refine ⟨by simp, .inl ⟨_, _, rfl, run_takeDeferred hK2W, by simp, .inl ⟨_, _, rfl, run_takeDeferred hk2, ?_⟩⟩⟩
            have ht := grownBy_putObj' X D2 (.deferred none)
            have ht2 := grownBy_putObj' (X.putObj D2 (.deferred none)) D (.deferred none)
            have e2 := (b2.grown ht (by simp; omega)).grown ht2 (by simp; omega)
            have e3 := (b3.grown ht (by simp; omega)).grown ht2 (by simp; omega)
            have d2 := e2.cell 0
            have d3 := e3.cell 0
            have hBB := (hbl.grown ht (fun k e => by cases e; omega)).grown ht2 (fun k e => by cases e; omega)
            refine ⟨.tuple #[.slice none 0 0, .int .i64 2], ?_, ⟨none, 0, 0, by rw [HV.out], by rw [HV.out]; exact Rd.nil _ _ _ _, hBB⟩⟩
            simp [results, Try.results39, go_sem, d2, d3]
      case stop =>
        rintro D c pre W hD hpre hX hK
        obtain rfl := hX.jump
        have HV := Lib.hid (show unpS way ns = ([], 2) from unp_cnt HL.out HE0.out hw0 (okL_pre hpre hX.bad))
        have hB := hX.bl
        have r2' := hX.r2
        have r3' := hX.r3
        have l8 := r2'.lt
        have l9 := r3'.lt
        gi_wp2
        refine ⟨by simp, .inl ⟨_, _, rfl, run_takeDeferred hK, ?_⟩⟩
        have ht := grownBy_putObj' W D (.deferred none)
        have c6 := r2'.grown ht (by simp; omega)
        have c7 := r3'.grown ht (by simp; omega)
        have d0 := c6.cell 0
        have d7 := c7.cell 0
        have hBB := hB.grown ht (by omega) (fun k e => by cases e; omega)
        refine ⟨.tuple #[.slice none 0 0, .int .i64 2], ?_, ⟨none, 0, 0, by rw [HV.out], by rw [HV.out]; exact Rd.nil _ _ _ _, hBB⟩⟩
        simp [results, Try.results39, go_sem, d0, d7]
    · have hEb : (unpE way ns != 0) = true := by simpa using hE
      have HV := Lib.hid (unp_bad hE)
      go_wp2_with fail
      gi_wp2_with fail
      have b2 := (r22.set 0 (.slice none 0 0)).far (p := ⟨w.heap.size + 1 + 1, 0, none⟩) (by simp) (.int .i64 (unpE way ns))
      have b3 := (r32.far (p := ⟨w.heap.size + 1, 0, none⟩) (by simp) (.slice none 0 0)).set 0 (.int .i64 (unpE way ns))
      have d2 := b2.cell 0
      have d3 := b3.cell 0
      have nF := (hN2.setCell (p := ⟨w.heap.size + 1, 0, none⟩) (by simp) (.slice none 0 0)).setCell (p := ⟨w.heap.size + 1 + 1, 0, none⟩) (by show w.heap.size ≤ w.heap.size + 1 + 1; omega) (.int .i64 (unpE way ns))
      refine ⟨.tuple #[.slice none 0 0, .int .i64 (unpE way ns)], ?_, ⟨none, 0, 0, by rw [HV.out], by rw [HV.out]; exact Rd.nil _ _ _ _, nF⟩⟩
      simp [results, Try.results39, go_sem, d2, d3]
end Go.Proofs.Ytjpkcmlepjbamaa
