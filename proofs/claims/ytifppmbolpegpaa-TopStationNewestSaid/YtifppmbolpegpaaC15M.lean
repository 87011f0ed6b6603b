/- Contracts: the order of records (the closure of Merged). -/
import Derived.BigQuiet
import Derived.BigRegion
import Derived.Deep.AppendLies
import Derived.Deep.Draws
import Derived.Deep.Quiet
import Derived.Deep.QuietTactic
import Derived.Laws.BitsAllLaws
import Derived.Lib.Hide
import Derived.Shelf.SlSortCmp.Insertion
import Derived.Shelf.SlSortCmp.QuietGrown
import Derived.StillTail
import Derived.Test.YtifppmbolpegpaaProg
import Derived.WalkKit
import Derived.WalkLawsBesides
import Derived.WalkSpells
import Derived.Test.YtifppmbolpegpaaC15D
import Derived.Test.YtifppmbolpegpaaC15L

namespace Go.Proofs.Ytifppmbolpegpaa
open Go.RowKit Go.Sky Go.Sort

theorem isNaNT_any (a : ByteArray) (w : World) : Calls Try.prog 86 #[.string a] w fun e w' => e = .returned (.bool false) ∧ w = w' := by
  have d : (a.toList != a.toList) = false := by simp
  go_enter Try.func86, Try.ntmps86
  go_wp2
  go_ret
  exact ⟨rfl, rfl⟩

theorem less_dec (s t : ByteArray) : Op.bytesLess s.toList t.toList = decide (s.toList < t.toList) := bytesLess_eq _ _
theorem cmpT_any (s t : ByteArray) (w : World) : Calls Try.prog 51 #[.string s, .string t] w fun e w' => e = .returned (.int .i64 (cmpT s t)) ∧ w = w' := by
  have e1 := less_dec s t
  have e2 := less_dec t s
  by_cases h : s.toList < t.toList
  · have HV := Lib.hid (show cmpT s t = -1 by unfold cmpT; rw [if_pos h])
    rw [decide_eq_true h] at e1
    clear h e2
    go_enter Try.func51, Try.ntmps51
    go_wp2_with (go_at_call 86; refine (isNaNT_any _ _).mono ?_; rintro e w' ⟨rfl, rfl⟩)
    go_ret
    exact ⟨by rw [HV.out]; rfl, rfl⟩
  · rw [decide_eq_false h] at e1
    by_cases k : t.toList < s.toList
    · have HV := Lib.hid (show cmpT s t = 1 by unfold cmpT; rw [if_neg h, if_pos k])
      rw [decide_eq_true k] at e2
      have dq : (s.toList == t.toList) = false := by
        rw [beq_eq_false_iff_ne]
        intro e
        rw [e] at k
        exact List.lt_irrefl _ k
      clear h k
      go_enter Try.func51, Try.ntmps51
      go_wp2_with (go_at_call 86; refine (isNaNT_any _ _).mono ?_; rintro e w' ⟨rfl, rfl⟩)
      go_ret
      exact ⟨by rw [HV.out]; rfl, rfl⟩
    · have HV := Lib.hid (show cmpT s t = 0 by unfold cmpT; rw [if_neg h, if_neg k])
      rw [decide_eq_false k] at e2
      have dq : (s.toList == t.toList) = true := by
        rw [beq_iff_eq]
        exact List.le_antisymm (List.not_lt.1 k) (List.not_lt.1 h)
      clear h k
      go_enter Try.func51, Try.ntmps51
      go_wp2_with (go_at_call 86; refine (isNaNT_any _ _).mono ?_; rintro e w' ⟨rfl, rfl⟩)
      go_ret
      exact ⟨by rw [HV.out]; rfl, rfl⟩

/-- A region that draws: a head of reads and calls (draws and blocks behind), a tail in one order. -/
theorem wp_region_grown_tail {P : Program} {id : Nat} {Q : Exit → Act → World → Prop} {a : Act} {w : World} {l : List Oper} (n : Nat) (hm : P.follows .mixedOrders = true) (hB : Region.lexTailB .any l.toArray n = true)
    (h : wpQuiet P l.toArray (fun w' => ∃ p : GrownBy, w' = grow (w.drewN p.n) p.os) (fun a' => ∀ w', (∃ p : GrownBy, w' = grow (w.drewN p.n) p.os) → wpList P l.toArray Q (l.drop n) a' w') (l.take n) a) : (Code.region id l.toArray true).wp P Q a w :=
  wp_region_qtail (fun w' => ∃ p : GrownBy, w' = grow (w.drewN p.n) p.os) n hm hB ⟨⟨1, #[]⟩, by rw [grow_empty]; rfl⟩ h
theorem grown_same {P : Program} {f : FuncId} {args : Array Value} {w : World} {n : Nat} {os : Array Obj} {v : Value}
    (h : Calls P f args (grow (w.drewN n) os) fun e w' => e = .returned v ∧ grow (w.drewN n) os = w') : Calls P f args (grow (w.drewN n) os) fun e w'' => e = .returned v ∧ ∃ p : GrownBy, w'' = grow (w.drewN p.n) p.os :=
  h.mono fun _ _ ⟨he, hq⟩ => ⟨he, ⟨n, os⟩, hq.symm⟩
theorem grow_drewN' (w : World) (os : Array Obj) (n : Nat) : (grow w os).drewN n = grow (w.drewN n) os := rfl

theorem grown_two (W : World) (o o' : Obj) (q : Nat) (os : Array Obj) : grow (((W.alloc o).alloc o').drewN q) os = grow (W.drewN q) ((#[o] ++ #[o']) ++ os) := by
  rw [alloc_eq_grow, alloc_eq_grow, grow_grow, grow_drewN', grow_grow]

set_option maxRecDepth 100000 in
set_option maxHeartbeats 2000000 in
theorem recClos (x y : Sky.Rec) (W : World) :
    Calls Try.prog 49 #[.agg #[.string x.n, .int .i64 x.v, .string x.b], .agg #[.string y.n, .int .i64 y.v, .string y.b]] W fun e w' => e = .returned (.int .i64 (cmpR x y)) ∧ ∃ q os', w' = grow (W.drewN q) os' := by
  have HV := Lib.hid (show cmpR x y = firstE [cmpT x.n y.n, cmpI y.v x.v, cmpT y.b x.b] from rfl)
  go_enter Try.func49, Try.ntmps49
  go_wp2
  generalize hX : World.alloc (World.alloc W _) _ = X
  have c0 : X.cell? ⟨W.heap.size, 0, none⟩ = some (.string x.n) := by subst hX; simp
  have c1 : X.cell? ⟨W.heap.size, 1, none⟩ = some (.int .i64 x.v) := by subst hX; simp
  have c2 : X.cell? ⟨W.heap.size, 2, none⟩ = some (.string x.b) := by subst hX; simp
  have d0 : X.cell? ⟨W.heap.size + 1, 0, none⟩ = some (.string y.n) := by subst hX; simp
  have d1 : X.cell? ⟨W.heap.size + 1, 1, none⟩ = some (.int .i64 y.v) := by subst hX; simp
  have d2 : X.cell? ⟨W.heap.size + 1, 2, none⟩ = some (.string y.b) := by subst hX; simp
  have HG := Lib.hid (show ∀ q os, ∃ q' os', grow (X.drewN q) os = grow (W.drewN q') os' by intro q os; rw [← hX, grown_two]; exact ⟨_, _, rfl⟩)
  have g0 := cell_grown (World.block_lt_of_cell? _ _ c0) c0
  have g1 := cell_grown (World.block_lt_of_cell? _ _ c1) c1
  have g2 := cell_grown (World.block_lt_of_cell? _ _ c2) c2
  have g3 := cell_grown (World.block_lt_of_cell? _ _ d0) d0
  have g4 := cell_grown (World.block_lt_of_cell? _ _ d1) d1
  have g5 := cell_grown (World.block_lt_of_cell? _ _ d2) d2
  clear hX c0 c1 c2 d0 d1 d2
  refine wp_region_grown_tail 15 (by kernel_rfl) (by kernel_rfl) ?_
  simp only [List.take_succ_cons, List.take_zero, List.drop_succ_cons, List.drop_zero]
  (repeat (go_big_quiet_step ((first | exact grown_same (cmpT_any _ _ _) | exact grown_same (cmpI_any _ _ _)))))
  refine wpQuiet_nil ?_
  rintro w1 ⟨p, rfl⟩
  clear g0 g1 g2 g3 g4 g5
  go_wp2_with (go_at_call 50; refine (or_any _ 3 3 [_, _, _] _ (by omega) rfl (cells_new _ _ _ _ (by simp) _ rfl)).mono ?_; rintro e w' ⟨rfl, rfl⟩; rw [← HV.out])
  go_ret
  refine ⟨rfl, ?_⟩
  obtain ⟨q', os', e⟩ := HG.out p.n p.os
  exact ⟨q', _, by rw [e, alloc_eq_grow, grow_grow]⟩
end Go.Proofs.Ytifppmbolpegpaa
