/- Laws for slices.Delete at items: clear of one item; an owned row cut, and read from its middle.
   Contract: slices.Delete of one item. -/
import Derived.BigQuiet
import Derived.BigRegion
import Derived.Deep.AppendLies
import Derived.Deep.Draws
import Derived.Deep.Quiet
import Derived.Deep.QuietTactic
import Derived.Laws.BitsAllLaws
import Derived.Lib.Hide
import Derived.Lib.SliceRun
import Derived.OrdersIn
import Derived.OwnWalkIn
import Derived.RangeFuncCalls
import Derived.StillTail
import Derived.TacticsIn
import Derived.Test.YteabmmibmopnkaaProg
import Derived.WalkKit
import Derived.WalkLawsBesides
import Derived.WalkSpells
import Derived.Test.YteabmmibmopnkaaC11L

namespace Go.Proofs.Yteabmmibmopnkaa
open Go.RowKit Go.Sky

def zeroI : List Value := [.string .empty, .int .i64 0, .int .i64 0, .int .i64 0]

/-- A cell behind the row's end. -/
theorem own_beyond {α : Type} {w : World} {base e k n cap : Nat} {enc : α → List Value} {g : Nat} {xs : List α} (h : Sky.Own w base e k enc (some ⟨g, 0, none⟩) n cap xs) (o : Nat) (u : Value) (ho : n * k ≤ o) :
    Sky.Own (w.setCell ⟨g, o, none⟩ u) base e k enc (some ⟨g, 0, none⟩) n cap xs := by
  refine ⟨h.1, h.2.1, ?_, ?_⟩
  · rw [flat_len h.2.1, h.1]
  · rcases h.2.2.2 with ⟨hv, _⟩ | ⟨g', c', cur, hv, hb, hg, hn, hm, hs, ht⟩
    · cases hv
    · right
      have hgg : g' = g := by injection hv with h1 _ _; injection h1 with h1; injection h1 with h1; exact h1.symm
      subst hgg
      refine ⟨g', c', cur.setIfInBounds o u, hv, hb, ?_, hn, hm, by simp [hs], ?_⟩
      · simp [World.setCell, Array.getElem?_modify, hg]
      · rw [← ht, Array.toList_setIfInBounds, List.take_set, List.set_eq_of_length_le]
        rw [List.length_take]
        omega

theorem flat_take {α : Type} {k : Nat} {enc : α → List Value} (hk : ∀ x, (enc x).length = k) : ∀ (xs : List α) (m : Nat), (xs.take m).flatMap enc = (xs.flatMap enc).take (m * k)
  | [], m => by simp
  | x :: xs, 0 => by simp
  | x :: xs, m + 1 => by
    rw [List.take_succ_cons, List.flatMap_cons, List.flatMap_cons, flat_take hk xs m, List.take_append, hk, List.take_of_length_le (l := enc x) (by rw [hk, Nat.add_mul]; omega)]
    rw [show (m + 1) * k - k = m * k by rw [Nat.add_mul]; omega]
theorem flat_drop {α : Type} {k : Nat} {enc : α → List Value} (hk : ∀ x, (enc x).length = k) : ∀ (xs : List α) (m : Nat), (xs.drop m).flatMap enc = (xs.flatMap enc).drop (m * k)
  | [], m => by simp
  | x :: xs, 0 => by simp
  | x :: xs, m + 1 => by
    rw [List.drop_succ_cons, List.flatMap_cons, flat_drop hk xs m, List.drop_append, hk, List.drop_of_length_le (l := enc x) (by rw [hk, Nat.add_mul]; omega)]
    rw [show (m + 1) * k - k = m * k by rw [Nat.add_mul]; omega, List.nil_append]
/-- The row cut: its first m elements. -/
theorem own_cut {α : Type} {w : World} {base e k n cap : Nat} {enc : α → List Value} {g : Nat} {xs : List α} (h : Sky.Own w base e k enc (some ⟨g, 0, none⟩) n cap xs) (m : Nat) (hm : m ≤ n) :
    Sky.Own w base e k enc (some ⟨g, 0, none⟩) m cap (xs.take m) := by
  have hl : (xs.take m).length = m := by rw [List.length_take, h.1]; omega
  refine ⟨hl, h.2.1, by rw [flat_len h.2.1, hl], ?_⟩
  rcases h.2.2.2 with ⟨hv, _⟩ | ⟨g', c', cur, hv, hb, hg, hn, hm', hs, ht⟩
  · cases hv
  · right
    injection hv with h1 h2 h3
    injection h1 with h1
    injection h1 with h1
    subst h1
    refine ⟨_, c', cur, by rw [h3], hb, hg, by omega, hm', hs, ?_⟩
    rw [flat_take h.2.1, ← ht, List.take_take, Nat.min_eq_left (Nat.mul_le_mul_right k hm)]

/-- A cell of the row. -/
theorem own_at {α : Type} {w : World} {base e k n cap : Nat} {enc : α → List Value} {g : Nat} {xs : List α} (h : Sky.Own w base e k enc (some ⟨g, 0, none⟩) n cap xs) (o : Nat) (u : Value) (hu : (xs.flatMap enc)[o]? = some u) : w.cell? ⟨g, o, none⟩ = some u := by
  rcases h.2.2.2 with ⟨hv, _⟩ | ⟨g', c', cur, hv, hb, hg, hn, hm', hs, ht⟩
  · cases hv
  · injection hv with h1 h2 h3
    injection h1 with h1
    injection h1 with h1
    subst h1
    rw [cell_of_row w g o cur _ (0, 0) hg]
    rw [← ht] at hu
    rw [List.getElem?_take] at hu
    split at hu
    · simpa using hu
    · cases hu

/-- A place of the row's room. -/
theorem own_room {α : Type} {w : World} {base e k n cap : Nat} {enc : α → List Value} {g : Nat} {xs : List α} (h : Sky.Own w base e k enc (some ⟨g, 0, none⟩) n cap xs) (o : Nat) (ho : o < cap * k) : (w.cell? ⟨g, o, none⟩).isSome = true ∧ w.frozen? ⟨g, o, none⟩ = false := by
  rcases h.2.2.2 with ⟨hv, _⟩ | ⟨g', c', cur, hv, hb, hg, hn, hm', hs, ht⟩
  · cases hv
  · injection hv with h1 h2 h3
    injection h1 with h1
    injection h1 with h1
    subst h1 h3
    refine ⟨?_, by simp [World.frozen?, hg]⟩
    rw [cell_of_row w g o cur _ (0, 0) hg, Array.getElem?_eq_getElem (by omega)]
    rfl

theorem zero_run (W : World) : (zeroValue 44).run Try.prog W = .ok (.agg #[.string .empty, .int .i64 0, .int .i64 0, .int .i64 0]) W := by
  kernel_rfl

/-- 'clear' of one item. -/
theorem clear_item (w : World) (ty : TypeId) (b o c : Nat) (hc : ∀ j, j < 4 → (w.cell? ⟨b, o + j, none⟩).isSome = true) (hf : ∀ j, j < 4 → w.frozen? ⟨b, o + j, none⟩ = false) :
    (Builtin.clear_ #[42] ty #[.slice (some ⟨b, o, none⟩) 1 c]).run Try.prog w = .ok (.tuple #[]) (w.setCells b o zeroI) := by
  have hst := run_storeCells_cells (P := Try.prog) b o zeroI 0 w (fun j hj => by rw [Nat.add_zero]; exact hc j hj) (fun j hj => by rw [Nat.add_zero]; exact hf j hj) (by intro v hv; simp [zeroI] at hv; rcases hv with rfl | rfl | rfl | rfl <;> rfl)
  simp only [Nat.add_zero] at hst
  have hz : (Builtin.zeroCells (Value.agg #[.string { data := #[] }, .int .i64 0, .int .i64 0, .int .i64 0]).cells 1).toList = zeroI := by simp [Builtin.zeroCells, zeroI, Value.cells, Array.range]; rfl
  simp [Builtin.clear_, run_underlying Try.underlying42, zero_run, hz, hst]
end Go.Proofs.Yteabmmibmopnkaa

namespace Go.Proofs.Yteabmmibmopnkaa
open Go.RowKit Go.Sky

theorem new_grown {w W : World} {row : Option Nat} (h : New w W) : w.grownBy W row := ⟨h.os, h.tape, h.output, h.size, fun k hk _ => h.block k hk⟩
theorem grown_set {w W : World} {g : Nat} (h : w.grownBy W (some g)) (o : Nat) (u : Value) : w.grownBy (W.setCell ⟨g, o, none⟩ u) (some g) :=
  ⟨h.os, h.tape, h.output, by simpa using h.size, fun k hk hne => (Below.heap_setCell W ⟨g, o, none⟩ u k (fun e => hne (congrArg some e))).trans (h.block k hk hne)⟩

set_option maxRecDepth 100000 in
set_option maxHeartbeats 2000000 in
theorem deleteM (xs : List Sky.Item) (g i m cap base : Nat) (w : World) (hi : i ≤ m) (hm : m ≤ 1000) (hg : base ≤ g) (ho : Sky.Own w base 44 4 encM (some ⟨g, 0, none⟩) (m + 1) cap xs) :
    Calls Try.prog 64 #[.slice (some ⟨g, 0, none⟩) (m + 1) cap, .int .i64 (i : Int), .int .i64 ((i : Int) + 1)] w fun e w' =>
      e = .returned (.slice (some ⟨g, 0, none⟩) m cap) ∧ Sky.Own w' base 44 4 encM (some ⟨g, 0, none⟩) m cap (xs.eraseIdx i) ∧ w.grownBy w' (some g) := by
  obtain ⟨i0, hi0, hz0, hz1, hz2⟩ := info_parts infoItem
  have hgw0 : g < w.heap.size := by
    rcases ho.form with ⟨h0, _⟩ | ⟨g', h0, _, h1, _⟩
    · cases h0
    · injection h0 with h0
      injection h0 with h0
      omega
  have hle := ho.le.1
  have hcap := ho.le.2
  have a0 : (0 : Int) ≤ (i : Int) := by omega
  have a1 : (i : Int) ≤ (i : Int) + 1 := by omega
  have a2 : (i : Int) + 1 ≤ (m : Int) + 1 := by omega
  have a3 : (m : Int) + 1 ≤ (cap : Int) := by omega
  have a4 : ((i : Int) == (i : Int) + 1) = false := by simp; omega
  have a5 : (i : Int) ≤ (cap : Int) := by omega
  go_enter Try.func64, Try.ntmps64
  go_wp2
  (refine wp_region_tail 6 (by kernel_rfl) (by kernel_rfl) ?_; simp only [List.take_succ_cons, List.take_zero, List.drop_succ_cons, List.drop_zero]; (repeat (go_big_quiet_step ((fail)))); refine wpQuiet_nil ?_)
  intro w2 n2
  have o2 := ho.keep n2
  have hxl := ho.len
  have hnl : ((xs.drop (i + 1)).flatMap encM).length = (m - i) * 4 := by
    rw [flat_len encM_len, List.length_drop, hxl]
    congr 1
    omega
  obtain ⟨ad, had, hcells⟩ : ∃ ad : Addr, (if cap = i + 1 then some (⟨g, 0, none⟩ : Addr) else some ⟨g, (i + 1) * 4, none⟩) = some ad ∧ ∀ j u, ((xs.drop (i + 1)).flatMap encM)[j]? = some u → w2.cell? (ad.add j) = some u := by
    by_cases hce : cap = i + 1
    · refine ⟨⟨g, 0, none⟩, by rw [if_pos hce], ?_⟩
      intro j u hu
      have hlt := (List.getElem?_eq_some_iff.1 hu).1
      rw [hnl] at hlt
      omega
    · refine ⟨⟨g, (i + 1) * 4, none⟩, by rw [if_neg hce], ?_⟩
      intro j u hu
      rw [flat_drop encM_len, List.getElem?_drop] at hu
      have h := own_at o2 _ u hu
      have e : (⟨g, (i + 1) * 4, none⟩ : Addr).add j = ⟨g, (i + 1) * 4 + j, none⟩ := by
        unfold Addr.add
        split
        · rename_i h0; rw [h0]; rfl
        · rfl
      rw [e]
      exact h
  rw [had]
  have HO2 := Lib.hid o2
  have HCL := Lib.hid hcells
  have HNL := Lib.hid hnl
  clear had hcells hnl ho o2
  refine wpList_append_fits w2 rfl _ _ 42 rfl base 44 i0 4 Try.underlying42 hi0 hz1 g i cap ((xs.take i).flatMap encM) rfl (own_cut HO2.out i (by omega)).row ad (m - i) (cap - (i + 1)) ((xs.drop (i + 1)).flatMap encM) rfl HNL.out HCL.out (by
    intro u hu
    rw [List.mem_flatMap] at hu
    obtain ⟨x, _, hx⟩ := hu
    exact encM_one x u hx) (by omega) (fun w4 hrow hgr => ?_)
  rw [show i + (m - i) = m by omega] at hrow ⊢
  have o4 : Sky.Own w4 base 44 4 encM (some ⟨g, 0, none⟩) m cap (xs.eraseIdx i) := by
    rw [List.eraseIdx_eq_take_drop_succ]
    refine ⟨by rw [List.length_append, List.length_take, List.length_drop, hxl]; omega, encM_len, ?_⟩
    rw [List.flatMap_append]
    exact hrow
  have B4 : w.grownBy w4 (some g) := World.grownBy.trans (new_grown n2) hgr
  have hroom : ∀ j, j < 4 → (w4.cell? ⟨g, m * 4 + j, none⟩).isSome = true ∧ w4.frozen? ⟨g, m * 4 + j, none⟩ = false := fun j hj => own_room o4 (m * 4 + j) (by omega)
  have o5 : Sky.Own (w4.setCells g (m * 4) zeroI) base 44 4 encM (some ⟨g, 0, none⟩) m cap (xs.eraseIdx i) := own_beyond (own_beyond (own_beyond (own_beyond o4 _ _ (by omega)) _ _ (by omega)) _ _ (by omega)) _ _ (by omega)
  have B5 : w.grownBy (w4.setCells g (m * 4) zeroI) (some g) := grown_set (grown_set (grown_set (grown_set B4 _ _) _ _) _ _) _ _
  have HO5 := Lib.hid o5
  have HB5 := Lib.hid B5
  have HCLR := Lib.hid (clear_item w4 0 g (m * 4) (cap - m) (fun j hj => (hroom j hj).1) (fun j hj => (hroom j hj).2))
  clear o4 o5 B4 B5 hroom hrow hgr
  go_wp2_with fail
  rw [HCLR.out]
  generalize w4.setCells g (m * 4) zeroI = w5 at HO5 HB5 ⊢
  go_wp2
  go_ret
  exact ⟨rfl, HO5.out, HB5.out⟩
end Go.Proofs.Yteabmmibmopnkaa
