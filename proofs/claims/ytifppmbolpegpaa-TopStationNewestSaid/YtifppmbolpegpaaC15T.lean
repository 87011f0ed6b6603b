/- Contracts: slices.Grow and slices.Concat at records.
   Contract: slices.CompactFunc at records. -/
import Derived.BigQuiet
import Derived.BigRegion
import Derived.Deep.AppendLies
import Derived.Deep.Draws
import Derived.Deep.Quiet
import Derived.Deep.QuietTactic
import Derived.Laws.BitsAllLaws
import Derived.Lib.Hide
import Derived.Lib.SliceRun
import Derived.OrdersIn
import Derived.OwnWalkIn
import Derived.RangeFuncCalls
import Derived.Shelf.GgSortFunc.InsertionK
import Derived.Shelf.SlSortCmp.Insertion
import Derived.Shelf.SlSortCmp.QuietGrown
import Derived.Shelf.Spec.SlicesGrow
import Derived.StillTail
import Derived.TacticsIn
import Derived.Test.YtifppmbolpegpaaProg
import Derived.WalkKit
import Derived.WalkLawsBesides
import Derived.WalkSpells
import Derived.Test.YtifppmbolpegpaaC15R
import Derived.Test.YtifppmbolpegpaaC15S

namespace Go.Proofs.Ytifppmbolpegpaa
open Go.RowKit Go.Sky Go.Sort Go.Shelf

def growLay_ren : Go.Shelf.Ren := ⟨fun | 4 => 83 | n => n, fun | 22 => 41 | 25 => 50 | 3 => 3 | 4 => 4 | 9 => 9 | 20 => 20 | 0 => 0 | n => n, fun | n => n⟩
theorem growLay : Go.Proofs.Lays8.n4 Try.prog growLay_ren := {
  mixed := by kernel_rfl
  f4 := ⟨Try.f83.name, by decide, Try.func83.trans (congrArg some (by kernel_rfl))⟩
  t0 := Try.underlying0
  a0 := Try.isAgg0
  z0 := Try.sizeOf0
  v0 := Try.zeroValue0
  t3 := Try.underlying3
  a3 := Try.isAgg3
  z3 := Try.sizeOf3
  v3 := Try.zeroValue3
  t4 := Try.underlying4
  a4 := Try.isAgg4
  z4 := Try.sizeOf4
  v4 := Try.zeroValue4
  t9 := Try.underlying9
  a9 := Try.isAgg9
  z9 := Try.sizeOf9
  v9 := Try.zeroValue9
  t20 := Try.underlying20
  a20 := Try.isAgg20
  z20 := Try.sizeOf20
  v20 := Try.zeroValue20
  t22 := Try.underlying41
  a22 := Try.isAgg41
  z22 := Try.sizeOf41
  v22 := Try.zeroValue41 }
theorem growRec (n : Nat) (w : World) (hn : n ≤ 1000000) :
    Calls Try.prog 83 #[.slice none 0 0, .int .i64 (n : Int)] w fun e w' =>
      ∃ A' cap', e = .returned (.slice A' 0 cap') ∧ Sky.Own w' w.heap.size 50 3 encRec A' 0 cap' [] ∧ New w w' := by
  rcases Nat.eq_zero_or_pos n with h0 | h0
  · subst h0
    refine (Any8.slices_Grow_room growLay none 0 0 0 w (by omega) (by omega) (by omega) (by omega)).mono ?_
    rintro e w' ⟨rfl, rfl⟩
    exact ⟨none, 0, rfl, Sky.Own.nil _ _ _ _ encRec_len, New.refl _⟩
  · obtain ⟨i0, hi, hz0, hz1, hz2⟩ := info_parts infoRec
    refine (Any8.slices_Grow_grow growLay i0 _ hi hz0 (by omega) none 0 0 n [] w (by omega) (by omega) (by rw [hz2]; omega) (by omega) (by simp) (fun _ => rfl) (fun a h => by cases h)).mono ?_
    rintro e w' ⟨rfl, rfl⟩
    refine ⟨_, _, rfl, ⟨rfl, encRec_len, rfl, .inr ⟨w.heap.size, _, _, rfl, Nat.le_refl _, heap_alloc_new w.drew _, Nat.zero_le _, ?_, ?_, by simp⟩⟩, ((New.refl w).drew).alloc _⟩
    · exact grownCap_le_maxLen w (0 + n) 0 _ (by simp [maxLen]; omega)
    · have hge := grownCap_ge w (0 + n) 0 50
      simp [size_zeroCells]
      have h3 : (Value.agg #[Value.string ByteArray.empty, Value.int IntKind.i64 0, Value.string ByteArray.empty]).cells.size = 3 := rfl
      rw [h3]
      rw [Nat.zero_add] at hge
      have hge' : n ≤ grownCap w n 0 (growLay_ren.t 25) := hge
      omega

/-- A row of records, as a slice's head. -/
structure RowV where
  A : Option Addr
  n : Nat
  c : Nat
  xs : List Sky.Rec
def encV (r : RowV) : List Value := [.slice r.A r.n r.c]
def total (l : List RowV) : Nat := (l.map fun r => r.n).sum
def flat (l : List RowV) : List Sky.Rec := l.flatMap fun r => r.xs
theorem flat_total {w : World} : ∀ {l : List RowV}, (∀ r ∈ l, Rd w 3 encRec r.A r.n r.xs) → (flat l).length = total l
  | [], _ => rfl
  | r :: l, h => by
    have h1 := (h r (by simp)).len
    have h2 := flat_total (l := l) fun q hq => h q (by simp [hq])
    simp only [flat, total, List.flatMap_cons, List.map_cons, List.sum_cons, List.length_append] at *
    omega
theorem total_snoc (l : List RowV) (r : RowV) : total (l ++ [r]) = total l + r.n := by simp [total]
theorem flat_snoc (l : List RowV) (r : RowV) : flat (l ++ [r]) = flat l ++ r.xs := by simp [flat]
theorem total_take : ∀ (l : List RowV) (k : Nat), total (l.take k) ≤ total l
  | [], k => by simp
  | r :: l, 0 => by simp [total]
  | r :: l, k + 1 => by
    have := total_take l k
    simp only [total, List.take_succ_cons, List.map_cons, List.sum_cons] at *
    omega

set_option maxRecDepth 100000 in
set_option maxHeartbeats 4000000 in
theorem concat_any (S : Option Addr) (cnt cap : Nat) (rows : List RowV) (w : World) (hn : cnt ≤ 1000) (hR : Rd w 1 encV S cnt rows) (hr : ∀ r ∈ rows, Rd w 3 encRec r.A r.n r.xs) (hs : total rows ≤ 1000) :
    Calls Try.prog 47 #[.slice S cnt cap] w fun e w' =>
      ∃ A' n' cap', e = .returned (.slice A' n' cap') ∧ Sky.Own w' w.heap.size 50 3 encRec A' n' cap' (flat rows) ∧ New w w' := by
  obtain ⟨i0, hi, hz0, hz1, hz2⟩ := info_parts infoRec
  have HL := Lib.hid hR.len
  have HR := Lib.hid hR; clear hR
  have HX := Lib.hid hr; clear hr
  have HT := Lib.hid hs; clear hs
  go_enter Try.func47, Try.ntmps47
  go_wp2_with fail
  go_loopw [3, 5, 11] (fun s _ i wr => ∃ k t : Nat, k ≤ cnt ∧ i = .int .i64 (k : Int) ∧ s = .int .i64 (t : Int) ∧ Hid (t = total (rows.take k)) ∧ New w wr) (fun _ _ i _ => cnt - (intOf i).toNat)
  case atStart => exact ⟨0, 0, by omega, rfl, rfl, Lib.hid rfl, New.refl _⟩
  case round =>
    obtain ⟨k, t, hk, rfl, rfl, HF, hN⟩ := hrel
    by_cases hlt : k < cnt
    · obtain ⟨b, o, x, rfl, hb, hx, hc⟩ := (HR.out.keep hN).at_ hlt
      have g0 := hc 0 _ rfl
      simp only [Nat.add_zero, Nat.mul_one] at g0
      have hst : t + x.n = total (rows.take (k + 1)) := by rw [take_snoc rows k x hx, total_snoc, HF.out]
      have hle : t + x.n ≤ 1000 := by rw [hst]; exact Nat.le_trans (total_take rows _) HT.out
      have HST := Lib.hid hst
      have i0' : (0 : Int) ≤ (k : Int) := by omega
      have i1' : (k : Int) < (cnt : Int) := by omega
      have d0 : decide ((t : Int) + (x.n : Int) < 0) = false := decide_eq_false (by omega)
      clear hst HF hx hc
      go_wp2_with fail
      go_roundw
      case rel => exact ⟨k + 1, t + x.n, by omega, by go_num, by go_num, HST, hN⟩
      case measure => simp [intOf]; omega
    · have hkc : cnt = k := by omega
      subst hkc
      have hle : t ≤ 1000 := by rw [HF.out]; exact Nat.le_trans (total_take rows _) HT.out
      go_wp2_with (go_at_call 83; refine (growRec t _ (by omega)).mono ?_; rintro e w2 ⟨A2, c2, rfl, ho2, n2⟩)
      have hN2 := hN.trans n2
      have HO2 := Lib.hid (ho2.base_le hN.size)
      clear ho2 HF
      go_loopw [6, 8, 27] (fun s _ i wr => ∃ (k : Nat) (A : Option Addr) (n c : Nat), k ≤ cnt ∧ i = .int .i64 (k : Int) ∧ s = .slice A n c ∧ Hid (Sky.Own wr w.heap.size 50 3 encRec A n c (flat (rows.take k))) ∧ New w wr) (fun _ _ i _ => cnt - (intOf i).toNat)
      case atStart => exact ⟨0, A2, 0, c2, by omega, rfl, rfl, HO2, hN2⟩
      case round =>
        clear HO2 hN hN2 n2
        obtain ⟨k, A, n, c, hk, rfl, rfl, HO, hN⟩ := hrel
        by_cases hlt : k < cnt
        · obtain ⟨b, o, x, rfl, hb, hx, hc⟩ := (HR.out.keep hN).at_ hlt
          have g0 := hc 0 _ rfl
          simp only [Nat.add_zero, Nat.mul_one] at g0
          have hst : flat (rows.take k) ++ x.xs = flat (rows.take (k + 1)) := by rw [take_snoc rows k x hx, flat_snoc]
          have hlen : n + x.n ≤ 1000 := by
            have h1 := HO.out.len
            have h2 := (HX.out x (List.mem_of_getElem? hx)).len
            have h3 := flat_total (w := w) (l := rows.take (k + 1)) fun r hr => HX.out r (List.mem_of_mem_take hr)
            have h4 := total_take rows (k + 1)
            have h5 := HT.out
            rw [← hst, List.length_append] at h3
            omega
          have HST := Lib.hid hst
          have HXX := Lib.hid ((HX.out x (List.mem_of_getElem? hx)).keep hN)
          have i0' : (0 : Int) ≤ (k : Int) := by omega
          have i1' : (k : Int) < (cnt : Int) := by omega
          clear hst hx hc
          go_wp2_with (at_builtin; refine wpList_pour _ rfl _ _ 41 rfl 50 i0 _ 3 40 Try.underlying41 hi hz0 hz1 hz2 rfl (by omega) w.heap.size encRec _ _ _ _ rfl HO.out _ _ _ _ rfl HXX.out encRec_one (by simp [maxLen]; omega) (by omega) hN.size ?_; intro A3 cap3 w3 hown3 hgr3 hN3)
          have n3 := hN3 w hN (Nat.le_refl _)
          rw [HST.out] at hown3
          have HO3 := Lib.hid hown3
          clear hown3 hgr3 hN3
          go_wp2_with fail
          go_roundw
          case rel => exact ⟨k + 1, A3, n + x.n, cap3, by omega, by go_num, rfl, HO3, n3⟩
          case measure => simp [intOf]; omega
        · have HO3 := Lib.hid (show Sky.Own wr w.heap.size 50 3 encRec A n c (flat rows) by have := HO.out; rwa [List.take_of_length_le (by rw [HL.out]; omega)] at this)
          go_wp2_with fail
          go_ret
          exact ⟨A, n, c, rfl, HO3.out, hN⟩
end Go.Proofs.Ytifppmbolpegpaa

namespace Go.Proofs.Ytifppmbolpegpaa
open Go.RowKit Go.Sky Go.Sort

theorem new_grown' {w W : World} {row : Option Nat} (h : New w W) : w.grownBy W row := ⟨h.os, h.tape, h.output, h.size, fun k hk _ => h.block k hk⟩
theorem grown_set' {w W : World} {g : Nat} (h : w.grownBy W (some g)) (o : Nat) (u : Value) : w.grownBy (W.setCell ⟨g, o, none⟩ u) (some g) :=
  ⟨h.os, h.tape, h.output, by simpa using h.size, fun k hk hne => (Below.heap_setCell W ⟨g, o, none⟩ u k (fun e => hne (congrArg some e))).trans (h.block k hk hne)⟩

/-- A record stored into an owned row. -/
theorem own_put3 {w : World} {base e n cap g : Nat} {xs : List Sky.Rec} (h : Sky.Own w base e 3 encRec (some ⟨g, 0, none⟩) n cap xs) (j : Nat) (y : Sky.Rec) (hj : j < n) :
    Sky.Own (w.setCells g (j * 3) (encRec y)) base e 3 encRec (some ⟨g, 0, none⟩) n cap (xs.set j y) := by
  have hl : j < xs.length := by rw [h.len]; exact hj
  have h0 := h.setAt j 0 xs[j] ⟨y.n, xs[j].v, xs[j].b⟩ (.string y.n) (List.getElem?_eq_getElem hl) rfl (by omega) (j * 3) (by omega)
  have h1 := h0.setAt j 1 ⟨y.n, xs[j].v, xs[j].b⟩ ⟨y.n, y.v, xs[j].b⟩ (.int .i64 y.v) (by simp [hl]) rfl (by omega) (j * 3 + 1) (by omega)
  have h2 := h1.setAt j 2 ⟨y.n, y.v, xs[j].b⟩ y (.string y.b) (by simp [hl]) rfl (by omega) (j * 3 + 1 + 1) (by omega)
  rw [List.set_set, List.set_set] at h2
  exact h2
theorem grown_cells {w : World} {g : Nat} : ∀ (l : List Value) (W : World) (o : Nat), w.grownBy W (some g) → w.grownBy (W.setCells g o l) (some g)
  | [], _, _, h => h
  | u :: l, _, o, h => grown_cells l _ (o + 1) (grown_set' h o u)
theorem own_beyonds {α : Type} {base e k n cap : Nat} {enc : α → List Value} {g : Nat} {xs : List α} : ∀ (l : List Value) (w : World) (o : Nat), Sky.Own w base e k enc (some ⟨g, 0, none⟩) n cap xs → n * k ≤ o → Sky.Own (w.setCells g o l) base e k enc (some ⟨g, 0, none⟩) n cap xs
  | [], _, _, h, _ => h
  | u :: l, w, o, h, ho => own_beyonds l _ (o + 1) (own_beyond h o u ho) (by omega)

theorem zero_rec (W : World) : (zeroValue 50).run Try.prog W = .ok (.agg #[.string .empty, .int .i64 0, .string .empty]) W := by
  kernel_rfl
theorem zero_one (m : Nat) : ∀ v ∈ (Builtin.zeroCells (Value.agg #[.string .empty, .int .i64 0, .string .empty]).cells m).toList, v.oneCell' = true := by
  intro v hv
  unfold Builtin.zeroCells at hv
  simp only [Array.toList_map, List.mem_map] at hv
  obtain ⟨i, _, rfl⟩ := hv
  have h3 : (Value.agg #[Value.string ByteArray.empty, Value.int IntKind.i64 0, Value.string ByteArray.empty]).cells = #[.string .empty, .int .i64 0, .string .empty] := rfl
  rw [h3]
  have : i % 3 < 3 := Nat.mod_lt _ (by decide)
  show ((#[Value.string .empty, .int .i64 0, .string .empty] : Array Value)[i % 3]!).oneCell' = true
  rcases (show i % 3 = 0 ∨ i % 3 = 1 ∨ i % 3 = 2 by omega) with h | h | h <;> rw [h] <;> rfl
/-- 'clear' of m records. -/
theorem clear_recs (w : World) (ty : TypeId) (b o m c : Nat) (hm : 0 < m) (hc : ∀ j, j < m * 3 → (w.cell? ⟨b, o + j, none⟩).isSome = true) (hf : ∀ j, j < m * 3 → w.frozen? ⟨b, o + j, none⟩ = false) :
    ∃ l, (Builtin.clear_ #[41] ty #[.slice (some ⟨b, o, none⟩) m c]).run Try.prog w = .ok (.tuple #[]) (w.setCells b o l) := by
  obtain ⟨q, rfl⟩ : ∃ q, m = q + 1 := ⟨m - 1, by omega⟩
  obtain ⟨z, hz, hz3, hz1⟩ : ∃ z : Value, (∀ W, (zeroValue 50).run Try.prog W = .ok z W) ∧ (∀ m, (Builtin.zeroCells z.cells m).toList.length = m * 3) ∧ ∀ m, ∀ v ∈ (Builtin.zeroCells z.cells m).toList, v.oneCell' = true :=
    ⟨_, zero_rec, fun m => by rw [Array.length_toList, size_zeroCells]; rfl, zero_one⟩
  have hst := run_storeCells_cells (P := Try.prog) b o (Builtin.zeroCells z.cells (q + 1)).toList 0 w (fun j hj => by rw [Nat.add_zero]; exact hc j (by rw [hz3] at hj; exact hj)) (fun j hj => by rw [Nat.add_zero]; exact hf j (by rw [hz3] at hj; exact hj)) (hz1 (q + 1))
  simp only [Nat.add_zero] at hst
  refine ⟨(Builtin.zeroCells z.cells (q + 1)).toList, ?_⟩
  simp [Builtin.clear_, run_underlying Try.underlying41, hz, hst]
theorem nameYes {x y : Sky.Rec} {c : Bool} (h : (x.n.toList == y.n.toList) = c) (W : World) :
    Calls Try.prog 54 #[.agg #[.string x.n, .int .i64 x.v, .string x.b], .agg #[.string y.n, .int .i64 y.v, .string y.b]] W fun e w' => e = .returned (.bool c) ∧ New W w' := h ▸ nameClos x y W

set_option maxRecDepth 100000 in
set_option maxHeartbeats 4000000 in
theorem compact_any (xs : List Sky.Rec) (A : Option Addr) (n cap base : Nat) (w : World) (hm : n ≤ 1000) (ho : Sky.Own w base 50 3 encRec A n cap xs) :
    Calls Try.prog 53 #[.slice A n cap, .func (.func 54) #[] #[]] w fun e w' =>
      ∃ m, e = .returned (.slice A m cap) ∧ Sky.Own w' base 50 3 encRec A m cap (firsts xs n) ∧ w.grownBy w' (A.map (·.block)) := by
  by_cases h2 : n < 2
  · have hf : firsts xs n = xs := by
      have hl := ho.len
      rcases (show n = 0 ∨ n = 1 by omega) with rfl | rfl
      · rw [List.eq_nil_of_length_eq_zero hl]; rfl
      · have := firsts_one (List.getElem?_eq_getElem (l := xs) (i := 0) (by omega))
        rw [this, List.take_of_length_le (by omega)]
    have HO := Lib.hid ho
    clear ho
    go_enter Try.func53, Try.ntmps53
    go_wp2_with fail
    go_ret
    exact ⟨n, rfl, by rw [hf]; exact HO.out, World.grownBy.refl _ _⟩
  obtain ⟨g, rfl, hbg, hgw, hnc, hcm⟩ : ∃ g, A = some ⟨g, 0, none⟩ ∧ base ≤ g ∧ g < w.heap.size ∧ n ≤ cap ∧ cap ≤ maxLen := by
    rcases ho.form with ⟨_, h, _⟩ | h
    · omega
    · exact h
  have HL := Lib.hid ho.len
  have hl := ho.len
  have HO := Lib.hid ho
  have hf1 := firsts_one (List.getElem?_eq_getElem (l := xs) (i := 0) (by omega))
  have HF1 := Lib.hid hf1
  clear ho hl hf1
  go_enter Try.func53, Try.ntmps53
  go_wp2_with fail
  go_loopw [5] (fun i wr => ∃ p : Nat, p + 1 ≤ n ∧ i = .int .i64 ((p : Int) + 1) ∧ Hid (firsts xs (p + 1) = xs.take (p + 1)) ∧ New w wr) (fun i _ => n - (intOf i).toNat)
  case atStart => exact ⟨0, by omega, rfl, HF1, New.refl _⟩
  case round =>
    clear HF1
    obtain ⟨p, hp, rfl, HF, hN⟩ := hrel
    by_cases hlt : p + 1 < n
    · have ho := HO.out.keep hN
      obtain ⟨b, o, x, hA, hb, hx, hc⟩ := ho.rd.at_ (i := p + 1) hlt
      injection hA with hA
      injection hA with hA1 hA2
      subst hA1 hA2
      obtain ⟨b', o', y, hA, hb', hy, hc'⟩ := ho.rd.at_ (i := p) (by omega)
      injection hA with hA
      injection hA with hA1 hA2
      subst hA1 hA2
      have g0 := hc 0 _ rfl
      have g1 := hc 1 _ rfl
      have g2 := hc 2 _ rfl
      have k0 := hc' 0 _ rfl
      have k1 := hc' 1 _ rfl
      have k2 := hc' 2 _ rfl
      simp only [Nat.zero_add, Nat.add_zero] at g0 g1 g2 k0 k1 k2
      have j0 : (0 : Int) ≤ (p : Int) + 1 := by omega
      have j1 : (p : Int) + 1 < (n : Int) := by omega
      have j2 : (0 : Int) ≤ (p : Int) := by omega
      have j3 : (p : Int) < (n : Int) := by omega
      have HB := Lib.hid (show x.n.toList = y.n.toList → starts xs (p + 1) = false from fun e => starts_no (by omega) hx hy e)
      have HB' := Lib.hid (show x.n.toList ≠ y.n.toList → starts xs (p + 1) = true from fun e => starts_yes hx hy e)
      have HX := Lib.hid hx
      clear hx hy hc hc' ho
      by_cases hq : x.n.toList = y.n.toList
      · have hqb : (x.n.toList == y.n.toList) = true := beq_iff_eq.2 hq
        have HC := Lib.hid hqb
        have HS := Lib.hid (HB.out hq)
        clear HB HB' hq hqb
        go_wp2
        (refine wp_region_new (by kernel_rfl) (by kernel_rfl) ?_; (repeat (go_big_quiet_step (((go_at_call 54; exact quiet_new (nameYes HC.out _)))))); refine wpQuiet_nil ?_)
        intro w2 n2
        go_wp2
        have hN2 := hN.trans n2
        obtain ⟨d, hd⟩ : ∃ d, n - (p + 1) = d := ⟨_, rfl⟩
        obtain ⟨c2, hc2⟩ : ∃ d, cap - (p + 1) = d := ⟨_, rfl⟩
        rw [hd, hc2]
        have HF2 := Lib.hid (firsts_no HS.out)
        have hF0 : (firsts xs (p + 1)).length = p + 1 := by rw [HF.out, List.length_take, HL.out]; omega
        have HR0 := Lib.hid (show Sky.Own w2 base 50 3 encRec (some ⟨g, 0, none⟩) n cap (rowM xs (p + 1 + (0 + 1))) by
          have e : rowM xs (p + 1 + (0 + 1)) = xs := by
            rw [Nat.zero_add, ← rowM_no HS.out]
            exact rowM_start HF.out (by rw [HL.out]; exact hp)
          rw [e]
          exact HO.out.keep hN2)
        have HK0 := Lib.hid (show p + 1 = (firsts xs (p + 1 + (0 + 1))).length by rw [Nat.zero_add, HF2.out, hF0])
        have HG0 := Lib.hid (new_grown' (row := some g) hN2)
        clear hF0 HF2 HS HC HX g0 g1 g2 k0 k1 k2 hN n2 hN2 HF
        go_loopw [5, 7] (fun vk v wr => ∃ q kk : Nat, q + 1 ≤ d ∧ vk = .int .i64 (kk : Int) ∧ v = .int .i64 ((q : Int) + 1) ∧ Hid (kk = (firsts xs (p + 1 + (q + 1))).length) ∧ kk + 1 ≤ p + 1 + (q + 1) ∧
          Hid (Sky.Own wr base 50 3 encRec (some ⟨g, 0, none⟩) n cap (rowM xs (p + 1 + (q + 1)))) ∧ Hid (w.grownBy wr (some g))) (fun _ v _ => d - (intOf v).toNat)
        case atStart => exact ⟨0, p + 1, by omega, by go_num, rfl, HK0, by omega, HR0, HG0⟩
        case round =>
          clear HK0 HR0 HG0
          obtain ⟨q, kk, hqd, rfl, rfl, HK, hkk, HR, HG⟩ := hrel
          by_cases hlt2 : q + 1 < d
          · have ho := HR.out
            obtain ⟨b, o, x, hA, hb, hx, hc⟩ := ho.rd.at_ (i := p + 1 + (q + 1)) (by omega)
            injection hA with hA
            injection hA with hA1 hA2
            subst hA1 hA2
            obtain ⟨b', o', y, hA, hb', hy, hc'⟩ := ho.rd.at_ (i := p + 1 + q) (by omega)
            injection hA with hA
            injection hA with hA1 hA2
            subst hA1 hA2
            have g0 := hc 0 _ rfl
            have g1 := hc 1 _ rfl
            have g2 := hc 2 _ rfl
            have k0 := hc' 0 _ rfl
            have k1 := hc' 1 _ rfl
            have k2 := hc' 2 _ rfl
            simp only [Nat.zero_add, Nat.add_zero] at g0 g1 g2 k0 k1 k2
            rw [show (p + 1 + (q + 1)) * 3 = (p + 1) * 3 + (q + 1) * 3 by omega] at g0 g1 g2
            rw [show (p + 1 + q) * 3 = (p + 1) * 3 + q * 3 by omega] at k0 k1 k2
            have j0 : (0 : Int) ≤ (q : Int) + 1 := by omega
            have j1 : (q : Int) + 1 < (d : Int) := by omega
            have j2 : (0 : Int) ≤ (q : Int) := by omega
            have j3 : (q : Int) < (d : Int) := by omega
            rw [rowM_get (i := p + 1 + (q + 1)) (by rw [← HK.out]; omega)] at hx
            rw [rowM_get (i := p + 1 + q) (by rw [← HK.out]; omega)] at hy
            have HB := Lib.hid (show x.n.toList = y.n.toList → starts xs (p + 1 + (q + 1)) = false from fun e => starts_no (by omega) hx hy e)
            have HB' := Lib.hid (show x.n.toList ≠ y.n.toList → starts xs (p + 1 + (q + 1)) = true from fun e => starts_yes hx hy e)
            have HX := Lib.hid hx
            clear hx hy hc hc' ho
            by_cases hq : x.n.toList = y.n.toList
            · have HC := Lib.hid (show (x.n.toList == y.n.toList) = true from beq_iff_eq.2 hq)
              have HS := Lib.hid (HB.out hq)
              clear HB HB' hq
              go_wp2
              (refine wp_region_new (by kernel_rfl) (by kernel_rfl) ?_; (repeat (go_big_quiet_step (((go_at_call 54; exact quiet_new (nameYes HC.out _)))))); refine wpQuiet_nil ?_)
              intro w3 n3
              go_wp2
              go_roundw
              case rel => exact ⟨q + 1, kk, by omega, rfl, by go_num, Lib.hid (by rw [HK.out]; rw [← Nat.add_assoc (p + 1) (q + 1) 1, firsts_no HS.out]), by omega, Lib.hid (by rw [← Nat.add_assoc (p + 1) (q + 1) 1, ← rowM_no HS.out]; exact HR.out.keep n3), Lib.hid (World.grownBy.trans HG.out (new_grown' n3))⟩
              case measure => simp [intOf]; omega
            · have HC := Lib.hid (show (x.n.toList == y.n.toList) = false from beq_eq_false_iff_ne.2 hq)
              have HS := Lib.hid (HB'.out hq)
              clear HB HB' hq
              go_wp2
              (refine wp_region_new (by kernel_rfl) (by kernel_rfl) ?_; (repeat (go_big_quiet_step (((go_at_call 54; exact quiet_new (nameYes HC.out _)))))); refine wpQuiet_nil ?_)
              intro w3 n3
              have HR3 := Lib.hid (HR.out.keep n3)
              have h0 := n3.cell g0
              have h1 := n3.cell g1
              have h2 := n3.cell g2
              obtain ⟨r0, f0⟩ := own_room HR3.out (kk * 3) (by omega)
              obtain ⟨r1, f1⟩ := own_room HR3.out (kk * 3 + 1) (by omega)
              obtain ⟨r2, f2⟩ := own_room HR3.out (kk * 3 + 2) (by omega)
              obtain ⟨u0, r0⟩ := Option.isSome_iff_exists.1 r0
              obtain ⟨u1, r1⟩ := Option.isSome_iff_exists.1 r1
              obtain ⟨u2, r2⟩ := Option.isSome_iff_exists.1 r2
              have l0 : (0 : Int) ≤ (kk : Int) := by omega
              have l1 : (kk : Int) < (n : Int) := by omega
              clear g0 g1 g2 k0 k1 k2
              have o4 := own_put3 HR3.out kk x (by omega)
              have hst := rowM_yes HS.out HX.out
              rw [← HK.out] at hst
              rw [hst] at o4
              have HO4 := Lib.hid o4
              have HG4 := Lib.hid (grown_cells (encRec x) w3 (kk * 3) (World.grownBy.trans HG.out (new_grown' n3)))
              have HK4 := Lib.hid (show kk + 1 = (firsts xs (p + 1 + (q + 1) + 1)).length by rw [firsts_yes HS.out HX.out, List.length_append, ← HK.out]; rfl)
              clear o4 hst
              go_wp2
              go_roundw
              case rel => exact ⟨q + 1, kk + 1, by omega, by go_num, by go_num, HK4, by omega, HO4, HG4⟩
              case measure => simp [intOf]; omega
          · have hI : p + 1 + (q + 1) = n := by omega
            rw [hI] at HK HR
            have hkn : kk < n := by omega
            have o5 := own_cut HR.out kk (by omega)
            rw [show (rowM xs n).take kk = firsts xs n by rw [HK.out]; exact rowM_take xs n] at o5
            obtain ⟨l, hcl⟩ := clear_recs wr 0 g (kk * 3) (n - kk) (cap - kk) (by omega) (fun j hj => (own_room HR.out (kk * 3 + j) (by omega)).1) (fun j hj => (own_room HR.out (kk * 3 + j) (by omega)).2)
            have HCL := Lib.hid hcl
            have HO5 := Lib.hid (own_beyonds l wr (kk * 3) o5 (by omega))
            have HG5 := Lib.hid (grown_cells l wr (kk * 3) HG.out)
            have l0 : (0 : Int) ≤ (kk : Int) := by omega
            have l1 : (kk : Int) ≤ (n : Int) := by omega
            have l2 : (kk : Int) ≤ (cap : Int) := by omega
            have l3 : ¬ cap = kk := by omega
            clear o5 hcl HK HR HG
            go_wp2_with fail
            rw [HCL.out]
            generalize wr.setCells g (kk * 3) l = w5 at HO5 HG5 ⊢
            go_wp2
            go_ret
            exact ⟨kk, rfl, HO5.out, HG5.out⟩
      · have hqb : (x.n.toList == y.n.toList) = false := beq_eq_false_iff_ne.2 hq
        have HS := Lib.hid (HB'.out hq)
        have HC := Lib.hid hqb
        clear HB HB' hq hqb
        go_wp2
        (refine wp_region_new (by kernel_rfl) (by kernel_rfl) ?_; (repeat (go_big_quiet_step (((go_at_call 54; exact quiet_new (nameYes HC.out _)))))); refine wpQuiet_nil ?_)
        intro w2 n2
        go_wp2
        go_roundw
        case rel => exact ⟨p + 1, by omega, by go_num, Lib.hid (firsts_next HF.out HS.out HX.out), hN.trans n2⟩
        case measure => simp [intOf]; omega
    · have hpn : p + 1 = n := by omega
      have HV := Lib.hid (show firsts xs n = xs by rw [← hpn, HF.out, List.take_of_length_le (by rw [HL.out]; omega)])
      go_wp2_with fail
      go_ret
      exact ⟨n, rfl, by rw [HV.out]; exact HO.out.keep hN, new_grown' hN⟩
end Go.Proofs.Ytifppmbolpegpaa
