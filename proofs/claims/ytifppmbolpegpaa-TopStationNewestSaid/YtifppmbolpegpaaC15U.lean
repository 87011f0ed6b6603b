/- Contracts: the sort of an owned row of records; Merged.
   Contract: the reference's Merged.
   The walk of StationMerges. -/
import Derived.BigQuiet
import Derived.BigRegion
import Derived.Deep.AppendLies
import Derived.Deep.Draws
import Derived.Deep.Quiet
import Derived.Deep.QuietTactic
import Derived.Laws.BitsAllLaws
import Derived.Lib.Hide
import Derived.Lib.SliceRun
import Derived.OrdersIn
import Derived.OwnWalkIn
import Derived.RangeFuncCalls
import Derived.Shelf.GgSortFunc.InsertionK
import Derived.Shelf.SlSortCmp.Insertion
import Derived.Shelf.SlSortCmp.NoneTotal
import Derived.Shelf.SlSortCmp.QuietGrown
import Derived.Shelf.SlSortCmp.WholeK
import Derived.Shelf.Spec.SlicesGrow
import Derived.StillTail
import Derived.TacticsIn
import Derived.Test.YtifppmbolpegpaaProg
import Derived.WalkKit
import Derived.WalkLawsBesides
import Derived.WalkSpells
import Derived.Test.YtifppmbolpegpaaC15D
import Derived.Test.YtifppmbolpegpaaC15I
import Derived.Test.YtifppmbolpegpaaC15K
import Derived.Test.YtifppmbolpegpaaC15N
import Derived.Test.YtifppmbolpegpaaC15T

namespace Go.Proofs.Ytifppmbolpegpaa
open Go.RowKit Go.Sky Go.Sort

theorem sortOwn (xs : List Sky.Rec) (A : Option Addr) (n cap base : Nat) (w : World) (hn : n ≤ 1000) (ho : Sky.Own w base 50 3 encRec A n cap xs) :
    Calls Try.prog 48 #[.slice A n cap, .func (.func 49) #[] #[]] w fun e w' =>
      e = .returned (.tuple #[]) ∧ ∃ ys, Sky.Own w' base 50 3 encRec A n cap ys ∧ MergeOf xs (firsts ys n) ∧ w.grownBy w' (A.map (·.block)) := by
  rcases Nat.eq_zero_or_pos n with h0 | h0
  · subst h0
    have hx : xs = [] := List.eq_nil_of_length_eq_zero ho.len
    subst hx
    refine (AnyF.slices_SortFunc_none sortRec A cap _ w).mono ?_
    rintro e w' ⟨rfl, rfl⟩
    exact ⟨rfl, [], ho, MergeOf.nil, World.grownBy.refl _ _⟩
  · obtain ⟨g, rfl, hbg, hgw, hnc, hcm⟩ : ∃ g, A = some ⟨g, 0, none⟩ ∧ base ≤ g ∧ g < w.heap.size ∧ n ≤ cap ∧ cap ≤ maxLen := by
      rcases ho.form with ⟨_, h, _⟩ | h
      · omega
      · exact h
    have hs : xs.toArray.size = n := by simpa using ho.len
    have h := sortRec_any g 0 cap xs.toArray w (own_holds ho) hgw (by omega)
    rw [hs] at h
    refine h.mono ?_
    rintro e w' ⟨rfl, d', m, os, hp, hsd, rfl⟩
    have hz : d'.size = n := by rw [← hs]; rw [← hs] at hp; exact hp.1
    obtain ⟨h1, h2⟩ := own_sorted ho d' hz m os
    refine ⟨rfl, d'.toList, h1, ?_, h2⟩
    have hm := merge_array (d := xs.toArray) (d' := d') (by rw [hs]; exact hp) (by rw [hs]; exact hsd)
    rw [show d'.toList.length = n by simpa using hz] at hm
    exact hm

theorem rd_two (W : World) (T g : Nat) (r s : RowV) (hg : g = W.heap.size) : Rd (W.alloc (.cells #[.slice r.A r.n r.c, .slice s.A s.n s.c] T)) 1 encV (some ⟨g, 0, none⟩) 2 [r, s] := by
  subst hg
  refine ⟨rfl, fun _ => ⟨_, 0, rfl, by simp, fun i x hx j u hu => ?_⟩⟩
  have hb := Bx.mk W T #[.slice r.A r.n r.c, .slice s.A s.n s.c]
  rw [hb.cell]
  match j, hu with
  | 0, hu =>
    match i, hx with
    | 0, hx => injection hx with hx; subst hx; exact hu
    | 1, hx => injection hx with hx; subst hx; exact hu

def mergedE (a b : List Sky.Rec) : Int := if recsS a ≠ 0 then recsS a else if recsS b ≠ 0 then recsS b else if 30 < (mergeR (a ++ b)).length then 16 else 0
def mergedL (a b : List Sky.Rec) : List Sky.Rec := if mergedE a b = 0 then mergeR (a ++ b) else []
theorem mergedL_bad {a b : List Sky.Rec} (h : mergedE a b ≠ 0) : mergedL a b = [] := by unfold mergedL; rw [if_neg h]

set_option maxRecDepth 100000 in
set_option maxHeartbeats 4000000 in
theorem merged_any (A B : Option Addr) (n m ca cb : Nat) (a b : List Sky.Rec) (w : World) (hn : n ≤ 400) (hm : m ≤ 400) (hxa : ∀ x ∈ a, x.n.size ≤ 1000) (hxb : ∀ x ∈ b, x.n.size ≤ 1000)
    (hra : Rd w 3 encRec A n a) (hrb : Rd w 3 encRec B m b) :
    Calls Try.prog 18 #[.slice A n ca, .slice B m cb] w fun e w' => New w w' ∧ ∃ C c, e = .returned (.tuple #[.slice C (mergedL a b).length c, .int .i64 (mergedE a b)]) ∧ Rd w' 3 encRec C (mergedL a b).length (mergedL a b) := by
  have HRA := Lib.hid hra
  have HRB := Lib.hid hrb
  have HXA := Lib.hid hxa
  have HXB := Lib.hid hxb
  have HLA := Lib.hid hra.len
  have HLB := Lib.hid hrb.len
  clear hra hrb hxa hxb
  have HFE := Lib.hid (show firstE [recsS a, recsS b] = if recsS a ≠ 0 then recsS a else recsS b by
    rw [firstE_two]; by_cases h : recsS a = 0 <;> simp [h])
  obtain ⟨E, hE⟩ : ∃ E, firstE [recsS a, recsS b] = E := ⟨_, rfl⟩
  rw [hE] at HFE
  have HE := Lib.hid hE
  clear hE
  by_cases hz : E = 0
  · have b2 : (E != 0) = false := by simpa using hz
    have HZ := Lib.hid hz
    have hab : recsS a = 0 ∧ recsS b = 0 := by
      have h2 := HFE.out
      by_cases h : recsS a = 0
      · rw [if_neg (by simpa using h)] at h2
        exact ⟨h, by rw [← h2]; exact hz⟩
      · rw [if_pos h] at h2
        exact absurd (by rw [← h2]; exact hz) h
    have HM := Lib.hid (show mergedE a b = if 30 < (mergeR (a ++ b)).length then 16 else 0 by
      unfold mergedE
      rw [if_neg (by simpa using hab.1), if_neg (by simpa using hab.2)])
    clear hz hab
    go_enter Try.func18, Try.ntmps18
    go_wp2_with fail
    refine (recordsErr_any A n ca a _ (by omega) HXA.out HRA.out).mono ?_
    rintro e w1 ⟨rfl, n1⟩
    go_wp2_with fail
    refine (recordsErr_any B m cb b _ (by omega) HXB.out (HRB.out.keep n1)).mono ?_
    rintro e w2 ⟨rfl, n2⟩
    have n2 := n1.trans n2
    go_wp2_with (go_at_call 45; refine (first_any _ 2 2 [_, _] _ (by omega) rfl (cells_new _ _ _ _ (by simp) _ rfl)).mono ?_; rintro e w' ⟨rfl, rfl⟩; rw [HE.out])
    have hN3 := fun (o o' : Obj) => (n2.alloc o).alloc o'
    have HR2 := Lib.hid (fun W => rd_two W 41 (W.heap.size) ⟨A, n, ca, a⟩ ⟨B, m, cb, b⟩ rfl)
    have HN3 := Lib.hid hN3
    clear hN3
    refine (concat_any _ 2 2 [⟨A, n, ca, a⟩, ⟨B, m, cb, b⟩] _ (by omega) (by have h := HR2.out (w2.alloc (.cells #[.int .i64 (recsS a), .int .i64 (recsS b)] 30)); rw [World.size_alloc] at h; exact h) (by
      intro r hr
      simp only [List.mem_cons, List.not_mem_nil, or_false] at hr
      rcases hr with rfl | rfl
      · exact HRA.out.keep (HN3.out _ _)
      · exact HRB.out.keep (HN3.out _ _)) (by simp [total]; omega)).mono ?_
    rintro e w3 ⟨C, k, c, rfl, ho3, n3⟩
    have n3 := (HN3.out _ _).trans n3
    have hlen : k ≤ 800 := by
      have h1 := ho3.len
      have h2 := HLA.out
      have h3 := HLB.out
      simp [flat] at h1
      omega
    have ho3 := ho3.base_le (HN3.out _ _).size
    have HO3 := Lib.hid ho3
    clear ho3
    go_wp2_with fail
    refine (sortOwn _ C k c w.heap.size _ (by omega) HO3.out).mono ?_
    rintro e w4 ⟨rfl, ys, ho4, hm4, hg4⟩
    have n4 := n3.grownOwn HO3.out (Nat.le_refl _) hg4
    have HO4 := Lib.hid ho4
    clear ho4 hg4
    go_wp2_with fail
    refine (compact_any ys C k c w.heap.size _ (by omega) HO4.out).mono ?_
    rintro e w5 ⟨k5, rfl, ho5, hg5⟩
    have n5 := n4.grownOwn HO4.out (Nat.le_refl _) hg5
    have hme : firsts ys k = mergeR (a ++ b) := by
      have := mergeR_eq hm4
      simpa [flat] using this
    rw [hme] at ho5
    have HO5 := Lib.hid ho5
    have hl5 := ho5.len
    have HME := Lib.hid hme
    clear ho5 hg5 hme hm4
    by_cases h30 : 30 < (mergeR (a ++ b)).length
    · have HM2 := Lib.hid (show mergedE a b = 16 by rw [HM.out, if_pos h30])
      have d5 : decide ((30 : Int) < (k5 : Int)) = true := decide_eq_true (by omega)
      have d6 : (30 : Int) < (k5 : Int) := by omega
      go_wp2_with fail
      go_ret2
      refine ⟨n5, none, 0, ?_, ?_⟩
      · rw [mergedL_bad (by rw [HM2.out]; decide), HM2.out]; rfl
      · rw [mergedL_bad (by rw [HM2.out]; decide)]; exact Rd.nil _ _ _ _
    · have HM2 := Lib.hid (show mergedE a b = 0 by rw [HM.out, if_neg h30])
      have HM3 := Lib.hid (show mergedL a b = mergeR (a ++ b) by unfold mergedL; rw [if_pos HM2.out])
      have d5 : decide ((30 : Int) < (k5 : Int)) = false := decide_eq_false (by omega)
      have d6 : ¬ (30 : Int) < (k5 : Int) := by omega
      go_wp2_with fail
      go_ret2
      refine ⟨n5, C, c, ?_, ?_⟩
      · rw [HM2.out, HM3.out, ← hl5]; rfl
      · rw [HM3.out]; have := HO5.out.rd; rw [hl5]; exact this
  · have b2 : (E != 0) = true := by simpa using hz
    have HZ := Lib.hid hz
    have HM := Lib.hid (show mergedE a b = E by
      unfold mergedE
      by_cases h : recsS a = 0
      · have h2 := HFE.out
        rw [if_neg (by simpa using h)] at h2
        rw [if_neg (by simpa using h), if_pos (by rw [← h2]; exact hz), h2]
      · have h2 := HFE.out
        rw [if_pos h] at h2
        rw [if_pos h, h2])
    clear hz
    go_enter Try.func18, Try.ntmps18
    go_wp2_with fail
    refine (recordsErr_any A n ca a _ (by omega) HXA.out HRA.out).mono ?_
    rintro e w1 ⟨rfl, n1⟩
    go_wp2_with fail
    refine (recordsErr_any B m cb b _ (by omega) HXB.out (HRB.out.keep n1)).mono ?_
    rintro e w2 ⟨rfl, n2⟩
    have n2 := n1.trans n2
    go_wp2_with (go_at_call 45; refine (first_any _ 2 2 [_, _] _ (by omega) rfl (cells_new _ _ _ _ (by simp) _ rfl)).mono ?_; rintro e w' ⟨rfl, rfl⟩; rw [HE.out])
    go_ret2
    refine ⟨n2.alloc _, none, 0, ?_, ?_⟩
    · rw [mergedL_bad (by rw [HM.out]; exact HZ.out), HM.out]; rfl
    · rw [mergedL_bad (by rw [HM.out]; exact HZ.out)]; exact Rd.nil _ _ _ _
end Go.Proofs.Ytifppmbolpegpaa

namespace Go.Proofs.Ytifppmbolpegpaa
open Go.RowKit Go.Sky Go.Sort

/-- A slice from its middle on. -/
theorem rd_drop' {α : Type} {w : World} {k b n cap : Nat} {enc : α → List Value} {xs : List α} (h : Rd w k enc (some ⟨b, 0, none⟩) n xs) (j : Nat) (hj : j ≤ n) (hcap : n ≤ cap) :
    Rd w k enc (if cap = j then some ⟨b, 0, none⟩ else some ⟨b, j * k, none⟩) (n - j) (xs.drop j) := by
  refine ⟨by rw [List.length_drop, h.1], fun hn => ?_⟩
  rw [if_neg (by omega)]
  obtain ⟨b', o', e, hb, hc⟩ := h.2 (by omega)
  injection e with e
  injection e with e1 e2
  subst e1 e2
  refine ⟨_, _, rfl, hb, fun i x hx c u hu => ?_⟩
  rw [List.getElem?_drop] at hx
  have := hc (j + i) x hx c u hu
  rw [show j * k + i * k + c = 0 + (j + i) * k + c by rw [Nat.add_mul]; omega]
  exact this
theorem newYes {x y : Sky.Rec} {c : Bool} (h : newX x y = c) (w : World) :
    Calls Try.prog 57 #[.agg #[.string x.n, .int .i64 x.v, .string x.b], .agg #[.string y.n, .int .i64 y.v, .string y.b]] w fun e w' => e = .returned (.bool c) ∧ New w w' := h ▸ newer_any x y w

set_option maxRecDepth 100000 in
set_option maxHeartbeats 8000000 in
theorem refMerged_any (A B : Option Addr) (n m ca cb : Nat) (a b : List Sky.Rec) (w : World) (hn : n ≤ 400) (hm : m ≤ 400) (hra : Rd w 3 encRec A n a) (hrb : Rd w 3 encRec B m b) :
    Calls Try.prog 21 #[.slice A n ca, .slice B m cb] w fun e w' => New w w' ∧ ∃ C c, e = .returned (.slice C (mergeR (a ++ b)).length c) ∧ Rd w' 3 encRec C (mergeR (a ++ b)).length (mergeR (a ++ b)) := by
  obtain ⟨i0, hi, hz0, hz1, hz2⟩ := info_parts infoRec
  have HRA := Lib.hid hra
  have HRB := Lib.hid hrb
  clear hra hrb
  obtain ⟨all, hall⟩ : ∃ all, a ++ b = all := ⟨_, rfl⟩
  rw [hall]
  have HAB := Lib.hid hall
  clear hall
  go_enter Try.func21, Try.ntmps21
  go_wp2_with fail
  refine (copyRecs_any A n ca a _ (by omega) HRA.out).mono ?_
  rintro e w1 ⟨A1, c1, rfl, ho1, n1⟩
  have HO1 := Lib.hid ho1
  clear ho1
  go_wp2_with (at_builtin; refine wpList_pour _ rfl _ _ 41 rfl 50 i0 _ 3 40 Try.underlying41 hi hz0 hz1 hz2 rfl (by omega) w.heap.size encRec _ _ _ _ rfl HO1.out _ _ _ _ rfl (HRB.out.keep n1) encRec_one (by simp [maxLen]; omega) (by omega) n1.size ?_; intro A3 c3 w3 ho3 hg3 hN3)
  have n3 := hN3 w n1 (Nat.le_refl _)
  obtain ⟨N, hN⟩ : ∃ N, n + m = N := ⟨_, rfl⟩
  rw [HAB.out, hN] at ho3
  rw [hN]
  have hN8 : N ≤ 800 := by omega
  have HALL := Lib.hid ho3.rd
  have HLN := Lib.hid ho3.len
  have HM0 := Lib.hid (Sky.Own.nil w3 w3.heap.size 50 3 encRec_len)
  clear ho3 hg3 hN3 n1 HO1 HAB hN HRA HRB
  go_loopw [6, 7, 8, 9, 10] (fun v6 v7 _ _ _ wr => ∃ (i : Nat) (A2 : Option Addr) (m2 c2 : Nat), i ≤ N ∧ v7 = .int .i64 (i : Int) ∧ v6 = .slice A2 m2 c2 ∧ Hid (Sky.Own wr w3.heap.size 50 3 encRec A2 m2 c2 (mergeR (all.take i))) ∧ New w3 wr) (fun _ v7 _ _ _ _ => N - (intOf v7).toNat)
  case atStart => exact ⟨0, none, 0, 0, by omega, rfl, rfl, HM0, New.refl _⟩
  case round =>
    clear HM0
    obtain ⟨i, A2, m2, c2, hi2, rfl, rfl, HO, nr⟩ := hrel
    have hm2 : m2 ≤ 800 := by
      have h1 := HO.out.len
      have h2 := mergeR_len (all.take i)
      rw [List.length_take] at h2
      omega
    by_cases hlt : i < N
    · obtain ⟨b1, o1, x, rfl, hb1, hx, hc⟩ := (HALL.out.keep nr).at_ hlt
      have g0 := hc 0 _ rfl
      have g1 := hc 1 _ rfl
      have g2 := hc 2 _ rfl
      simp only [Nat.add_zero] at g0
      have HSN := Lib.hid (show mergeR (all.take (i + 1)) = insR (mergeR (all.take i)) x by rw [take_snoc all i x hx, mergeR_snoc])
      have j0 : (0 : Int) ≤ (i : Int) := by omega
      have j1 : (i : Int) < (N : Int) := by omega
      clear hx hc
      have c0 : World.cell? (wr.alloc (.cells #[.string x.n, .int .i64 x.v, .string x.b] 50)) ⟨wr.heap.size, 0, none⟩ = some (.string x.n) := by simp
      have c1 : World.cell? (wr.alloc (.cells #[.string x.n, .int .i64 x.v, .string x.b] 50)) ⟨wr.heap.size, 1, none⟩ = some (.int .i64 x.v) := by simp
      have c2' : World.cell? (wr.alloc (.cells #[.string x.n, .int .i64 x.v, .string x.b] 50)) ⟨wr.heap.size, 2, none⟩ = some (.string x.b) := by simp
      have nW := (New.refl wr).alloc (.cells #[.string x.n, .int .i64 x.v, .string x.b] 50)
      go_wp2_with fail
      obtain ⟨W2, hW2⟩ : ∃ W2, wr.alloc (.cells #[.string x.n, .int .i64 x.v, .string x.b] 50) = W2 := ⟨_, rfl⟩
      rw [hW2] at c0 c1 c2' nW ⊢
      obtain ⟨xb, hxb⟩ : ∃ xb, wr.heap.size = xb := ⟨_, rfl⟩
      rw [hxb] at c0 c1 c2' ⊢
      have HOW := Lib.hid (HO.out.keep nW)
      have nr := nr.trans nW
      obtain ⟨out, hout⟩ : ∃ out, mergeR (all.take i) = out := ⟨_, rfl⟩
      rw [hout] at HSN HOW
      clear hW2 hxb hout HO nW g0 g1 g2
      go_loopw [9] (fun v9 wx => ∃ k : Nat, k ≤ m2 ∧ v9 = .int .i64 (k : Int) ∧ Hid (∀ z ∈ out.take k, z.n.toList < x.n.toList) ∧ New W2 wx) (fun v9 _ => m2 - (intOf v9).toNat)
      case atStart => exact ⟨0, by omega, rfl, Lib.hid (by simp), New.refl _⟩
      case round =>
        obtain ⟨k, hk, rfl, HLT, nx⟩ := hrel
        have c0 := nx.cell c0
        have c1 := nx.cell c1
        have c2' := nx.cell c2'
        have lx : xb < _ := World.block_lt_of_cell? _ _ c0
        by_cases hkm : k < m2
        · obtain ⟨b, o, y, rfl, hb, hy, hc⟩ := (HOW.out.keep nx).rd.at_ hkm
          have g0 := hc 0 _ rfl
          have g1 := hc 1 _ rfl
          have g2 := hc 2 _ rfl
          have ho0 : o = 0 := by
            rcases HOW.out.form with ⟨h, _⟩ | ⟨g, h, _⟩
            · cases h
            · injection h with h
              injection h with h1 h2
          subst ho0
          simp only [Nat.add_zero, Nat.zero_add] at g0 g1 g2
          have k0 : (0 : Int) ≤ (k : Int) := by omega
          have k1 : (k : Int) < (m2 : Int) := by omega
          have k2 : decide ((k : Int) < (m2 : Int)) = true := decide_eq_true k1
          have HY := Lib.hid hy
          clear hy hc
          have el := less_dec y.n x.n
          by_cases hl : y.n.toList < x.n.toList
          · rw [decide_eq_true hl] at el
            have HLT2 := Lib.hid (show ∀ z ∈ out.take (k + 1), z.n.toList < x.n.toList by
              rw [take_snoc out k y HY.out]
              intro z hz
              rcases List.mem_append.1 hz with q | q
              · exact HLT.out z q
              · simp only [List.mem_singleton] at q; rw [q]; exact hl)
            clear hl
            go_wp2
            (refine wp_region_new (by kernel_rfl) (by kernel_rfl) ?_; (repeat (go_big_quiet_step ((fail)))); refine wpQuiet_nil ?_)
            intro w4 n4
            go_wp2
            go_roundw
            case rel => exact ⟨k + 1, by omega, by go_num, HLT2, nx.trans n4⟩
            case measure => simp [intOf]; omega
          · rw [decide_eq_false hl] at el
            have HNL := Lib.hid hl
            clear hl
            by_cases he : y.n.toList = x.n.toList
            · have HE := Lib.hid he
              have dq : (y.n.toList == x.n.toList) = true := beq_iff_eq.2 he
              clear he
              have HSTAY := Lib.hid (show newX x y = false → insR out x = out from fun e => ins_stay out x k y HLT.out HY.out HE.out e)
              have HSET := Lib.hid (show newX x y = true → insR out x = out.set k x from fun e => ins_set out x k y HLT.out HY.out HE.out e)
              cases hcN : newX x y
              · have HCN := Lib.hid hcN
                have HS := Lib.hid (HSTAY.out hcN)
                clear HSTAY HSET hcN
                go_wp2
                (refine wp_region_new (by kernel_rfl) (by kernel_rfl) ?_; (repeat (go_big_quiet_step ((fail)))); refine wpQuiet_nil ?_)
                intro w4 n4
                have c0 := n4.cell c0
                have c1 := n4.cell c1
                have c2' := n4.cell c2'
                have g0 := n4.cell g0
                have g1 := n4.cell g1
                have g2 := n4.cell g2
                have lx : xb < _ := World.block_lt_of_cell? _ _ c0
                have lb : b < _ := World.block_lt_of_cell? _ _ g0
                go_wp2
                (refine wp_region_new (by kernel_rfl) (by kernel_rfl) ?_; (repeat (go_big_quiet_step ((fail)))); refine wpQuiet_nil ?_)
                intro w5 n5
                have c0 := n5.cell c0
                have c1 := n5.cell c1
                have c2' := n5.cell c2'
                have g0 := n5.cell g0
                have g1 := n5.cell g1
                have g2 := n5.cell g2
                have lx : xb < _ := World.block_lt_of_cell? _ _ c0
                have lb : b < _ := World.block_lt_of_cell? _ _ g0
                go_wp2
                (refine wp_region_new (by kernel_rfl) (by kernel_rfl) ?_; (repeat (go_big_quiet_step (((go_at_call 57; exact quiet_new (newYes HCN.out _)))))); refine wpQuiet_nil ?_)
                intro w6 n6
                have NN := (((nx.trans n4).trans n5).trans n6)
                go_wp2
                go_roundw
                case rel => exact ⟨i + 1, _, m2, c2, by omega, by go_num, rfl, Lib.hid (by rw [HSN.out, HS.out]; exact HOW.out.keep NN), nr.trans NN⟩
                case measure => simp [intOf]; omega
              · have HCN := Lib.hid hcN
                have HS := Lib.hid (HSET.out hcN)
                clear HSTAY HSET hcN
                go_wp2
                (refine wp_region_new (by kernel_rfl) (by kernel_rfl) ?_; (repeat (go_big_quiet_step ((fail)))); refine wpQuiet_nil ?_)
                intro w4 n4
                have c0 := n4.cell c0
                have c1 := n4.cell c1
                have c2' := n4.cell c2'
                have g0 := n4.cell g0
                have g1 := n4.cell g1
                have g2 := n4.cell g2
                have lx : xb < _ := World.block_lt_of_cell? _ _ c0
                have lb : b < _ := World.block_lt_of_cell? _ _ g0
                go_wp2
                (refine wp_region_new (by kernel_rfl) (by kernel_rfl) ?_; (repeat (go_big_quiet_step ((fail)))); refine wpQuiet_nil ?_)
                intro w5 n5
                have c0 := n5.cell c0
                have c1 := n5.cell c1
                have c2' := n5.cell c2'
                have g0 := n5.cell g0
                have g1 := n5.cell g1
                have g2 := n5.cell g2
                have lx : xb < _ := World.block_lt_of_cell? _ _ c0
                have lb : b < _ := World.block_lt_of_cell? _ _ g0
                go_wp2
                (refine wp_region_new (by kernel_rfl) (by kernel_rfl) ?_; (repeat (go_big_quiet_step (((go_at_call 57; exact quiet_new (newYes HCN.out _)))))); refine wpQuiet_nil ?_)
                intro w6 n6
                have NN := (((nx.trans n4).trans n5).trans n6)
                have HO6 := Lib.hid (HOW.out.keep NN)
                have c0 := n6.cell c0
                have c1 := n6.cell c1
                have c2' := n6.cell c2'
                have lx : xb < _ := World.block_lt_of_cell? _ _ c0
                obtain ⟨r0, f0⟩ := own_room HO6.out (k * 3) (by have := HO6.out.le.1; omega)
                obtain ⟨r1, f1⟩ := own_room HO6.out (k * 3 + 1) (by have := HO6.out.le.1; omega)
                obtain ⟨r2, f2⟩ := own_room HO6.out (k * 3 + 2) (by have := HO6.out.le.1; omega)
                obtain ⟨u0, r0⟩ := Option.isSome_iff_exists.1 r0
                obtain ⟨u1, r1⟩ := Option.isSome_iff_exists.1 r1
                obtain ⟨u2, r2⟩ := Option.isSome_iff_exists.1 r2
                have o7 := own_put3 HO6.out k x hkm
                rw [← HS.out, ← HSN.out] at o7
                have HO7 := Lib.hid o7
                have hbb : w3.heap.size ≤ b := by
                  rcases HO6.out.form with ⟨h, _⟩ | ⟨g, h, hg, _⟩
                  · cases h
                  · injection h with h
                    injection h with h1 h2
                    omega
                have n7 : New w3 (w6.setCells b (k * 3) (encRec x)) := (((nr.trans NN).setCell hbb _).setCell hbb _).setCell hbb _
                have HN7 := Lib.hid n7
                clear o7 n7 g0 g1 g2
                go_wp2
                go_roundw
                case rel => exact ⟨i + 1, _, m2, c2, by omega, by go_num, rfl, HO7, HN7.out⟩
                case measure => simp [intOf]; omega
            · have HE := Lib.hid he
              have dq : (y.n.toList == x.n.toList) = false := beq_eq_false_iff_ne.2 he
              go_wp2
              (refine wp_region_new (by kernel_rfl) (by kernel_rfl) ?_; (repeat (go_big_quiet_step ((fail)))); refine wpQuiet_nil ?_)
              intro w4 n4
              have c0 := n4.cell c0
              have c1 := n4.cell c1
              have c2' := n4.cell c2'
              have g0 := n4.cell g0
              have g1 := n4.cell g1
              have g2 := n4.cell g2
              have lx : xb < _ := World.block_lt_of_cell? _ _ c0
              have lb : b < _ := World.block_lt_of_cell? _ _ g0
              go_wp2
              (refine wp_region_new (by kernel_rfl) (by kernel_rfl) ?_; (repeat (go_big_quiet_step ((fail)))); refine wpQuiet_nil ?_)
              intro w5 n5
              obtain ⟨W4, hW4⟩ : ∃ W4, w5 = W4 := ⟨_, rfl⟩
              rw [hW4] at n5 ⊢
              clear hW4
              have n4 := (nx.trans n4).trans n5
              have HOX := HOW.out.keep n4
              have HTK := Lib.hid (HOX.rd.take hk)
              have HDR := Lib.hid (rd_drop' HOX.rd k hk HOX.le.1)
              have HINS := Lib.hid (show insR out x = out.take k ++ x :: out.drop k from ins_put out x k (by rw [HOX.len]; exact hk) HLT.out (fun z hz => by rw [HY.out] at hz; injection hz with hz; subst hz; exact ⟨HNL.out, HE.out⟩))
              have c0 := n5.cell c0
              have c1 := n5.cell c1
              have c2' := n5.cell c2'
              have lx : xb < _ := World.block_lt_of_cell? _ _ c0
              have hkc : k ≤ c2 := by have := HOX.le.1; omega
              clear HOX g0 g1 g2 nx n5 dq el he
              go_wp2_with fail
              refine wp_region_takes0 W4 (New.refl _) 3 5 #[true, true, true, false, false, false, false, false] (by kernel_rfl) (by kernel_rfl) (by kernel_rfl) (by kernel_rfl) (by kernel_rfl) (by kernel_rfl) ?_
              simp only [List.take_succ_cons, List.take_zero]
              (repeat (go_big_quiet_step ((fail))))
              refine wpQuiet_nil ?_
              intro W5 n5
              refine take_next 4 1 #[true, true, true, false, true, false, false, false] rfl (by kernel_rfl) (by kernel_rfl) (by kernel_rfl) (by kernel_rfl) (by decide) ?_
              simp only [List.take_succ_cons, List.take_zero, List.drop_succ_cons, List.drop_zero]
              (repeat (go_big_quiet_step ((fail))))
              refine wpQuiet_nil ?_
              refine two_next 3 5 (by kernel_rfl) (new_plus n5) ?o1 ?o2
              case' o1 =>
                refine wpOpIn_list rfl ?_
                gi_wp2_with fail
                refine ⟨trivial, callsIn_wide.2 ((copyRecs_any _ k c2 (out.take k) _ (by omega) (HTK.out.keep n5)).mono ?_)⟩
                rintro e w4 ⟨A5, cap5, rfl, hown5, n4'⟩
                gi_wp2
                refine one_next 5 (by kernel_rfl) (new_plus (n5.trans n4')) (wpOpIn_list rfl ?_)
                gi_wp2
                have nn := (n5.trans n4').alloc (.cells #[.string x.n, .int .i64 x.v, .string x.b] 50)
                have ho := (hown5.base_le (base' := W4.heap.size) n5.size).alloc (.cells #[.string x.n, .int .i64 x.v, .string x.b] 50)
                have hb := Bx.mk w4 50 #[.string x.n, .int .i64 x.v, .string x.b]
                obtain ⟨W6, hW6⟩ : ∃ W6, w4.alloc (.cells #[.string x.n, .int .i64 x.v, .string x.b] 50) = W6 := ⟨_, rfl⟩
                rw [hW6] at nn ho hb ⊢
                obtain ⟨B5, hB5⟩ : ∃ B5, w4.heap.size = B5 := ⟨_, rfl⟩
                rw [hB5] at hb ⊢
                clear hW6 hB5 hown5 n4'
              case' o2 =>
                refine wpOpIn_list rfl ?_
                gi_wp2
                have n1b := n5.alloc (.cells #[.string x.n, .int .i64 x.v, .string x.b] 50)
                refine one_next 3 (by kernel_rfl) (new_plus n1b) (wpOpIn_list rfl ?_)
                gi_wp2_with fail
                refine ⟨trivial, callsIn_wide.2 ((copyRecs_any _ k c2 (out.take k) _ (by omega) (HTK.out.keep n1b)).mono ?_)⟩
                rintro e W6 ⟨A5, cap5, rfl, hown5, n4'⟩
                gi_wp2
                have nn := n1b.trans n4'
                have ho := hown5.base_le (base' := W4.heap.size) n1b.size
                have hb := (Bx.mk W5 50 #[.string x.n, .int .i64 x.v, .string x.b]).keep n4'
                obtain ⟨B5, hB5⟩ : ∃ B5, W5.heap.size = B5 := ⟨_, rfl⟩
                rw [hB5] at hb ⊢
                clear hB5 hown5 n4' n1b
              all_goals
                refine one_next 6 (by kernel_rfl) (new_plus nn) (wpOpIn_list rfl ?_)
                refine wpListIn_flow _ rfl _ _ 41 rfl 50 i0 _ 3 40 Try.underlying41 hi hz0 hz1 hz2 rfl (by omega) W4.heap.size encRec A5 k cap5 (out.take k) rfl (by exact ho) (some ⟨B5, 0, none⟩) 1 1 [x] rfl (by exact rd_bx hb encRec_len [x] rfl 1 rfl) encRec_one (by simp only [maxLen]; omega) (by omega) (by exact nn.size) ?_
                intro A6 c6 w6 hown6 hg6 hN6
                gi_wp2
                have n6 := hN6 W4 nn (Nat.le_refl _)
                clear hN6 hg6 ho hb nn
                refine one_next 7 (by kernel_rfl) (new_plus n6) (wpOpIn_list rfl ?_)
                gi_wp2
                refine end_any (new_plus n6) (by kernel_rfl) ?_
                have HO6 := Lib.hid hown6
                have HDR6 := Lib.hid (HDR.out.keep n6)
                clear hown6
                go_wp2_with (at_builtin; refine wpList_pour _ rfl _ _ 41 rfl 50 i0 _ 3 40 Try.underlying41 hi hz0 hz1 hz2 rfl (by omega) W4.heap.size encRec _ _ _ _ rfl HO6.out _ _ _ _ rfl (by exact HDR6.out) encRec_one (by simp only [maxLen]; omega) (by omega) n6.size ?_; intro A7 c7 w7 ho7 hg7 hN7)
                have n7 := hN7 W4 n6 (Nat.le_refl _)
                have ho8 := ho7.base_le (base' := w3.heap.size) (nr.trans n4).size
                rw [List.append_assoc, List.singleton_append, ← HINS.out] at ho8
                have HO8 := Lib.hid ho8
                clear ho7 hg7 hN7 ho8
                go_wp2_with fail
                go_roundw
                case rel => exact ⟨i + 1, A7, _, c7, by omega, by go_num, rfl, Lib.hid (by rw [HSN.out]; exact HO8.out), (nr.trans n4).trans n7⟩
                case measure => simp [intOf]; omega
        · have hke : k = m2 := by omega
          subst hke
          have HINS := Lib.hid (show insR out x = out.take k ++ x :: out.drop k from ins_put out x k (by rw [HOW.out.len]; exact hk) HLT.out (fun z hz => by rw [List.getElem?_eq_none (by rw [HOW.out.len]; exact Nat.le_refl _)] at hz; cases hz))
          rcases HOW.out.form with ⟨rfl, rfl, rfl, hnil⟩ | ⟨g, rfl, hg1, hg2, hg3, hg4⟩
          · subst hnil
            clear HINS
            go_wp2
            (refine wp_region_new (by kernel_rfl) (by kernel_rfl) ?_; (repeat (go_big_quiet_step ((fail)))); refine wpQuiet_nil ?_)
            intro w4 n4
            have c0 := n4.cell c0
            have c1 := n4.cell c1
            have c2' := n4.cell c2'
            have lx : xb < _ := World.block_lt_of_cell? _ _ c0
            go_wp2
            (refine wp_region_new (by kernel_rfl) (by kernel_rfl) ?_; (repeat (go_big_quiet_step ((fail)))); refine wpQuiet_nil ?_)
            intro w5 n5
            obtain ⟨W4, hW4⟩ : ∃ W4, w5 = W4 := ⟨_, rfl⟩
            rw [hW4] at n5 ⊢
            clear hW4
            have n4 := (nx.trans n4).trans n5
            have HTK := Lib.hid (Rd.nil W4 3 encRec none)
            have HDR := Lib.hid (Rd.nil W4 3 encRec none)
            have HINS := Lib.hid (show insR [] x = [] ++ x :: [] from rfl)
            have c0 := n5.cell c0
            have c1 := n5.cell c1
            have c2' := n5.cell c2'
            have lx : xb < _ := World.block_lt_of_cell? _ _ c0
            clear nx n5
            go_wp2_with fail
            refine wp_region_takes0 W4 (New.refl _) 3 5 #[true, true, true, false, false, false, false, false] (by kernel_rfl) (by kernel_rfl) (by kernel_rfl) (by kernel_rfl) (by kernel_rfl) (by kernel_rfl) ?_
            simp only [List.take_succ_cons, List.take_zero]
            (repeat (go_big_quiet_step ((fail))))
            refine wpQuiet_nil ?_
            intro W5 n5
            refine take_next 4 1 #[true, true, true, false, true, false, false, false] rfl (by kernel_rfl) (by kernel_rfl) (by kernel_rfl) (by kernel_rfl) (by decide) ?_
            simp only [List.take_succ_cons, List.take_zero, List.drop_succ_cons, List.drop_zero]
            (repeat (go_big_quiet_step ((fail))))
            refine wpQuiet_nil ?_
            refine two_next 3 5 (by kernel_rfl) (new_plus n5) ?q1 ?q2
            case' q1 =>
              refine wpOpIn_list rfl ?_
              gi_wp2_with fail
              refine ⟨trivial, callsIn_wide.2 ((copyRecs_any _ 0 0 [] _ (by omega) (HTK.out.keep n5)).mono ?_)⟩
              rintro e w4 ⟨A5, cap5, rfl, hown5, n4'⟩
              gi_wp2
              refine one_next 5 (by kernel_rfl) (new_plus (n5.trans n4')) (wpOpIn_list rfl ?_)
              gi_wp2
              have nn := (n5.trans n4').alloc (.cells #[.string x.n, .int .i64 x.v, .string x.b] 50)
              have ho := (hown5.base_le (base' := W4.heap.size) n5.size).alloc (.cells #[.string x.n, .int .i64 x.v, .string x.b] 50)
              have hb := Bx.mk w4 50 #[.string x.n, .int .i64 x.v, .string x.b]
              obtain ⟨W6, hW6⟩ : ∃ W6, w4.alloc (.cells #[.string x.n, .int .i64 x.v, .string x.b] 50) = W6 := ⟨_, rfl⟩
              rw [hW6] at nn ho hb ⊢
              obtain ⟨B5, hB5⟩ : ∃ B5, w4.heap.size = B5 := ⟨_, rfl⟩
              rw [hB5] at hb ⊢
              clear hW6 hB5 hown5 n4'
            case' q2 =>
              refine wpOpIn_list rfl ?_
              gi_wp2
              have n1b := n5.alloc (.cells #[.string x.n, .int .i64 x.v, .string x.b] 50)
              refine one_next 3 (by kernel_rfl) (new_plus n1b) (wpOpIn_list rfl ?_)
              gi_wp2_with fail
              refine ⟨trivial, callsIn_wide.2 ((copyRecs_any _ 0 0 [] _ (by omega) (HTK.out.keep n1b)).mono ?_)⟩
              rintro e W6 ⟨A5, cap5, rfl, hown5, n4'⟩
              gi_wp2
              have nn := n1b.trans n4'
              have ho := hown5.base_le (base' := W4.heap.size) n1b.size
              have hb := (Bx.mk W5 50 #[.string x.n, .int .i64 x.v, .string x.b]).keep n4'
              obtain ⟨B5, hB5⟩ : ∃ B5, W5.heap.size = B5 := ⟨_, rfl⟩
              rw [hB5] at hb ⊢
              clear hB5 hown5 n4' n1b
            all_goals
              refine one_next 6 (by kernel_rfl) (new_plus nn) (wpOpIn_list rfl ?_)
              refine wpListIn_flow _ rfl _ _ 41 rfl 50 i0 _ 3 40 Try.underlying41 hi hz0 hz1 hz2 rfl (by omega) W4.heap.size encRec A5 0 cap5 [] rfl (by exact ho) (some ⟨B5, 0, none⟩) 1 1 [x] rfl (by exact rd_bx hb encRec_len [x] rfl 1 rfl) encRec_one (by simp only [maxLen]; omega) (by omega) (by exact nn.size) ?_
              intro A6 c6 w6 hown6 hg6 hN6
              gi_wp2
              have n6 := hN6 W4 nn (Nat.le_refl _)
              clear hN6 hg6 ho hb nn
              refine one_next 7 (by kernel_rfl) (new_plus n6) (wpOpIn_list rfl ?_)
              gi_wp2
              refine end_any (new_plus n6) (by kernel_rfl) ?_
              have HO6 := Lib.hid hown6
              have HDR6 := Lib.hid (HDR.out.keep n6)
              clear hown6
              go_wp2_with (at_builtin; refine wpList_pour _ rfl _ _ 41 rfl 50 i0 _ 3 40 Try.underlying41 hi hz0 hz1 hz2 rfl (by omega) W4.heap.size encRec _ _ _ _ rfl HO6.out _ _ _ _ rfl (by exact HDR6.out) encRec_one (by simp only [maxLen]; omega) (by omega) n6.size ?_; intro A7 c7 w7 ho7 hg7 hN7)
              have n7 := hN7 W4 n6 (Nat.le_refl _)
              have ho8 := ho7.base_le (base' := w3.heap.size) (nr.trans n4).size
              rw [List.append_assoc, List.singleton_append, ← HINS.out] at ho8
              have HO8 := Lib.hid ho8
              clear ho7 hg7 hN7 ho8
              go_wp2_with fail
              go_roundw
              case rel => exact ⟨i + 1, A7, _, c7, by omega, by go_num, rfl, Lib.hid (by rw [HSN.out]; exact HO8.out), (nr.trans n4).trans n7⟩
              case measure => simp [intOf]; omega
          · go_wp2
            (refine wp_region_new (by kernel_rfl) (by kernel_rfl) ?_; (repeat (go_big_quiet_step ((fail)))); refine wpQuiet_nil ?_)
            intro w4 n4
            have c0 := n4.cell c0
            have c1 := n4.cell c1
            have c2' := n4.cell c2'
            have lx : xb < _ := World.block_lt_of_cell? _ _ c0
            go_wp2
            (refine wp_region_new (by kernel_rfl) (by kernel_rfl) ?_; (repeat (go_big_quiet_step ((fail)))); refine wpQuiet_nil ?_)
            intro w5 n5
            obtain ⟨W4, hW4⟩ : ∃ W4, w5 = W4 := ⟨_, rfl⟩
            rw [hW4] at n5 ⊢
            clear hW4
            have n4 := (nx.trans n4).trans n5
            have HOX := HOW.out.keep n4
            have HTK := Lib.hid (HOX.rd.take hk)
            have HDR := Lib.hid (show Rd W4 3 encRec (if c2 = k then some ⟨g, 0, none⟩ else some ⟨g, k * 3, none⟩) 0 (out.drop k) by have := rd_drop' HOX.rd k (Nat.le_refl _) HOX.le.1; rwa [Nat.sub_self] at this)
            have c0 := n5.cell c0
            have c1 := n5.cell c1
            have c2' := n5.cell c2'
            have lx : xb < _ := World.block_lt_of_cell? _ _ c0
            have hkc : k ≤ c2 := by have := HOX.le.1; omega
            clear HOX nx n5
            go_wp2_with fail
            refine wp_region_takes0 W4 (New.refl _) 3 5 #[true, true, true, false, false, false, false, false] (by kernel_rfl) (by kernel_rfl) (by kernel_rfl) (by kernel_rfl) (by kernel_rfl) (by kernel_rfl) ?_
            simp only [List.take_succ_cons, List.take_zero]
            (repeat (go_big_quiet_step ((fail))))
            refine wpQuiet_nil ?_
            intro W5 n5
            refine take_next 4 1 #[true, true, true, false, true, false, false, false] rfl (by kernel_rfl) (by kernel_rfl) (by kernel_rfl) (by kernel_rfl) (by decide) ?_
            simp only [List.take_succ_cons, List.take_zero, List.drop_succ_cons, List.drop_zero]
            (repeat (go_big_quiet_step ((fail))))
            refine wpQuiet_nil ?_
            refine two_next 3 5 (by kernel_rfl) (new_plus n5) ?p1 ?p2
            case' p1 =>
              refine wpOpIn_list rfl ?_
              gi_wp2_with fail
              refine ⟨trivial, callsIn_wide.2 ((copyRecs_any _ k c2 (out.take k) _ (by omega) (HTK.out.keep n5)).mono ?_)⟩
              rintro e w4 ⟨A5, cap5, rfl, hown5, n4'⟩
              gi_wp2
              refine one_next 5 (by kernel_rfl) (new_plus (n5.trans n4')) (wpOpIn_list rfl ?_)
              gi_wp2
              have nn := (n5.trans n4').alloc (.cells #[.string x.n, .int .i64 x.v, .string x.b] 50)
              have ho := (hown5.base_le (base' := W4.heap.size) n5.size).alloc (.cells #[.string x.n, .int .i64 x.v, .string x.b] 50)
              have hb := Bx.mk w4 50 #[.string x.n, .int .i64 x.v, .string x.b]
              obtain ⟨W6, hW6⟩ : ∃ W6, w4.alloc (.cells #[.string x.n, .int .i64 x.v, .string x.b] 50) = W6 := ⟨_, rfl⟩
              rw [hW6] at nn ho hb ⊢
              obtain ⟨B5, hB5⟩ : ∃ B5, w4.heap.size = B5 := ⟨_, rfl⟩
              rw [hB5] at hb ⊢
              clear hW6 hB5 hown5 n4'
            case' p2 =>
              refine wpOpIn_list rfl ?_
              gi_wp2
              have n1b := n5.alloc (.cells #[.string x.n, .int .i64 x.v, .string x.b] 50)
              refine one_next 3 (by kernel_rfl) (new_plus n1b) (wpOpIn_list rfl ?_)
              gi_wp2_with fail
              refine ⟨trivial, callsIn_wide.2 ((copyRecs_any _ k c2 (out.take k) _ (by omega) (HTK.out.keep n1b)).mono ?_)⟩
              rintro e W6 ⟨A5, cap5, rfl, hown5, n4'⟩
              gi_wp2
              have nn := n1b.trans n4'
              have ho := hown5.base_le (base' := W4.heap.size) n1b.size
              have hb := (Bx.mk W5 50 #[.string x.n, .int .i64 x.v, .string x.b]).keep n4'
              obtain ⟨B5, hB5⟩ : ∃ B5, W5.heap.size = B5 := ⟨_, rfl⟩
              rw [hB5] at hb ⊢
              clear hB5 hown5 n4' n1b
            all_goals
              refine one_next 6 (by kernel_rfl) (new_plus nn) (wpOpIn_list rfl ?_)
              refine wpListIn_flow _ rfl _ _ 41 rfl 50 i0 _ 3 40 Try.underlying41 hi hz0 hz1 hz2 rfl (by omega) W4.heap.size encRec A5 k cap5 (out.take k) rfl (by exact ho) (some ⟨B5, 0, none⟩) 1 1 [x] rfl (by exact rd_bx hb encRec_len [x] rfl 1 rfl) encRec_one (by simp only [maxLen]; omega) (by omega) (by exact nn.size) ?_
              intro A6 c6 w6 hown6 hg6 hN6
              gi_wp2
              have n6 := hN6 W4 nn (Nat.le_refl _)
              clear hN6 hg6 ho hb nn
              refine one_next 7 (by kernel_rfl) (new_plus n6) (wpOpIn_list rfl ?_)
              gi_wp2
              refine end_any (new_plus n6) (by kernel_rfl) ?_
              have HO6 := Lib.hid hown6
              have HDR6 := Lib.hid (HDR.out.keep n6)
              clear hown6
              go_wp2_with (at_builtin; refine wpList_pour _ rfl _ _ 41 rfl 50 i0 _ 3 40 Try.underlying41 hi hz0 hz1 hz2 rfl (by omega) W4.heap.size encRec _ _ _ _ rfl HO6.out _ _ _ _ rfl (by exact HDR6.out) encRec_one (by simp only [maxLen]; omega) (by omega) n6.size ?_; intro A7 c7 w7 ho7 hg7 hN7)
              have n7 := hN7 W4 n6 (Nat.le_refl _)
              have ho8 := ho7.base_le (base' := w3.heap.size) (nr.trans n4).size
              rw [List.append_assoc, List.singleton_append, ← HINS.out] at ho8
              have HO8 := Lib.hid ho8
              clear ho7 hg7 hN7 ho8
              go_wp2_with fail
              go_roundw
              case rel => exact ⟨i + 1, A7, _, c7, by omega, by go_num, rfl, Lib.hid (by rw [HSN.out]; exact HO8.out), (nr.trans n4).trans n7⟩
              case measure => simp [intOf]; omega
    · have hiN : i = N := by omega
      have HV := Lib.hid (show all.take i = all by rw [List.take_of_length_le (by rw [HLN.out]; omega)])
      go_wp2_with fail
      go_ret
      have h1 := HO.out
      rw [HV.out] at h1
      refine ⟨n3.trans nr, A2, c2, by rw [h1.len]; rfl, ?_⟩
      have := h1.rd
      rw [h1.len]
      exact this
end Go.Proofs.Ytifppmbolpegpaa

namespace Go.Proofs.Ytifppmbolpegpaa
open Go.RowKit Go.Sky Go.Sort

theorem few_len {l : List Sky.Rec} (h : fewR l = true) : l.length ≤ 32 ∧ ∀ x ∈ l, x.n.size ≤ 30 := by
  unfold fewR at h
  rw [Bool.and_eq_true] at h
  exact ⟨of_decide_eq_true h.1, fun x hx => fewX_name (List.all_eq_true.1 h.2 x hx)⟩
theorem mergedIs (A B : Option Addr) (n m ca cb : Nat) {a b L : List Sky.Rec} {E : Int} {k : Nat} (w : World) (hE : mergedE a b = E) (hL : mergedL a b = L) (hk : L.length = k) (hn : n ≤ 400) (hm : m ≤ 400) (hxa : ∀ x ∈ a, x.n.size ≤ 1000) (hxb : ∀ x ∈ b, x.n.size ≤ 1000)
    (hra : Rd w 3 encRec A n a) (hrb : Rd w 3 encRec B m b) :
    Calls Try.prog 18 #[.slice A n ca, .slice B m cb] w fun e w' => New w w' ∧ ∃ C c, e = .returned (.tuple #[.slice C k c, .int .i64 E]) ∧ Rd w' 3 encRec C k L := by
  subst hE hL hk
  exact merged_any A B n m ca cb a b w hn hm hxa hxb hra hrb
theorem refIs (A B : Option Addr) (n m ca cb : Nat) {a b L : List Sky.Rec} {k : Nat} (w : World) (hL : mergeR (a ++ b) = L) (hk : L.length = k) (hn : n ≤ 400) (hm : m ≤ 400) (hra : Rd w 3 encRec A n a) (hrb : Rd w 3 encRec B m b) :
    Calls Try.prog 21 #[.slice A n ca, .slice B m cb] w fun e w' => New w w' ∧ ∃ C c, e = .returned (.slice C k c) ∧ Rd w' 3 encRec C k L := by
  subst hL hk
  exact refMerged_any A B n m ca cb a b w hn hm hra hrb
theorem merged_ok {a b : List Sky.Rec} (ha : recsS a = 0) (hb : recsS b = 0) (hl : (mergeR (a ++ b)).length ≤ 30) : mergedE a b = 0 ∧ mergedL a b = mergeR (a ++ b) := by
  have h : mergedE a b = 0 := by unfold mergedE; rw [if_neg (by simpa using ha), if_neg (by simpa using hb), if_neg (by omega)]
  exact ⟨h, by unfold mergedL; rw [if_pos h]⟩
theorem merge_comm (a b : List Sky.Rec) : mergeR (b ++ a) = mergeR (a ++ b) := (mergeR_eq (merge_mergeR (a ++ b)).comm).symm
theorem merge_absorb (a b : List Sky.Rec) : mergeR (mergeR (a ++ b) ++ a) = mergeR (a ++ b) := (mergeR_eq (merge_mergeR (a ++ b)).absorb).symm
theorem merge_names {a b : List Sky.Rec} {N : Nat} (ha : ∀ x ∈ a, x.n.size ≤ N) (hb : ∀ x ∈ b, x.n.size ≤ N) : ∀ x ∈ mergeR (a ++ b), x.n.size ≤ N := fun x hx => by
  rcases List.mem_append.1 ((merge_mergeR _).sub x hx) with h | h
  · exact ha x h
  · exact hb x h

set_option maxRecDepth 100000 in
set_option maxHeartbeats 4000000 in
theorem merges_any (A B : Option Addr) (n m ca cb : Nat) (a b : List Sky.Rec) (w : World) (hra : Rd w 3 encRec A n a) (hrb : Rd w 3 encRec B m b) :
    Calls Try.prog 4 #[.slice A n ca, .slice B m cb] w fun e w' => e = .returned (.bool true) ∧ New w w' := by
  have HRA := Lib.hid hra
  have HRB := Lib.hid hrb
  obtain ⟨fa, hfa⟩ : ∃ f, fewR a = f := ⟨_, rfl⟩
  obtain ⟨fb, hfb⟩ : ∃ f, fewR b = f := ⟨_, rfl⟩
  have HFA := Lib.hid hfa
  have HFB := Lib.hid hfb
  have hla := hra.len
  have hlb := hrb.len
  clear hra hrb
  cases fa
  · clear hfa hfb
    go_enter Try.func4, Try.ntmps4
    go_wp2_with fail
    refine (awake_any _).mono ?_
    rintro e w1 ⟨rfl, n1⟩
    go_wp2_with fail
    refine (fewRecords_any A n ca a _ (HRA.out.keep n1)).mono ?_
    rintro e w' ⟨rfl, rfl⟩
    rw [HFA.out]
    go_wp2
    go_ret
    exact ⟨rfl, n1⟩
  cases fb
  · clear hfa hfb
    go_enter Try.func4, Try.ntmps4
    go_wp2_with fail
    refine (awake_any _).mono ?_
    rintro e w1 ⟨rfl, n1⟩
    go_wp2_with fail
    refine (fewRecords_any A n ca a _ (HRA.out.keep n1)).mono ?_
    rintro e w' ⟨rfl, rfl⟩
    rw [HFA.out]
    go_wp2_with fail
    refine (fewRecords_any B m cb b _ (HRB.out.keep n1)).mono ?_
    rintro e w' ⟨rfl, rfl⟩
    rw [HFB.out]
    go_wp2
    go_ret
    exact ⟨rfl, n1⟩
  obtain ⟨hna, hxa⟩ := few_len hfa
  obtain ⟨hnb, hxb⟩ := few_len hfb
  rw [hla] at hna
  rw [hlb] at hnb
  have HXA := Lib.hid (show ∀ x ∈ a, x.n.size ≤ 1000 from fun x hx => by have := hxa x hx; omega)
  have HXB := Lib.hid (show ∀ x ∈ b, x.n.size ≤ 1000 from fun x hx => by have := hxb x hx; omega)
  obtain ⟨ea, hea⟩ : ∃ e, recsS a = e := ⟨_, rfl⟩
  obtain ⟨eb, heb⟩ : ∃ e, recsS b = e := ⟨_, rfl⟩
  have HEA := Lib.hid hea
  have HEB := Lib.hid heb
  obtain ⟨E, hE⟩ : ∃ e, mergedE a b = e := ⟨_, rfl⟩
  obtain ⟨L, hL⟩ : ∃ l, mergedL a b = l := ⟨_, rfl⟩
  obtain ⟨k, hk⟩ : ∃ k, L.length = k := ⟨_, rfl⟩
  obtain ⟨M, hM⟩ : ∃ l, mergeR (a ++ b) = l := ⟨_, rfl⟩
  obtain ⟨j, hj⟩ : ∃ k, M.length = k := ⟨_, rfl⟩
  have HE := Lib.hid hE
  have HL := Lib.hid hL
  have HK := Lib.hid hk
  have HM := Lib.hid hM
  have HJ := Lib.hid hj
  have hcase : (ea ≠ 0 ∧ E = ea ∧ L = []) ∨ (ea = 0 ∧ eb ≠ 0 ∧ E = eb ∧ L = []) ∨ (ea = 0 ∧ eb = 0 ∧ 30 < j ∧ E = 16 ∧ L = []) ∨ (ea = 0 ∧ eb = 0 ∧ j ≤ 30 ∧ E = 0 ∧ L = M) := by
    unfold mergedL at hL
    rw [hE, hM] at hL
    unfold mergedE at hE
    rw [hea, heb, hM, hj] at hE
    by_cases h1 : ea = 0
    · by_cases h2 : eb = 0
      · rw [if_neg (by simpa using h1), if_neg (by simpa using h2)] at hE
        by_cases h3 : 30 < j
        · rw [if_pos h3] at hE
          rw [if_neg (by rw [← hE]; decide)] at hL
          exact .inr (.inr (.inl ⟨h1, h2, h3, hE.symm, hL.symm⟩))
        · rw [if_neg h3] at hE
          rw [if_pos hE.symm] at hL
          exact .inr (.inr (.inr ⟨h1, h2, by omega, hE.symm, hL.symm⟩))
      · rw [if_neg (by simpa using h1), if_pos h2] at hE
        rw [if_neg (by rw [← hE]; exact h2)] at hL
        exact .inr (.inl ⟨h1, h2, hE.symm, hL.symm⟩)
    · rw [if_pos h1] at hE
      rw [if_neg (by rw [← hE]; exact h1)] at hL
      exact .inl ⟨h1, hE.symm, hL.symm⟩
  have hj64 : j ≤ 64 := by
    have := mergeR_len (a ++ b)
    rw [hM, hj, List.length_append] at this
    omega
  clear hfa hfb hea heb hE hL hM hxa hxb hla hlb
  go_enter Try.func4, Try.ntmps4
  go_wp2_with fail
  refine (awake_any _).mono ?_
  rintro e w1 ⟨rfl, n1⟩
  go_wp2_with fail
  refine (fewRecords_any A n ca a _ (HRA.out.keep n1)).mono ?_
  rintro e w' ⟨rfl, rfl⟩
  rw [HFA.out]
  go_wp2_with fail
  refine (fewRecords_any B m cb b _ (HRB.out.keep n1)).mono ?_
  rintro e w' ⟨rfl, rfl⟩
  rw [HFB.out]
  go_wp2_with fail
  refine (copyRecs_any A n ca a _ (by omega) (HRA.out.keep n1)).mono ?_
  rintro e w2 ⟨A2, c2, rfl, o2, n2⟩
  have N2 := n1.trans n2
  have HA2 := Lib.hid o2.rd
  clear o2
  go_wp2_with fail
  refine (copyRecs_any B m cb b _ (by omega) (HRB.out.keep N2)).mono ?_
  rintro e w3 ⟨A3, c3, rfl, o3, n3⟩
  have N3 := N2.trans n3
  have HA3 := Lib.hid o3.rd
  clear o3
  go_wp2_with fail
  refine (mergedIs A2 A3 n m c2 c3 _ HE.out HL.out HK.out (by omega) (by omega) HXA.out HXB.out (HA2.out.keep n3) HA3.out).mono ?_
  rintro e w4 ⟨n4, C, c4, rfl, rl⟩
  have N4 := N3.trans n4
  have HRL := Lib.hid rl
  clear rl n1 n2 n3 n4
  go_wp2_with fail
  refine (refRecordsErr_any A n ca a _ (by omega) HXA.out (HRA.out.keep N4)).mono ?_
  rintro e wr1 ⟨rfl, nr⟩
  have N4 := N4.trans nr
  have HRL := Lib.hid (HRL.out.keep nr)
  clear nr
  rw [HEA.out]
  rcases hcase with ⟨h1, rfl, rfl⟩ | ⟨rfl, h2, rfl, rfl⟩ | ⟨rfl, rfl, h3, rfl, rfl⟩ | ⟨rfl, rfl, h3, rfl, rfl⟩
  · have k0 : k = 0 := by rw [← hk]; rfl
    subst k0
    have d1 : (E == 0) = false := beq_eq_false_iff_ne.2 h1
    have d2 : (E != 0) = true := by simpa using h1
    have d3 : (E == E) = true := by simp
    go_wp2
    go_ret
    exact ⟨rfl, N4⟩
  · have k0 : k = 0 := by rw [← hk]; rfl
    subst k0
    have d1 : (E == 0) = false := beq_eq_false_iff_ne.2 h2
    have d2 : (E != 0) = true := by simpa using h2
    have d3 : (E == E) = true := by simp
    go_wp2_with fail
    refine (refRecordsErr_any B m cb b _ (by omega) HXB.out (HRB.out.keep N4)).mono ?_
    rintro e wr2 ⟨rfl, nr⟩
    have N4 := N4.trans nr
    have HRL := Lib.hid (HRL.out.keep nr)
    clear nr
    rw [HEB.out]
    go_wp2
    go_ret
    exact ⟨rfl, N4⟩
  · have k0 : k = 0 := by rw [← hk]; rfl
    subst k0
    have d3 : decide ((30 : Int) < (j : Int)) = true := decide_eq_true (by omega)
    go_wp2_with fail
    refine (refRecordsErr_any B m cb b _ (by omega) HXB.out (HRB.out.keep N4)).mono ?_
    rintro e wr3 ⟨rfl, nr⟩
    have N4 := N4.trans nr
    have HRL := Lib.hid (HRL.out.keep nr)
    clear nr
    rw [HEB.out]
    go_wp2_with fail
    refine (refIs A B n m ca cb _ HM.out HJ.out (by omega) (by omega) (HRA.out.keep N4) (HRB.out.keep N4)).mono ?_
    rintro e w5 ⟨n5, D, c5, rfl, rd5⟩
    have N5 := N4.trans n5
    go_wp2
    go_ret
    exact ⟨rfl, N5⟩
  · have hkj : k = j := by rw [← hk, ← hj]
    subst hkj
    have d3 : decide ((30 : Int) < (k : Int)) = false := decide_eq_false (by omega)
    obtain ⟨e1, l1⟩ := merged_ok HEB.out HEA.out (by rw [merge_comm, HM.out, hk]; exact h3)
    have hz := recsS_mergeR HEA.out HEB.out (by rw [HM.out, hk]; exact h3)
    rw [HM.out] at hz
    have ha := merge_absorb a b
    rw [HM.out] at ha
    obtain ⟨e2, l2⟩ := merged_ok hz HEA.out (by rw [ha, hk]; exact h3)
    rw [merge_comm, HM.out] at l1
    rw [ha] at l2
    have hxl := merge_names HXA.out HXB.out
    rw [HM.out] at hxl
    have HE1 := Lib.hid e1
    have HL1 := Lib.hid l1
    have HE2 := Lib.hid e2
    have HL2 := Lib.hid l2
    have HXL := Lib.hid hxl
    clear e1 l1 e2 l2 ha hz hxl
    go_wp2_with fail
    refine (refRecordsErr_any B m cb b _ (by omega) HXB.out (HRB.out.keep N4)).mono ?_
    rintro e wr4 ⟨rfl, nr⟩
    have N4 := N4.trans nr
    have HRL := Lib.hid (HRL.out.keep nr)
    clear nr
    rw [HEB.out]
    go_wp2_with fail
    refine (refIs A B n m ca cb _ HM.out HJ.out (by omega) (by omega) (HRA.out.keep N4) (HRB.out.keep N4)).mono ?_
    rintro e w5 ⟨n5, D, c5, rfl, rd5⟩
    have N5 := N4.trans n5
    clear rd5
    go_wp2_with fail
    refine (refIs A B n m ca cb _ HM.out HJ.out (by omega) (by omega) (HRA.out.keep N5) (HRB.out.keep N5)).mono ?_
    rintro e w6 ⟨n6, D6, c6, rfl, rd6⟩
    have N6 := N5.trans n6
    have HRD6 := Lib.hid rd6
    clear rd6
    go_wp2_with fail
    refine (recs_like C D6 k c4 c6 L _ (by omega) (HRL.out.keep (n5.trans n6)) HRD6.out).mono ?_
    rintro e w7 ⟨rfl, n7⟩
    have N7 := N6.trans n7
    have HRL7 := Lib.hid (HRL.out.keep ((n5.trans n6).trans n7))
    clear n5 n6 n7 HRL HRD6
    go_wp2_with fail
    refine (copyRecs_any B m cb b _ (by omega) (HRB.out.keep N7)).mono ?_
    rintro e w8 ⟨A8, c8, rfl, o8, n8⟩
    have N8 := N7.trans n8
    have HA8 := Lib.hid o8.rd
    clear o8
    go_wp2_with fail
    refine (copyRecs_any A n ca a _ (by omega) (HRA.out.keep N8)).mono ?_
    rintro e w9 ⟨A9, c9, rfl, o9, n9⟩
    have N9 := N8.trans n9
    have HA9 := Lib.hid o9.rd
    clear o9
    go_wp2_with fail
    refine (mergedIs A8 A9 m n c8 c9 _ HE1.out HL1.out HK.out (by omega) (by omega) HXB.out HXA.out (HA8.out.keep n9) HA9.out).mono ?_
    rintro e w10 ⟨n10, C10, c10, rfl, r10⟩
    have N10 := N9.trans n10
    have HR10 := Lib.hid r10
    have HRL10 := Lib.hid (((HRL7.out.keep n8).keep n9).keep n10)
    clear r10 HRL7 HA8 HA9 n8 n9 n10
    go_wp2_with fail
    refine (copyRecs_any C k c4 L _ (by omega) HRL10.out).mono ?_
    rintro e w11 ⟨A11, c11, rfl, o11, n11⟩
    have N11 := N10.trans n11
    have HA11 := Lib.hid o11.rd
    clear o11
    go_wp2_with fail
    refine (copyRecs_any A n ca a _ (by omega) (HRA.out.keep N11)).mono ?_
    rintro e w12 ⟨A12, c12, rfl, o12, n12⟩
    have N12 := N11.trans n12
    have HA12 := Lib.hid o12.rd
    clear o12
    go_wp2_with fail
    refine (mergedIs A11 A12 k n c11 c12 _ HE2.out HL2.out HK.out (by omega) (by omega) HXL.out HXA.out (HA11.out.keep n12) HA12.out).mono ?_
    rintro e w13 ⟨n13, C13, c13, rfl, r13⟩
    have N13 := N12.trans n13
    have HR13 := Lib.hid r13
    have nn := (n11.trans n12).trans n13
    have HRL13 := Lib.hid (HRL10.out.keep nn)
    have HR10' := Lib.hid (HR10.out.keep nn)
    clear r13 HRL10 HR10 HA11 HA12 n11 n12 n13 nn
    go_wp2_with fail
    refine (recs_like C10 C k c10 c4 L _ (by omega) HR10'.out HRL13.out).mono ?_
    rintro e w14 ⟨rfl, n14⟩
    go_wp2_with fail
    refine (recs_like C13 C k c13 c4 L _ (by omega) (HR13.out.keep n14) (HRL13.out.keep n14)).mono ?_
    rintro e w15 ⟨rfl, n15⟩
    go_wp2
    go_ret
    exact ⟨rfl, (N13.trans n14).trans n15⟩
end Go.Proofs.Ytifppmbolpegpaa
