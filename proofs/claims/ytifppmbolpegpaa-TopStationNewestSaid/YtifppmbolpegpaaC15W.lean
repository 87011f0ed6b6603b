/- The walk of TopStationNewest. -/
import Derived.BigQuiet
import Derived.BigRegion
import Derived.Deep.AppendLies
import Derived.Deep.Draws
import Derived.Deep.Quiet
import Derived.Deep.QuietTactic
import Derived.Laws.BitsAllLaws
import Derived.Lib.Hide
import Derived.Lib.SliceRun
import Derived.OrdersIn
import Derived.OwnWalkIn
import Derived.RangeFuncCalls
import Derived.Shelf.GgSortFunc.InsertionK
import Derived.Shelf.SlSortCmp.Insertion
import Derived.Shelf.SlSortCmp.NoneTotal
import Derived.Shelf.SlSortCmp.QuietGrown
import Derived.Shelf.SlSortCmp.WholeK
import Derived.Shelf.Spec.SlicesGrow
import Derived.StillTail
import Derived.TacticsIn
import Derived.Test.YtifppmbolpegpaaProg
import Derived.WalkKit
import Derived.WalkLawsBesides
import Derived.WalkSpells
import Derived.Test.YtifppmbolpegpaaC15I
import Derived.Test.YtifppmbolpegpaaC15V

namespace Go.Proofs.Ytifppmbolpegpaa
open Go.RowKit Go.Sky Go.Sort

theorem eqlG_d (n : Nat) (x y : Sky.Rec) (W : World) : (Op.equalIn (n + 2) 50 (.agg #[.string x.n, .int .i64 x.v, .string x.b]) (.agg #[.string y.n, .int .i64 y.v, .string y.b])).run Try.prog W = .ok (eqX x y) W := by
  have u := Try.underlying50
  have u3 := Try.underlying3
  have z3 := Try.sizeOf3
  have a3 := Try.isAgg3
  have u9 := Try.underlying9
  have z9 := Try.sizeOf9
  have a9 := Try.isAgg9
  rw [Op.equalIn]
  unfold eqX
  by_cases h1 : x.n.toList = y.n.toList <;> by_cases h2 : x.v = y.v <;> by_cases h3 : x.b.toList = y.b.toList
  all_goals
    simp [run_underlying u, part, go_sem, h1, h2, h3, a3, u3, a9, u9, z3, z9]
theorem eqlG {x y : Sky.Rec} {c : Bool} (h : eqX x y = c) (W : World) : (Op.equalIn 10000 50 (.agg #[.string x.n, .int .i64 x.v, .string x.b]) (.agg #[.string y.n, .int .i64 y.v, .string y.b])).run Try.prog W = .ok c W := h ▸ eqlG_d 9998 x y W
theorem ModIs {n b : Int} {k : Nat} (h : n % b = (k : Int)) (hb : 1 ≤ b) (hb1 : b ≤ 1000000000) (w : World) : Calls Try.prog 10 #[.int .i64 n, .int .i64 b] w fun e w' => e = .returned (.int .i64 (k : Int)) ∧ w = w' := h ▸ Mod_any n b w hb hb1
def mr (c : List Sky.Rec) : List Sky.Rec := mergeR (c ++ [])
theorem mr_len (c : List Sky.Rec) : (mr c).length ≤ c.length := by have := mergeR_len (c ++ []); simpa [mr] using this
theorem mr_now (css : List (List Sky.Rec)) : Now css.flatten css (css.map mr) := by
  refine ⟨by simp, fun r hr => ?_, fun j r c hr hc => ?_⟩
  · obtain ⟨c, hc, rfl⟩ := List.mem_map.1 hr
    exact OkR.merge (fun x hx => List.mem_flatten.2 ⟨c, hc, hx⟩) (fun x hx => by cases hx)
  · rw [List.getElem?_map, hc] at hr
    injection hr with hr
    subst hr
    exact Has.left c []
theorem rec_names {c : List Sky.Rec} (h : recsS c = 0) : ∀ x ∈ c, x.n.size ≤ 1000 := by
  intro x hx
  have h1 := (recsS_zero.1 h).2 x hx
  rcases recE_cases x with ⟨_, h4⟩ | ⟨h3, _, _⟩ | ⟨h3, _⟩ | ⟨h3, _⟩
  · rw [h4] at h1; cases h1
  all_goals
    unfold nameS at h3
    rw [Bool.and_eq_true] at h3
    have := of_decide_eq_true h3.1
    simp at this
    omega
theorem NowS.grow {w W : World} {B n c m d : Nat} {A D : Option Addr} {rows : List RowV} {al : List Sky.Rec} (h : NowS w B A n c rows) (hg : w.grownBy W (D.map (·.block))) (hd : Apart D rows)
    (ha : Sky.Own w B 50 3 encRec D m d al) : NowS W B A n c rows :=
  ⟨h.own.kept hg (own_apart h.own ha (fun e => types_ne e.symm)), fun r hr => (h.each r hr).kept hg (hd r hr)⟩
theorem Apart.grow {w : World} {B n c : Nat} {A D D' : Option Addr} {rows : List RowV} (h : Apart D rows) (hn : NowS w B A n c rows) (hat : D'.map (·.block) = D.map (·.block) ∨ D'.map (·.block) = some w.heap.size) : Apart D' rows := by
  intro r hr
  rcases hat with e | e
  · rw [e]; exact h r hr
  · rcases q : r.A.map (·.block) with _ | g
    · exact .inl q
    · right
      have := own_block_lt (hn.each r hr) q
      intro e'
      rw [q, e] at e'
      injection e' with e'
      omega
/-- What the copies are, while they are merged with each other. -/
structure NowAll (al : List Sky.Rec) (css : List (List Sky.Rec)) (w : World) (B g n c : Nat) (D : Option Addr) (m d : Nat) (rows : List RowV) : Prop where
  now : NowS w B (some ⟨g, 0, none⟩) n c rows
  all : Sky.Own w B 50 3 encRec D m d al
  is : Now al css (rows.map fun r => r.xs)
theorem NowAll.keep {al : List Sky.Rec} {css : List (List Sky.Rec)} {w W : World} {B g n c : Nat} {D : Option Addr} {m d : Nat} {rows : List RowV} (h : NowAll al css w B g n c D m d rows) (hn : New w W) : NowAll al css W B g n c D m d rows :=
  ⟨h.now.keep hn, h.all.keep hn, h.is⟩
theorem NowAll.row {al : List Sky.Rec} {css : List (List Sky.Rec)} {w : World} {B g n c : Nat} {D : Option Addr} {m d : Nat} {rows : List RowV} (h : NowAll al css w B g n c D m d rows) {j : Nat} (hj : j < n) :
    ∃ r, rows[j]? = some r ∧ w.cell? ⟨g, j, none⟩ = some (.slice r.A r.n r.c) ∧ Rd w 3 encRec r.A r.n r.xs ∧ OkR al r.xs ∧ r.n ≤ al.length ∧ r.n ≤ r.c := by
  have hl := h.now.own.len
  have hx : rows[j]? = some rows[j] := List.getElem?_eq_getElem (by omega)
  have hm := List.mem_of_getElem? hx
  have ho := h.now.each _ hm
  have hk := h.is.ok _ (List.mem_map.2 ⟨_, hm, rfl⟩)
  refine ⟨_, hx, h.now.own.cell1 j _ _ hx rfl, ho.rd, hk, ?_, ho.le.1⟩
  have := hk.len
  rw [ho.len] at this
  exact this
theorem NowAll.set {al : List Sky.Rec} {css : List (List Sky.Rec)} {w : World} {B g n c : Nat} {D : Option Addr} {m d : Nat} {rows : List RowV} (h : NowAll al css w B g n c D m d rows) {a b : Nat} {ra rb r : RowV}
    (ha : rows[a]? = some ra) (hb : rows[b]? = some rb) (hr : Sky.Own w B 50 3 encRec r.A r.n r.c r.xs) (hx : r.xs = mergeR (ra.xs ++ rb.xs)) :
    NowAll al css (w.setCell ⟨g, a, none⟩ (.slice r.A r.n r.c)) B g n c D m d (rows.set a r) := by
  have hl := h.now.own.len
  have hj : a < n := by rw [← hl]; exact (List.getElem?_eq_some_iff.1 ha).1
  refine ⟨h.now.set a r hj hr, own_set_apart h.all h.now.own types_ne _ _, ?_⟩
  rw [List.map_set, hx]
  exact h.is.set (by rw [List.getElem?_map, ha]; rfl) (by rw [List.getElem?_map, hb]; rfl)
theorem NowAll.free {al : List Sky.Rec} {css : List (List Sky.Rec)} {w : World} {B g n c : Nat} {D : Option Addr} {m d : Nat} {rows : List RowV} (h : NowAll al css w B g n c D m d rows) (j : Nat) : w.frozen? ⟨g, j, none⟩ = false := h.now.own.free j

theorem NowAll.gath {al : List Sky.Rec} {css : List (List Sky.Rec)} {w : World} {B g n c : Nat} {D : Option Addr} {m d : Nat} {rows : List RowV} (h : NowAll al css w B g n c D m d rows) {i : Nat} {ra rb r : RowV}
    (hg : Gath css (rows.map fun r => r.xs) i) (ha : rows[0]? = some ra) (hb : rows[i]? = some rb) (hx : r.xs = mergeR (ra.xs ++ rb.xs)) : Gath css ((rows.set 0 r).map fun r => r.xs) (i + 1) := by
  rw [List.map_set, hx]
  exact hg.step h.is (by rw [List.getElem?_map, ha]; rfl) (by rw [List.getElem?_map, hb]; rfl)
theorem NowAll.start {al : List Sky.Rec} {css : List (List Sky.Rec)} {w : World} {B g n c : Nat} {D : Option Addr} {m d : Nat} {rows : List RowV} (h : NowAll al css w B g n c D m d rows) (hn : 0 < n)
    (hal : css.flatten = al) (hcl : css.length = n) (hg : Gath css (rows.map fun r => r.xs) n) : Done (mergeR al) (rows.map fun r => r.xs) 0 := by
  obtain ⟨r, hr, _⟩ := h.row hn
  subst hal
  exact Done.start hg hcl h.is (by rw [List.getElem?_map, hr]; rfl)
theorem NowAll.done {al : List Sky.Rec} {css : List (List Sky.Rec)} {w : World} {B g n c : Nat} {D : Option Addr} {m d : Nat} {rows : List RowV} (h : NowAll al css w B g n c D m d rows) {i : Nat} {ra rb r : RowV}
    (hd : Done (mergeR al) (rows.map fun r => r.xs) i) (ha : rows[i]? = some ra) (hb : rows[0]? = some rb) (hx : r.xs = mergeR (ra.xs ++ rb.xs)) : Done (mergeR al) ((rows.set i r).map fun r => r.xs) (i + 1) := by
  have e : rb.xs = mergeR al := by
    have := hd.1
    rw [List.getElem?_map, hb] at this
    injection this
  obtain ⟨h1, h2⟩ := hd.step h.is (r := ra.xs) (by rw [List.getElem?_map, ha]; rfl)
  rw [List.map_set, hx, e, h1]
  exact h2
theorem NowAll.last {al : List Sky.Rec} {css : List (List Sky.Rec)} {w : World} {B g n c : Nat} {D : Option Addr} {m d : Nat} {rows : List RowV} (h : NowAll al css w B g n c D m d rows)
    (hd : Done (mergeR al) (rows.map fun r => r.xs) n) {j : Nat} (hj : j < n) {L : List Sky.Rec} {k : Nat} (hL : mergeR al = L) (hk : L.length = k) : ∃ A c', w.cell? ⟨g, j, none⟩ = some (.slice A k c') ∧ Rd w 3 encRec A k L := by
  obtain ⟨r, hr, hc, hrd, _⟩ := h.row hj
  have e := hd.2 j r.xs hj (by rw [List.getElem?_map, hr]; rfl)
  rw [hL] at e
  have hn := hrd.len
  rw [e, hk] at hn
  rw [← hn, e] at hrd
  rw [← hn] at hc
  exact ⟨r.A, r.c, hc, hrd⟩

theorem NowAll.turn {al : List Sky.Rec} {css : List (List Sky.Rec)} {w : World} {B g n c : Nat} {D : Option Addr} {m d : Nat} {rows : List RowV} (h : NowAll al css w B g n c D m d rows) (hn : 0 < n)
    (hal : css.flatten = al) (hcl : css.length = n) {i : Nat} (hi : i < n) (hg : Gath css (rows.map fun r => r.xs) (i + 1)) : n ≤ i + 1 → Done (mergeR al) (rows.map fun r => r.xs) (i + 1 - n) := by
  intro hle
  have e : i + 1 = n := by omega
  rw [e] at hg ⊢
  rw [Nat.sub_self]
  exact h.start hn hal hcl hg

theorem rec_cases {x y : Sky.Rec} (h : y.n.toList = x.n.toList → Ge y x) :
    (y.n.toList ≠ x.n.toList ∧ Hid (keepX x y = false)) ∨ (y.n.toList = x.n.toList ∧ eqX y x = true ∧ Hid (keepX x y = true)) ∨ (y.n.toList = x.n.toList ∧ eqX y x = false ∧ x.v < y.v ∧ Hid (keepX x y = true)) ∨
      (y.n.toList = x.n.toList ∧ eqX y x = false ∧ ¬ x.v < y.v ∧ y.v = x.v ∧ x.b.toList < y.b.toList ∧ Hid (keepX x y = true)) := by
  by_cases hn : y.n.toList = x.n.toList
  · right
    have dn : (y.n.toList == x.n.toList) = true := beq_iff_eq.2 hn
    cases he : eqX y x
    · right
      by_cases hv : x.v < y.v
      · exact .inl ⟨hn, rfl, hv, Lib.hid (by unfold keepX; rw [dn, he, decide_eq_true hv]; rfl)⟩
      · right
        rcases h hn with q | ⟨q, qb⟩
        · exact absurd q hv
        · have hb : x.b.toList < y.b.toList := by
            rcases Decidable.em (x.b.toList < y.b.toList) with r | r
            · exact r
            · exfalso
              have : eqX y x = true := by
                unfold eqX
                rw [Bool.and_eq_true, Bool.and_eq_true, beq_iff_eq, beq_iff_eq, beq_iff_eq]
                exact ⟨hn, q.symm, List.le_antisymm (List.not_lt.1 r) (List.not_lt.1 qb)⟩
              rw [he] at this
              cases this
          exact ⟨hn, rfl, hv, q.symm, hb, Lib.hid (by unfold keepX; rw [dn, he, decide_eq_true hb, beq_iff_eq.2 q.symm]; simp)⟩
    · exact .inl ⟨hn, rfl, Lib.hid (by unfold keepX; rw [dn, he]; rfl)⟩
  · exact .inl ⟨hn, Lib.hid (by unfold keepX; rw [beq_eq_false_iff_ne.2 hn]; rfl)⟩

set_option maxRecDepth 100000 in
theorem newest_early (S T : Option Addr) (cnt cs ne ce : Nat) (w : World) (h : cnt = 0 ∨ (0 < cnt ∧ 3 < cnt) ∨ (0 < cnt ∧ cnt ≤ 3 ∧ 12 < ne)) :
    Calls Try.prog 6 #[.slice S cnt cs, .slice T ne ce] w fun e w' => e = .returned (.bool true) ∧ New w w' := by
  rcases h with h | ⟨h, k⟩ | ⟨h, k, j⟩
  · have d1 : ((cnt : Int) == 0) = true := by simp; omega
    go_enter Try.func6, Try.ntmps6
    go_wp2_with fail
    refine (stationAwake_any _).mono ?_
    rintro e w1 ⟨rfl, n1⟩
    go_wp2_with fail
    go_ret
    exact ⟨rfl, n1⟩
  · have d1 : ((cnt : Int) == 0) = false := by simp; omega
    have d2 : decide ((3 : Int) < (cnt : Int)) = true := decide_eq_true (by omega)
    go_enter Try.func6, Try.ntmps6
    go_wp2_with fail
    refine (stationAwake_any _).mono ?_
    rintro e w1 ⟨rfl, n1⟩
    go_wp2_with fail
    go_ret
    exact ⟨rfl, n1⟩
  · have d1 : ((cnt : Int) == 0) = false := by simp; omega
    have d2 : decide ((3 : Int) < (cnt : Int)) = false := decide_eq_false (by omega)
    have d3 : decide ((12 : Int) < (ne : Int)) = true := decide_eq_true (by omega)
    go_enter Try.func6, Try.ntmps6
    go_wp2_with fail
    refine (stationAwake_any _).mono ?_
    rintro e w1 ⟨rfl, n1⟩
    go_wp2_with fail
    go_ret
    exact ⟨rfl, n1⟩

theorem infoRow : (Try.prog.info? 41).map (fun i => (i.zero, i.size, i.bytes)) = some (some (.slice none 0 0), 1, 24) := by kernel_rfl

set_option maxRecDepth 100000 in
set_option maxHeartbeats 16000000 in
theorem newest_in (S T : Option Addr) (cnt cs ne ce : Nat) (rows : List RowV) (ps : List (Int × Int)) (w : World) (h1 : 0 < cnt) (h3 : cnt ≤ 3) (h12 : ne ≤ 12)
    (hR : Rd w 1 encV S cnt rows) (hr : ∀ r ∈ rows, Rd w 3 encRec r.A r.n r.xs) (hP : Rd w 2 encP T ne ps) :
    Calls Try.prog 6 #[.slice S cnt cs, .slice T ne ce] w fun e w' => e = .returned (.bool true) ∧ New w w' := by
  have HL := Lib.hid hR.len
  have HR := Lib.hid hR
  have HX := Lib.hid hr
  have HPS := Lib.hid hP
  clear hR hr hP
  obtain ⟨css, hcss⟩ : ∃ l, (rows.map fun r => r.xs) = l := ⟨_, rfl⟩
  have HCS := Lib.hid hcss
  have HCL := Lib.hid (show css.length = cnt by rw [← hcss, List.length_map, HL.out])
  clear hcss
  obtain ⟨i0, hi, hz0, hz1, hz2⟩ := info_parts infoRec
  obtain ⟨i5, ki, kz0, kz1, kz2⟩ := info_parts infoRow
  have d1 : ((cnt : Int) == 0) = false := by simp; omega
  have d2 : decide ((3 : Int) < (cnt : Int)) = false := decide_eq_false (by omega)
  have d3 : decide ((12 : Int) < (ne : Int)) = false := decide_eq_false (by omega)
  go_enter Try.func6, Try.ntmps6
  go_wp2_with fail
  refine (stationAwake_any _).mono ?_
  rintro e w1 ⟨rfl, n1⟩
  go_wp2_with fail
  have HN0 := Lib.hid (NowS.nil w1 w.heap.size)
  have HA0 := Lib.hid (Sky.Own.nil w1 w.heap.size 50 3 encRec_len)
  have HD0 := Lib.hid (show Apart none [] from fun r hr => by cases hr)
  go_loopw [5, 6, 7, 8, 9] (fun v5 v6 v7 _ _ wr => ∃ (i : Nat) (A : Option Addr) (c : Nat) (D : Option Addr) (m d : Nat) (nr : List RowV), i ≤ cnt ∧ v7 = .int .i64 (i : Int) ∧ v5 = .slice A i c ∧ v6 = .slice D m d ∧
    Hid (NowS wr w.heap.size A i c nr) ∧ Hid (Sky.Own wr w.heap.size 50 3 encRec D m d (css.take i).flatten) ∧ Hid (Apart D nr) ∧ Hid ((nr.map fun r => r.xs) = (css.take i).map mr) ∧ Hid (∀ c ∈ css.take i, recsS c = 0 ∧ c.length ≤ 8) ∧ m ≤ i * 8 ∧ New w wr) (fun _ _ v7 _ _ _ => cnt - (intOf v7).toNat)
  case atStart => exact ⟨0, none, 0, none, 0, 0, [], by omega, rfl, rfl, rfl, HN0, HA0, HD0, Lib.hid rfl, Lib.hid (by intro c hc; simp at hc), by omega, n1⟩
  case round =>
    clear HN0 HA0 HD0 n1
    obtain ⟨i, A, c, D, m, d, nr, hi2, rfl, rfl, rfl, HN, HO, HD, HM, HE, hm8, nw⟩ := hrel
    by_cases hlt : i < cnt
    · as_aux_lemma =>
      obtain ⟨b1, o1, r, rfl, hb1, hx, hc⟩ := HR.out.at_ hlt
      have G0 := hc 0 _ rfl
      simp only [Nat.add_zero, Nat.mul_one] at G0
      have g0 := nw.cell G0
      have hrr := (HX.out r (List.mem_of_getElem? hx)).keep nw
      have HG0 := Lib.hid G0
      have HRR := Lib.hid (HX.out r (List.mem_of_getElem? hx))
      have hcx : css[i]? = some r.xs := by rw [← HCS.out, List.getElem?_map, hx]; rfl
      have HCX := Lib.hid hcx
      have j0 : (0 : Int) ≤ (i : Int) := by omega
      have j1 : (i : Int) < (cnt : Int) := by omega
      have hrl := hrr.len
      have HRL := Lib.hid hrl
      clear hx hc hrr hcx hrl G0
      by_cases h8 : 8 < r.n
      · have d4 : decide ((8 : Int) < (r.n : Int)) = true := decide_eq_true (by omega)
        go_wp2_with fail
        go_ret
        exact ⟨rfl, nw⟩
      · have d4 : decide ((8 : Int) < (r.n : Int)) = false := decide_eq_false (by omega)
        obtain ⟨E, hE⟩ : ∃ e, recsS r.xs = e := ⟨_, rfl⟩
        have HEE := Lib.hid hE
        by_cases hE0 : E = 0
        · have d5 : (E != 0) = false := by simp [hE0]
          rw [hE0] at hE
          obtain ⟨q1, q2⟩ := merged_ok hE (b := []) rfl (by have := mr_len r.xs; rw [HRL.out] at this; unfold mr at this; omega)
          have hml := mr_len r.xs
          rw [HRL.out] at hml
          obtain ⟨k, hk⟩ : ∃ k, (mr r.xs).length = k := ⟨_, rfl⟩
          rw [hk] at hml
          have HQ1 := Lib.hid q1
          have HQ2 := Lib.hid q2
          have HK := Lib.hid hk
          have HNM := Lib.hid (rec_names hE)
          have HE0 := Lib.hid hE
          have d6 : decide ((r.n : Int) < (k : Int)) = false := decide_eq_false (by omega)
          clear q1 q2 hk hE
          go_wp2_with fail
          refine (refRecordsErr_all r.A r.n r.c r.xs _ (by omega) (HRR.out.keep nw)).mono ?_
          rintro e w2 ⟨rfl, n2⟩
          rw [HEE.out]
          have g0 := n2.cell g0
          go_wp2_with fail
          refine (copyRecs_any r.A r.n r.c r.xs _ (by omega) (HRR.out.keep (nw.trans n2))).mono ?_
          rintro e w3 ⟨A3, c3, rfl, o3, n3⟩
          have HO3 := Lib.hid o3.rd
          have g0 := n3.cell g0
          clear o3
          go_wp2_with fail
          refine (mergedIs A3 none r.n 0 c3 0 _ HQ1.out HQ2.out HK.out (by omega) (by omega) HNM.out (by intro x hx; cases hx) HO3.out (Rd.nil _ _ _ _)).mono ?_
          rintro e w4 ⟨n4, C, c4, rfl, r4⟩
          have HR4 := Lib.hid r4
          have g0 := n4.cell g0
          clear r4
          go_wp2_with fail
          refine (copyRecs_any C k c4 (mr r.xs) _ (by omega) HR4.out).mono ?_
          rintro e w5 ⟨A5, c5, rfl, o5, n5⟩
          have N4 := ((n2.trans n3).trans n4)
          have g0 := n5.cell g0
          have HO5 := Lib.hid (o5.base_le (nw.trans N4).size)
          have HD5 := Lib.hid (show Apart D (nr ++ [⟨A5, k, c5, mr r.xs⟩]) by
            intro q hq
            rcases List.mem_append.1 hq with e | e
            · exact HD.out q e
            · simp only [List.mem_singleton] at e
              subst e
              exact apart_new (HO.out.keep N4) o5 (Nat.le_refl _))
          have N5 := N4.trans n5
          have HN5 := Lib.hid (HN.out.keep N5)
          have HA5 := Lib.hid (HO.out.keep N5)
          have NW5 := nw.trans N5
          have n5' := n2.trans n3
          clear o5 HO HN HD n2 n3 n4 n5 N4 n5' HO3 HR4
          go_wp2_with (first
            | (at_builtin; refine wpList_pour_at _ rfl _ _ 52 rfl 41 i5 _ 1 24 Try.underlying52 ki kz0 kz1 kz2 rfl (by omega) w.heap.size encV _ _ _ _ rfl (HN5.out.own.alloc _) _ 1 1 [⟨A5, k, c5, mr r.xs⟩] rfl (by exact rd_bx (Bx.mk_at _ _ _ _ rfl) encV_len [⟨A5, k, c5, mr r.xs⟩] rfl 1 rfl) encV_one (by simp [maxLen]; omega) (by omega) (by have := NW5.size; simp; omega) ?_; intro A6 c6 w6 ho6 hg6 hat6 hN6; have NW6 := hN6 w (NW5.alloc _) (Nat.le_refl _); have g6 := NW6.cell HG0.out; have ha6 := (HA5.out.alloc _).kept hg6 (own_apart HA5.out HN5.out.own types_ne))
            | (at_builtin; refine wpList_pour_at _ rfl _ _ 41 rfl 50 i0 _ 3 40 Try.underlying41 hi hz0 hz1 hz2 rfl (by omega) w.heap.size encRec _ _ _ _ rfl ha6 _ _ _ _ rfl (HRR.out.keep NW6) encRec_one (by simp [maxLen]; omega) (by omega) NW6.size ?_; intro A7 c7 w7 ho7 hg7 hat7 hN7))
          have NW7 := hN7 w NW6 (Nat.le_refl _)
          obtain ⟨g, rfl⟩ : ∃ g, A6 = some ⟨g, 0, none⟩ := by
            rcases ho6.form with ⟨_, h, _⟩ | ⟨g, h, _⟩
            · omega
            · exact ⟨g, h⟩
          have hn6 := NowS.push (r := ⟨A5, k, c5, mr r.xs⟩) ((HN5.out).keep ((New.refl _).alloc _)) (HO5.out.alloc _) ho6 hg6
          have hn7 := hn6.grow hg7 HD5.out ha6
          have hd7 := HD5.out.grow hn6 hat7
          have hfl : (css.take i).flatten ++ r.xs = (css.take (i + 1)).flatten := by rw [take_snoc css i r.xs HCX.out, List.flatten_append]; simp
          rw [hfl] at ho7
          have hmm : ((nr ++ [(⟨A5, k, c5, mr r.xs⟩ : RowV)]).map fun r : RowV => r.xs) = (css.take (i + 1)).map mr := by rw [take_snoc css i r.xs HCX.out, List.map_append, List.map_append, HM.out]; rfl
          have hee : ∀ c ∈ css.take (i + 1), recsS c = 0 ∧ c.length ≤ 8 := by
            intro c hc
            rw [take_snoc css i r.xs HCX.out] at hc
            rcases List.mem_append.1 hc with q | q
            · exact HE.out c q
            · simp only [List.mem_singleton] at q
              subst q
              exact ⟨HE0.out, by rw [HRL.out]; omega⟩
          go_roundw
          case rel => exact ⟨i + 1, some ⟨g, 0, none⟩, c6, A7, m + r.n, c7, nr ++ [⟨A5, k, c5, mr r.xs⟩], by omega, by go_num, rfl, rfl, Lib.hid hn7, Lib.hid ho7, Lib.hid hd7, Lib.hid hmm, Lib.hid hee, by omega, NW7⟩
          case measure => simp [intOf]; omega
        · have d5 : (E != 0) = true := by simpa using hE0
          clear hE
          go_wp2_with fail
          refine (refRecordsErr_all r.A r.n r.c r.xs _ (by omega) (HRR.out.keep nw)).mono ?_
          rintro e w2 ⟨rfl, n2⟩
          rw [HEE.out]
          go_wp2_with fail
          go_ret
          exact ⟨rfl, nw.trans n2⟩
    · have hic : i = cnt := by omega
      obtain ⟨g, rfl⟩ : ∃ g, A = some ⟨g, 0, none⟩ := by
        rcases HN.out.own.form with ⟨_, h, _⟩ | ⟨g, h, _⟩
        · omega
        · exact ⟨g, h⟩
      obtain ⟨al, hal⟩ : ∃ l, css.flatten = l := ⟨_, rfl⟩
      have htk : css.take i = css := List.take_of_length_le (by rw [HCL.out]; omega)
      have hm24 : m ≤ 24 := by omega
      have HAL := Lib.hid hal
      have HST := Lib.hid (show NowAll al css wr w.heap.size g cnt c D m d nr from ⟨hic ▸ HN.out, by have := HO.out; rwa [htk, hal] at this, by rw [HM.out, htk, ← hal]; exact mr_now css⟩)
      have hal24 : al.length = m := by have := HO.out.len; rwa [htk, hal] at this
      have HREC := Lib.hid (show ∀ x ∈ al, recE x = 0 by
        intro x hx
        rw [← hal] at hx
        obtain ⟨q, hq, hxq⟩ := List.mem_flatten.1 hx
        rw [← htk] at hq
        exact (recsS_zero.1 (HE.out q hq).1).2 x hxq)
      have HAM := Lib.hid hal24
      rw [hic]
      clear hal htk hal24 HN HO HD HM HE
      go_wp2_with fail
      go_loopw [11, 12, 13, 14, 15] (fun v11 _ _ _ _ wy => ∃ (i : Nat) (nr : List RowV), i ≤ ne ∧ v11 = .int .i64 (i : Int) ∧ Hid (NowAll al css wy w.heap.size g cnt c D m d nr) ∧ New w wy) (fun v11 _ _ _ _ _ => ne - (intOf v11).toNat)
      case atStart => exact ⟨0, nr, by omega, rfl, HST, nw⟩
      case round =>
        clear HST nw hic hlt hi2 hm8
        obtain ⟨i, nr, hi2, rfl, HST, nw⟩ := hrel
        by_cases hlt : i < ne
        · as_aux_lemma =>
          obtain ⟨b1, o1, p, rfl, hb1, hx, hc⟩ := HPS.out.at_ hlt
          have g0 := nw.cell (hc 0 _ rfl)
          have g1 := nw.cell (hc 1 _ rfl)
          simp only [Nat.add_zero] at g0
          have lb1 : b1 < _ := World.block_lt_of_cell? _ _ g0
          obtain ⟨ka, hka, hka'⟩ : ∃ ka : Nat, p.1 % (cnt : Int) = (ka : Int) ∧ ka < cnt := ⟨(p.1 % (cnt : Int)).toNat, (Int.toNat_of_nonneg (Int.emod_nonneg _ (by omega))).symm, by have := Int.emod_lt_of_pos p.1 (b := (cnt : Int)) (by omega); have := Int.emod_nonneg p.1 (b := (cnt : Int)) (by omega); omega⟩
          obtain ⟨kb, hkb, hkb'⟩ : ∃ ka : Nat, p.2 % (cnt : Int) = (ka : Int) ∧ ka < cnt := ⟨(p.2 % (cnt : Int)).toNat, (Int.toNat_of_nonneg (Int.emod_nonneg _ (by omega))).symm, by have := Int.emod_lt_of_pos p.2 (b := (cnt : Int)) (by omega); have := Int.emod_nonneg p.2 (b := (cnt : Int)) (by omega); omega⟩
          have HKA := Lib.hid hka
          have HKB := Lib.hid hkb
          have j0 : (0 : Int) ≤ (i : Int) := by omega
          have j1 : (i : Int) < (ne : Int) := by omega
          clear hka hkb hx hc
          go_wp2_with fail
          (refine wp_region_new (by kernel_rfl) (by kernel_rfl) ?_; (repeat (go_big_quiet_step (((go_at_call 10; exact quiet_same (Mod_any _ _ _ (by omega) (by omega))))))); refine wpQuiet_nil ?_)
          intro w2 n2
          rw [HKA.out, HKB.out]
          have HST := Lib.hid (HST.out.keep n2)
          have nw := nw.trans n2
          clear n2 g0 g1 lb1
          obtain ⟨ra, hxa, ca0, rda, oka, lna, _⟩ := HST.out.row (j := ka) (by omega)
          obtain ⟨rb, hxb, cb0, rdb, okb, lnb, _⟩ := HST.out.row (j := kb) (by omega)
          obtain ⟨X, hX⟩ : ∃ l, mergeR (ra.xs ++ rb.xs) = l := ⟨_, rfl⟩
          have okX : OkR al X := hX ▸ OkR.merge oka.2 okb.2
          obtain ⟨k, hk⟩ : ∃ k, X.length = k := ⟨_, rfl⟩
          have hkm : k ≤ m := by have := okX.len; rw [HAM.out, hk] at this; exact this
          have ea := oka.err HREC.out (by rw [HAM.out]; omega)
          have eb := okb.err HREC.out (by rw [HAM.out]; omega)
          obtain ⟨q1, q2⟩ := merged_ok ea eb (by rw [hX, hk]; omega)
          rw [hX] at q2
          have HQ1 := Lib.hid q1
          have HQ2 := Lib.hid q2
          have HK := Lib.hid hk
          have HNA := Lib.hid (rec_names ea)
          have HNB := Lib.hid (rec_names eb)
          have HXA := Lib.hid hxa
          have HXB := Lib.hid hxb
          have HXX := Lib.hid hX
          have HRA := Lib.hid rda
          have HRB := Lib.hid rdb
          rw [HAM.out] at lna lnb
          have d6 : decide ((m : Int) < (k : Int)) = false := decide_eq_false (by omega)
          have lg : g < _ := World.block_lt_of_cell? _ _ ca0
          have ja0 : (0 : Int) ≤ ((ka : Nat) : Int) := by omega
          have ja1 : ((ka : Nat) : Int) < (cnt : Int) := by omega
          have jb0 : (0 : Int) ≤ ((kb : Nat) : Int) := by omega
          have jb1 : ((kb : Nat) : Int) < (cnt : Int) := by omega
          clear q1 q2 hk hxa hxb hX rda rdb oka okb ea eb okX
          go_wp2_with fail
          refine wp_region_takes0 w2 (New.refl _) 4 12 #[true, true, true, true, false, false, false, false, false, false, false, false, false, false, false, false] (by kernel_rfl) (by kernel_rfl) (by kernel_rfl) (by kernel_rfl) (by kernel_rfl) (by kernel_rfl) ?_
          simp only [List.take_succ_cons, List.take_zero]
          (repeat (go_big_quiet_step ((fail))))
          refine wpQuiet_nil ?_
          intro W5 n5
          refine take_next 5 4 #[true, true, true, true, false, true, true, true, true, false, false, false, false, false, false, false] rfl (by kernel_rfl) (by kernel_rfl) (by kernel_rfl) (by kernel_rfl) (by decide) ?_
          simp only [List.take_succ_cons, List.take_zero, List.drop_succ_cons, List.drop_zero]
          (repeat (go_big_quiet_step ((fail))))
          refine wpQuiet_nil ?_
          refine one_next 4 (by kernel_rfl) (new_plus n5) (wpOpIn_list rfl ?_)
          gi_wp2_with fail
          refine ⟨trivial, callsIn_wide.2 ((copyRecs_any ra.A ra.n ra.c ra.xs _ (by omega) (HRA.out.keep n5)).mono ?_)⟩
          rintro e w6 ⟨A6, c6, rfl, o6, n6⟩
          gi_wp2
          refine one_next 9 (by kernel_rfl) (new_plus (n5.trans n6)) (wpOpIn_list rfl ?_)
          gi_wp2_with fail
          refine ⟨trivial, callsIn_wide.2 ((copyRecs_any rb.A rb.n rb.c rb.xs _ (by omega) (HRB.out.keep (n5.trans n6))).mono ?_)⟩
          rintro e W7 ⟨A7, c7, rfl, o7, n7⟩
          gi_wp2
          have nn := (n5.trans n6).trans n7
          have HR6 := Lib.hid (o6.rd.keep n7)
          have HR7 := Lib.hid o7.rd
          clear o6 o7 n6 n7
          refine one_next 10 (by kernel_rfl) (new_plus nn) (wpOpIn_list rfl ?_)
          gi_wp2_with fail
          refine ⟨trivial, callsIn_wide.2 ((mergedIs A6 A7 ra.n rb.n c6 c7 _ HQ1.out HQ2.out HK.out (by omega) (by omega) HNA.out HNB.out HR6.out HR7.out).mono ?_)⟩
          rintro e w8 ⟨n8, C, c8, rfl, r8⟩
          have HR8 := Lib.hid r8
          have N8 := nn.trans n8
          clear r8 n8 nn HR6 HR7
          gi_wp2
          refine take_next 11 5 #[true, true, true, true, true, true, true, true, true, true, true, true, true, true, true, true] rfl (by kernel_rfl) (by kernel_rfl) (by kernel_rfl) (by kernel_rfl) (by decide) ?_
          simp only [List.take_succ_cons, List.take_zero, List.drop_succ_cons, List.drop_zero]
          (repeat (go_big_quiet_step ((fail))))
          refine wpQuiet_nil ?_
          refine end_any (new_plus N8) (by kernel_rfl) ?_
          go_wp2_with fail
          refine (copyRecs_any C k c8 X _ (by omega) HR8.out).mono ?_
          rintro e w9 ⟨A9, c9, rfl, o9, n9⟩
          have N9 := N8.trans n9
          have hs9 := HST.out.keep N9
          have hset := hs9.set (r := ⟨A9, k, c9, X⟩) HXA.out HXB.out (o9.base_le (nw.trans N8).size) HXX.out.symm
          have hnew := hs9.now.new (nw.trans N9) (Nat.le_refl _) ka (.slice A9 k c9)
          have HSET := Lib.hid hset
          have HNEW := Lib.hid hnew
          have f0 := N9.cell ca0
          have fz := hs9.free ka
          clear hs9 hset hnew o9 n9 ca0 cb0
          go_wp2_with fail
          go_roundw
          case rel => exact ⟨i + 1, nr.set ka ⟨A9, k, c9, X⟩, by omega, by go_num, HSET, HNEW.out⟩
          case measure => simp [intOf]; omega
        · have HGA := Lib.hid (Gath.zero css (nr.map fun r => r.xs))
          have HDN := Lib.hid (show cnt ≤ 0 → Done (mergeR al) (nr.map fun r => r.xs) (0 - cnt) from fun h => absurd h (by omega))
          go_wp2_with fail
          go_loopw [16, 17, 18, 19, 20] (fun v16 _ _ _ _ wy => ∃ (i : Nat) (nr : List RowV), i ≤ 2 * cnt ∧ v16 = .int .i64 (i : Int) ∧ Hid (NowAll al css wy w.heap.size g cnt c D m d nr) ∧
            Hid (i ≤ cnt → Gath css (nr.map fun r => r.xs) i) ∧ Hid (cnt ≤ i → Done (mergeR al) (nr.map fun r => r.xs) (i - cnt)) ∧ New w wy) (fun v16 _ _ _ _ _ => 2 * cnt - (intOf v16).toNat)
          case atStart => exact ⟨0, nr, by omega, rfl, HST, Lib.hid (fun _ => HGA.out), HDN, nw⟩
          case round =>
            clear HST nw HGA HDN hlt hi2
            obtain ⟨i, nr, hi2, rfl, HST, HGA, HDN, nw⟩ := hrel
            by_cases hlt : i < 2 * cnt
            · have d8 : decide ((i : Int) < 2 * (cnt : Int)) = true := decide_eq_true (by omega)
              have d8' : (i : Int) < 2 * (cnt : Int) := by omega
              by_cases hic : i < cnt
              · as_aux_lemma =>
                have d7 : decide ((cnt : Int) ≤ (i : Int)) = false := decide_eq_false (by omega)
                have d7' : ¬ (cnt : Int) ≤ (i : Int) := by omega
                obtain ⟨ra, hxa, ca0, rda, oka, lna, _⟩ := HST.out.row (j := 0) (by omega)
                obtain ⟨rb, hxb, cb0, rdb, okb, lnb, _⟩ := HST.out.row (j := i) (by omega)
                obtain ⟨X, hX⟩ : ∃ l, mergeR (ra.xs ++ rb.xs) = l := ⟨_, rfl⟩
                have okX : OkR al X := hX ▸ OkR.merge oka.2 okb.2
                obtain ⟨k, hk⟩ : ∃ k, X.length = k := ⟨_, rfl⟩
                have hkm : k ≤ m := by have := okX.len; rw [HAM.out, hk] at this; exact this
                have ea := oka.err HREC.out (by rw [HAM.out]; omega)
                have eb := okb.err HREC.out (by rw [HAM.out]; omega)
                obtain ⟨q1, q2⟩ := merged_ok ea eb (by rw [hX, hk]; omega)
                rw [hX] at q2
                have HQ1 := Lib.hid q1
                have HQ2 := Lib.hid q2
                have HK := Lib.hid hk
                have HNA := Lib.hid (rec_names ea)
                have HNB := Lib.hid (rec_names eb)
                have HXA := Lib.hid hxa
                have HXB := Lib.hid hxb
                have HXX := Lib.hid hX
                have HRA := Lib.hid rda
                have HRB := Lib.hid rdb
                rw [HAM.out] at lna lnb
                have d6 : decide ((m : Int) < (k : Int)) = false := decide_eq_false (by omega)
                have lg : g < _ := World.block_lt_of_cell? _ _ ca0
                have ja0 : (0 : Int) ≤ ((0 : Nat) : Int) := by omega
                have ja1 : ((0 : Nat) : Int) < (cnt : Int) := by omega
                have jb0 : (0 : Int) ≤ ((i : Nat) : Int) := by omega
                have jb1 : ((i : Nat) : Int) < (cnt : Int) := by omega
                clear q1 q2 hk hxa hxb hX rda rdb oka okb ea eb okX
                go_wp2_with fail
                refine wp_region_takes0 wr (New.refl _) 4 12 #[true, true, true, true, false, false, false, false, false, false, false, false, false, false, false, false] (by kernel_rfl) (by kernel_rfl) (by kernel_rfl) (by kernel_rfl) (by kernel_rfl) (by kernel_rfl) ?_
                simp only [List.take_succ_cons, List.take_zero]
                (repeat (go_big_quiet_step ((fail))))
                refine wpQuiet_nil ?_
                intro W5 n5
                refine take_next 5 4 #[true, true, true, true, false, true, true, true, true, false, false, false, false, false, false, false] rfl (by kernel_rfl) (by kernel_rfl) (by kernel_rfl) (by kernel_rfl) (by decide) ?_
                simp only [List.take_succ_cons, List.take_zero, List.drop_succ_cons, List.drop_zero]
                (repeat (go_big_quiet_step ((fail))))
                refine wpQuiet_nil ?_
                refine one_next 4 (by kernel_rfl) (new_plus n5) (wpOpIn_list rfl ?_)
                gi_wp2_with fail
                refine ⟨trivial, callsIn_wide.2 ((copyRecs_any ra.A ra.n ra.c ra.xs _ (by omega) (HRA.out.keep n5)).mono ?_)⟩
                rintro e w6 ⟨A6, c6, rfl, o6, n6⟩
                gi_wp2
                refine one_next 9 (by kernel_rfl) (new_plus (n5.trans n6)) (wpOpIn_list rfl ?_)
                gi_wp2_with fail
                refine ⟨trivial, callsIn_wide.2 ((copyRecs_any rb.A rb.n rb.c rb.xs _ (by omega) (HRB.out.keep (n5.trans n6))).mono ?_)⟩
                rintro e W7 ⟨A7, c7, rfl, o7, n7⟩
                gi_wp2
                have nn := (n5.trans n6).trans n7
                have HR6 := Lib.hid (o6.rd.keep n7)
                have HR7 := Lib.hid o7.rd
                clear o6 o7 n6 n7
                refine one_next 10 (by kernel_rfl) (new_plus nn) (wpOpIn_list rfl ?_)
                gi_wp2_with fail
                refine ⟨trivial, callsIn_wide.2 ((mergedIs A6 A7 ra.n rb.n c6 c7 _ HQ1.out HQ2.out HK.out (by omega) (by omega) HNA.out HNB.out HR6.out HR7.out).mono ?_)⟩
                rintro e w8 ⟨n8, C, c8, rfl, r8⟩
                have HR8 := Lib.hid r8
                have N8 := nn.trans n8
                clear r8 n8 nn HR6 HR7
                gi_wp2
                refine take_next 11 5 #[true, true, true, true, true, true, true, true, true, true, true, true, true, true, true, true] rfl (by kernel_rfl) (by kernel_rfl) (by kernel_rfl) (by kernel_rfl) (by decide) ?_
                simp only [List.take_succ_cons, List.take_zero, List.drop_succ_cons, List.drop_zero]
                (repeat (go_big_quiet_step ((fail))))
                refine wpQuiet_nil ?_
                refine end_any (new_plus N8) (by kernel_rfl) ?_
                go_wp2_with fail
                refine (copyRecs_any C k c8 X _ (by omega) HR8.out).mono ?_
                rintro e w9 ⟨A9, c9, rfl, o9, n9⟩
                have N9 := N8.trans n9
                have hs9 := HST.out.keep N9
                have hset := hs9.set (r := ⟨A9, k, c9, X⟩) HXA.out HXB.out (o9.base_le (nw.trans N8).size) HXX.out.symm
                have hnew := hs9.now.new (nw.trans N9) (Nat.le_refl _) 0 (.slice A9 k c9)
                have HSET := Lib.hid hset
                have HNEW := Lib.hid hnew
                have f0 := N9.cell ca0
                have fz := hs9.free 0
                clear hs9 hset hnew o9 n9 ca0 cb0
                go_wp2_with fail
                go_roundw
                case rel => exact ⟨i + 1, nr.set 0 ⟨A9, k, c9, X⟩, by omega, by go_num, HSET, Lib.hid (fun _ => HST.out.gath (r := ⟨A9, k, c9, X⟩) (HGA.out (by omega)) HXA.out HXB.out HXX.out.symm), Lib.hid (HSET.out.turn h1 HAL.out HCL.out hic (HST.out.gath (r := ⟨A9, k, c9, X⟩) (HGA.out (by omega)) HXA.out HXB.out HXX.out.symm)), HNEW.out⟩
                case measure => simp [intOf]; omega
              · as_aux_lemma =>
                obtain ⟨j, hj⟩ : ∃ j, i = cnt + j := ⟨i - cnt, by omega⟩
                have q1 : (i : Int) - (cnt : Int) = (j : Int) := by omega
                have d7 : decide ((cnt : Int) ≤ (i : Int)) = true := decide_eq_true (by omega)
                have d7' : (cnt : Int) ≤ (i : Int) := by omega
                have HDJ := Lib.hid (show Done (mergeR al) (nr.map fun r => r.xs) j by have := HDN.out (by omega); rwa [show i - cnt = j by omega] at this)
                obtain ⟨ra, hxa, ca0, rda, oka, lna, _⟩ := HST.out.row (j := j) (by omega)
                obtain ⟨rb, hxb, cb0, rdb, okb, lnb, _⟩ := HST.out.row (j := 0) (by omega)
                obtain ⟨X, hX⟩ : ∃ l, mergeR (ra.xs ++ rb.xs) = l := ⟨_, rfl⟩
                have okX : OkR al X := hX ▸ OkR.merge oka.2 okb.2
                obtain ⟨k, hk⟩ : ∃ k, X.length = k := ⟨_, rfl⟩
                have hkm : k ≤ m := by have := okX.len; rw [HAM.out, hk] at this; exact this
                have ea := oka.err HREC.out (by rw [HAM.out]; omega)
                have eb := okb.err HREC.out (by rw [HAM.out]; omega)
                obtain ⟨q1, q2⟩ := merged_ok ea eb (by rw [hX, hk]; omega)
                rw [hX] at q2
                have HQ1 := Lib.hid q1
                have HQ2 := Lib.hid q2
                have HK := Lib.hid hk
                have HNA := Lib.hid (rec_names ea)
                have HNB := Lib.hid (rec_names eb)
                have HXA := Lib.hid hxa
                have HXB := Lib.hid hxb
                have HXX := Lib.hid hX
                have HRA := Lib.hid rda
                have HRB := Lib.hid rdb
                rw [HAM.out] at lna lnb
                have d6 : decide ((m : Int) < (k : Int)) = false := decide_eq_false (by omega)
                have lg : g < _ := World.block_lt_of_cell? _ _ ca0
                have ja0 : (0 : Int) ≤ ((j : Nat) : Int) := by omega
                have ja1 : ((j : Nat) : Int) < (cnt : Int) := by omega
                have jb0 : (0 : Int) ≤ ((0 : Nat) : Int) := by omega
                have jb1 : ((0 : Nat) : Int) < (cnt : Int) := by omega
                clear q1 q2 hk hxa hxb hX rda rdb oka okb ea eb okX
                go_wp2_with fail
                refine wp_region_takes0 wr (New.refl _) 4 12 #[true, true, true, true, false, false, false, false, false, false, false, false, false, false, false, false] (by kernel_rfl) (by kernel_rfl) (by kernel_rfl) (by kernel_rfl) (by kernel_rfl) (by kernel_rfl) ?_
                simp only [List.take_succ_cons, List.take_zero]
                (repeat (go_big_quiet_step ((fail))))
                refine wpQuiet_nil ?_
                intro W5 n5
                refine take_next 5 4 #[true, true, true, true, false, true, true, true, true, false, false, false, false, false, false, false] rfl (by kernel_rfl) (by kernel_rfl) (by kernel_rfl) (by kernel_rfl) (by decide) ?_
                simp only [List.take_succ_cons, List.take_zero, List.drop_succ_cons, List.drop_zero]
                (repeat (go_big_quiet_step ((fail))))
                refine wpQuiet_nil ?_
                refine one_next 4 (by kernel_rfl) (new_plus n5) (wpOpIn_list rfl ?_)
                gi_wp2_with fail
                refine ⟨trivial, callsIn_wide.2 ((copyRecs_any ra.A ra.n ra.c ra.xs _ (by omega) (HRA.out.keep n5)).mono ?_)⟩
                rintro e w6 ⟨A6, c6, rfl, o6, n6⟩
                gi_wp2
                refine one_next 9 (by kernel_rfl) (new_plus (n5.trans n6)) (wpOpIn_list rfl ?_)
                gi_wp2_with fail
                refine ⟨trivial, callsIn_wide.2 ((copyRecs_any rb.A rb.n rb.c rb.xs _ (by omega) (HRB.out.keep (n5.trans n6))).mono ?_)⟩
                rintro e W7 ⟨A7, c7, rfl, o7, n7⟩
                gi_wp2
                have nn := (n5.trans n6).trans n7
                have HR6 := Lib.hid (o6.rd.keep n7)
                have HR7 := Lib.hid o7.rd
                clear o6 o7 n6 n7
                refine one_next 10 (by kernel_rfl) (new_plus nn) (wpOpIn_list rfl ?_)
                gi_wp2_with fail
                refine ⟨trivial, callsIn_wide.2 ((mergedIs A6 A7 ra.n rb.n c6 c7 _ HQ1.out HQ2.out HK.out (by omega) (by omega) HNA.out HNB.out HR6.out HR7.out).mono ?_)⟩
                rintro e w8 ⟨n8, C, c8, rfl, r8⟩
                have HR8 := Lib.hid r8
                have N8 := nn.trans n8
                clear r8 n8 nn HR6 HR7
                gi_wp2
                refine take_next 11 5 #[true, true, true, true, true, true, true, true, true, true, true, true, true, true, true, true] rfl (by kernel_rfl) (by kernel_rfl) (by kernel_rfl) (by kernel_rfl) (by decide) ?_
                simp only [List.take_succ_cons, List.take_zero, List.drop_succ_cons, List.drop_zero]
                (repeat (go_big_quiet_step ((fail))))
                refine wpQuiet_nil ?_
                refine end_any (new_plus N8) (by kernel_rfl) ?_
                go_wp2_with fail
                refine (copyRecs_any C k c8 X _ (by omega) HR8.out).mono ?_
                rintro e w9 ⟨A9, c9, rfl, o9, n9⟩
                have N9 := N8.trans n9
                have hs9 := HST.out.keep N9
                have hset := hs9.set (r := ⟨A9, k, c9, X⟩) HXA.out HXB.out (o9.base_le (nw.trans N8).size) HXX.out.symm
                have hnew := hs9.now.new (nw.trans N9) (Nat.le_refl _) j (.slice A9 k c9)
                have HSET := Lib.hid hset
                have HNEW := Lib.hid hnew
                have f0 := N9.cell ca0
                have fz := hs9.free j
                clear hs9 hset hnew o9 n9 ca0 cb0
                go_wp2_with fail
                go_roundw
                case rel => exact ⟨i + 1, nr.set j ⟨A9, k, c9, X⟩, by omega, by go_num, HSET, Lib.hid (fun h => absurd h (by omega)), Lib.hid (fun _ => by rw [show i + 1 - cnt = j + 1 by omega]; exact HST.out.done (r := ⟨A9, k, c9, X⟩) HDJ.out HXA.out HXB.out HXX.out.symm), HNEW.out⟩
                case measure => simp [intOf]; omega
            · have d8 : decide ((i : Int) < 2 * (cnt : Int)) = false := decide_eq_false (by omega)
              have d8' : ¬ (i : Int) < 2 * (cnt : Int) := by omega
              have HDL := Lib.hid (show Done (mergeR al) (nr.map fun r => r.xs) cnt by have := HDN.out (by omega); rwa [show i - cnt = cnt by omega] at this)
              obtain ⟨L, hL⟩ : ∃ l, mergeR al = l := ⟨_, rfl⟩
              obtain ⟨kk, hkk⟩ : ∃ k, L.length = k := ⟨_, rfl⟩
              have hkm : kk ≤ m := by have := mergeR_len al; rw [hL, hkk, HAM.out] at this; exact this
              have HHAS := Lib.hid (show Has L al from hL ▸ Has.merge al)
              have HSUB := Lib.hid (show ∀ x ∈ L, x ∈ al from hL ▸ (merge_mergeR al).sub)
              have HLL := Lib.hid hL
              have HKK := Lib.hid hkk
              clear hL hkk
              go_wp2_with fail
              go_loopw [21] (fun v21 wy => ∃ i : Nat, i ≤ cnt ∧ v21 = .int .i64 (i : Int) ∧ New wr wy) (fun v21 _ => cnt - (intOf v21).toNat)
              case atStart => exact ⟨0, by omega, rfl, New.refl _⟩
              case round =>
                clear d8 d8' hlt hi2
                obtain ⟨i, hi2, rfl, nx⟩ := hrel
                by_cases hlt : i < cnt
                · as_aux_lemma =>
                  obtain ⟨A1, c1, ci1, hr1⟩ := (HST.out.keep nx).last HDL.out hlt HLL.out HKK.out
                  obtain ⟨A0, c0, ci0, hr0⟩ := (HST.out.keep nx).last HDL.out h1 HLL.out HKK.out
                  have HR1 := Lib.hid hr1
                  have HR0 := Lib.hid hr0
                  have lg : g < _ := World.block_lt_of_cell? _ _ ci0
                  have j0 : (0 : Int) ≤ (i : Int) := by omega
                  have j1 : (i : Int) < (cnt : Int) := by omega
                  have j2 : (0 : Int) < (cnt : Int) := by omega
                  clear hr1 hr0
                  go_wp2_with fail
                  (refine wp_region_new (by kernel_rfl) (by kernel_rfl) ?_; (repeat (go_big_quiet_step (((go_at_call 22; exact quiet_new (recs_like A1 A0 kk c1 c0 L _ (by omega) (HR1.out.keep (plus_new _ _)) (HR0.out.keep (plus_new _ _)))))))); refine wpQuiet_nil ?_)
                  intro w2 n2
                  go_wp2
                  go_roundw
                  case rel => exact ⟨i + 1, by omega, by go_num, nx.trans n2⟩
                  case measure => simp [intOf]; omega
                · have HST := Lib.hid (HST.out.keep nx)
                  have nw := nw.trans nx
                  obtain ⟨A0, c0, ci0, hr0⟩ := HST.out.last HDL.out h1 HLL.out HKK.out
                  have HR0 := Lib.hid hr0
                  have HRA := Lib.hid HST.out.all.rd
                  have j2 : (0 : Int) < (cnt : Int) := by omega
                  clear hr0 nx HDL HGA HDN
                  go_wp2_with fail
                  go_loopw [22, 23, 24, 25] (fun v22 _ _ _ wy => ∃ i : Nat, i ≤ m ∧ v22 = .int .i64 (i : Int) ∧ New wr wy) (fun v22 _ _ _ _ => m - (intOf v22).toNat)
                  case atStart => exact ⟨0, by omega, rfl, New.refl _⟩
                  case round =>
                    clear hlt hi2
                    obtain ⟨i, hi2, rfl, nx⟩ := hrel
                    by_cases hlt : i < m
                    · obtain ⟨b1, o1, x, hD, hb1, hx, hc⟩ := HRA.out.at_ hlt
                      have HX0 := Lib.hid (nx.cell (hc 0 _ rfl))
                      have HX1 := Lib.hid (nx.cell (hc 1 _ rfl))
                      have HX2 := Lib.hid (nx.cell (hc 2 _ rfl))
                      have HXM := Lib.hid (List.mem_of_getElem? hx)
                      have HBEST := Lib.hid (show ∀ y ∈ L, y.n.toList = x.n.toList → Ge y x from fun y hy hn => best_of (HLL.out ▸ merge_mergeR al) HXM.out hy hn)
                      have HD := Lib.hid hD
                      have HCI := Lib.hid (nx.cell ci0)
                      have HRY := Lib.hid (HR0.out.keep nx)
                      have j0 : (0 : Int) ≤ (i : Int) := by omega
                      have j1 : (i : Int) < (m : Int) := by omega
                      clear hx hc hD
                      go_wp2_with fail
                      go_loopw [23, 24, 25] (fun v23 v24 _ wy => ∃ j : Nat, j ≤ kk ∧ v24 = .int .i64 (j : Int) ∧ v23 = .bool (keptTo L x j) ∧ New wr wy) (fun _ v24 _ _ => kk - (intOf v24).toNat)
                      case atStart => exact ⟨0, by omega, rfl, rfl, New.refl _⟩
                      case round =>
                        obtain ⟨j, hj, rfl, rfl, ny⟩ := hrel
                        have ci := ny.cell HCI.out
                        by_cases hjk : j < kk
                        · obtain ⟨b2, o2, y, hA0, hb2, hy, hc2⟩ := (HRY.out.keep ny).at_ hjk
                          have g0 := hc2 0 _ rfl
                          have g1 := hc2 1 _ rfl
                          have g2 := hc2 2 _ rfl
                          simp only [Nat.add_zero] at g0
                          have HKT := Lib.hid (keptTo_step (x := x) hy)
                          have HYL := Lib.hid (List.mem_of_getElem? hy)
                          have hD := HD.out
                          have f0 := ny.cell HX0.out
                          have f1 := ny.cell HX1.out
                          have f2 := ny.cell HX2.out
                          simp only [Nat.add_zero] at f0
                          have l0 : (0 : Int) ≤ (j : Int) := by omega
                          have l1 : (j : Int) < (kk : Int) := by omega
                          have c0' : World.cell? (wr.alloc (.cells #[.string y.n, .int .i64 y.v, .string y.b] 50)) ⟨wr.heap.size, 0, none⟩ = some (.string y.n) := by simp
                          have c1' : World.cell? (wr.alloc (.cells #[.string y.n, .int .i64 y.v, .string y.b] 50)) ⟨wr.heap.size, 1, none⟩ = some (.int .i64 y.v) := by simp
                          have c2' : World.cell? (wr.alloc (.cells #[.string y.n, .int .i64 y.v, .string y.b] 50)) ⟨wr.heap.size, 2, none⟩ = some (.string y.b) := by simp
                          have nW := (New.refl wr).alloc (.cells #[.string y.n, .int .i64 y.v, .string y.b] 50)
                          have hgu := guard_rec
                          subst hA0 hD
                          obtain ⟨kf, hkf⟩ : ∃ f, keptTo L x j = f := ⟨_, rfl⟩
                          rw [hkf] at HKT ⊢
                          clear hkf
                          have hbest := HBEST.out y HYL.out
                          cases kf
                          · rcases rec_cases hbest with ⟨hn, HKX⟩ | ⟨hn, he, HKX⟩ | ⟨hn, he, hv, HKX⟩ | ⟨hn, he, hv, hw, hb, HKX⟩
                            · have dn : (y.n.toList == x.n.toList) = false := beq_eq_false_iff_ne.2 hn
                              have HKS := Lib.hid (show keptTo L x (j + 1) = false by rw [HKT.out, Bool.false_or]; exact HKX.out)
                              clear HKT HKX hbest
                              as_aux_lemma =>
                              go_wp2_with fail
                              obtain ⟨W2, hW2⟩ : ∃ W2, wr.alloc (.cells #[.string y.n, .int .i64 y.v, .string y.b] 50) = W2 := ⟨_, rfl⟩
                              rw [hW2] at c0' c1' c2' nW ⊢
                              obtain ⟨yb, hyb⟩ : ∃ yb, wr.heap.size = yb := ⟨_, rfl⟩
                              rw [hyb] at c0' c1' c2' ⊢
                              have f0 := nW.cell f0
                              have f1 := nW.cell f1
                              have f2 := nW.cell f2
                              have lx : b1 < _ := World.block_lt_of_cell? _ _ f0
                              have ly : yb < _ := World.block_lt_of_cell? _ _ c0'
                              clear hW2 hyb g0 g1 g2 ci
                              (refine wp_region_new (by kernel_rfl) (by kernel_rfl) ?_; (repeat (go_big_quiet_step ((fail)))); refine wpQuiet_nil ?_)
                              intro w4 n4
                              go_wp2
                              go_roundw
                              case rel => exact ⟨j + 1, by omega, by go_num, by first | (rw [HKS.out]; done) | (rw [HKS.out]; rfl), (ny.trans nW).trans n4⟩
                              case measure => simp [intOf]; omega
                            · have dn : (y.n.toList == x.n.toList) = true := beq_iff_eq.2 hn
                              have heq := eqlG he
                              have HKS := Lib.hid (show keptTo L x (j + 1) = true by rw [HKT.out, Bool.false_or]; exact HKX.out)
                              clear HKT HKX hbest he
                              as_aux_lemma =>
                              go_wp2_with fail
                              obtain ⟨W2, hW2⟩ : ∃ W2, wr.alloc (.cells #[.string y.n, .int .i64 y.v, .string y.b] 50) = W2 := ⟨_, rfl⟩
                              rw [hW2] at c0' c1' c2' nW ⊢
                              obtain ⟨yb, hyb⟩ : ∃ yb, wr.heap.size = yb := ⟨_, rfl⟩
                              rw [hyb] at c0' c1' c2' ⊢
                              have f0 := nW.cell f0
                              have f1 := nW.cell f1
                              have f2 := nW.cell f2
                              have lx : b1 < _ := World.block_lt_of_cell? _ _ f0
                              have ly : yb < _ := World.block_lt_of_cell? _ _ c0'
                              clear hW2 hyb g0 g1 g2 ci
                              (refine wp_region_new (by kernel_rfl) (by kernel_rfl) ?_; (repeat (go_big_quiet_step ((fail)))); refine wpQuiet_nil ?_)
                              intro w4 n4
                              go_wp2
                              go_roundw
                              case rel => exact ⟨j + 1, by omega, by go_num, by first | (rw [HKS.out]; done) | (rw [HKS.out]; rfl), (ny.trans nW).trans n4⟩
                              case measure => simp [intOf]; omega
                            · have dn : (y.n.toList == x.n.toList) = true := beq_iff_eq.2 hn
                              have heq := eqlG he
                              have dv : decide (x.v < y.v) = true := decide_eq_true hv
                              have HKS := Lib.hid (show keptTo L x (j + 1) = true by rw [HKT.out, Bool.false_or]; exact HKX.out)
                              clear HKT HKX hbest he
                              as_aux_lemma =>
                              go_wp2_with fail
                              obtain ⟨W2, hW2⟩ : ∃ W2, wr.alloc (.cells #[.string y.n, .int .i64 y.v, .string y.b] 50) = W2 := ⟨_, rfl⟩
                              rw [hW2] at c0' c1' c2' nW ⊢
                              obtain ⟨yb, hyb⟩ : ∃ yb, wr.heap.size = yb := ⟨_, rfl⟩
                              rw [hyb] at c0' c1' c2' ⊢
                              have f0 := nW.cell f0
                              have f1 := nW.cell f1
                              have f2 := nW.cell f2
                              have lx : b1 < _ := World.block_lt_of_cell? _ _ f0
                              have ly : yb < _ := World.block_lt_of_cell? _ _ c0'
                              clear hW2 hyb g0 g1 g2 ci
                              (refine wp_region_new (by kernel_rfl) (by kernel_rfl) ?_; (repeat (go_big_quiet_step ((fail)))); refine wpQuiet_nil ?_)
                              intro w4 n4
                              go_wp2
                              go_roundw
                              case rel => exact ⟨j + 1, by omega, by go_num, by first | (rw [HKS.out]; done) | (rw [HKS.out]; rfl), (ny.trans nW).trans n4⟩
                              case measure => simp [intOf]; omega
                            · have dn : (y.n.toList == x.n.toList) = true := beq_iff_eq.2 hn
                              have heq := eqlG he
                              have dv : decide (x.v < y.v) = false := decide_eq_false hv
                              have dw : (y.v == x.v) = true := beq_iff_eq.2 hw
                              have hgt := gtr_dec y.b x.b
                              rw [decide_eq_true hb] at hgt
                              have HKS := Lib.hid (show keptTo L x (j + 1) = true by rw [HKT.out, Bool.false_or]; exact HKX.out)
                              clear HKT HKX hbest he hw hb
                              as_aux_lemma =>
                              go_wp2_with fail
                              obtain ⟨W2, hW2⟩ : ∃ W2, wr.alloc (.cells #[.string y.n, .int .i64 y.v, .string y.b] 50) = W2 := ⟨_, rfl⟩
                              rw [hW2] at c0' c1' c2' nW ⊢
                              obtain ⟨yb, hyb⟩ : ∃ yb, wr.heap.size = yb := ⟨_, rfl⟩
                              rw [hyb] at c0' c1' c2' ⊢
                              have f0 := nW.cell f0
                              have f1 := nW.cell f1
                              have f2 := nW.cell f2
                              have lx : b1 < _ := World.block_lt_of_cell? _ _ f0
                              have ly : yb < _ := World.block_lt_of_cell? _ _ c0'
                              clear hW2 hyb g0 g1 g2 ci
                              (refine wp_region_new (by kernel_rfl) (by kernel_rfl) ?_; (repeat (go_big_quiet_step ((fail)))); refine wpQuiet_nil ?_)
                              intro w4 n4
                              go_wp2
                              go_roundw
                              case rel => exact ⟨j + 1, by omega, by go_num, by first | (rw [HKS.out]; done) | (rw [HKS.out]; rfl), (ny.trans nW).trans n4⟩
                              case measure => simp [intOf]; omega
                          · have HKS := Lib.hid (show keptTo L x (j + 1) = true by rw [HKT.out]; rfl)
                            clear HKT hbest
                            as_aux_lemma =>
                            go_wp2_with fail
                            obtain ⟨W2, hW2⟩ : ∃ W2, wr.alloc (.cells #[.string y.n, .int .i64 y.v, .string y.b] 50) = W2 := ⟨_, rfl⟩
                            rw [hW2] at c0' c1' c2' nW ⊢
                            obtain ⟨yb, hyb⟩ : ∃ yb, wr.heap.size = yb := ⟨_, rfl⟩
                            rw [hyb] at c0' c1' c2' ⊢
                            have f0 := nW.cell f0
                            have f1 := nW.cell f1
                            have f2 := nW.cell f2
                            have lx : b1 < _ := World.block_lt_of_cell? _ _ f0
                            have ly : yb < _ := World.block_lt_of_cell? _ _ c0'
                            clear hW2 hyb g0 g1 g2 ci
                            (refine wp_region_new (by kernel_rfl) (by kernel_rfl) ?_; (repeat (go_big_quiet_step ((fail)))); refine wpQuiet_nil ?_)
                            intro w4 n4
                            go_wp2
                            go_roundw
                            case rel => exact ⟨j + 1, by omega, by go_num, by first | (rw [HKS.out]; done) | (rw [HKS.out]; rfl), (ny.trans nW).trans n4⟩
                            case measure => simp [intOf]; omega
                        · have hjk' : j = kk := by omega
                          have HKE := Lib.hid (show keptTo L x j = true by rw [hjk']; exact keptTo_end HHAS.out HXM.out HKK.out)
                          rw [HKE.out]
                          go_wp2_with fail
                          go_roundw
                          case rel => exact ⟨i + 1, by omega, by go_num, nx.trans ny⟩
                          case measure => simp [intOf]; omega
                    · have HST5 := Lib.hid nx
                      have nw := nw.trans nx
                      have ci0 := nx.cell ci0
                      have HR0 := Lib.hid (HR0.out.keep nx)
                      have HRA := Lib.hid (HRA.out.keep nx)
                      clear HST5 nx
                      go_wp2_with fail
                      go_loopw [26, 27, 28] (fun v26 _ _ wy => ∃ i : Nat, i ≤ kk ∧ v26 = .int .i64 (i : Int) ∧ New wr wy) (fun v26 _ _ _ => kk - (intOf v26).toNat)
                      case atStart => exact ⟨0, by omega, rfl, New.refl _⟩
                      case round =>
                        clear hlt hi2
                        obtain ⟨i, hi2, rfl, nx⟩ := hrel
                        have ci := nx.cell ci0
                        by_cases hlt : i < kk
                        · obtain ⟨b2, o2, y, hA0, hb2, hy, hc2⟩ := HR0.out.at_ hlt
                          have HY0 := Lib.hid (nx.cell (hc2 0 _ rfl))
                          have HY1 := Lib.hid (nx.cell (hc2 1 _ rfl))
                          have HY2 := Lib.hid (nx.cell (hc2 2 _ rfl))
                          have HYM := Lib.hid (HSUB.out y (List.mem_of_getElem? hy))
                          have HA0 := Lib.hid hA0
                          have HRX := Lib.hid (HRA.out.keep nx)
                          have HCI := Lib.hid ci
                          have j0 : (0 : Int) ≤ (i : Int) := by omega
                          have j1 : (i : Int) < (kk : Int) := by omega
                          clear hy hc2 hA0
                          go_wp2_with fail
                          go_loopw [27, 28] (fun v27 v28 wy => ∃ j : Nat, j ≤ m ∧ v28 = .int .i64 (j : Int) ∧ v27 = .bool (knownTo al y j) ∧ New wr wy) (fun _ v28 _ => m - (intOf v28).toNat)
                          case atStart => exact ⟨0, by omega, rfl, rfl, New.refl _⟩
                          case round =>
                            obtain ⟨j, hj, rfl, rfl, ny⟩ := hrel
                            have ci := ny.cell HCI.out
                            by_cases hjm : j < m
                            · obtain ⟨b1, o1, x, hD, hb1, hx, hc⟩ := (HRX.out.keep ny).at_ hjm
                              have f0 := hc 0 _ rfl
                              have f1 := hc 1 _ rfl
                              have f2 := hc 2 _ rfl
                              have g0 := ny.cell HY0.out
                              have g1 := ny.cell HY1.out
                              have g2 := ny.cell HY2.out
                              simp only [Nat.add_zero] at f0 g0
                              have lg : g < _ := World.block_lt_of_cell? _ _ ci
                              have ly : b2 < _ := World.block_lt_of_cell? _ _ g0
                              have HKT := Lib.hid (knownTo_step (y := y) hx)
                              have l0 : (0 : Int) ≤ (j : Int) := by omega
                              have l1 : (j : Int) < (m : Int) := by omega
                              have hgu := guard_rec
                              have hA0 := HA0.out
                              clear hx hc
                              subst hA0 hD
                              obtain ⟨kf, hkf⟩ : ∃ f, knownTo al y j = f := ⟨_, rfl⟩
                              rw [hkf] at HKT ⊢
                              clear hkf
                              cases kf
                              · cases he : eqX x y
                                · have heq := eqlG he
                                  rw [he] at HKT
                                  clear he
                                  as_aux_lemma =>
                                  go_wp2_with fail
                                  (refine wp_region_new (by kernel_rfl) (by kernel_rfl) ?_; (repeat (go_big_quiet_step ((fail)))); refine wpQuiet_nil ?_)
                                  intro w4 n4
                                  go_wp2
                                  go_roundw
                                  case rel => exact ⟨j + 1, by omega, by go_num, by first | (rw [HKT.out]; done) | (rw [HKT.out]; rfl), ny.trans n4⟩
                                  case measure => simp [intOf]; omega
                                · have heq := eqlG he
                                  rw [he] at HKT
                                  clear he
                                  as_aux_lemma =>
                                  go_wp2_with fail
                                  (refine wp_region_new (by kernel_rfl) (by kernel_rfl) ?_; (repeat (go_big_quiet_step ((fail)))); refine wpQuiet_nil ?_)
                                  intro w4 n4
                                  go_wp2
                                  go_roundw
                                  case rel => exact ⟨j + 1, by omega, by go_num, by first | (rw [HKT.out]; done) | (rw [HKT.out]; rfl), ny.trans n4⟩
                                  case measure => simp [intOf]; omega
                              · rw [Bool.true_or] at HKT
                                as_aux_lemma =>
                                go_wp2_with fail
                                (refine wp_region_new (by kernel_rfl) (by kernel_rfl) ?_; (repeat (go_big_quiet_step ((fail)))); refine wpQuiet_nil ?_)
                                intro w4 n4
                                go_wp2
                                go_roundw
                                case rel => exact ⟨j + 1, by omega, by go_num, by first | (rw [HKT.out]; done) | (rw [HKT.out]; rfl), ny.trans n4⟩
                                case measure => simp [intOf]; omega
                            · have hjm' : j = m := by omega
                              have HKE := Lib.hid (show knownTo al y j = true by rw [hjm']; exact knownTo_end HYM.out HAM.out)
                              rw [HKE.out]
                              go_wp2_with fail
                              go_roundw
                              case rel => exact ⟨i + 1, by omega, by go_num, nx.trans ny⟩
                              case measure => simp [intOf]; omega
                        · go_wp2_with fail
                          go_ret
                          exact ⟨rfl, nw.trans nx⟩

theorem newest_any (S T : Option Addr) (cnt cs ne ce : Nat) (rows : List RowV) (ps : List (Int × Int)) (w : World)
    (hR : Rd w 1 encV S cnt rows) (hr : ∀ r ∈ rows, Rd w 3 encRec r.A r.n r.xs) (hP : Rd w 2 encP T ne ps) :
    Calls Try.prog 6 #[.slice S cnt cs, .slice T ne ce] w fun e w' => e = .returned (.bool true) ∧ New w w' := by
  by_cases h1 : cnt = 0
  · exact newest_early S T cnt cs ne ce w (.inl h1)
  by_cases h2 : 3 < cnt
  · exact newest_early S T cnt cs ne ce w (.inr (.inl ⟨by omega, h2⟩))
  by_cases h3 : 12 < ne
  · exact newest_early S T cnt cs ne ce w (.inr (.inr ⟨by omega, by omega, h3⟩))
  exact newest_in S T cnt cs ne ce rows ps w (by omega) (by omega) (by omega) hR hr hP
end Go.Proofs.Ytifppmbolpegpaa
