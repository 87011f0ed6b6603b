/- Contracts: the contours of a grid.
   Contracts: the contours of the reference. (printed by wip/gen_k39.py) -/
import Derived.BigQuiet
import Derived.BigRegion
import Derived.Deep.AppendLies
import Derived.Deep.Draws
import Derived.Deep.Quiet
import Derived.Deep.QuietTactic
import Derived.DeepKeys4
import Derived.Laws.BitsAllLaws
import Derived.Laws.Rows
import Derived.Lib.Hide
import Derived.Lib.SliceRun
import Derived.MapKept
import Derived.Maps.Keyed
import Derived.Maps.OwnSet
import Derived.OrdersIn
import Derived.OwnWalkIn
import Derived.RangeFuncCalls
import Derived.Shelf.GgSortFunc.InsertionK
import Derived.Shelf.RegionOpen
import Derived.Shelf.SlSortCmp.NoneTotal
import Derived.Shelf.SlSortCmp.QuietGrown
import Derived.Shelf.SlSortCmp.WholeK
import Derived.StillTail
import Derived.TacticsIn
import Derived.Test.YtaogolnoiffgiaaProg
import Derived.WalkArith
import Derived.WalkKit
import Derived.WalkLawsBesides
import Derived.WalkSpells
import Derived.Test.YtaogolnoiffgiaaC21K
import Derived.Test.YtaogolnoiffgiaaC21P
import Derived.Test.YtaogolnoiffgiaaC21Z
import Derived.Test.YtaogolnoiffgiaaC21ZD

namespace Go.Proofs.Ytaogolnoiffgiaa
open Go.RowKit Go.Sky Go.Sky.Ch Go.Sort

theorem infoRowPl : (Try.prog.info? 82).map (fun i => (i.zero, i.size, i.bytes)) = some (some (.slice none 0 0), 1, 24) := by kernel_rfl
theorem cFollowing_is {R : List Sd} {s v : Sd} (h : followS R s = v) (mb : Nat) (w : World) (hb : BS s) (hm : Mg okSd encSdV (fun b : Bool => Value.bool b) w mb (restF R)) :
    Calls Try.prog 88 #[.map (some mb), .agg #[.int .i64 s.x, .int .i64 s.y, .int .i64 s.d]] w fun e w' => e = .returned (.agg #[.int .i64 v.x, .int .i64 v.y, .int .i64 v.d]) ∧ New w w' := by subst h; exact cFollowing_any R s mb w hb.1 hb.2.1 hb.2.2 hm

def lenC : Value → Nat | .slice _ n _ => n | _ => 0
theorem drop_at {α : Type} {l : List α} {k : Nat} {x : α} (h : l[k]? = some x) : l.drop k = x :: l.drop (k + 1) := by
  obtain ⟨hk, rfl⟩ := List.getElem?_eq_some_iff.1 h
  exact List.drop_eq_getElem_cons hk
/-- What the contours of a grid are. -/
def ContOut (w w' : World) (rows : List (List Int)) (level : Int) (n : Nat) (e : Ending) : Prop :=
  New w w' ∧ ((∃ v, openE rows level = v ∧ v ≠ 0 ∧ e = .returned (.tuple #[.slice none 0 0, .int .i64 v])) ∨
    (openE rows level = 0 ∧ ∃ (ys : List Sd) (C : Option Addr) (m c : Nat), SdSorted (allSides (regS rows level) n) ys ∧ e = .returned (.tuple #[.slice C m c, .int .i64 0]) ∧ m ≤ c ∧ RowsL w' 2 encPl C m (contS ys ys)))

set_option maxRecDepth 100000 in
set_option maxHeartbeats 8000000 in
theorem cContoursOf_any (A : Option Addr) (n cap : Nat) (rows : List (List Int)) (level : Int) (w : World) (hn : n ≤ 1000000) (hrl : ∀ r ∈ rows, r.length ≤ 1000000) (hr : RowsL w 1 encI A n rows) :
    Calls Try.prog 25 #[.slice A n cap, .int .i64 level] w fun e w' => ContOut w w' rows level n e := by
  obtain ⟨i0, hi, hz0, hz1, hz2⟩ := info_parts infoPl
  obtain ⟨i1, hi1, hy0, hy1, hy2⟩ := info_parts infoRowPl
  have HR := Lib.hid hr
  have HRL := Lib.hid hrl
  have HL := Lib.hid hr.len
  clear hr hrl
  obtain ⟨v, hv⟩ : ∃ v, openE rows level = v := ⟨_, rfl⟩
  have HV := Lib.hid hv
  have hmm := @run_makeMap Try.prog
  by_cases hv0 : v ≠ 0
  · have bv : (v != 0) = true := by simpa using hv0
    clear hv
    go_enter Try.func25, Try.ntmps25
    go_wp2_with fail
    refine (cOpenGrid_is HV.out A n cap _ hn HRL.out HR.out).mono ?_
    rintro e w1 ⟨rfl, n1⟩
    go_wp2_with fail
    go_ret2
    exact ⟨n1, .inl ⟨v, HV.out, hv0, rfl⟩⟩
  obtain rfl : v = 0 := by omega
  have HGR := Lib.hid (show GrOk rows by
    refine grid_ok ?_
    have := firstE_zero hv (gridS rows).2 (by simp)
    exact this)
  clear hv
  go_enter Try.func25, Try.ntmps25
  go_wp2_with fail
  refine (cOpenGrid_is HV.out A n cap _ hn HRL.out HR.out).mono ?_
  rintro e w1 ⟨rfl, n1⟩
  go_wp2_with fail
  have hn8 := HGR.out.h
  rw [HL.out] at hn8
  refine (cRegion_any A n cap rows level _ (by omega) (fun r hr => by
    obtain ⟨i, hi, rfl⟩ := List.mem_iff_getElem.1 hr
    have h1 := (HGR.out.row i _ (List.getElem?_eq_getElem hi)).1
    have h2 := HGR.out.w
    omega) (HR.out.keep n1)).mono ?_
  rintro e w2 ⟨n2, RC, rc, rfl, hrc, hreg⟩
  have N2 := n1.trans n2
  go_wp2_with fail
  refine (cSides_any RC n rc (regS rows level) _ (HGR.out.rect level) hreg).mono ?_
  rintro e w3 ⟨n3, YA, yn, yc, ys, rfl, hss, hyo⟩
  have N3 := N2.trans n3
  clear n1 n2 n3 hreg hrc
  have HSS := Lib.hid hss
  have hyn : yn ≤ 256 := by
    have h1 := hyo.len
    have h2 := hss.1.length_eq
    have h3 := allSides_len (regS rows level) n
    have h4 := HGR.out.w
    rw [len0_reg] at h3
    have h5 : n * (4 * len0 rows) ≤ 8 * (4 * 8) := Nat.mul_le_mul (by omega) (by omega)
    omega
  have HBS := Lib.hid (show ∀ s ∈ ys, BS s from fun s hs => allSides_bs (regS rows level) (by have := HGR.out.w; rw [len0_reg]; omega) n (by omega) s (hss.1.mem_iff.1 hs))
  have HYO := Lib.hid (hyo.alloc (.map #[] 0))
  have hyb := hyo
  have M3 := Lib.hid (show Mg okSd encSdV (fun b : Bool => Value.bool b) (w3.alloc (.map #[] 0)) w3.heap.size (restF []) by
    rw [show restF [] = fun _ => none from by funext j; simp [restF]]
    exact Mg.new w3)
  have N4 := N3.alloc (.map #[] 0)
  have hmb := N3.size
  have HYB := Lib.hid (show YA.map (·.block) ≠ some w3.heap.size from fun e => by have := (Own.blkAt hyo e).2; omega)
  clear hyb hyo hss
  go_wp2_with fail
  obtain ⟨mb, hmbe⟩ : ∃ mb, w3.heap.size = mb := ⟨_, rfl⟩
  rw [hmbe] at M3 hmb HYB ⊢
  obtain ⟨W4, hW4⟩ : ∃ W4, w3.alloc (.map #[] 0) = W4 := ⟨_, rfl⟩
  rw [hW4] at M3 HYO N4 ⊢
  clear hmbe hW4 N2 N3
  go_loopw [28] (fun i wr => ∃ k : Nat, k ≤ yn ∧ i = .int .i64 (k : Int) ∧ Hid (Mg okSd encSdV (fun b : Bool => Value.bool b) wr mb (restF (ys.take k))) ∧ Hid (Sky.Own wr w2.heap.size 152 3 encSd YA yn yc ys) ∧ New w wr) (fun i _ => yn - (intOf i).toNat)
  case atStart => exact ⟨0, by omega, rfl, M3, HYO, N4⟩
  case round =>
    clear M3 HYO N4
    obtain ⟨k, hk, rfl, HM, HO, hN⟩ := hrel
    by_cases hlt : k < yn
    · obtain ⟨b, o, sd, hA, hb, hx, hc⟩ := HO.out.rd.at_ hlt
      subst hA
      have g0 := hc 0 _ rfl
      have g1 := hc 1 _ rfl
      have g2 := hc 2 _ rfl
      simp only [Nat.add_zero] at g0
      have HOK := Lib.hid (HBS.out sd (List.mem_of_getElem? hx)).ok
      have HP := Lib.hid (show updG (restF (ys.take k)) sd true = restF (ys.take (k + 1)) by rw [rest_put, take_snoc ys k sd hx])
      have i0' : (0 : Int) ≤ (k : Int) := by omega
      have i1' : (k : Int) < (yn : Int) := by omega
      clear hx hc
      have N1 := hN.alloc (.cells #[.int .i64 sd.x, .int .i64 sd.y, .int .i64 sd.d] 152)
      have HM1 := Lib.hid (HM.out.alloc (.cells #[.int .i64 sd.x, .int .i64 sd.y, .int .i64 sd.d] 152))
      have HO1 := Lib.hid (HO.out.alloc (.cells #[.int .i64 sd.x, .int .i64 sd.y, .int .i64 sd.d] 152))
      go_wp2_with (first | (at_mapUpdate; refine wpList_mgPut mapSd _ rfl _ _ _ rfl mb _ sd true rfl HM1.out HOK.out rfl rfl ?_; intro w5 hm5 hg5))
      have N5 := N1.grown hg5 (fun k e => by cases e; exact hmb)
      rw [HP.out] at hm5
      have HO5 := Lib.hid (HO1.out.kept hg5 (.inr HYB.out))
      go_wp2_with fail
      go_roundw
      case rel => exact ⟨k + 1, by omega, by go_num, hm5, HO5, N5⟩
      case measure => simp [intOf]; omega
    · obtain rfl : yn = k := by omega
      have HM2 := Lib.hid (show Mg okSd encSdV (fun b : Bool => Value.bool b) wr mb (restF ys) by
        have h := HM.out
        rw [List.take_of_length_le (by rw [HO.out.len]; exact Nat.le_refl _)] at h
        exact h)
      have hyl : ys.length ≤ 256 := by rw [HO.out.len]; exact hyn
      clear HM
      obtain ⟨WB, hWB⟩ : ∃ W, wr = W := ⟨_, rfl⟩
      rw [hWB] at HM2 HO hN ⊢
      clear hWB
      have hmB : mb < WB.heap.size := HM2.out.lt
      go_wp2_with fail
      go_loopw [11, 37] (fun out i wr => ∃ (k m c : Nat) (C : Option Addr) (rv : List SlV) (cs : List (List (Int × Int))) (R : List Sd), k ≤ yn ∧ m ≤ k ∧ i = .int .i64 (k : Int) ∧ out = .slice C m c ∧ Hid (OwnRows wr WB.heap.size 73 82 2 encPl C m c rv cs) ∧ Hid (Mg okSd encSdV (fun b : Bool => Value.bool b) wr mb (restF R)) ∧ Hid (Sky.Own wr w2.heap.size 152 3 encSd YA yn yc ys) ∧ Hid ((∀ s ∈ R, BS s) ∧ R.length ≤ 256) ∧ Hid (contS ys ys = cs ++ contS R (ys.drop k)) ∧ WB.heap.size ≤ wr.heap.size ∧ New w wr) (fun _ i _ => yn - (intOf i).toNat)
      case atStart => exact ⟨0, 0, 0, none, [], [], ys, by omega, by omega, rfl, rfl, OwnRows.nil, HM2, HO, ⟨HBS.out, hyl⟩, rfl, Nat.le_refl _, hN⟩
      case round =>
        clear HM2 HO hN
        obtain ⟨k, m, c, C, rv, cs, R, hk, hmk, rfl, rfl, HO, HM, HY, HB, HC, hwb, hN⟩ := hrel
        by_cases hlt : k < yn
        · obtain ⟨b, o, sd, hA, hb, hx, hc⟩ := HY.out.rd.at_ hlt
          subst hA
          have g0 := hc 0 _ rfl
          have g1 := hc 1 _ rfl
          have g2 := hc 2 _ rfl
          simp only [Nat.add_zero] at g0
          have HSB := Lib.hid (HBS.out sd (List.mem_of_getElem? hx))
          have HD := Lib.hid (drop_at hx)
          have i0' : (0 : Int) ≤ (k : Int) := by omega
          have i1' : (k : Int) < (yn : Int) := by omega
          clear hx hc
          have hbw : b < wr.heap.size := hb
          have B0 := Bx.mk wr 152 #[.int .i64 sd.x, .int .i64 sd.y, .int .i64 sd.d]
          have N0 := hN.alloc (.cells #[.int .i64 sd.x, .int .i64 sd.y, .int .i64 sd.d] 152)
          have HM0 := Lib.hid (HM.out.alloc (.cells #[.int .i64 sd.x, .int .i64 sd.y, .int .i64 sd.d] 152))
          have HY0 := Lib.hid (HY.out.alloc (.cells #[.int .i64 sd.x, .int .i64 sd.y, .int .i64 sd.d] 152))
          have HO0 := Lib.hid (HO.out.keep ((New.refl wr).alloc (.cells #[.int .i64 sd.x, .int .i64 sd.y, .int .i64 sd.d] 152)))
          have hwb0 : WB.heap.size ≤ (wr.alloc (.cells #[.int .i64 sd.x, .int .i64 sd.y, .int .i64 sd.d] 152)).heap.size := Nat.le_trans hwb ((New.refl wr).alloc _).size
          have hsw : wr.heap.size < (wr.alloc (.cells #[.int .i64 sd.x, .int .i64 sd.y, .int .i64 sd.d] 152)).heap.size := B0.lt
          have hsN := hN.size
          clear HM HY HO hN
          go_wp2_with fail
          obtain ⟨W0, hW0⟩ : ∃ W0, wr.alloc (.cells #[.int .i64 sd.x, .int .i64 sd.y, .int .i64 sd.d] 152) = W0 := ⟨_, rfl⟩
          obtain ⟨sb, hsb⟩ : ∃ b, wr.heap.size = b := ⟨_, rfl⟩
          rw [hW0] at B0 N0 HM0 HY0 HO0 hwb0 hsw ⊢
          rw [hsb] at B0 hsw hwb hsN hbw
          try rw [hsb]
          have HB0 := Lib.hid B0
          have HB0c := Lib.hid B0
          clear hW0 hsb B0 g0 g1 g2 hb
          have hmW : mb < W0.heap.size := by omega
          have hms : mb ≠ sb := by omega
          have hwW := N0.size
          have HRB := Lib.hid HB.out
          have HFU := Lib.hid (show R.length < R.length + 1 from Nat.lt_succ_self _)
          go_loopw [14] (fun con wx => ∃ (u c2 : Nat) (D : Option Addr) (acc : List (Int × Int)) (R' : List Sd) (s' : Sd) (f : Nat), con = .slice D u c2 ∧ Hid (Sky.Own wx W0.heap.size 73 2 encPl D u c2 acc) ∧ Hid (Bx wx sb 152 #[.int .i64 s'.x, .int .i64 s'.y, .int .i64 s'.d]) ∧ Hid (Mg okSd encSdV (fun b : Bool => Value.bool b) wx mb (restF R')) ∧ Hid (walkS (R.length + 1) R sd = ((walkS f R' s').1, acc ++ (walkS f R' s').2)) ∧ Hid (Ex mb sb W0 wx) ∧ Hid (BS s' ∧ ∀ s ∈ R', BS s) ∧ R'.length < f ∧ u + R'.length ≤ 256 ∧ New w wx) (fun con _ => 257 - lenC con)
          case atStart => exact ⟨0, 0, none, [], R, sd, R.length + 1, rfl, Sky.Own.nil _ _ _ _ encPl_len, HB0, HM0, rfl, Ex.refl _, ⟨HSB.out, HRB.out.1⟩, HFU.out, by have := HRB.out.2; omega, N0⟩
          case round =>
            clear HB0 HM0 N0
            obtain ⟨u, c2, D, acc, R', s', f, rfl, HCO, HBX, HMG, HW, HEX, HBB, hf, hu, hN⟩ := hrel
            have HG := Lib.hid (rest_get R' s')
            have HOK := Lib.hid HBB.out.1.ok
            have k0 := HBX.out.cell 0
            have k1 := HBX.out.cell 1
            have k2 := HBX.out.cell 2
            have lb := HBX.out.lt
            simp only [List.getElem?_toArray, List.getElem?_cons_zero, List.getElem?_cons_succ] at k0 k1 k2
            by_cases hin : s' ∈ R'
            · rw [decide_eq_true hin] at HG
              have hlen := Go.Sky.Ch.filter_lt hin
              obtain ⟨R2, hR2⟩ : ∃ l, R'.filter (· != s') = l := ⟨_, rfl⟩
              have HDL := Lib.hid (show delG (restF R') s' = restF R2 by rw [rest_del, hR2])
              rw [hR2] at hlen
              obtain ⟨s2, hs2⟩ : ∃ v, followS R2 s' = v := ⟨_, rfl⟩
              have HF2 := Lib.hid hs2
              obtain ⟨g, rfl⟩ : ∃ g, f = g + 1 := ⟨f - 1, by omega⟩
              have HW2 := Lib.hid (show walkS (R.length + 1) R sd = ((walkS g R2 s2).1, (acc ++ [(s'.x, s'.y)]) ++ (walkS g R2 s2).2) by
                rw [HW.out, walkS_in hin, hR2, hs2, List.append_assoc]; rfl)
              have HB2 := Lib.hid (show BS s2 ∧ ∀ s ∈ R2, BS s by
                have h2 : ∀ s ∈ R2, BS s := fun s hs => HBB.out.2 s (by rw [← hR2] at hs; exact (List.mem_filter.1 hs).1)
                refine ⟨?_, h2⟩
                rcases follow_mem R2 s' with h | h
                · rw [hs2] at h; exact h2 _ h
                · rw [hs2] at h; rw [h]; exact HBB.out.1)
              have hu1 : u + 1 + R2.length ≤ 256 := by omega
              clear hs2 hR2 hin HW
              go_wp2_with (first | (at_lookup; refine wpList_mgGet1 mapSd _ rfl _ _ rfl mb _ s' _ rfl HMG.out HOK.out rfl HG.out ?_) | (at_delete; refine wpList_mgDel mapSd _ rfl _ _ _ rfl rfl mb _ s' rfl HMG.out HOK.out rfl ?_; intro w5 hm5 hg5; rw [HDL.out] at hm5; have b5 := HBX.out.grown hg5 (show some sb ≠ some mb from fun e => hms (by injection e with e; exact e.symm)); have HB5 := Lib.hid (b5.alloc (.cells #[.int .i64 s'.x, .int .i64 s'.y] 73)); have HM5 := Lib.hid (hm5.alloc (.cells #[.int .i64 s'.x, .int .i64 s'.y] 73)); have HC5 := Lib.hid ((HCO.out.kept hg5 (.inr (HCO.out.not_below hmW).symm)).alloc (.cells #[.int .i64 s'.x, .int .i64 s'.y] 73)); have HN5 := Lib.hid ((hN.grown hg5 (fun k e => by cases e; exact hmb)).alloc (.cells #[.int .i64 s'.x, .int .i64 s'.y] 73)); have HE5 := Lib.hid ((HEX.out.grown hg5 (fun k e => by cases e; exact .inl rfl)).keep ((New.refl w5).alloc (.cells #[.int .i64 s'.x, .int .i64 s'.y] 73))); have m0 := b5.cell 0; have m1 := b5.cell 1; have m2 := b5.cell 2; have lb5 := b5.lt; simp only [List.getElem?_toArray, List.getElem?_cons_zero, List.getElem?_cons_succ] at m0 m1 m2; clear b5 hm5 hg5) | (at_builtin; (refine wpList_pour _ rfl _ _ 82 rfl 73 i0 _ 2 16 Try.underlying82 hi hz0 hz1 hz2 rfl (by omega) W0.heap.size encPl _ _ _ _ rfl HC5.out _ 1 1 [(s'.x, s'.y)] rfl (by exact rd_bx (Bx.mk _ _ #[.int .i64 s'.x, .int .i64 s'.y]) encPl_len [(s'.x, s'.y)] rfl 1 rfl) encPl_one (by simp [maxLen]; omega) (by omega) HE5.out.size ?_; intro A7 cap7 w7 hown7 hgr7 hN7; have b7 := HB5.out.grown hgr7 (bx_apart HB5.out HC5.out (by decide)); have HB7 := Lib.hid b7; have HM7 := Lib.hid (HM5.out.grown hgr7 (HC5.out.not_below hmW)); have HN7 := Lib.hid (HN5.out.grownOwn HC5.out hwW hgr7); have HE7 := Lib.hid (HE5.out.grown hgr7 (fun k e => .inr (.inr (HC5.out.blkAt e).1))); have HC7 := Lib.hid hown7; have q0 := b7.cell 0; have q1 := b7.cell 1; have q2 := b7.cell 2; have lb7 := b7.lt; simp only [List.getElem?_toArray, List.getElem?_cons_zero, List.getElem?_cons_succ] at q0 q1 q2; clear b7 hown7 hgr7 hN7)))
              refine (cFollowing_is HF2.out mb _ HBB.out.1 HM7.out).mono ?_
              rintro e w8 ⟨rfl, n8⟩
              have b8 := HB7.out.keep n8
              have HM8 := Lib.hid (((((HM7.out.keep n8).far (p := ⟨sb, 0, none⟩) hms (.int .i64 s2.x)).far (p := ⟨sb, 1, none⟩) hms (.int .i64 s2.y)).far (p := ⟨sb, 2, none⟩) hms (.int .i64 s2.d)))
              have r0 := b8.cell 0
              have r1 := b8.cell 1
              have r2 := b8.cell 2
              have f0 := b8.free 0
              have f1 := b8.free 1
              have f2 := b8.free 2
              have lb8 := b8.lt
              simp only [List.getElem?_toArray, List.getElem?_cons_zero, List.getElem?_cons_succ] at r0 r1 r2
              have HB9 := Lib.hid (((b8.set 0 (.int .i64 s2.x)).set 1 (.int .i64 s2.y)).set 2 (.int .i64 s2.d))
              have o8 := HC7.out.keep n8
              have ha8 := (bx_apart b8 o8 (by decide)).symm
              have HC9 := Lib.hid (((o8.setOther (p := ⟨sb, 0, none⟩) ha8 (.int .i64 s2.x)).setOther (p := ⟨sb, 1, none⟩) ha8 (.int .i64 s2.y)).setOther (p := ⟨sb, 2, none⟩) ha8 (.int .i64 s2.d))
              have HN9 := Lib.hid ((((HN7.out.trans n8).setCell (p := ⟨sb, 0, none⟩) hsN (.int .i64 s2.x)).setCell (p := ⟨sb, 1, none⟩) hsN (.int .i64 s2.y)).setCell (p := ⟨sb, 2, none⟩) hsN (.int .i64 s2.d))
              have HE9 := Lib.hid ((((HE7.out.keep n8).set (p := ⟨sb, 0, none⟩) rfl (.int .i64 s2.x)).set (p := ⟨sb, 1, none⟩) rfl (.int .i64 s2.y)).set (p := ⟨sb, 2, none⟩) rfl (.int .i64 s2.d))
              clear b8 o8 ha8 n8
              go_wp2_with fail
              go_roundw
              case rel => exact ⟨u + 1, cap7, A7, _, R2, s2, g, rfl, HC9, HB9, HM8, HW2, HE9, HB2, by omega, hu1, HN9.out⟩
              case measure => simp [lenC]; omega
            · rw [decide_eq_false hin] at HG
              have HWO := Lib.hid (show walkS (R.length + 1) R sd = (R', acc) by rw [HW.out, walkS_out hin]; simp)
              have HCN := Lib.hid (show contS R (ys.drop k) = (if acc = [] then [] else [acc]) ++ contS R' (ys.drop (k + 1)) by
                rw [HD.out, contS, HWO.out])
              have HOX := Lib.hid (HO0.out.ex HEX.out hmB HB0c.out (by decide) (by decide))
              have HYX := Lib.hid (HY0.out.ex HEX.out HYB.out.symm (fun e => by simp at e; omega))
              have hwx := Nat.le_trans hwb0 HEX.out.size
              have HRX := Lib.hid (show (∀ s ∈ R', BS s) ∧ R'.length ≤ 256 from ⟨HBB.out.2, by omega⟩)
              have HAC := Lib.hid HCO.out.len
              clear hin HW HWO
              rcases Nat.eq_zero_or_pos u with h0 | h0
              · subst h0
                have HCE := Lib.hid (show contS ys ys = cs ++ contS R' (ys.drop (k + 1)) by
                  rw [HC.out, HCN.out, if_pos (List.eq_nil_of_length_eq_zero HAC.out)]; rfl)
                go_wp2_with (first | (at_lookup; refine wpList_mgGet1 mapSd _ rfl _ _ rfl mb _ s' _ rfl HMG.out HOK.out rfl HG.out ?_))
                go_roundw
                case rel => exact ⟨k + 1, m, c, C, rv, cs, R', by omega, by omega, by go_num, rfl, HOX, HMG, HYX, HRX, HCE, hwx, hN⟩
                case measure => simp [intOf]; omega
              · have HCE := Lib.hid (show contS ys ys = (cs ++ [acc]) ++ contS R' (ys.drop (k + 1)) by
                  rw [HC.out, HCN.out, if_neg (fun e => by have := HAC.out; rw [e] at this; simp at this; omega), List.append_assoc])
                have du : decide (0 < u) = true := decide_eq_true h0
                have du2 : decide ((0 : Int) < (u : Int)) = true := decide_eq_true (by omega)
                have HDR := Lib.hid ((HCO.out.base_le hwb0).alloc (.cells #[.slice D u c2] 82))
                have HOA := Lib.hid (HOX.out.keep ((New.refl wr).alloc (.cells #[.slice D u c2] 82)))
                have HYA := Lib.hid (HYX.out.alloc (.cells #[.slice D u c2] 82))
                have HMA := Lib.hid (HMG.out.alloc (.cells #[.slice D u c2] 82))
                have HNA := Lib.hid (hN.alloc (.cells #[.slice D u c2] 82))
                have hwa : WB.heap.size ≤ (wr.alloc (.cells #[.slice D u c2] 82)).heap.size := Nat.le_trans hwx ((New.refl wr).alloc _).size
                have hwB : w.heap.size ≤ WB.heap.size := by omega
                go_wp2_with (first | (at_lookup; refine wpList_mgGet1 mapSd _ rfl _ _ rfl mb _ s' _ rfl HMG.out HOK.out rfl HG.out ?_) | (at_builtin; (refine wpList_pour _ rfl _ _ 47 rfl 82 i1 _ 1 24 Try.underlying47 hi1 hy0 hy1 hy2 rfl (by omega) WB.heap.size encSl _ _ _ _ rfl HOA.out.own _ 1 1 [(⟨D, u, c2⟩ : SlV)] rfl (by exact rd_bx (Bx.mk _ _ #[.slice D u c2]) encSl_len [(⟨D, u, c2⟩ : SlV)] rfl 1 rfl) encSl_one (by simp [maxLen]; omega) (by omega) hwa ?_; intro A7 cap7 w7 hown7 hgr7 hN7; have HO7 := Lib.hid (HOA.out.snoc HDR.out (by decide) hown7 hgr7); have HM7 := Lib.hid (HMA.out.grown hgr7 (HOA.out.own.not_below hmB)); have HY7 := Lib.hid (HYA.out.kept hgr7 (own_apart2 HYA.out HOA.out.own (by decide))); have HN7 := Lib.hid (HNA.out.grownOwn HOA.out.own hwB hgr7); have hw7 := Nat.le_trans hwa hgr7.size; clear hown7 hgr7 hN7)))
                go_roundw
                case rel => exact ⟨k + 1, m + 1, cap7, A7, _, cs ++ [acc], R', by omega, by omega, by go_num, rfl, HO7, HM7, HY7, HRX, HCE, hw7, HN7.out⟩
                case measure => simp [intOf]; omega
        · obtain rfl : yn = k := by omega
          have HFO := Lib.hid HO.out
          go_wp2_with fail
          go_ret2
          refine ⟨hN, .inr ⟨HV.out, ys, C, m, c, HSS.out, rfl, HFO.out.own.le.1, ?_⟩⟩
          have h := HFO.out.reads
          have h2 : contS ys ys = cs := by
            rw [HC.out, List.drop_eq_nil_of_le (by rw [HY.out.len]; exact Nat.le_refl _)]
            simp [contS]
          rw [h2]
          exact h
end Go.Proofs.Ytaogolnoiffgiaa

namespace Go.Sky
open Go.RowKit
/-- A world that holds this box. -/
structure HasB (nb : Nat) (t : TypeId) (cs : Array Value) where
  W : World
  h : Bx W nb t cs
@[go_sem] theorem hasB_cell {nb : Nat} {t : TypeId} {cs : Array Value} (od : HasB nb t cs) (i : Nat) : od.W.cell? ⟨nb, i, none⟩ = cs[i]? := od.h.cell i
section
variable {P : Program} {F : Fence} {n : Nat}
theorem wp_region_takesS {id : Nat} {Q : Exit → Act → World → Prop} {a : Act} {w : World} {l : List Oper} (S : World → Prop) (m g : Nat) (listed : Array Bool) (hnd : noDefer l.toArray = true) (hsel : Region.noSelect l.toArray = true) (hm : P.follows .mixedOrders = true)
    (hB : takesB .any l.toArray (l.take m).length 0 (Array.replicate l.toArray.size false) = true) (hml : g + (l.take m).length = l.toArray.size) (hls : tookAll (l.take m).length 0 (Array.replicate l.toArray.size false) = listed)
    (h : wpQuiet P l.toArray S (fun a' => wpAnyS Fence.wide 6 P .any l.toArray (endsIn (Q .normal)) S g listed a' w.drew) (l.take m) a) :
    (Code.region id l.toArray true).wp P Q a w := by
  refine (wpIn_wide (n := 6)).1 ?_
  refine Code.wpIn_mono (Q := endsIn (Q .normal)) (fun e a' w' he => ?_) (wpIn_region_any hm ?_)
  · cases e with
    | normal => exact he
    | _ => exact he.elim
  · refine wpAnyIn_of_S (S := S) _ _ _ _ ?_
    have := take_all (F := Fence.wide) (n := 6) (P := P) (md := .any) (ops := l.toArray) (Q := endsIn (Q .normal)) (S := S) hsel hnd (fun _ _ _ h => h) (by rintro ⟨_, _, h⟩; exact h) (fun _ => trivial) (f := g) (w := w.drew) (l.take m) 0 (Array.replicate l.toArray.size false) a
      (fun j hj => by have : j < m := by simp at hj; omega
                      simp [this]) hB (by
        rw [hls]; exact h)
    rw [hml] at this
    exact this
end
theorem news_bx {α : Type} {w : World} {b k : Nat} {t : TypeId} {cs : Array Value} {enc : α → List Value} (h : Bx w b t cs) (_hk : ∀ x, (enc x).length = k) (xs : List α) (hx : xs.flatMap enc = cs.toList) : ∀ j u, (xs.flatMap enc)[j]? = some u → w.cell? ⟨b, j, none⟩ = some u := by
  intro j u hu
  rw [h.cell, ← Array.getElem?_toList, ← hx]
  exact hu
end Go.Sky
namespace Go.Sky.Ch
open Go.RowKit Go.Sky
/-! ### Lengths -/
theorem ccell_len (x y : Int) : ∀ n, (candCell x y n).length = n
  | 0 => rfl
  | n + 1 => by rw [candCell, List.length_append, ccell_len x y n]; rfl
theorem crow_len (y : Int) : ∀ n, (candRow y n).length = n * 4
  | 0 => rfl
  | n + 1 => by rw [candRow, List.length_append, crow_len y n, ccell_len]; omega
theorem call_len (w : Nat) : ∀ n, (candAll w n).length = n * (w * 4)
  | 0 => by rw [Nat.zero_mul]; rfl
  | n + 1 => by rw [candAll, List.length_append, call_len w n, crow_len, Nat.add_mul]; omega
theorem orb_len (f : Sd → Sd) (a : Sd) : ∀ (n : Nat) (s : Sd), (orbF f a n s).length ≤ n
  | 0, _ => Nat.le_refl _
  | n + 1, s => by
    rw [orbF, List.length_cons]
    split
    · simp
    · have := orb_len f a n (f s); omega
theorem fold_len (r : Int → Int → Bool) (N : Nat) : ∀ (l : List Sd) (st : List Sd × List (List (Int × Int))), (l.foldl (refStep r N) st).1.length ≤ st.1.length + N * l.length ∧ (l.foldl (refStep r N) st).2.length ≤ st.2.length + l.length
  | [], st => by simp
  | s :: t, st => by
    have h := fold_len r N t (refStep r N st s)
    rw [List.foldl_cons, List.length_cons, Nat.mul_add, Nat.mul_one]
    have h1 : (refStep r N st s).1.length ≤ st.1.length + N ∧ (refStep r N st s).2.length ≤ st.2.length + 1 := by
      unfold refStep
      split
      · have := orb_len (aheadS r) s N s
        simp
        omega
      · omega
    omega
def refSt (r : Int → Int → Bool) (N : Nat) (l : List Sd) : List Sd × List (List (Int × Int)) := l.foldl (refStep r N) ([], [])
theorem refSt_snoc (r : Int → Int → Bool) (N : Nat) (l : List Sd) (s : Sd) : refSt r N (l ++ [s]) = refStep r N (refSt r N l) s := by unfold refSt; rw [List.foldl_append]; rfl
theorem refSt_len {r : Int → Int → Bool} {N : Nat} {l : List Sd} {ul : List Sd} {ol : List (List (Int × Int))} (h : refSt r N l = (ul, ol)) : ul.length ≤ N * l.length ∧ ol.length ≤ l.length := by
  have := fold_len r N l ([], [])
  unfold refSt at h
  rw [h] at this
  simpa using this
/-- Where a side lies. -/
theorem side_bd {rows : List (List Int)} {s : Sd} (h : IsSide (isR rows) s) : (0 ≤ s.x ∧ s.x ≤ (len0 rows : Int)) ∧ (0 ≤ s.y ∧ s.y ≤ (rows.length : Int)) := by
  have h4 := h.2
  rw [side_cells h.1, Bool.and_eq_true] at h4
  obtain ⟨⟨x0, x1⟩, y0, y1⟩ := isR_range h4.1
  constructor
  · unfold leftX at x0 x1
    split at x0 <;> omega
  · unfold leftY at y0 y1
    split at y0 <;> omega
end Go.Sky.Ch
namespace Go.Proofs.Ytaogolnoiffgiaa
open Go.RowKit Go.Sky Go.Sky.Ch

theorem infoRSd : (Try.prog.info? 158).map (fun i => (i.zero, i.size, i.bytes)) = some (some (.agg #[.int .i64 0, .int .i64 0, .int .i64 0]), 3, 24) := by kernel_rfl

set_option maxRecDepth 100000 in
set_option maxHeartbeats 16000000 in
theorem refContours_any (A : Option Addr) (n cap : Nat) (rows : List (List Int)) (level : Int) (w : World) (N : Nat) (hgr : GrOk rows) (hN : (allSides (regS rows level) (regS rows level).length).length = N) (hr : RowsL w 1 encI A n rows) :
    Calls Try.prog 31 #[.slice A n cap, .int .i64 level] w fun e w' => New w w' ∧ ∃ C c m, e = .returned (.slice C m c) ∧ m ≤ c ∧ RowsL w' 2 encPl C m (refC (isR (regS rows level)) N (len0 rows + 1) (rows.length + 1)).2 := by
  obtain ⟨iP, hiP, hP0, hP1, hP2⟩ := info_parts infoPl
  obtain ⟨iS, hiS, hS0, hS1, hS2⟩ := info_parts infoRSd
  obtain ⟨iR, hiR, hR0, hR1, hR2⟩ := info_parts infoRowPl
  have HL := Lib.hid hr.len
  have HR := Lib.hid hr
  have hh := hgr.h
  have hww := hgr.w
  rw [HL.out] at hh
  have hrc := hgr.rect level
  have hbin := bin_reg rows level
  have HRL := Lib.hid (show ∀ r ∈ rows, r.length ≤ 1000 from fun r hr => by
    obtain ⟨i, hi, rfl⟩ := List.getElem_of_mem hr
    have := (hgr.row i _ (List.getElem?_eq_getElem hi)).1
    omega)
  have HLR := Lib.hid (show ∀ q, IsSide (isR (regS rows level)) q → q ∈ allSides (regS rows level) (regS rows level).length from fun q h => mem_sides.2 h)
  have hN256 : N ≤ 256 := by
    have h1 := allSides_len (regS rows level) (regS rows level).length
    have h2 := Nat.mul_le_mul hrc.h.2 (Nat.mul_le_mul (Nat.le_refl 4) hrc.w.2)
    omega
  have HN := Lib.hid hN
  have HL0 := Lib.hid (len0_reg rows level)
  have HLG := Lib.hid (show (regS rows level).length = n by unfold regS; rw [List.length_map]; exact HL.out)
  obtain ⟨m, hm⟩ : ∃ m, len0 rows = m := ⟨_, rfl⟩
  have HM := Lib.hid hm
  rw [hm] at hww
  rw [hm] at HL0
  obtain ⟨rr, hrr⟩ : ∃ rr, regS rows level = rr := ⟨_, rfl⟩
  have HRR := Lib.hid hrr
  rw [hrr] at hrc hbin HLR HN HL0 HLG ⊢
  have nSP : (158 : Nat) ≠ 73 := by decide
  have nPS : (73 : Nat) ≠ 158 := by decide
  have nRP : (82 : Nat) ≠ 73 := by decide
  have nRS : (82 : Nat) ≠ 158 := by decide
  have nSR : (158 : Nat) ≠ 82 := by decide
  have nPR : (73 : Nat) ≠ 82 := by decide
  clear hr hgr hm hrr hN
  go_enter Try.func31, Try.ntmps31
  go_wp2_with fail
  refine (refRegion_any A n cap rows level _ (by omega) HRL.out HR.out).mono ?_
  rintro e V ⟨nV, RA, rc, rfl, hrcap, hrg⟩
  rw [HRR.out] at hrg
  have HRG := Lib.hid hrg
  have HRV := Lib.hid (HR.out.keep nV)
  clear hrg hrcap
  go_wp2_with fail
  go_loopw [6, 7, 8] (fun us os y wr => ∃ (k : Nat) (U O : Option Addr) (un uc on oc : Nat) (ul : List Sd) (rv : List SlV) (ol : List (List Pl)), k ≤ n + 1 ∧ y = .int .i64 (k : Int) ∧ us = .slice U un uc ∧ os = .slice O on oc ∧ Hid (refSt (isR rr) N (candAll (m + 1) k) = (ul, ol)) ∧ Hid (SitO V 73 158 82 2 3 encPl encSd U un uc ul O on oc rv ol wr)) (fun _ _ y _ => n + 1 - (intOf y).toNat)
  case atStart => exact ⟨0, none, none, 0, 0, 0, 0, [], [], [], by omega, rfl, rfl, rfl, rfl, ⟨New.refl _, Sky.Own.nil _ _ _ _ encSd_len, OwnRows.nil⟩⟩
  case round =>
    obtain ⟨k, U, O, un, uc, on, oc, ul, rv, ol, hk, rfl, rfl, rfl, HST, HS⟩ := hrel
    by_cases hlt : k < n + 1
    rotate_left
    · obtain rfl : k = n + 1 := by omega
      have HFO := Lib.hid HS.out.o
      have HNN := Lib.hid (nV.trans HS.out.n)
      have HRC := Lib.hid (show (refC (isR rr) N (len0 rows + 1) (rows.length + 1)).2 = ol by
        rw [HM.out, HL.out]
        have := HST.out
        unfold refSt at this
        unfold refC
        rw [this])
      have i0 : ¬ ((n + 1 : Nat) : Int) ≤ (n : Int) := by omega
      clear HS HST
      go_wp2_with fail
      go_ret
      refine ⟨HNN.out, O, oc, on, rfl, HFO.out.own.le.1, ?_⟩
      rw [HRC.out]
      exact HFO.out.reads
    obtain ⟨W0, hW0⟩ : ∃ W0, wr = W0 := ⟨_, rfl⟩
    rw [hW0] at HS ⊢
    clear hW0
    have i0 : (k : Int) ≤ (n : Int) := by omega
    go_wp2_with fail
    go_loopw [6, 7, 9] (fun us os x wr => ∃ (j : Nat) (U O : Option Addr) (un uc on oc : Nat) (ul : List Sd) (rv : List SlV) (ol : List (List Pl)), j ≤ m + 1 ∧ x = .int .i64 (j : Int) ∧ us = .slice U un uc ∧ os = .slice O on oc ∧ Hid (refSt (isR rr) N (candAll (m + 1) k ++ candRow (k : Int) j) = (ul, ol)) ∧ Hid (SitO V 73 158 82 2 3 encPl encSd U un uc ul O on oc rv ol wr)) (fun _ _ x _ => m + 1 - (intOf x).toNat)
    case atStart => exact ⟨0, U, O, un, uc, on, oc, ul, rv, ol, by omega, rfl, rfl, rfl, by unfold Hid; rw [candRow, List.append_nil]; exact HST.out, HS⟩
    case round =>
      clear HST HS
      obtain ⟨j, U, O, un, uc, on, oc, ul, rv, ol, hj, rfl, rfl, rfl, HST, HS⟩ := hrel
      obtain ⟨b, o, r0, xs0, rfl, hb, hx0, hc0, hrow0⟩ := (HRV.out.keep HS.out.n).at_ (show 0 < n by omega)
      obtain ⟨R0A, r0n, r0c⟩ := r0
      have hr0 : r0n = m := by rw [← HM.out, row_len0 hx0]; exact hrow0.len.symm
      subst hr0
      dsimp only at hc0
      simp only [Nat.add_zero] at hc0
      have n0 : (0 : Int) < (n : Int) := by omega
      clear hx0 hrow0
      by_cases hjl : j < r0n + 1
      rotate_left
      · obtain rfl : j = r0n + 1 := by omega
        have j0 : ¬ ((r0n + 1 : Nat) : Int) ≤ (r0n : Int) := by omega
        go_wp2_with fail
        go_roundw
        case rel => exact ⟨k + 1, U, O, un, uc, on, oc, ul, rv, ol, by omega, by go_num, rfl, rfl, by unfold Hid; rw [candAll]; exact HST.out, HS⟩
        case measure => simp [intOf]; omega
      have j0 : (j : Int) ≤ (r0n : Int) := by omega
      obtain ⟨W1, hW1⟩ : ∃ W0, wr = W0 := ⟨_, rfl⟩
      rw [hW1] at HS hc0 hb ⊢
      clear hW1
      go_wp2_with fail
      go_loopw [6, 7, 10] (fun us os d wr => ∃ (i : Nat) (U O : Option Addr) (un uc on oc : Nat) (ul : List Sd) (rv : List SlV) (ol : List (List Pl)), i ≤ 4 ∧ d = .int .i64 (i : Int) ∧ us = .slice U un uc ∧ os = .slice O on oc ∧ Hid (refSt (isR rr) N (candAll (r0n + 1) k ++ candRow (k : Int) j ++ candCell (j : Int) (k : Int) i) = (ul, ol)) ∧ Hid (SitO V 73 158 82 2 3 encPl encSd U un uc ul O on oc rv ol wr)) (fun _ _ d _ => 4 - (intOf d).toNat)
      case atStart => exact ⟨0, U, O, un, uc, on, oc, ul, rv, ol, by omega, rfl, rfl, rfl, by unfold Hid; rw [candCell, List.append_nil]; exact HST.out, HS⟩
      case round =>
        clear HST HS hc0 hb
        obtain ⟨i, U, O, un, uc, on, oc, ul, rv, ol, hi, rfl, rfl, rfl, HST, HS⟩ := hrel
        by_cases hil : i < 4
        rotate_left
        · obtain rfl : i = 4 := by omega
          go_wp2_with fail
          go_roundw
          case rel => exact ⟨j + 1, U, O, un, uc, on, oc, ul, rv, ol, by omega, by go_num, rfl, rfl, by unfold Hid; rw [candRow, ← List.append_assoc]; exact HST.out, HS⟩
          case measure => simp [intOf]; omega
        have i1 : (0 : Int) ≤ (i : Int) := by omega
        have i2 : (i : Int) < 4 := by omega
        have HSN := Lib.hid (show refSt (isR rr) N (candAll (r0n + 1) k ++ candRow (k : Int) j ++ candCell (j : Int) (k : Int) (i + 1)) = refStep (isR rr) N (ul, ol) ⟨(j : Int), (k : Int), (i : Int)⟩ by
          rw [candCell, ← List.append_assoc, refSt_snoc, HST.out])
        have hlen := refSt_len HST.out
        have hull : un = ul.length := HS.out.u.len.symm
        have holl : on = ol.length := by rw [HS.out.o.len]; exact HS.out.o.own.len.symm
        have hproc : (candAll (r0n + 1) k ++ candRow (k : Int) j ++ candCell (j : Int) (k : Int) i).length ≤ 400 := by
          rw [List.length_append, List.length_append, call_len, crow_len, ccell_len]
          have h1 := Nat.mul_le_mul (show k ≤ 8 by omega) (show (r0n + 1) * 4 ≤ 36 by omega)
          omega
        have hun : un ≤ 102400 := by
          have := Nat.mul_le_mul hN256 hproc
          omega
        have hon : on ≤ 400 := by omega
        clear hlen hull holl hproc HST
        obtain ⟨g, hg⟩ : ∃ g, sideB (isR rr) ⟨(j : Int), (k : Int), (i : Int)⟩ = g := ⟨_, rfl⟩
        have HG := Lib.hid hg
        obtain ⟨u, hu⟩ : ∃ u, decide ((⟨(j : Int), (k : Int), (i : Int)⟩ : Sd) ∈ ul) = u := ⟨_, rfl⟩
        have HU := Lib.hid hu
        clear hg hu
        have n1 := (New.refl wr).alloc (.cells #[.int .i64 (j : Int), .int .i64 (k : Int), .int .i64 (i : Int)] 158)
        have f1 := Bx.mk wr 158 #[.int .i64 (j : Int), .int .i64 (k : Int), .int .i64 (i : Int)]
        obtain ⟨X1, hX1⟩ : ∃ X, wr.alloc (.cells #[.int .i64 (j : Int), .int .i64 (k : Int), .int .i64 (i : Int)] 158) = X := ⟨_, rfl⟩
        obtain ⟨fb, hfb⟩ : ∃ b, wr.heap.size = b := ⟨_, rfl⟩
        have HFB := Lib.hid hfb
        have hsz1 : X1.heap.size = fb + 1 := by rw [← hX1]; simp [hfb]
        rw [hX1] at n1 f1
        rw [hfb] at f1
        have p0 : X1.cell? ⟨fb, 0, none⟩ = some (.int .i64 (j : Int)) := f1.cell 0
        have p1 : X1.cell? ⟨fb, 1, none⟩ = some (.int .i64 (k : Int)) := f1.cell 1
        have p2 : X1.cell? ⟨fb, 2, none⟩ = some (.int .i64 (i : Int)) := f1.cell 2
        have lf := f1.lt
        cases g
        · have HSE := Lib.hid (show refStep (isR rr) N (ul, ol) ⟨(j : Int), (k : Int), (i : Int)⟩ = (ul, ol) by unfold refStep; rw [if_neg (fun h => by rw [HG.out] at h; exact absurd h.1 (by decide))])
          go_wp2_with fail
          try rw [hX1]
          try rw [hfb]
          go_wp2_with fail
          refine (refIsSide_is HG.out RA n rc _ hrc hbin (HRG.out.keep (HS.out.n.trans n1)) (by omega) (by omega) (by omega)).mono ?_
          rintro e X2 ⟨rfl, n2⟩
          have HS2 := Lib.hid (HS.out.keep (n1.trans n2))
          go_wp2_with fail
          go_roundw
          case rel => exact ⟨i + 1, U, O, un, uc, on, oc, ul, rv, ol, by omega, by go_num, rfl, rfl, by unfold Hid; rw [HSN.out, HSE.out], HS2⟩
          case measure => simp [intOf]; omega
        go_wp2_with fail
        try rw [hX1]
        try rw [hfb]
        clear hX1 hfb
        go_wp2_with fail
        refine (refIsSide_is HG.out RA n rc _ hrc hbin (HRG.out.keep (HS.out.n.trans n1)) (by omega) (by omega) (by omega)).mono ?_
        rintro e X2 ⟨rfl, n2⟩
        have f2 := f1.keep n2
        have n12 := n1.trans n2
        have hs2 := n2.size
        clear p0 p1 p2 f1 n1 n2
        have p0 : X2.cell? ⟨fb, 0, none⟩ = some (.int .i64 (j : Int)) := f2.cell 0
        have p1 : X2.cell? ⟨fb, 1, none⟩ = some (.int .i64 (k : Int)) := f2.cell 1
        have p2 : X2.cell? ⟨fb, 2, none⟩ = some (.int .i64 (i : Int)) := f2.cell 2
        have lf2 := f2.lt
        go_wp2_with fail
        refine (refHasSide_is HU.out U un uc _ (by omega) (HS.out.keep n12).u.rd).mono ?_
        rintro e X3 ⟨rfl, n3⟩
        have f3 := f2.keep n3
        have n13 := n12.trans n3
        have hs3 := n3.size
        clear p0 p1 p2 lf2 f2 n12 n3
        cases u
        rotate_left
        · have HSE := Lib.hid (show refStep (isR rr) N (ul, ol) ⟨(j : Int), (k : Int), (i : Int)⟩ = (ul, ol) by unfold refStep; rw [if_neg (fun h => h.2 (of_decide_eq_true HU.out))])
          have HS2 := Lib.hid (HS.out.keep n13)
          go_wp2_with fail
          go_roundw
          case rel => exact ⟨i + 1, U, O, un, uc, on, oc, ul, rv, ol, by omega, by go_num, rfl, rfl, by unfold Hid; rw [HSN.out, HSE.out], HS2⟩
          case measure => simp [intOf]; omega
        have hsd : IsSide (isR rr) ⟨(j : Int), (k : Int), (i : Int)⟩ := ⟨by show (0 : Int) ≤ (i : Int) ∧ (i : Int) ≤ 3; omega, HG.out⟩
        obtain ⟨P, hcyc, hPs, hPl⟩ := cycle_of HLR.out hsd
        rw [HN.out] at hPl
        have HSE := Lib.hid (show refStep (isR rr) N (ul, ol) ⟨(j : Int), (k : Int), (i : Int)⟩ = (ul ++ P, ol ++ [P.map atS]) by unfold refStep; rw [if_pos ⟨HG.out, of_decide_eq_false HU.out⟩, orb_cyc hcyc hPl])
        have HCY := Lib.hid hcyc
        have HPS := Lib.hid hPs
        have hP256 : P.length ≤ 256 := by omega
        clear hsd hcyc hPs hPl
        have p0 : X3.cell? ⟨fb, 0, none⟩ = some (.int .i64 (j : Int)) := f3.cell 0
        have p1 : X3.cell? ⟨fb, 1, none⟩ = some (.int .i64 (k : Int)) := f3.cell 1
        have p2 : X3.cell? ⟨fb, 2, none⟩ = some (.int .i64 (i : Int)) := f3.cell 2
        have lf3 := f3.lt
        have f4 := f3.alloc (.cells #[.int .i64 (j : Int), .int .i64 (k : Int), .int .i64 (i : Int)] 158)
        have b4 := Bx.mk X3 158 #[.int .i64 (j : Int), .int .i64 (k : Int), .int .i64 (i : Int)]
        have n14 := n13.alloc (.cells #[.int .i64 (j : Int), .int .i64 (k : Int), .int .i64 (i : Int)] 158)
        obtain ⟨X4, hX4⟩ : ∃ X, X3.alloc (.cells #[.int .i64 (j : Int), .int .i64 (k : Int), .int .i64 (i : Int)] 158) = X := ⟨_, rfl⟩
        obtain ⟨nb, hnb⟩ : ∃ b, X3.heap.size = b := ⟨_, rfl⟩
        rw [hX4] at f4 b4 n14
        rw [hnb] at b4
        have HST4 := Lib.hid (Sit.start HS.out n14 encPl_len f4 b4 (by have := HFB.out; omega) (by have := HFB.out; omega) (by omega))
        go_wp2_with fail
        try rw [hX4]
        try rw [hnb]
        clear hX4 hnb f3 f4 b4 n13 n14 p0 p1 p2 lf lf3 hs2 hs3 hsz1 HS HU
        obtain ⟨B0, hB0⟩ : ∃ b, X4.heap.size = b := ⟨_, rfl⟩
        rw [hB0] at HST4
        clear hB0
        go_loopw [6, 12] (fun us cs wr => ∃ (q : Nat) (U C : Option Addr) (uc cc : Nat) (s : Sd), P[q]? = some s ∧ us = .slice U (un + q) uc ∧ cs = .slice C q cc ∧ Hid (Sit V B0 fb nb 73 158 82 2 3 encPl encSd #[.int .i64 (j : Int), .int .i64 (k : Int), .int .i64 (i : Int)] #[.int .i64 s.x, .int .i64 s.y, .int .i64 s.d] C q cc ((P.take q).map atS) U (un + q) uc (ul ++ P.take q) O on oc rv ol wr)) (fun _ cs _ => P.length - lenC cs)
        case atStart => exact ⟨0, U, none, uc, 0, _, HCY.out.first, rfl, rfl, by unfold Hid; rw [List.take_zero, List.append_nil]; exact HST4.out⟩
        case round =>
          clear HST4
          obtain ⟨q, U, C, uc, cc, s, hs, rfl, rfl, HSI⟩ := hrel
          have hql := (List.getElem?_eq_some_iff.1 hs).1
          have HTP := Lib.hid (take_snoc P q s hs)
          have HSS := Lib.hid (HPS.out s (List.mem_of_getElem? hs))
          have hsb := side_bd HSS.out
          have hsd := HSS.out.1
          rw [HL0.out, HLG.out] at hsb
          have HSTEP := Lib.hid (HCY.out.step hs)
          obtain ⟨v, hv⟩ : ∃ v, aheadS (isR rr) s = v := ⟨_, rfl⟩
          have HAV := Lib.hid hv
          rw [hv] at HSTEP
          clear hv hs
          have hinst : Nonempty (HasB nb 158 #[.int .i64 s.x, .int .i64 s.y, .int .i64 s.d]) := ⟨⟨wr, HSI.out.b⟩⟩
          have hS := HSI.out.keep ((New.refl wr).drew)
          go_wp2_with fail
          refine wp_region_takesS (fun w' => ∃ od : HasB nb 158 #[.int .i64 s.x, .int .i64 s.y, .int .i64 s.d], w' = od.W) 3 8 #[true, true, true, false, false, false, false, false, false, false, false] (by kernel_rfl) (by kernel_rfl) (by kernel_rfl) (by kernel_rfl) (by kernel_rfl) (by kernel_rfl) ?_
          simp only [List.take_succ_cons, List.take_zero]
          (repeat (go_big_quiet_step ((fail))))
          refine wpQuiet_nil ?_
          refine take_next 5 2 #[true, true, true, false, false, true, true, false, false, false, false] rfl (by kernel_rfl) (by kernel_rfl) (by kernel_rfl) (by kernel_rfl) (by decide) ?_
          simp only [List.take_succ_cons, List.take_zero, List.drop_succ_cons, List.drop_zero]
          (repeat (go_big_quiet_step ((fail))))
          refine wpQuiet_nil ?_
          obtain ⟨X, hX⟩ : ∃ X, wr.drew = X := ⟨_, rfl⟩
          rw [hX] at hS
          try rw [hX]
          clear hX HSI
          refine two_next 3 7 (by kernel_rfl) ⟨⟨X, hS.b⟩, rfl⟩ ?q0 ?q1
          case' q0 =>
            refine wpOpIn_list rfl ?_
            gi_wp2
            have hA := Bx.mk X 73 #[.int .i64 s.x, .int .i64 s.y]
            replace hS := hS.alloc (.cells #[.int .i64 s.x, .int .i64 s.y] 73)
            obtain ⟨ba, hba⟩ : ∃ b, X.heap.size = b := ⟨_, rfl⟩
            rw [hba] at hA
            try rw [hba]
            clear hba
            generalize X.alloc (.cells #[.int .i64 s.x, .int .i64 s.y] 73) = X at *
            refine two_next 4 7 (by kernel_rfl) ⟨⟨X, hS.b⟩, rfl⟩ ?q2 ?q3
          case' q2 =>
            refine wpOpIn_list rfl ?_
            simp only [List.getElem_toArray, List.getElem_cons_succ, List.getElem_cons_zero]
            refine wpListIn_pour _ rfl _ _ 82 rfl 73 iP _ 2 16 Try.underlying82 hiP hP0 hP1 hP2 rfl (by omega) B0 encPl _ _ _ _ rfl (by exact hS.c) _ 1 1 [((s.x, s.y) : Pl)] rfl (by exact rd_bx hA encPl_len _ rfl 1 rfl) encPl_one (by simp only [maxLen]; omega) (by omega) (by exact hS.hx) ?_
            intro C' cc' X' hc' hg' hn'
            gi_wp2
            simp [Act.put]
            replace hS := hS.growC hc' hg' hn' nSP nRP
            clear hc' hg' hn' hA
            skip
            obtain ⟨X, hXX⟩ : ∃ W, X' = W := ⟨_, rfl⟩
            rw [hXX] at hS
            try rw [hXX]
            clear hXX
            refine one_next 7 (by kernel_rfl) ⟨⟨X, hS.b⟩, rfl⟩ ?_
            refine wpOpIn_list rfl ?_
            gi_wp2
            have hB := Bx.mk X 158 #[.int .i64 s.x, .int .i64 s.y, .int .i64 s.d]
            replace hS := hS.alloc (.cells #[.int .i64 s.x, .int .i64 s.y, .int .i64 s.d] 158)
            obtain ⟨bb, hbb⟩ : ∃ b, X.heap.size = b := ⟨_, rfl⟩
            rw [hbb] at hB
            try rw [hbb]
            clear hbb
            generalize X.alloc (.cells #[.int .i64 s.x, .int .i64 s.y, .int .i64 s.d] 158) = X at *
            refine one_next 8 (by kernel_rfl) ⟨⟨X, hS.b⟩, rfl⟩ ?_
            refine wpOpIn_list rfl ?_
            simp only [List.getElem_toArray, List.getElem_cons_succ, List.getElem_cons_zero]
            refine wpListIn_pushB _ rfl _ _ 156 rfl 158 iS _ 3 24 Try.underlying156 hiS hS0 hS1 hS2 rfl (by omega) V.heap.size encSd _ _ _ _ rfl (by exact hS.s.u) _ 1 1 [s] rfl rfl (by omega) (by exact news_bx hB encSd_len [s] rfl) encSd_one (by simp only [maxLen]; omega) (by omega) (by exact hS.s.n.size) ?_
            intro g' uc' X' hu' hg' hat' hn'
            gi_wp2
            simp [Act.put]
            replace hS := hS.growU hu' hg' hat' hn' nPS nRS
            clear hu' hg' hat' hn' hB
            obtain ⟨X, hXX⟩ : ∃ W, X' = W := ⟨_, rfl⟩
            rw [hXX] at hS
            try rw [hXX]
            clear hXX
          case' q3 =>
            refine wpOpIn_list rfl ?_
            gi_wp2
            have hB := Bx.mk X 158 #[.int .i64 s.x, .int .i64 s.y, .int .i64 s.d]
            replace hS := hS.alloc (.cells #[.int .i64 s.x, .int .i64 s.y, .int .i64 s.d] 158)
            replace hA := hA.alloc (.cells #[.int .i64 s.x, .int .i64 s.y, .int .i64 s.d] 158)
            obtain ⟨bb, hbb⟩ : ∃ b, X.heap.size = b := ⟨_, rfl⟩
            rw [hbb] at hB
            try rw [hbb]
            clear hbb
            generalize X.alloc (.cells #[.int .i64 s.x, .int .i64 s.y, .int .i64 s.d] 158) = X at *
            refine one_next 4 (by kernel_rfl) ⟨⟨X, hS.b⟩, rfl⟩ ?_
            refine wpOpIn_list rfl ?_
            simp only [List.getElem_toArray, List.getElem_cons_succ, List.getElem_cons_zero]
            refine wpListIn_pour _ rfl _ _ 82 rfl 73 iP _ 2 16 Try.underlying82 hiP hP0 hP1 hP2 rfl (by omega) B0 encPl _ _ _ _ rfl (by exact hS.c) _ 1 1 [((s.x, s.y) : Pl)] rfl (by exact rd_bx hA encPl_len _ rfl 1 rfl) encPl_one (by simp only [maxLen]; omega) (by omega) (by exact hS.hx) ?_
            intro C' cc' X' hc' hg' hn'
            gi_wp2
            simp [Act.put]
            replace hB := hB.grown hg' (bx_apart hB hS.c nSP)
            replace hS := hS.growC hc' hg' hn' nSP nRP
            clear hc' hg' hn' hA
            skip
            obtain ⟨X, hXX⟩ : ∃ W, X' = W := ⟨_, rfl⟩
            rw [hXX] at hS hB
            try rw [hXX]
            clear hXX
            refine one_next 8 (by kernel_rfl) ⟨⟨X, hS.b⟩, rfl⟩ ?_
            refine wpOpIn_list rfl ?_
            simp only [List.getElem_toArray, List.getElem_cons_succ, List.getElem_cons_zero]
            refine wpListIn_pushB _ rfl _ _ 156 rfl 158 iS _ 3 24 Try.underlying156 hiS hS0 hS1 hS2 rfl (by omega) V.heap.size encSd _ _ _ _ rfl (by exact hS.s.u) _ 1 1 [s] rfl rfl (by omega) (by exact news_bx hB encSd_len [s] rfl) encSd_one (by simp only [maxLen]; omega) (by omega) (by exact hS.s.n.size) ?_
            intro g' uc' X' hu' hg' hat' hn'
            gi_wp2
            simp [Act.put]
            replace hS := hS.growU hu' hg' hat' hn' nPS nRS
            clear hu' hg' hat' hn' hB
            obtain ⟨X, hXX⟩ : ∃ W, X' = W := ⟨_, rfl⟩
            rw [hXX] at hS
            try rw [hXX]
            clear hXX
          case' q1 =>
            refine wpOpIn_list rfl ?_
            gi_wp2
            have hB := Bx.mk X 158 #[.int .i64 s.x, .int .i64 s.y, .int .i64 s.d]
            replace hS := hS.alloc (.cells #[.int .i64 s.x, .int .i64 s.y, .int .i64 s.d] 158)
            obtain ⟨bb, hbb⟩ : ∃ b, X.heap.size = b := ⟨_, rfl⟩
            rw [hbb] at hB
            try rw [hbb]
            clear hbb
            generalize X.alloc (.cells #[.int .i64 s.x, .int .i64 s.y, .int .i64 s.d] 158) = X at *
            refine one_next 3 (by kernel_rfl) ⟨⟨X, hS.b⟩, rfl⟩ ?_
            refine wpOpIn_list rfl ?_
            gi_wp2
            have hA := Bx.mk X 73 #[.int .i64 s.x, .int .i64 s.y]
            replace hS := hS.alloc (.cells #[.int .i64 s.x, .int .i64 s.y] 73)
            replace hB := hB.alloc (.cells #[.int .i64 s.x, .int .i64 s.y] 73)
            obtain ⟨ba, hba⟩ : ∃ b, X.heap.size = b := ⟨_, rfl⟩
            rw [hba] at hA
            try rw [hba]
            clear hba
            generalize X.alloc (.cells #[.int .i64 s.x, .int .i64 s.y] 73) = X at *
            refine one_next 4 (by kernel_rfl) ⟨⟨X, hS.b⟩, rfl⟩ ?_
            refine wpOpIn_list rfl ?_
            simp only [List.getElem_toArray, List.getElem_cons_succ, List.getElem_cons_zero]
            refine wpListIn_pour _ rfl _ _ 82 rfl 73 iP _ 2 16 Try.underlying82 hiP hP0 hP1 hP2 rfl (by omega) B0 encPl _ _ _ _ rfl (by exact hS.c) _ 1 1 [((s.x, s.y) : Pl)] rfl (by exact rd_bx hA encPl_len _ rfl 1 rfl) encPl_one (by simp only [maxLen]; omega) (by omega) (by exact hS.hx) ?_
            intro C' cc' X' hc' hg' hn'
            gi_wp2
            simp [Act.put]
            replace hB := hB.grown hg' (bx_apart hB hS.c nSP)
            replace hS := hS.growC hc' hg' hn' nSP nRP
            clear hc' hg' hn' hA
            skip
            obtain ⟨X, hXX⟩ : ∃ W, X' = W := ⟨_, rfl⟩
            rw [hXX] at hS hB
            try rw [hXX]
            clear hXX
            refine one_next 8 (by kernel_rfl) ⟨⟨X, hS.b⟩, rfl⟩ ?_
            refine wpOpIn_list rfl ?_
            simp only [List.getElem_toArray, List.getElem_cons_succ, List.getElem_cons_zero]
            refine wpListIn_pushB _ rfl _ _ 156 rfl 158 iS _ 3 24 Try.underlying156 hiS hS0 hS1 hS2 rfl (by omega) V.heap.size encSd _ _ _ _ rfl (by exact hS.s.u) _ 1 1 [s] rfl rfl (by omega) (by exact news_bx hB encSd_len [s] rfl) encSd_one (by simp only [maxLen]; omega) (by omega) (by exact hS.s.n.size) ?_
            intro g' uc' X' hu' hg' hat' hn'
            gi_wp2
            simp [Act.put]
            replace hS := hS.growU hu' hg' hat' hn' nPS nRS
            clear hu' hg' hat' hn' hB
            obtain ⟨X, hXX⟩ : ∃ W, X' = W := ⟨_, rfl⟩
            rw [hXX] at hS
            try rw [hXX]
            clear hXX
          all_goals
            refine take_next 9 2 #[true, true, true, true, true, true, true, true, true, true, true] rfl (by kernel_rfl) (by kernel_rfl) (by kernel_rfl) (by kernel_rfl) (by decide) ?_
            simp only [List.take_succ_cons, List.take_zero, List.drop_succ_cons, List.drop_zero]
            (repeat (go_big_quiet_step ((fail))))
            refine wpQuiet_nil ?_
            refine end_any ⟨⟨X, hS.b⟩, rfl⟩ (by kernel_rfl) ?_
            have HSX := Lib.hid hS
            have hb := hS.b
            have hcc := hS.c.le
            have hRG := Lib.hid (HRG.out.keep hS.s.n)
            clear hS
            have p0 : X.cell? ⟨nb, 0, none⟩ = some (.int .i64 s.x) := hb.cell 0
            have p1 : X.cell? ⟨nb, 1, none⟩ = some (.int .i64 s.y) := hb.cell 1
            have p2 : X.cell? ⟨nb, 2, none⟩ = some (.int .i64 s.d) := hb.cell 2
            have lb := hb.lt
            clear hb
            go_wp2_with fail
            refine (refAhead_is HAV.out RA n rc _ hrc hbin hRG.out ⟨by omega, by omega, hsd⟩).mono ?_
            rintro e X5 ⟨rfl, n5⟩
            have hS5 := HSX.out.keep n5
            clear p0 p1 p2 lb n5 hRG
            have p0 : X5.cell? ⟨nb, 0, none⟩ = some (.int .i64 s.x) := hS5.b.cell 0
            have p1 : X5.cell? ⟨nb, 1, none⟩ = some (.int .i64 s.y) := hS5.b.cell 1
            have p2 : X5.cell? ⟨nb, 2, none⟩ = some (.int .i64 s.d) := hS5.b.cell 2
            have z0 := hS5.b.free 0
            have z1 := hS5.b.free 1
            have z2 := hS5.b.free 2
            have lb := hS5.b.lt
            have hS6 := ((hS5.setB 0 (.int .i64 v.x) nSP nSR).setB 1 (.int .i64 v.y) nSP nSR).setB 2 (.int .i64 v.d) nSP nSR
            obtain ⟨X6, hX6⟩ : ∃ X, ((X5.setCell ⟨nb, 0, none⟩ (.int .i64 v.x)).setCell ⟨nb, 1, none⟩ (.int .i64 v.y)).setCell ⟨nb, 2, none⟩ (.int .i64 v.d) = X := ⟨_, rfl⟩
            rw [hX6] at hS6
            have c0 : X6.cell? ⟨nb, 0, none⟩ = some (.int .i64 v.x) := hS6.b.cell 0
            have c1 : X6.cell? ⟨nb, 1, none⟩ = some (.int .i64 v.y) := hS6.b.cell 1
            have c2 : X6.cell? ⟨nb, 2, none⟩ = some (.int .i64 v.d) := hS6.b.cell 2
            have d0 : X6.cell? ⟨fb, 0, none⟩ = some (.int .i64 (j : Int)) := hS6.f.cell 0
            have d1 : X6.cell? ⟨fb, 1, none⟩ = some (.int .i64 (k : Int)) := hS6.f.cell 1
            have d2 : X6.cell? ⟨fb, 2, none⟩ = some (.int .i64 (i : Int)) := hS6.f.cell 2
            have lc := hS6.b.lt
            have ld := hS6.f.lt
            have HS6 := Lib.hid hS6
            obtain ⟨t, ht⟩ : ∃ t, decide (v = (⟨(j : Int), (k : Int), (i : Int)⟩ : Sd)) = t := ⟨_, rfl⟩
            have HT := Lib.hid ht
            have heq : ∀ W, (binOp .eql 158 (.agg #[.int .i64 v.x, .int .i64 v.y, .int .i64 v.d]) (.agg #[.int .i64 (j : Int), .int .i64 (k : Int), .int .i64 (i : Int)])).run Try.prog W = .ok (.bool t) W := fun W => by
              rw [eql_sdB]
              have := sd_eq (a := v) (b := (⟨(j : Int), (k : Int), (i : Int)⟩ : Sd))
              rw [← HT.out, ← this]
            clear hS5 hS6 HSX ht
            cases t
            · have hstep : q + 1 < P.length ∧ P[q + 1]? = some v := by
                rcases HSTEP.out with ⟨h1, h2, _⟩ | ⟨_, h2⟩
                · exact ⟨h1, h2⟩
                · exact absurd h2 (of_decide_eq_false HT.out)
              go_wp2_with fail
              try rw [hX6]
              go_roundw
              case rel => exact ⟨q + 1, _, _, _, _, v, hstep.2, by congr 1, rfl, by unfold Hid; rw [HTP.out, List.map_append, ← List.append_assoc]; exact HS6.out⟩
              case measure => simp [lenC]; omega
            · have hq1 : q + 1 = P.length := by
                rcases HSTEP.out with ⟨_, _, h2⟩ | ⟨h1, _⟩
                · exact absurd (of_decide_eq_true HT.out) h2
                · exact h1
              have HTK := Lib.hid (show P.take q ++ [s] = P by rw [← HTP.out, hq1, List.take_length])
              clear hq1
              have HMP := Lib.hid (show (P.take q).map atS ++ [(s.x, s.y)] = P.map atS by
                have h := congrArg (List.map atS) HTK.out
                rw [List.map_append] at h
                exact h)
              go_wp2_with ((at_builtin; refine wpList_pour _ rfl _ _ 47 rfl 82 iR _ 1 24 Try.underlying47 hiR hR0 hR1 hR2 rfl (by omega) V.heap.size encSl _ _ _ _ rfl (HS6.out.s.o.own.alloc _) _ 1 1 [(⟨_, _, _⟩ : SlV)] rfl (by exact rd_bx (Bx.mk _ _ _) encSl_len _ rfl 1 rfl) encSl_one (by simp only [maxLen]; omega) (by omega) (HS6.out.s.n.alloc _).size ?_; intro A3 cap3 w3 hown3 hgr3 hN3))
              have HSF := Lib.hid ((HS6.out.alloc _).fin hown3 hgr3 hN3 nSR nPR)
              clear hown3 hgr3 hN3
              go_wp2_with fail
              go_roundw
              case rel => exact ⟨i + 1, _, A3, un + (q + 1), _, on + 1, cap3, _, _, _, by omega, by go_num, by congr 1, rfl, by unfold Hid; rw [HSN.out, HSE.out], by
                have h := HSF.out
                rw [List.append_assoc, HTK.out] at h
                rw [HMP.out] at h
                exact h⟩
              case measure => simp [intOf]; omega
end Go.Proofs.Ytaogolnoiffgiaa
