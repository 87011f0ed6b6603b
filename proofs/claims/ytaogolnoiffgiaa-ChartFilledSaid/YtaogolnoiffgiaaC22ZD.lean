/- Contracts: the contours of a grid. -/
import Derived.BigQuiet
import Derived.BigRegion
import Derived.Deep.AppendLies
import Derived.Deep.Draws
import Derived.Deep.Quiet
import Derived.Deep.QuietTactic
import Derived.DeepKeys4
import Derived.Laws.BitsAllLaws
import Derived.Laws.Rows
import Derived.Lib.Hide
import Derived.Lib.SliceRun
import Derived.MapKept
import Derived.Maps.Keyed
import Derived.Maps.OwnSet
import Derived.OrdersIn
import Derived.OwnWalkIn
import Derived.RangeFuncCalls
import Derived.Shelf.GgSortFunc.InsertionK
import Derived.Shelf.RegionOpen
import Derived.Shelf.SlSortCmp.NoneTotal
import Derived.Shelf.SlSortCmp.QuietGrown
import Derived.Shelf.SlSortCmp.WholeK
import Derived.StillTail
import Derived.TacticsIn
import Derived.Test.YtaogolnoiffgiaaProg
import Derived.WalkArith
import Derived.WalkKit
import Derived.WalkLawsBesides
import Derived.WalkSpells
import Derived.Test.YtaogolnoiffgiaaC22N
import Derived.Test.YtaogolnoiffgiaaC22ZA

namespace Go.Proofs.Ytaogolnoiffgiaa
open Go.RowKit Go.Sky Go.Sky.Ch Go.Sort

theorem infoRowPl : (Try.prog.info? 82).map (fun i => (i.zero, i.size, i.bytes)) = some (some (.slice none 0 0), 1, 24) := by kernel_rfl
theorem cFollowing_is {R : List Sd} {s v : Sd} (h : followS R s = v) (mb : Nat) (w : World) (hb : BS s) (hm : Mg okSd encSdV (fun b : Bool => Value.bool b) w mb (restF R)) :
    Calls Try.prog 88 #[.map (some mb), .agg #[.int .i64 s.x, .int .i64 s.y, .int .i64 s.d]] w fun e w' => e = .returned (.agg #[.int .i64 v.x, .int .i64 v.y, .int .i64 v.d]) ∧ New w w' := by subst h; exact cFollowing_any R s mb w hb.1 hb.2.1 hb.2.2 hm

def lenC : Value → Nat | .slice _ n _ => n | _ => 0
theorem drop_at {α : Type} {l : List α} {k : Nat} {x : α} (h : l[k]? = some x) : l.drop k = x :: l.drop (k + 1) := by
  obtain ⟨hk, rfl⟩ := List.getElem?_eq_some_iff.1 h
  exact List.drop_eq_getElem_cons hk
/-- What the contours of a grid are. -/
def ContOut (w w' : World) (rows : List (List Int)) (level : Int) (n : Nat) (e : Ending) : Prop :=
  New w w' ∧ ((∃ v, openE rows level = v ∧ v ≠ 0 ∧ e = .returned (.tuple #[.slice none 0 0, .int .i64 v])) ∨
    (openE rows level = 0 ∧ ∃ (ys : List Sd) (C : Option Addr) (m c : Nat), SdSorted (allSides (regS rows level) n) ys ∧ e = .returned (.tuple #[.slice C m c, .int .i64 0]) ∧ m ≤ c ∧ RowsL w' 2 encPl C m (contS ys ys)))

set_option maxRecDepth 100000 in
set_option maxHeartbeats 8000000 in
theorem cContoursOf_any (A : Option Addr) (n cap : Nat) (rows : List (List Int)) (level : Int) (w : World) (hn : n ≤ 1000000) (hrl : ∀ r ∈ rows, r.length ≤ 1000000) (hr : RowsL w 1 encI A n rows) :
    Calls Try.prog 25 #[.slice A n cap, .int .i64 level] w fun e w' => ContOut w w' rows level n e := by
  obtain ⟨i0, hi, hz0, hz1, hz2⟩ := info_parts infoPl
  obtain ⟨i1, hi1, hy0, hy1, hy2⟩ := info_parts infoRowPl
  have HR := Lib.hid hr
  have HRL := Lib.hid hrl
  have HL := Lib.hid hr.len
  clear hr hrl
  obtain ⟨v, hv⟩ : ∃ v, openE rows level = v := ⟨_, rfl⟩
  have HV := Lib.hid hv
  have hmm := @run_makeMap Try.prog
  by_cases hv0 : v ≠ 0
  · have bv : (v != 0) = true := by simpa using hv0
    clear hv
    go_enter Try.func25, Try.ntmps25
    go_wp2_with fail
    refine (cOpenGrid_is HV.out A n cap _ hn HRL.out HR.out).mono ?_
    rintro e w1 ⟨rfl, n1⟩
    go_wp2_with fail
    go_ret2
    exact ⟨n1, .inl ⟨v, HV.out, hv0, rfl⟩⟩
  obtain rfl : v = 0 := by omega
  have HGR := Lib.hid (show GrOk rows by
    refine grid_ok ?_
    have := firstE_zero hv (gridS rows).2 (by simp)
    exact this)
  clear hv
  go_enter Try.func25, Try.ntmps25
  go_wp2_with fail
  refine (cOpenGrid_is HV.out A n cap _ hn HRL.out HR.out).mono ?_
  rintro e w1 ⟨rfl, n1⟩
  go_wp2_with fail
  have hn8 := HGR.out.h
  rw [HL.out] at hn8
  refine (cRegion_any A n cap rows level _ (by omega) (fun r hr => by
    obtain ⟨i, hi, rfl⟩ := List.mem_iff_getElem.1 hr
    have h1 := (HGR.out.row i _ (List.getElem?_eq_getElem hi)).1
    have h2 := HGR.out.w
    omega) (HR.out.keep n1)).mono ?_
  rintro e w2 ⟨n2, RC, rc, rfl, hrc, hreg⟩
  have N2 := n1.trans n2
  go_wp2_with fail
  refine (cSides_any RC n rc (regS rows level) _ (HGR.out.rect level) hreg).mono ?_
  rintro e w3 ⟨n3, YA, yn, yc, ys, rfl, hss, hyo⟩
  have N3 := N2.trans n3
  clear n1 n2 n3 hreg hrc
  have HSS := Lib.hid hss
  have hyn : yn ≤ 256 := by
    have h1 := hyo.len
    have h2 := hss.1.length_eq
    have h3 := allSides_len (regS rows level) n
    have h4 := HGR.out.w
    rw [len0_reg] at h3
    have h5 : n * (4 * len0 rows) ≤ 8 * (4 * 8) := Nat.mul_le_mul (by omega) (by omega)
    omega
  have HBS := Lib.hid (show ∀ s ∈ ys, BS s from fun s hs => allSides_bs (regS rows level) (by have := HGR.out.w; rw [len0_reg]; omega) n (by omega) s (hss.1.mem_iff.1 hs))
  have HYO := Lib.hid (hyo.alloc (.map #[] 0))
  have hyb := hyo
  have M3 := Lib.hid (show Mg okSd encSdV (fun b : Bool => Value.bool b) (w3.alloc (.map #[] 0)) w3.heap.size (restF []) by
    rw [show restF [] = fun _ => none from by funext j; simp [restF]]
    exact Mg.new w3)
  have N4 := N3.alloc (.map #[] 0)
  have hmb := N3.size
  have HYB := Lib.hid (show YA.map (·.block) ≠ some w3.heap.size from fun e => by have := (Own.blkAt hyo e).2; omega)
  clear hyb hyo hss
  go_wp2_with fail
  obtain ⟨mb, hmbe⟩ : ∃ mb, w3.heap.size = mb := ⟨_, rfl⟩
  rw [hmbe] at M3 hmb HYB ⊢
  obtain ⟨W4, hW4⟩ : ∃ W4, w3.alloc (.map #[] 0) = W4 := ⟨_, rfl⟩
  rw [hW4] at M3 HYO N4 ⊢
  clear hmbe hW4 N2 N3
  go_loopw [28] (fun i wr => ∃ k : Nat, k ≤ yn ∧ i = .int .i64 (k : Int) ∧ Hid (Mg okSd encSdV (fun b : Bool => Value.bool b) wr mb (restF (ys.take k))) ∧ Hid (Sky.Own wr w2.heap.size 152 3 encSd YA yn yc ys) ∧ New w wr) (fun i _ => yn - (intOf i).toNat)
  case atStart => exact ⟨0, by omega, rfl, M3, HYO, N4⟩
  case round =>
    clear M3 HYO N4
    obtain ⟨k, hk, rfl, HM, HO, hN⟩ := hrel
    by_cases hlt : k < yn
    · obtain ⟨b, o, sd, hA, hb, hx, hc⟩ := HO.out.rd.at_ hlt
      subst hA
      have g0 := hc 0 _ rfl
      have g1 := hc 1 _ rfl
      have g2 := hc 2 _ rfl
      simp only [Nat.add_zero] at g0
      have HOK := Lib.hid (HBS.out sd (List.mem_of_getElem? hx)).ok
      have HP := Lib.hid (show updG (restF (ys.take k)) sd true = restF (ys.take (k + 1)) by rw [rest_put, take_snoc ys k sd hx])
      have i0' : (0 : Int) ≤ (k : Int) := by omega
      have i1' : (k : Int) < (yn : Int) := by omega
      clear hx hc
      have N1 := hN.alloc (.cells #[.int .i64 sd.x, .int .i64 sd.y, .int .i64 sd.d] 152)
      have HM1 := Lib.hid (HM.out.alloc (.cells #[.int .i64 sd.x, .int .i64 sd.y, .int .i64 sd.d] 152))
      have HO1 := Lib.hid (HO.out.alloc (.cells #[.int .i64 sd.x, .int .i64 sd.y, .int .i64 sd.d] 152))
      go_wp2_with (first | (at_mapUpdate; refine wpList_mgPut mapSd _ rfl _ _ _ rfl mb _ sd true rfl HM1.out HOK.out rfl rfl ?_; intro w5 hm5 hg5))
      have N5 := N1.grown hg5 (fun k e => by cases e; exact hmb)
      rw [HP.out] at hm5
      have HO5 := Lib.hid (HO1.out.kept hg5 (.inr HYB.out))
      go_wp2_with fail
      go_roundw
      case rel => exact ⟨k + 1, by omega, by go_num, hm5, HO5, N5⟩
      case measure => simp [intOf]; omega
    · obtain rfl : yn = k := by omega
      have HM2 := Lib.hid (show Mg okSd encSdV (fun b : Bool => Value.bool b) wr mb (restF ys) by
        have h := HM.out
        rw [List.take_of_length_le (by rw [HO.out.len]; exact Nat.le_refl _)] at h
        exact h)
      have hyl : ys.length ≤ 256 := by rw [HO.out.len]; exact hyn
      clear HM
      obtain ⟨WB, hWB⟩ : ∃ W, wr = W := ⟨_, rfl⟩
      rw [hWB] at HM2 HO hN ⊢
      clear hWB
      have hmB : mb < WB.heap.size := HM2.out.lt
      go_wp2_with fail
      go_loopw [11, 37] (fun out i wr => ∃ (k m c : Nat) (C : Option Addr) (rv : List SlV) (cs : List (List (Int × Int))) (R : List Sd), k ≤ yn ∧ m ≤ k ∧ i = .int .i64 (k : Int) ∧ out = .slice C m c ∧ Hid (OwnRows wr WB.heap.size 73 82 2 encPl C m c rv cs) ∧ Hid (Mg okSd encSdV (fun b : Bool => Value.bool b) wr mb (restF R)) ∧ Hid (Sky.Own wr w2.heap.size 152 3 encSd YA yn yc ys) ∧ Hid ((∀ s ∈ R, BS s) ∧ R.length ≤ 256) ∧ Hid (contS ys ys = cs ++ contS R (ys.drop k)) ∧ WB.heap.size ≤ wr.heap.size ∧ New w wr) (fun _ i _ => yn - (intOf i).toNat)
      case atStart => exact ⟨0, 0, 0, none, [], [], ys, by omega, by omega, rfl, rfl, OwnRows.nil, HM2, HO, ⟨HBS.out, hyl⟩, rfl, Nat.le_refl _, hN⟩
      case round =>
        clear HM2 HO hN
        obtain ⟨k, m, c, C, rv, cs, R, hk, hmk, rfl, rfl, HO, HM, HY, HB, HC, hwb, hN⟩ := hrel
        by_cases hlt : k < yn
        · obtain ⟨b, o, sd, hA, hb, hx, hc⟩ := HY.out.rd.at_ hlt
          subst hA
          have g0 := hc 0 _ rfl
          have g1 := hc 1 _ rfl
          have g2 := hc 2 _ rfl
          simp only [Nat.add_zero] at g0
          have HSB := Lib.hid (HBS.out sd (List.mem_of_getElem? hx))
          have HD := Lib.hid (drop_at hx)
          have i0' : (0 : Int) ≤ (k : Int) := by omega
          have i1' : (k : Int) < (yn : Int) := by omega
          clear hx hc
          have hbw : b < wr.heap.size := hb
          have B0 := Bx.mk wr 152 #[.int .i64 sd.x, .int .i64 sd.y, .int .i64 sd.d]
          have N0 := hN.alloc (.cells #[.int .i64 sd.x, .int .i64 sd.y, .int .i64 sd.d] 152)
          have HM0 := Lib.hid (HM.out.alloc (.cells #[.int .i64 sd.x, .int .i64 sd.y, .int .i64 sd.d] 152))
          have HY0 := Lib.hid (HY.out.alloc (.cells #[.int .i64 sd.x, .int .i64 sd.y, .int .i64 sd.d] 152))
          have HO0 := Lib.hid (HO.out.keep ((New.refl wr).alloc (.cells #[.int .i64 sd.x, .int .i64 sd.y, .int .i64 sd.d] 152)))
          have hwb0 : WB.heap.size ≤ (wr.alloc (.cells #[.int .i64 sd.x, .int .i64 sd.y, .int .i64 sd.d] 152)).heap.size := Nat.le_trans hwb ((New.refl wr).alloc _).size
          have hsw : wr.heap.size < (wr.alloc (.cells #[.int .i64 sd.x, .int .i64 sd.y, .int .i64 sd.d] 152)).heap.size := B0.lt
          have hsN := hN.size
          clear HM HY HO hN
          go_wp2_with fail
          obtain ⟨W0, hW0⟩ : ∃ W0, wr.alloc (.cells #[.int .i64 sd.x, .int .i64 sd.y, .int .i64 sd.d] 152) = W0 := ⟨_, rfl⟩
          obtain ⟨sb, hsb⟩ : ∃ b, wr.heap.size = b := ⟨_, rfl⟩
          rw [hW0] at B0 N0 HM0 HY0 HO0 hwb0 hsw ⊢
          rw [hsb] at B0 hsw hwb hsN hbw
          try rw [hsb]
          have HB0 := Lib.hid B0
          have HB0c := Lib.hid B0
          clear hW0 hsb B0 g0 g1 g2 hb
          have hmW : mb < W0.heap.size := by omega
          have hms : mb ≠ sb := by omega
          have hwW := N0.size
          have HRB := Lib.hid HB.out
          have HFU := Lib.hid (show R.length < R.length + 1 from Nat.lt_succ_self _)
          go_loopw [14] (fun con wx => ∃ (u c2 : Nat) (D : Option Addr) (acc : List (Int × Int)) (R' : List Sd) (s' : Sd) (f : Nat), con = .slice D u c2 ∧ Hid (Sky.Own wx W0.heap.size 73 2 encPl D u c2 acc) ∧ Hid (Bx wx sb 152 #[.int .i64 s'.x, .int .i64 s'.y, .int .i64 s'.d]) ∧ Hid (Mg okSd encSdV (fun b : Bool => Value.bool b) wx mb (restF R')) ∧ Hid (walkS (R.length + 1) R sd = ((walkS f R' s').1, acc ++ (walkS f R' s').2)) ∧ Hid (Ex mb sb W0 wx) ∧ Hid (BS s' ∧ ∀ s ∈ R', BS s) ∧ R'.length < f ∧ u + R'.length ≤ 256 ∧ New w wx) (fun con _ => 257 - lenC con)
          case atStart => exact ⟨0, 0, none, [], R, sd, R.length + 1, rfl, Sky.Own.nil _ _ _ _ encPl_len, HB0, HM0, rfl, Ex.refl _, ⟨HSB.out, HRB.out.1⟩, HFU.out, by have := HRB.out.2; omega, N0⟩
          case round =>
            clear HB0 HM0 N0
            obtain ⟨u, c2, D, acc, R', s', f, rfl, HCO, HBX, HMG, HW, HEX, HBB, hf, hu, hN⟩ := hrel
            have HG := Lib.hid (rest_get R' s')
            have HOK := Lib.hid HBB.out.1.ok
            have k0 := HBX.out.cell 0
            have k1 := HBX.out.cell 1
            have k2 := HBX.out.cell 2
            have lb := HBX.out.lt
            simp only [List.getElem?_toArray, List.getElem?_cons_zero, List.getElem?_cons_succ] at k0 k1 k2
            by_cases hin : s' ∈ R'
            · rw [decide_eq_true hin] at HG
              have hlen := Go.Sky.Ch.filter_lt hin
              obtain ⟨R2, hR2⟩ : ∃ l, R'.filter (· != s') = l := ⟨_, rfl⟩
              have HDL := Lib.hid (show delG (restF R') s' = restF R2 by rw [rest_del, hR2])
              rw [hR2] at hlen
              obtain ⟨s2, hs2⟩ : ∃ v, followS R2 s' = v := ⟨_, rfl⟩
              have HF2 := Lib.hid hs2
              obtain ⟨g, rfl⟩ : ∃ g, f = g + 1 := ⟨f - 1, by omega⟩
              have HW2 := Lib.hid (show walkS (R.length + 1) R sd = ((walkS g R2 s2).1, (acc ++ [(s'.x, s'.y)]) ++ (walkS g R2 s2).2) by
                rw [HW.out, walkS_in hin, hR2, hs2, List.append_assoc]; rfl)
              have HB2 := Lib.hid (show BS s2 ∧ ∀ s ∈ R2, BS s by
                have h2 : ∀ s ∈ R2, BS s := fun s hs => HBB.out.2 s (by rw [← hR2] at hs; exact (List.mem_filter.1 hs).1)
                refine ⟨?_, h2⟩
                rcases follow_mem R2 s' with h | h
                · rw [hs2] at h; exact h2 _ h
                · rw [hs2] at h; rw [h]; exact HBB.out.1)
              have hu1 : u + 1 + R2.length ≤ 256 := by omega
              clear hs2 hR2 hin HW
              go_wp2_with (first | (at_lookup; refine wpList_mgGet1 mapSd _ rfl _ _ rfl mb _ s' _ rfl HMG.out HOK.out rfl HG.out ?_) | (at_delete; refine wpList_mgDel mapSd _ rfl _ _ _ rfl rfl mb _ s' rfl HMG.out HOK.out rfl ?_; intro w5 hm5 hg5; rw [HDL.out] at hm5; have b5 := HBX.out.grown hg5 (show some sb ≠ some mb from fun e => hms (by injection e with e; exact e.symm)); have HB5 := Lib.hid (b5.alloc (.cells #[.int .i64 s'.x, .int .i64 s'.y] 73)); have HM5 := Lib.hid (hm5.alloc (.cells #[.int .i64 s'.x, .int .i64 s'.y] 73)); have HC5 := Lib.hid ((HCO.out.kept hg5 (.inr (HCO.out.not_below hmW).symm)).alloc (.cells #[.int .i64 s'.x, .int .i64 s'.y] 73)); have HN5 := Lib.hid ((hN.grown hg5 (fun k e => by cases e; exact hmb)).alloc (.cells #[.int .i64 s'.x, .int .i64 s'.y] 73)); have HE5 := Lib.hid ((HEX.out.grown hg5 (fun k e => by cases e; exact .inl rfl)).keep ((New.refl w5).alloc (.cells #[.int .i64 s'.x, .int .i64 s'.y] 73))); have m0 := b5.cell 0; have m1 := b5.cell 1; have m2 := b5.cell 2; have lb5 := b5.lt; simp only [List.getElem?_toArray, List.getElem?_cons_zero, List.getElem?_cons_succ] at m0 m1 m2; clear b5 hm5 hg5) | (at_builtin; (refine wpList_pour _ rfl _ _ 82 rfl 73 i0 _ 2 16 Try.underlying82 hi hz0 hz1 hz2 rfl (by omega) W0.heap.size encPl _ _ _ _ rfl HC5.out _ 1 1 [(s'.x, s'.y)] rfl (by exact rd_bx (Bx.mk _ _ #[.int .i64 s'.x, .int .i64 s'.y]) encPl_len [(s'.x, s'.y)] rfl 1 rfl) encPl_one (by simp [maxLen]; omega) (by omega) HE5.out.size ?_; intro A7 cap7 w7 hown7 hgr7 hN7; have b7 := HB5.out.grown hgr7 (bx_apart HB5.out HC5.out (by decide)); have HB7 := Lib.hid b7; have HM7 := Lib.hid (HM5.out.grown hgr7 (HC5.out.not_below hmW)); have HN7 := Lib.hid (HN5.out.grownOwn HC5.out hwW hgr7); have HE7 := Lib.hid (HE5.out.grown hgr7 (fun k e => .inr (.inr (HC5.out.blkAt e).1))); have HC7 := Lib.hid hown7; have q0 := b7.cell 0; have q1 := b7.cell 1; have q2 := b7.cell 2; have lb7 := b7.lt; simp only [List.getElem?_toArray, List.getElem?_cons_zero, List.getElem?_cons_succ] at q0 q1 q2; clear b7 hown7 hgr7 hN7)))
              refine (cFollowing_is HF2.out mb _ HBB.out.1 HM7.out).mono ?_
              rintro e w8 ⟨rfl, n8⟩
              have b8 := HB7.out.keep n8
              have HM8 := Lib.hid (((((HM7.out.keep n8).far (p := ⟨sb, 0, none⟩) hms (.int .i64 s2.x)).far (p := ⟨sb, 1, none⟩) hms (.int .i64 s2.y)).far (p := ⟨sb, 2, none⟩) hms (.int .i64 s2.d)))
              have r0 := b8.cell 0
              have r1 := b8.cell 1
              have r2 := b8.cell 2
              have f0 := b8.free 0
              have f1 := b8.free 1
              have f2 := b8.free 2
              have lb8 := b8.lt
              simp only [List.getElem?_toArray, List.getElem?_cons_zero, List.getElem?_cons_succ] at r0 r1 r2
              have HB9 := Lib.hid (((b8.set 0 (.int .i64 s2.x)).set 1 (.int .i64 s2.y)).set 2 (.int .i64 s2.d))
              have o8 := HC7.out.keep n8
              have ha8 := (bx_apart b8 o8 (by decide)).symm
              have HC9 := Lib.hid (((o8.setOther (p := ⟨sb, 0, none⟩) ha8 (.int .i64 s2.x)).setOther (p := ⟨sb, 1, none⟩) ha8 (.int .i64 s2.y)).setOther (p := ⟨sb, 2, none⟩) ha8 (.int .i64 s2.d))
              have HN9 := Lib.hid ((((HN7.out.trans n8).setCell (p := ⟨sb, 0, none⟩) hsN (.int .i64 s2.x)).setCell (p := ⟨sb, 1, none⟩) hsN (.int .i64 s2.y)).setCell (p := ⟨sb, 2, none⟩) hsN (.int .i64 s2.d))
              have HE9 := Lib.hid ((((HE7.out.keep n8).set (p := ⟨sb, 0, none⟩) rfl (.int .i64 s2.x)).set (p := ⟨sb, 1, none⟩) rfl (.int .i64 s2.y)).set (p := ⟨sb, 2, none⟩) rfl (.int .i64 s2.d))
              clear b8 o8 ha8 n8
              go_wp2_with fail
              go_roundw
              case rel => exact ⟨u + 1, cap7, A7, _, R2, s2, g, rfl, HC9, HB9, HM8, HW2, HE9, HB2, by omega, hu1, HN9.out⟩
              case measure => simp [lenC]; omega
            · rw [decide_eq_false hin] at HG
              have HWO := Lib.hid (show walkS (R.length + 1) R sd = (R', acc) by rw [HW.out, walkS_out hin]; simp)
              have HCN := Lib.hid (show contS R (ys.drop k) = (if acc = [] then [] else [acc]) ++ contS R' (ys.drop (k + 1)) by
                rw [HD.out, contS, HWO.out])
              have HOX := Lib.hid (HO0.out.ex HEX.out hmB HB0c.out (by decide) (by decide))
              have HYX := Lib.hid (HY0.out.ex HEX.out HYB.out.symm (fun e => by simp at e; omega))
              have hwx := Nat.le_trans hwb0 HEX.out.size
              have HRX := Lib.hid (show (∀ s ∈ R', BS s) ∧ R'.length ≤ 256 from ⟨HBB.out.2, by omega⟩)
              have HAC := Lib.hid HCO.out.len
              clear hin HW HWO
              rcases Nat.eq_zero_or_pos u with h0 | h0
              · subst h0
                have HCE := Lib.hid (show contS ys ys = cs ++ contS R' (ys.drop (k + 1)) by
                  rw [HC.out, HCN.out, if_pos (List.eq_nil_of_length_eq_zero HAC.out)]; rfl)
                go_wp2_with (first | (at_lookup; refine wpList_mgGet1 mapSd _ rfl _ _ rfl mb _ s' _ rfl HMG.out HOK.out rfl HG.out ?_))
                go_roundw
                case rel => exact ⟨k + 1, m, c, C, rv, cs, R', by omega, by omega, by go_num, rfl, HOX, HMG, HYX, HRX, HCE, hwx, hN⟩
                case measure => simp [intOf]; omega
              · have HCE := Lib.hid (show contS ys ys = (cs ++ [acc]) ++ contS R' (ys.drop (k + 1)) by
                  rw [HC.out, HCN.out, if_neg (fun e => by have := HAC.out; rw [e] at this; simp at this; omega), List.append_assoc])
                have du : decide (0 < u) = true := decide_eq_true h0
                have du2 : decide ((0 : Int) < (u : Int)) = true := decide_eq_true (by omega)
                have HDR := Lib.hid ((HCO.out.base_le hwb0).alloc (.cells #[.slice D u c2] 82))
                have HOA := Lib.hid (HOX.out.keep ((New.refl wr).alloc (.cells #[.slice D u c2] 82)))
                have HYA := Lib.hid (HYX.out.alloc (.cells #[.slice D u c2] 82))
                have HMA := Lib.hid (HMG.out.alloc (.cells #[.slice D u c2] 82))
                have HNA := Lib.hid (hN.alloc (.cells #[.slice D u c2] 82))
                have hwa : WB.heap.size ≤ (wr.alloc (.cells #[.slice D u c2] 82)).heap.size := Nat.le_trans hwx ((New.refl wr).alloc _).size
                have hwB : w.heap.size ≤ WB.heap.size := by omega
                go_wp2_with (first | (at_lookup; refine wpList_mgGet1 mapSd _ rfl _ _ rfl mb _ s' _ rfl HMG.out HOK.out rfl HG.out ?_) | (at_builtin; (refine wpList_pour _ rfl _ _ 47 rfl 82 i1 _ 1 24 Try.underlying47 hi1 hy0 hy1 hy2 rfl (by omega) WB.heap.size encSl _ _ _ _ rfl HOA.out.own _ 1 1 [(⟨D, u, c2⟩ : SlV)] rfl (by exact rd_bx (Bx.mk _ _ #[.slice D u c2]) encSl_len [(⟨D, u, c2⟩ : SlV)] rfl 1 rfl) encSl_one (by simp [maxLen]; omega) (by omega) hwa ?_; intro A7 cap7 w7 hown7 hgr7 hN7; have HO7 := Lib.hid (HOA.out.snoc HDR.out (by decide) hown7 hgr7); have HM7 := Lib.hid (HMA.out.grown hgr7 (HOA.out.own.not_below hmB)); have HY7 := Lib.hid (HYA.out.kept hgr7 (own_apart2 HYA.out HOA.out.own (by decide))); have HN7 := Lib.hid (HNA.out.grownOwn HOA.out.own hwB hgr7); have hw7 := Nat.le_trans hwa hgr7.size; clear hown7 hgr7 hN7)))
                go_roundw
                case rel => exact ⟨k + 1, m + 1, cap7, A7, _, cs ++ [acc], R', by omega, by omega, by go_num, rfl, HO7, HM7, HY7, HRX, HCE, hw7, HN7.out⟩
                case measure => simp [intOf]; omega
        · obtain rfl : yn = k := by omega
          have HFO := Lib.hid HO.out
          go_wp2_with fail
          go_ret2
          refine ⟨hN, .inr ⟨HV.out, ys, C, m, c, HSS.out, rfl, HFO.out.own.le.1, ?_⟩⟩
          have h := HFO.out.reads
          have h2 : contS ys ys = cs := by
            rw [HC.out, List.drop_eq_nil_of_le (by rw [HY.out.len]; exact Nat.le_refl _)]
            simp [contS]
          rw [h2]
          exact h
end Go.Proofs.Ytaogolnoiffgiaa
