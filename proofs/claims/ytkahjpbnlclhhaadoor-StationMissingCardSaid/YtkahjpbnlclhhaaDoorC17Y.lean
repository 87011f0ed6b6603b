/- What a link delivers: blocks of a string, each as it was sent or unsound; what is missing, what is assembled. Plain Lean.
   Contracts: the reference's Missing, Assembled.
   Contracts: the reference's Assembled.
   The walk of StationMissing. -/
import Derived.BigQuiet
import Derived.BigRegion
import Derived.Deep.AppendLies
import Derived.Deep.Draws
import Derived.Deep.Quiet
import Derived.Deep.QuietTactic
import Derived.Laws.BitsAllLaws
import Derived.Laws.IdiomStrings
import Derived.Laws.Rows
import Derived.Lib.Hide
import Derived.Lib.ItoaLen
import Derived.Lib.ItoaNum
import Derived.LoopIn
import Derived.LoopNIn
import Derived.MapKept
import Derived.Maps.OwnIn
import Derived.OrdersIn
import Derived.OwnWalkIn
import Derived.RangeFuncBound
import Derived.RangeFuncCalls
import Derived.RangeFuncLeaves
import Derived.RangeFuncNested
import Derived.Shelf.Abstract
import Derived.Shelf.RegionOpen
import Derived.Shelf.SlSortCmp.Insertion
import Derived.Shelf.SlSortCmp.QuietGrown
import Derived.Shelf.Strconv.Itoa3
import Derived.Shelf.Strings.OnBuilder
import Derived.StillTail
import Derived.TacticsIn
import Derived.TacticsInMore
import Derived.Test.YtkahjpbnlclhhaaDoorProg
import Derived.Test.YtkahjpbnlclhhaaDoorRows
import Derived.WalkKit
import Derived.WalkLawsBesides
import Derived.WalkSpells
import Derived.Test.YtkahjpbnlclhhaaDoorC17I
import Derived.Test.YtkahjpbnlclhhaaDoorC17J
import Derived.Test.YtkahjpbnlclhhaaDoorC17X

namespace Go.Proofs.YtkahjpbnlclhhaaDoor
open Go.RowKit Go.Sky

theorem cntB_ge {len size : Int} (hs : 1 ≤ size) : len ≤ cntB len size * size := by
  unfold cntB
  have h1 : (len + size - 1) / size * size > len - 1 := by
    have := Int.lt_ediv_add_one_mul_self (len + size - 1) (show (0 : Int) < size by omega)
    rw [Int.add_mul, Int.one_mul] at this
    omega
  have h2 : (len + size - 1) / size ≤ max 1 ((len + size - 1) / size) := Int.le_max_right ..
  have := Int.mul_le_mul_of_nonneg_right h2 (show (0 : Int) ≤ size by omega)
  omega
theorem part_list (s : ByteArray) (size : Int) (i : Nat) : (partB s size i).data.toList = (s.data.toList.drop ((i : Int) * size).toNat).take ((min (s.size : Int) (((i : Int) + 1) * size)).toNat - ((i : Int) * size).toNat) := by
  unfold partB
  rw [ByteArray.data_extract, Array.toList_extract]
  try rfl
theorem parts_take (s : ByteArray) (size : Int) (hs : 1 ≤ size) : ∀ j : Nat, ((List.range j).flatMap fun i : Nat => (partB s size i).data.toList) = s.data.toList.take (min (s.size : Int) ((j : Int) * size)).toNat
  | 0 => by
    rw [show (min (s.size : Int) (((0 : Nat) : Int) * size)).toNat = 0 by have : ((0 : Nat) : Int) * size = 0 := by simp
                                                                          omega]
    rfl
  | j + 1 => by
    have hl : s.data.toList.length = s.size := by rw [Array.length_toList]; rfl
    rw [List.range_succ, List.flatMap_append, parts_take s size hs j]
    simp only [List.flatMap_cons, List.flatMap_nil, List.append_nil]
    rw [part_list]
    have hj : (0 : Int) ≤ (j : Int) * size := Int.mul_nonneg (by omega) (by omega)
    have hj1 : ((j : Int) + 1) * size = (j : Int) * size + size := by rw [Int.add_mul, Int.one_mul]
    rw [show ((j + 1 : Nat) : Int) = (j : Int) + 1 by omega, hj1]
    generalize (j : Int) * size = a at hj ⊢
    rcases Int.le_total (s.size : Int) a with h | h
    · rw [show (min (s.size : Int) a).toNat = s.size by omega, show (min (s.size : Int) (a + size)).toNat = s.size by omega, ← hl, List.take_length, List.drop_of_length_le (by omega), List.take_nil, List.append_nil]
    · rw [show (min (s.size : Int) a).toNat = a.toNat by omega]
      have hle : a.toNat ≤ (min (s.size : Int) (a + size)).toNat := by omega
      generalize (min (s.size : Int) (a + size)).toNat = b at hle ⊢
      rw [show b = a.toNat + (b - a.toNat) by omega, List.take_add, show a.toNat + (b - a.toNat) - a.toNat = b - a.toNat by omega]
theorem parts_all (s : ByteArray) (size : Int) (hs : 1 ≤ size) (cnt : Nat) (hc : (cnt : Int) = cntB (s.size : Int) size) : ((List.range cnt).flatMap fun i : Nat => (partB s size i).data.toList) = s.data.toList := by
  have hl : s.data.toList.length = s.size := by rw [Array.length_toList]; rfl
  rw [parts_take s size hs, hc, show (min (s.size : Int) (cntB (s.size : Int) size * size)).toNat = s.size by have := cntB_ge (len := (s.size : Int)) hs; omega, ← hl, List.take_length]

theorem mkK_sound (j cnt : Nat) (b : ByteArray) (h : j < cnt) : soundK (mkK (j : Int) (cnt : Int) b) = true := by
  unfold soundK mkK crcK
  simp
  omega
/-- A block whose body differs at one byte is unsound. -/
def hurtB (b : ByteArray) (i : Nat) (d : UInt8) : ByteArray := ⟨(b.data.toList.set i (b.data.toList.getD i 0 ^^^ d)).toArray⟩
theorem crc_hurt (l : List UInt8) (i : Nat) (c d : UInt8) (hi : l[i]? = some c) (hd : d ≠ 0) : crcS (l.set i (c ^^^ d)) ≠ crcS l := by
  rw [crcS_flip l i c d hi]
  intro h
  have h0 : crcBits (d.toNat * 256) (8 + 8 * (l.length - 1 - i)) = 0 := by
    have := congrArg (crcS l ^^^ ·) h
    simpa [← Nat.xor_assoc] using this
  have := crcBits_zero _ h0
  have h2 : d.toNat = 0 := by omega
  exact hd (UInt8.toNat_inj.1 h2)
theorem hurt_unsound (j c : Int) (b : ByteArray) (i : Nat) (d : UInt8) (hi : i < b.size) (hd : d ≠ 0) : soundK { mkK j c b with b := hurtB b i d } = false := by
  have hl : b.data.toList.length = b.size := by rw [Array.length_toList]; rfl
  have hg : b.data.toList[i]? = some (b.data.toList.getD i 0) := by
    rw [List.getD_eq_getElem?_getD, List.getElem?_eq_getElem (by omega)]; rfl
  have hne : (crcS (headL j c b) : Int) ≠ (crcS (headL j c (hurtB b i d)) : Int) := by
    intro h
    have h2 : crcS (headL j c b) = crcS (headL j c (hurtB b i d)) := by omega
    have hh : headL j c (hurtB b i d) = (headL j c b).set ((Lib.itoa j ++ [32] ++ Lib.itoa c ++ [32]).length + i) (b.data.toList.getD i 0 ^^^ d) := by
      unfold headL hurtB
      rw [List.set_append_right _ _ (by omega)]
      simp
    rw [hh] at h2
    refine crc_hurt (headL j c b) _ (b.data.toList.getD i 0) d ?_ hd h2.symm
    unfold headL
    rw [List.getElem?_append_right (by omega), Nat.add_sub_cancel_left]
    exact hg
  unfold soundK crcK mkK
  simp only [Bool.and_eq_false_iff]
  right
  simpa using hne

/-- What has come over the link. -/
def Link (s : ByteArray) (size : Int) (cnt : Nat) (rec : List Blk) : Prop := ∀ x ∈ rec, (∃ j : Nat, j < cnt ∧ x = mkK (j : Int) (cnt : Int) (partB s size j)) ∨ soundK x = false
section
variable {s : ByteArray} {size : Int} {cnt : Nat} {rec : List Blk}
theorem Link.good (h : Link s size cnt rec) {x : Blk} (hx : x ∈ goods (cnt : Int) rec) : ∃ j : Nat, j < cnt ∧ x = mkK (j : Int) (cnt : Int) (partB s size j) := by
  obtain ⟨h1, h2⟩ := goods_iff.1 hx
  rcases h x h1 with h3 | h3
  · exact h3
  · rw [h3, Bool.and_false] at h2; cases h2
theorem Link.clash (h : Link s size cnt rec) : (bodS (goods (cnt : Int) rec)).2 = false := by
  refine (bodK _).clash.2 fun x hx y hy hn => ?_
  obtain ⟨i, _, rfl⟩ := h.good hx
  obtain ⟨j, _, rfl⟩ := h.good hy
  have : i = j := by
    have : (i : Int) = (j : Int) := hn
    omega
  rw [this]
theorem Link.val (h : Link s size cnt rec) {j : Nat} (hj : hasK (cnt : Int) rec (j : Int) = true) : (bodS (goods (cnt : Int) rec)).1 (j : Int) = some (partB s size j) := by
  have h1 := none_has (cnt : Int) rec (j : Int)
  rw [hj] at h1
  cases ho : (bodS (goods (cnt : Int) rec)).1 (j : Int) with
  | none => rw [ho] at h1; cases h1
  | some b =>
    obtain ⟨z, hz, z1, z2⟩ := (bodK _).some_ _ _ ho
    obtain ⟨i, _, rfl⟩ := h.good hz
    have : i = j := by
      have : (i : Int) = (j : Int) := z1
      omega
    subst this
    rw [← z2]; rfl
theorem has_orig {j : Nat} (hj : j < cnt) (hm : mkK (j : Int) (cnt : Int) (partB s size j) ∈ rec) : hasK (cnt : Int) rec (j : Int) = true := by
  refine List.any_eq_true.2 ⟨_, hm, ?_⟩
  rw [mkK_sound j cnt _ hj]
  simp [mkK]
theorem Link.whole (h : Link s size cnt rec) (hs : 1 ≤ size) (hc : (cnt : Int) = cntB (s.size : Int) size) (hall : ∀ j : Nat, j < cnt → hasK (cnt : Int) rec (j : Int) = true) : asmS rec (cnt : Int) = (s, 0) := by
  unfold asmS
  rw [h.clash, if_neg (by decide)]
  have hm : missS (bodS (goods (cnt : Int) rec)).1 ((cnt : Int)).toNat = [] := by
    rw [missS_has, show ((cnt : Int)).toNat = cnt by omega, List.filter_eq_nil_iff.2 (by intro j hj; rw [hall j (List.mem_range.1 hj)]; decide)]
    rfl
  rw [if_pos hm]
  have hcat : catS (bodS (goods (cnt : Int) rec)).1 ((cnt : Int)).toNat = s.data.toList := by
    rw [← parts_all s size hs cnt hc, show ((cnt : Int)).toNat = cnt by omega]
    unfold catS
    have : ∀ l : List Nat, (∀ i ∈ l, i < cnt) → (l.flatMap fun i : Nat => (((bodS (goods (cnt : Int) rec)).1 (i : Int)).getD .empty).data.toList) = l.flatMap fun i : Nat => (partB s size i).data.toList := by
      intro l hl
      induction l with
      | nil => rfl
      | cons i l ih =>
        rw [List.flatMap_cons, List.flatMap_cons, ih (fun k hk => hl k (List.mem_cons_of_mem _ hk)), h.val (hall i (hl i (by simp)))]
        rfl
    exact this _ fun i hi => List.mem_range.1 hi
  rw [hcat]
theorem Link.gap (h : Link s size cnt rec) {j : Nat} (hj : j < cnt) (hno : hasK (cnt : Int) rec (j : Int) = false) : asmS rec (cnt : Int) = (.empty, 14) := by
  unfold asmS
  rw [h.clash, if_neg (by decide), if_neg]
  rw [missS_has, show ((cnt : Int)).toNat = cnt by omega]
  intro h0
  have : (j : Int) ∈ (((List.range cnt).filter fun i : Nat => !hasK (cnt : Int) rec (i : Int)).map fun i : Nat => (i : Int)) := List.mem_map.2 ⟨j, List.mem_filter.2 ⟨List.mem_range.2 hj, by rw [hno]; rfl⟩, rfl⟩
  rw [h0] at this
  cases this
theorem Link.nil : Link s size cnt [] := fun x h => by cases h
theorem Link.snoc (h : Link s size cnt rec) {x : Blk} (hx : (∃ j : Nat, j < cnt ∧ x = mkK (j : Int) (cnt : Int) (partB s size j)) ∨ soundK x = false) : Link s size cnt (rec ++ [x]) := fun y hy => by
  rcases List.mem_append.1 hy with hy | hy
  · exact h y hy
  · rw [List.mem_singleton.1 hy]; exact hx
end
end Go.Proofs.YtkahjpbnlclhhaaDoor

namespace Go.Proofs.YtkahjpbnlclhhaaDoor
open Go.RowKit Go.Sky

def goodP (c k : Int) (x : Blk) : Bool := x.n == k && (x.c == c && soundK x)
theorem hasK_def (c : Int) (q : List Blk) (k : Int) : hasK c q k = q.any (goodP c k) := rfl
theorem any_step {α : Type} {q : List α} {m : Nat} {x : α} (p : α → Bool) (h : q[m]? = some x) : (q.take (m + 1)).any p = ((q.take m).any p || p x) := by rw [take_snoc q m x h, List.any_append]; simp
theorem refSound_is {x : Blk} {v : Bool} (h : soundK x = v) (w : World) (hx : okK x) (hb : x.b.size ≤ 3000) :
    Calls Tryd.prog 46 #[.agg #[.int .i64 x.n, .int .i64 x.c, .int .i64 x.k, .string x.b]] w fun e w' => e = .returned (.bool v) ∧ New w w' := h ▸ refIsSound_any x w hx hb
def missH (c : Int) (q : List Blk) (j : Nat) : List Int := ((List.range j).filter fun i : Nat => !hasK c q (i : Int)).map fun i : Nat => (i : Int)
theorem missH_step (c : Int) (q : List Blk) (j : Nat) : missH c q (j + 1) = missH c q j ++ if hasK c q (j : Int) = true then [] else [(j : Int)] := by
  unfold missH
  rw [List.range_succ, List.filter_append, List.map_append, List.filter_cons]
  cases hasK c q (j : Int) <;> rfl
theorem missH_len (c : Int) (q : List Blk) (j : Nat) : (missH c q j).length ≤ j := by
  unfold missH
  rw [List.length_map]
  exact Nat.le_trans (List.length_filter_le _ _) (by rw [List.length_range]; exact Nat.le_refl _)

set_option maxRecDepth 100000 in
set_option maxHeartbeats 4000000 in
theorem refMissing_any (A : Option Addr) (n cap : Nat) (q : List Blk) (c : Nat) (w : World) (hn : n ≤ 1000000) (hc : c ≤ 1000) (hr : Rd w 4 encK A n q) (hok : ∀ x ∈ q, okK x) (hsz : ∀ x ∈ q, x.b.size ≤ 3000) :
    Calls Tryd.prog 14 #[.slice A n cap, .int .i64 (c : Int)] w fun e w' => New w w' ∧ ∃ (B : Option Addr) (m k : Nat), e = .returned (.slice B m k) ∧ m = (missH (c : Int) q c).length ∧ Rd w' 1 encI B m (missH (c : Int) q c) := by
  obtain ⟨i0, hi, hz0, hz1, hz2⟩ := info_parts infoInt
  have HL := Lib.hid hr.len
  have HR := Lib.hid hr
  have HOK := Lib.hid hok
  have HSZ := Lib.hid hsz
  clear hr hok hsz
  go_enter Tryd.func14, Tryd.ntmps14
  go_wp2_with fail
  go_loopw [5, 6] (fun out i wr => ∃ (j m k : Nat) (B : Option Addr), j ≤ c ∧ i = .int .i64 (j : Int) ∧ out = .slice B m k ∧ Hid (Sky.Own wr w.heap.size 3 1 encI B m k (missH (c : Int) q j)) ∧ New w wr) (fun _ i _ => c - (intOf i).toNat)
  case atStart => exact ⟨0, 0, 0, none, by omega, rfl, rfl, Sky.Own.nil _ _ _ _ encI_len, New.refl _⟩
  case round =>
    obtain ⟨j, m, k, B, hj, rfl, rfl, HO, hN⟩ := hrel
    have hml : m ≤ j := by have := missH_len (c : Int) q j; rw [HO.out.len] at this; exact this
    by_cases hlt : j < c
    · have HST := Lib.hid (missH_step (c : Int) q j)
      go_wp2_with fail
      go_loopw [7, 8] (fun fd i wx => ∃ (u : Nat) (b : Bool), u ≤ n ∧ i = .int .i64 (u : Int) ∧ fd = .bool b ∧ Hid ((q.take u).any (goodP (c : Int) (j : Int)) = b) ∧ New wr wx) (fun _ i _ => n - (intOf i).toNat)
      case atStart => exact ⟨0, false, by omega, rfl, rfl, rfl, New.refl _⟩
      case round =>
        obtain ⟨u, b, hu, rfl, rfl, HB, hM⟩ := hrel
        by_cases hun : u < n
        · obtain ⟨bb, o, x, rfl, hbb, hx, hcl⟩ := (HR.out.keep (hN.trans hM)).at_ hun
          have g0 := hcl 0 _ rfl
          have g1 := hcl 1 _ rfl
          have g2 := hcl 2 _ rfl
          have g3 := hcl 3 _ rfl
          simp only [Nat.add_zero] at g0
          have HAS := Lib.hid (any_step (goodP (c : Int) (j : Int)) hx)
          have HMEM := Lib.hid (List.mem_of_getElem? hx)
          have HGP := Lib.hid (show goodP (c : Int) (j : Int) x = (x.n == (j : Int) && (x.c == (c : Int) && soundK x)) from rfl)
          have i0' : (0 : Int) ≤ (u : Int) := by omega
          have i1 : (u : Int) < (n : Int) := by omega
          clear hx hcl
          cases b
          · obtain ⟨e1, he1⟩ : ∃ v, (x.n == (j : Int)) = v := ⟨_, rfl⟩
            obtain ⟨e2, he2⟩ : ∃ v, (x.c == (c : Int)) = v := ⟨_, rfl⟩
            obtain ⟨e3, he3⟩ : ∃ v, soundK x = v := ⟨_, rfl⟩
            rw [he1, he2, he3] at HGP
            have HE3 := Lib.hid he3
            clear he3
            cases e1
            · go_wp2_with fail
              go_roundw
              case rel => exact ⟨u + 1, false, by omega, by go_num, rfl, by unfold Hid; rw [HAS.out, HB.out, HGP.out]; rfl, hM⟩
              case measure => simp [intOf]; omega
            · cases e2
              · go_wp2_with fail
                go_roundw
                case rel => exact ⟨u + 1, false, by omega, by go_num, rfl, by unfold Hid; rw [HAS.out, HB.out, HGP.out]; rfl, hM⟩
                case measure => simp [intOf]; omega
              · go_wp2_with fail
                refine (refSound_is HE3.out _ (HOK.out x HMEM.out) (HSZ.out x HMEM.out)).mono ?_
                rintro e w3 ⟨rfl, n3⟩
                go_wp2_with fail
                go_roundw
                case rel => exact ⟨u + 1, e3, by omega, by go_num, rfl, by unfold Hid; rw [HAS.out, HB.out, HGP.out]; cases e3 <;> rfl, hM.trans n3⟩
                case measure => simp [intOf]; omega
          · go_wp2_with fail
            go_roundw
            case rel => exact ⟨u + 1, true, by omega, by go_num, rfl, by unfold Hid; rw [HAS.out, HB.out]; rfl, hM⟩
            case measure => simp [intOf]; omega
        · have HV := Lib.hid (show hasK (c : Int) q (j : Int) = b by
            have h := HB.out
            rw [List.take_of_length_le (by rw [HL.out]; omega)] at h
            exact h)
          rw [HV.out] at HST
          cases b
          · go_wp2_with ((at_builtin; refine wpList_pour _ rfl _ _ 25 rfl 3 i0 _ 1 8 Tryd.underlying25 hi hz0 hz1 hz2 rfl (by omega) w.heap.size encI _ _ _ _ rfl ((HO.out.keep hM).alloc _) _ 1 1 [(j : Int)] rfl (by exact rd_bx (Bx.mk _ _ _) encI_len _ rfl 1 rfl) encI_one (by simp [maxLen]; omega) (by omega) ((hN.trans hM).alloc _).size ?_; intro A3 cap3 w3 hown3 hgr3 hN3))
            have n3 := hN3 w ((hN.trans hM).alloc _) (Nat.le_refl _)
            have HO3 := Lib.hid hown3
            clear hown3 hgr3 hN3
            go_wp2_with fail
            go_roundw
            case rel => exact ⟨j + 1, m + 1, cap3, A3, by omega, by go_num, rfl, by unfold Hid; rw [HST.out]; exact HO3.out, n3⟩
            case measure => simp [intOf]; omega
          · go_wp2_with fail
            go_roundw
            case rel => exact ⟨j + 1, m, k, B, by omega, by go_num, rfl, by unfold Hid; rw [HST.out]; simpa using HO.out.keep hM, hN.trans hM⟩
            case measure => simp [intOf]; omega
    · obtain rfl : j = c := by omega
      go_wp2_with fail
      go_ret
      exact ⟨hN, B, m, k, rfl, HO.out.len.symm, HO.out.rd⟩
end Go.Proofs.YtkahjpbnlclhhaaDoor

namespace Go.Proofs.YtkahjpbnlclhhaaDoor
open Go.RowKit Go.Sky

def catB (c : Int) (q : List Blk) (j : Nat) : ByteArray := (List.range j).foldl (fun (a : ByteArray) (i : Nat) => a ++ (firstB c q (i : Int)).getD .empty) .empty
theorem catB_step (c : Int) (q : List Blk) (j : Nat) : catB c q (j + 1) = catB c q j ++ (firstB c q (j : Int)).getD .empty := by
  unfold catB
  rw [List.range_succ, List.foldl_append]
  rfl
theorem firstB_size {c : Int} {q : List Blk} (hsz : ∀ x ∈ q, x.b.size ≤ 3000) (k : Int) : ((firstB c q k).getD .empty).size ≤ 3000 := by
  unfold firstB
  cases hf : q.find? fun x => x.n == k && (x.c == c && soundK x) with
  | none => exact Nat.zero_le _
  | some x => exact hsz x (List.mem_of_find?_eq_some hf)
theorem catB_size {c : Int} {q : List Blk} (hsz : ∀ x ∈ q, x.b.size ≤ 3000) : ∀ j, (catB c q j).size ≤ j * 3000
  | 0 => Nat.zero_le _
  | j + 1 => by
    have h1 := catB_size (c := c) hsz j
    have h2 := firstB_size (c := c) hsz (j : Int)
    rw [catB_step, ByteArray.size_append]
    omega
theorem catB_cat {c : Int} {q : List Blk} (h : (bodS (goods c q)).2 = false) : ∀ j, (catB c q j).data.toList = catS (bodS (goods c q)).1 j
  | 0 => by unfold catB catS; simp
  | j + 1 => by
    rw [catB_step, catS_step, firstB_eq h, ByteArray.data_append, Array.toList_append, catB_cat h j]
theorem first_none {c k : Int} {q : List Blk} (h : q.any (goodP c k) = false) : firstB c q k = none := by
  unfold firstB
  rw [List.find?_eq_none.2 (fun x hx => by
    have := List.any_eq_false.1 h x hx
    exact this)]
  rfl
theorem first_hit {c k : Int} : ∀ {q : List Blk} {m : Nat} {x : Blk}, q[m]? = some x → (q.take m).any (goodP c k) = false → goodP c k x = true → firstB c q k = some x.b
  | [], m, x, h, _, _ => by simp at h
  | y :: q, 0, x, h, _, hx => by
    injection h with h
    subst h
    unfold firstB
    rw [List.find?_cons_of_pos (by exact hx)]
    rfl
  | y :: q, m + 1, x, h, hn, hx => by
    rw [List.take_succ_cons, List.any_cons, Bool.or_eq_false_iff] at hn
    have := first_hit (q := q) (m := m) (x := x) h hn.2 hx
    unfold firstB at this ⊢
    rw [List.find?_cons_of_neg (by rw [show (y.n == k && (y.c == c && soundK y)) = false from hn.1]; decide)]
    exact this

theorem asm_clash {c : Int} {q : List Blk} (h : (bodS (goods c q)).2 = true) : asmS q c = (.empty, 13) := by unfold asmS; rw [h]; rfl
theorem asm_gap {c : Nat} {q : List Blk} (h : (bodS (goods (c : Int) q)).2 = false) (hm : missH (c : Int) q c ≠ []) : asmS q (c : Int) = (.empty, 14) := by
  unfold asmS
  rw [h, if_neg (by decide), if_neg]
  rw [missS_has]
  exact hm
theorem asm_ok {c : Nat} {q : List Blk} (h : (bodS (goods (c : Int) q)).2 = false) (hm : missH (c : Int) q c = []) : asmS q (c : Int) = (catB (c : Int) q c, 0) := by
  unfold asmS
  rw [h, if_neg (by decide), if_pos]
  · rw [show ((c : Int)).toNat = c by omega, ← catB_cat h]
  · rw [missS_has]
    exact hm

set_option maxRecDepth 100000 in
set_option maxHeartbeats 8000000 in
theorem refAssembled_any (A : Option Addr) (n cap : Nat) (q : List Blk) (c : Nat) (w : World) (hn : n ≤ 1000000) (hc : c ≤ 1000) (hr : Rd w 4 encK A n q) (hok : ∀ x ∈ q, okK x) (hsz : ∀ x ∈ q, x.b.size ≤ 3000) :
    Calls Tryd.prog 12 #[.slice A n cap, .int .i64 (c : Int)] w fun e w' => e = .returned (.tuple #[.string (asmS q (c : Int)).1, .int .i64 (asmS q (c : Int)).2]) ∧ New w w' := by
  have HL := Lib.hid hr.len
  have HR := Lib.hid hr
  have HOK := Lib.hid hok
  have HSZ := Lib.hid hsz
  clear hr hok hsz
  go_enter Tryd.func12, Tryd.ntmps12
  go_wp2_with fail
  go_loopw [6] (fun i wr => ∃ j : Nat, j ≤ n ∧ i = .int .i64 (j : Int) ∧ Hid (∀ (i k : Nat) (x y : Blk), i < j → k < i → q[i]? = some x → q[k]? = some y → clashes (c : Int) x y = false) ∧ New w wr) (fun i _ => n - (intOf i).toNat)
  case atStart => exact ⟨0, by omega, rfl, fun i k x y hi => absurd hi (by omega), New.refl _⟩
  case round =>
    obtain ⟨j, hj, rfl, HF, hN⟩ := hrel
    by_cases hlt : j < n
    · go_wp2_with fail
      go_loopw [7] (fun i wx => ∃ u : Nat, u ≤ j ∧ i = .int .i64 (u : Int) ∧ Hid (∀ (k : Nat) (x y : Blk), k < u → q[j]? = some x → q[k]? = some y → clashes (c : Int) x y = false) ∧ New w wx) (fun i _ => j - (intOf i).toNat)
      case atStart => exact ⟨0, by omega, rfl, fun k x y hk => absurd hk (by omega), hN⟩
      case round =>
        clear hN
        obtain ⟨u, hu, rfl, HI, hN⟩ := hrel
        by_cases hun : u < j
        · obtain ⟨b1, o1, x, hA1, hb1, hx, hcx⟩ := (HR.out.keep hN).at_ hlt
          obtain ⟨b2, o2, y, hA2, hb2, hy, hcy⟩ := (HR.out.keep hN).at_ (show u < n by omega)
          subst hA1
          injection hA2 with hA2
          injection hA2 with ha hb hcc
          subst ha hb
          have g0 := hcx 0 _ rfl
          have g1 := hcx 1 _ rfl
          have g2 := hcx 2 _ rfl
          have g3 := hcx 3 _ rfl
          have k0 := hcy 0 _ rfl
          have k1 := hcy 1 _ rfl
          have k2 := hcy 2 _ rfl
          have k3 := hcy 3 _ rfl
          simp only [Nat.add_zero] at g0 k0
          have HX := Lib.hid hx
          have HY := Lib.hid hy
          have HMX := Lib.hid (List.mem_of_getElem? hx)
          have HMY := Lib.hid (List.mem_of_getElem? hy)
          have i0 : (0 : Int) ≤ (j : Int) := by omega
          have i1 : (j : Int) < (n : Int) := by omega
          have j0 : (0 : Int) ≤ (u : Int) := by omega
          have j1 : (u : Int) < (n : Int) := by omega
          have j2 : (u : Int) < (j : Int) := by omega
          have HC := Lib.hid (show clashes (c : Int) x y = (x.n == y.n && (!(x.b.toList == y.b.toList) && (x.c == (c : Int) && (y.c == (c : Int) && (soundK x && soundK y))))) from rfl)
          obtain ⟨e1, he1⟩ : ∃ v, (x.n == y.n) = v := ⟨_, rfl⟩
          obtain ⟨e2, he2⟩ : ∃ v, (!(x.b.toList == y.b.toList)) = v := ⟨_, rfl⟩
          obtain ⟨e3, he3⟩ : ∃ v, (x.c == (c : Int)) = v := ⟨_, rfl⟩
          obtain ⟨e4, he4⟩ : ∃ v, (y.c == (c : Int)) = v := ⟨_, rfl⟩
          obtain ⟨e5, he5⟩ : ∃ v, soundK x = v := ⟨_, rfl⟩
          obtain ⟨e6, he6⟩ : ∃ v, soundK y = v := ⟨_, rfl⟩
          rw [he1, he2, he3, he4, he5, he6] at HC
          have HE5 := Lib.hid he5
          have HE6 := Lib.hid he6
          clear hx hy hcx hcy he5 he6
          have hcs : (e1 = false) ∨ (e1 = true ∧ e2 = false) ∨ (e1 = true ∧ e2 = true ∧ e3 = false) ∨ (e1 = true ∧ e2 = true ∧ e3 = true ∧ e4 = false) ∨ (e1 = true ∧ e2 = true ∧ e3 = true ∧ e4 = true ∧ e5 = false) ∨ (e1 = true ∧ e2 = true ∧ e3 = true ∧ e4 = true ∧ e5 = true ∧ e6 = false) ∨ (e1 = true ∧ e2 = true ∧ e3 = true ∧ e4 = true ∧ e5 = true ∧ e6 = true) := by
            cases e1 <;> cases e2 <;> cases e3 <;> cases e4 <;> cases e5 <;> cases e6 <;> simp
          rcases hcs with rfl | ⟨rfl, rfl⟩ | ⟨rfl, rfl, rfl⟩ | ⟨rfl, rfl, rfl, rfl⟩ | ⟨rfl, rfl, rfl, rfl, rfl⟩ | ⟨rfl, rfl, rfl, rfl, rfl, rfl⟩ | ⟨rfl, rfl, rfl, rfl, rfl, rfl⟩
          all_goals
            have HC2 := Lib.hid (HC.out.trans (by first | rfl | (simp; done)))
            go_wp2_with fail
            (refine wp_region_new (by kernel_rfl) (by kernel_rfl) ?_; (repeat (go_big_quiet_step (((go_at_call 46; first | with_reducible exact quiet_new (refSound_is HE5.out _ (HOK.out x HMX.out) (HSZ.out x HMX.out)) | with_reducible exact quiet_new (refSound_is HE6.out _ (HOK.out y HMY.out) (HSZ.out y HMY.out))))))); refine wpQuiet_nil ?_)
            intro w3 n3
            go_wp2_with fail
            first
            | (go_roundw
               case rel => exact ⟨u + 1, by omega, by go_num, fun k x' y' hk hx' hy' => by
                rcases Nat.lt_or_ge k u with h | h
                · exact HI.out k x' y' h hx' hy'
                · obtain rfl : k = u := by omega
                  have h1 := HX.out
                  have h2 := HY.out
                  rw [hx'] at h1
                  rw [hy'] at h2
                  injection h1 with h1
                  injection h2 with h2
                  rw [h1, h2]
                  exact HC2.out, hN.trans n3⟩
               case measure => simp [intOf]; omega)
            | (go_ret2
               exact ⟨by rw [asm_clash (clash_any HMX.out HMY.out HC2.out)]; rfl, hN.trans n3⟩)
        · obtain rfl : u = j := by omega
          go_wp2_with fail
          go_roundw
          case rel => exact ⟨u + 1, by omega, by go_num, fun i k x y hi hk hx hy => by
            rcases Nat.lt_or_ge i u with h | h
            · exact HF.out i k x y h hk hx hy
            · obtain rfl : i = u := by omega
              exact HI.out k x y hk hx hy, hN⟩
          case measure => simp [intOf]; omega
    · obtain rfl : j = n := by omega
      have HNC := Lib.hid (clash_no (c := (c : Int)) (q := q) (fun i k x y hk hx hy => HF.out i k x y (by rw [← HL.out]; exact (List.getElem?_eq_some_iff.1 hx).1) hk hx hy))
      go_wp2_with fail
      refine (refMissing_any A j cap q c _ hn hc (HR.out.keep hN) HOK.out HSZ.out).mono ?_
      rintro e w3 ⟨n3, B, m, k, rfl, hm, hr3⟩
      have HN3 := hN.trans n3
      clear hr3 n3 hN
      by_cases hm0 : m = 0
      · subst hm0
        have HMS := Lib.hid (show missH (c : Int) q c = [] from List.length_eq_zero_iff.1 hm.symm)
        clear hm
        go_wp2_with fail
        go_loopw [8, 9] (fun out i wr => ∃ t : Nat, t ≤ c ∧ i = .int .i64 (t : Int) ∧ out = .string (catB (c : Int) q t) ∧ New w wr) (fun _ i _ => c - (intOf i).toNat)
        case atStart => exact ⟨0, by omega, rfl, rfl, HN3⟩
        case round =>
          clear HN3
          obtain ⟨t, ht, rfl, rfl, hN⟩ := hrel
          have HST := Lib.hid (catB_step (c : Int) q t)
          obtain ⟨base, hbase⟩ : ∃ b, catB (c : Int) q t = b := ⟨_, rfl⟩
          have hbs : base.size ≤ 3000000 := by
            have := catB_size (c := (c : Int)) HSZ.out t
            rw [hbase] at this
            omega
          rw [hbase] at HST ⊢
          by_cases htc : t < c
          · clear hbase
            go_wp2_with fail
            go_loopw [8, 10, 11] (fun out dn i wx => ∃ (u : Nat) (d : Bool) (s : ByteArray), u ≤ j ∧ i = .int .i64 (u : Int) ∧ dn = .bool d ∧ out = .string s ∧ Hid ((d = false ∧ s = base ∧ (q.take u).any (goodP (c : Int) (t : Int)) = false) ∨ (d = true ∧ ∃ b, s = base ++ b ∧ firstB (c : Int) q (t : Int) = some b)) ∧ New w wx) (fun _ _ i _ => j - (intOf i).toNat)
            case atStart => exact ⟨0, false, base, by omega, rfl, rfl, rfl, .inl ⟨rfl, rfl, rfl⟩, hN⟩
            case round =>
              clear hN
              obtain ⟨u, d, s, hu, rfl, rfl, rfl, HS, hN⟩ := hrel
              by_cases hun : u < j
              · obtain ⟨bb, o, x, rfl, hbb, hx, hcl⟩ := (HR.out.keep hN).at_ hun
                have g0 := hcl 0 _ rfl
                have g1 := hcl 1 _ rfl
                have g2 := hcl 2 _ rfl
                have g3 := hcl 3 _ rfl
                simp only [Nat.add_zero] at g0
                have HAS := Lib.hid (any_step (goodP (c : Int) (t : Int)) hx)
                have HX := Lib.hid hx
                have HMEM := Lib.hid (List.mem_of_getElem? hx)
                have HGP := Lib.hid (show goodP (c : Int) (t : Int) x = (x.n == (t : Int) && (x.c == (c : Int) && soundK x)) from rfl)
                have i0 : (0 : Int) ≤ (u : Int) := by omega
                have i1 : (u : Int) < (j : Int) := by omega
                clear hx hcl
                cases d
                · have HF1 := Lib.hid (show s = base ∧ (q.take u).any (goodP (c : Int) (t : Int)) = false by
                    rcases HS.out with ⟨_, h⟩ | ⟨h, _⟩
                    · exact h
                    · cases h)
                  obtain ⟨e1, he1⟩ : ∃ v, (x.n == (t : Int)) = v := ⟨_, rfl⟩
                  obtain ⟨e2, he2⟩ : ∃ v, (x.c == (c : Int)) = v := ⟨_, rfl⟩
                  obtain ⟨e3, he3⟩ : ∃ v, soundK x = v := ⟨_, rfl⟩
                  rw [he1, he2, he3] at HGP
                  have HE3 := Lib.hid he3
                  clear he3
                  have hcs : (e1 = false) ∨ (e1 = true ∧ e2 = false) ∨ (e1 = true ∧ e2 = true ∧ e3 = false) ∨ (e1 = true ∧ e2 = true ∧ e3 = true) := by cases e1 <;> cases e2 <;> cases e3 <;> simp
                  rcases hcs with rfl | ⟨rfl, rfl⟩ | ⟨rfl, rfl, rfl⟩ | ⟨rfl, rfl, rfl⟩
                  · go_wp2_with fail
                    go_roundw
                    case rel => exact ⟨u + 1, false, s, by omega, by go_num, rfl, rfl, .inl ⟨rfl, HF1.out.1, by rw [HAS.out, HF1.out.2, HGP.out]; rfl⟩, hN⟩
                    case measure => simp [intOf]; omega
                  · go_wp2_with fail
                    go_roundw
                    case rel => exact ⟨u + 1, false, s, by omega, by go_num, rfl, rfl, .inl ⟨rfl, HF1.out.1, by rw [HAS.out, HF1.out.2, HGP.out]; rfl⟩, hN⟩
                    case measure => simp [intOf]; omega
                  · go_wp2_with fail
                    refine (refSound_is HE3.out _ (HOK.out x HMEM.out) (HSZ.out x HMEM.out)).mono ?_
                    rintro e w4 ⟨rfl, n4⟩
                    go_wp2_with fail
                    go_roundw
                    case rel => exact ⟨u + 1, false, s, by omega, by go_num, rfl, rfl, .inl ⟨rfl, HF1.out.1, by rw [HAS.out, HF1.out.2, HGP.out]; rfl⟩, hN.trans n4⟩
                    case measure => simp [intOf]; omega
                  · go_wp2_with fail
                    refine (refSound_is HE3.out _ (HOK.out x HMEM.out) (HSZ.out x HMEM.out)).mono ?_
                    rintro e w4 ⟨rfl, n4⟩
                    have g3' := n4.cell g3
                    have l63 : (s.size : Int) + (x.b.size : Int) ≤ 9223372036854775807 := by
                      have h1 := HF1.out.1
                      have h2 := HSZ.out x HMEM.out
                      subst h1
                      omega
                    go_wp2_with fail
                    go_roundw
                    case rel => exact ⟨u + 1, true, s ++ x.b, by omega, by go_num, rfl, rfl, .inr ⟨rfl, x.b, by rw [HF1.out.1], first_hit HX.out HF1.out.2 HGP.out⟩, hN.trans n4⟩
                    case measure => simp [intOf]; omega
                · have HS2 := Lib.hid (show ∃ b, s = base ++ b ∧ firstB (c : Int) q (t : Int) = some b by
                    rcases HS.out with ⟨h, _⟩ | ⟨_, h⟩
                    · cases h
                    · exact h)
                  go_wp2_with fail
                  go_roundw
                  case rel => exact ⟨u + 1, true, s, by omega, by go_num, rfl, rfl, .inr ⟨rfl, HS2.out⟩, hN⟩
                  case measure => simp [intOf]; omega
              · have HV := Lib.hid (show s = base ++ (firstB (c : Int) q (t : Int)).getD .empty by
                  rcases HS.out with ⟨_, h1, h2⟩ | ⟨_, b, h1, h2⟩
                  · rw [List.take_of_length_le (by rw [HL.out]; omega)] at h2
                    rw [first_none h2, h1]
                    simp
                  · rw [h2, h1]; rfl)
                go_wp2_with fail
                go_roundw
                case rel => exact ⟨t + 1, by omega, by go_num, by rw [HST.out, HV.out], hN⟩
                case measure => simp [intOf]; omega
          · obtain rfl : t = c := by omega
            have HAO := Lib.hid (asm_ok HNC.out HMS.out)
            rw [hbase] at HAO
            clear hbase
            go_wp2_with fail
            go_ret2
            exact ⟨by rw [HAO.out]; rfl, hN⟩
      · have HAG := Lib.hid (asm_gap HNC.out (fun h => hm0 (by rw [hm, h]; rfl)))
        have d1 : (0 : Int) < (m : Int) := by omega
        clear hm
        go_wp2_with fail
        go_ret2
        exact ⟨by rw [HAG.out]; rfl, HN3⟩
end Go.Proofs.YtkahjpbnlclhhaaDoor

namespace Go.Proofs.YtkahjpbnlclhhaaDoor
open Go.RowKit Go.Sky

theorem fewB_yes {q : List Blk} (h : fewB q = true) : q.length ≤ 62 ∧ ∀ x ∈ q, x.b.size ≤ 3000 := by
  unfold fewB at h
  rw [Bool.and_eq_true, List.all_eq_true] at h
  refine ⟨of_decide_eq_true h.1, fun x hx => ?_⟩
  have := h.2 x hx
  unfold fewK at this
  simp at this
  omega
theorem like_self (xs : List Int) : (xs == xs) = true := by simp
theorem ints_same (A B : Option Addr) (n m c1 c2 : Nat) (xs ys : List Int) (w : World) (hn : n ≤ 1000000) (hm : m ≤ 1000000) (hr : Rd w 1 encI A n xs) (hs : Rd w 1 encI B m ys) (h : xs = ys) :
    Calls Tryd.prog 13 #[.slice A n c1, .slice B m c2] w fun e w' => e = .returned (.bool true) ∧ New w w' := by
  subst h
  refine (ints_any A B n m c1 c2 xs xs w hn hm hr hs).mono ?_
  rintro e w' ⟨rfl, hn⟩
  exact ⟨by simp, hn⟩

set_option maxRecDepth 100000 in
set_option maxHeartbeats 4000000 in
theorem stationMissing_any (A : Option Addr) (n cap : Nat) (q : List Blk) (c : Int) (w : World) (hr : Rd w 4 encK A n q) (ht : Tab w) (hok : ∀ x ∈ q, okK x) :
    Calls Tryd.prog 3 #[.slice A n cap, .int .i64 c] w fun e w' => e = .returned (.bool true) ∧ New w w' := by
  have HL := Lib.hid hr.len
  have HR := Lib.hid hr
  have HT := Lib.hid ht
  have HOK := Lib.hid hok
  clear hr ht hok
  obtain ⟨fw, hfw⟩ : ∃ b, fewB q = b := ⟨_, rfl⟩
  have HFW := Lib.hid hfw
  cases fw
  · clear hfw
    go_enter Tryd.func3, Tryd.ntmps3
    go_wp2_with fail
    refine (awake_any _).mono ?_
    rintro e w1 ⟨rfl, n1⟩
    go_wp2_with fail
    refine (fewBlocks_any A n cap q _ (HR.out.keep n1)).mono ?_
    rintro e w' ⟨rfl, rfl⟩
    rw [HFW.out]
    go_wp2
    go_ret
    exact ⟨rfl, n1⟩
  obtain ⟨h62, hsz⟩ := fewB_yes hfw
  rw [HL.out] at h62
  have HSZ := Lib.hid hsz
  clear hfw hsz
  obtain ⟨E, hE⟩ : ∃ E, blocksE q c = E := ⟨_, rfl⟩
  have HE := Lib.hid hE
  by_cases h0 : E = 0
  · subst h0
    have hz := blocksE_zero hE
    obtain ⟨cnt, rfl⟩ : ∃ k : Nat, c = (k : Int) := ⟨c.toNat, by omega⟩
    have hc1 : cnt ≤ 30 := by omega
    clear hE hz
    have HMM := Lib.hid (show missS (bodS (goods (cnt : Int) q)).1 ((cnt : Int)).toNat = missH (cnt : Int) q cnt by rw [missS_has]; rfl)
    have HML := Lib.hid (missH_len (cnt : Int) q cnt)
    obtain ⟨⟨ss, ae⟩, has⟩ : ∃ v, asmS q (cnt : Int) = v := ⟨_, rfl⟩
    have HAS := Lib.hid has
    clear has
    go_enter Tryd.func3, Tryd.ntmps3
    go_wp2_with fail
    refine (awake_any _).mono ?_
    rintro e w1 ⟨rfl, n1⟩
    go_wp2_with fail
    refine (fewBlocks_any A n cap q _ (HR.out.keep n1)).mono ?_
    rintro e w' ⟨rfl, rfl⟩
    rw [HFW.out]
    go_wp2_with fail
    refine (copyBlks_any A n cap q _ (by omega) (HR.out.keep n1)).mono ?_
    rintro e w2 ⟨A2, c2, rfl, o2, n2⟩
    have HR2 := Lib.hid o2.rd
    have N := n1.trans n2
    clear o2 n1 n2
    go_wp2_with fail
    refine (MissingIn_any A2 n c2 q (cnt : Int) _ (by omega) HR2.out (HT.out.keep N) HOK.out).mono ?_
    rintro e w3 ⟨nn, ⟨hbad, _⟩ | ⟨_, B, m, k, rfl, hm, hr3⟩⟩
    · exact absurd HE.out hbad
    rw [HMM.out] at hm hr3
    have HM := Lib.hid hm
    have hm30 : m ≤ 30 := by have := HML.out; omega
    have HRM := Lib.hid hr3
    have N := N.trans nn
    clear nn hm hr3 HR2
    go_wp2_with fail
    refine (copyBlks_any A n cap q _ (by omega) (HR.out.keep N)).mono ?_
    rintro e w4 ⟨A4, c4, rfl, o4, n4⟩
    have HR4 := Lib.hid o4.rd
    have HRM := Lib.hid (HRM.out.keep n4)
    have N := N.trans n4
    clear o4 n4
    go_wp2_with fail
    refine (Assembled_any A4 n c4 q (cnt : Int) _ (by omega) HR4.out (HT.out.keep N) HOK.out).mono ?_
    rintro e w5 ⟨nn, ⟨hbad, _⟩ | ⟨_, rfl⟩⟩
    · exact absurd HE.out hbad
    rw [HAS.out]
    have HRM := Lib.hid (HRM.out.keep nn)
    have N := N.trans nn
    clear nn HR4
    go_wp2_with fail
    refine (refBlocksErr_any A n cap q (cnt : Int) _ (HR.out.keep N)).mono ?_
    rintro e w6 ⟨rfl, nn⟩
    rw [HE.out]
    have HRM := Lib.hid (HRM.out.keep nn)
    have N := N.trans nn
    clear nn
    go_wp2_with fail
    refine (refAssembled_any A n cap q cnt _ (by omega) (by omega) (HR.out.keep N) HOK.out HSZ.out).mono ?_
    rintro e w7 ⟨rfl, nn⟩
    rw [HAS.out]
    have HRM := Lib.hid (HRM.out.keep nn)
    have N := N.trans nn
    clear nn
    go_wp2_with fail
    refine (refMissing_any A n cap q cnt _ (by omega) (by omega) (HR.out.keep N) HOK.out HSZ.out).mono ?_
    rintro e w8 ⟨nn, B8, m8, k8, rfl, hm8, hr8⟩
    have HRM := Lib.hid (HRM.out.keep nn)
    have N := N.trans nn
    have HR8 := Lib.hid hr8
    have hm80 : m8 ≤ 30 := by have := HML.out; omega
    clear nn hr8 hm8
    go_wp2_with fail
    refine (ints_same B B8 m m8 k k8 _ _ _ (by omega) (by omega) HRM.out HR8.out rfl).mono ?_
    rintro e w9 ⟨rfl, nn⟩
    have N := N.trans nn
    have dd : (ss.toList == ss.toList) = true := by simp
    go_wp2_with fail
    go_ret
    exact ⟨by simp, N⟩
  · have b0 : (E != 0) = true := by simpa using h0
    have H0 := Lib.hid (show blocksE q c ≠ 0 by rw [hE]; exact h0)
    clear hE h0
    go_enter Tryd.func3, Tryd.ntmps3
    go_wp2_with fail
    refine (awake_any _).mono ?_
    rintro e w1 ⟨rfl, n1⟩
    go_wp2_with fail
    refine (fewBlocks_any A n cap q _ (HR.out.keep n1)).mono ?_
    rintro e w' ⟨rfl, rfl⟩
    rw [HFW.out]
    go_wp2_with fail
    refine (copyBlks_any A n cap q _ (by omega) (HR.out.keep n1)).mono ?_
    rintro e w2 ⟨A2, c2, rfl, o2, n2⟩
    have HR2 := Lib.hid o2.rd
    have N := n1.trans n2
    clear o2 n1 n2
    go_wp2_with fail
    refine (MissingIn_any A2 n c2 q c _ (by omega) HR2.out (HT.out.keep N) HOK.out).mono ?_
    rintro e w3 ⟨nn, ⟨_, rfl⟩ | ⟨hbad, _⟩⟩
    rotate_left
    · exact absurd hbad H0.out
    rw [HE.out]
    have N := N.trans nn
    clear nn HR2
    go_wp2_with fail
    refine (copyBlks_any A n cap q _ (by omega) (HR.out.keep N)).mono ?_
    rintro e w4 ⟨A4, c4, rfl, o4, n4⟩
    have HR4 := Lib.hid o4.rd
    have N := N.trans n4
    clear o4 n4
    go_wp2_with fail
    refine (Assembled_any A4 n c4 q c _ (by omega) HR4.out (HT.out.keep N) HOK.out).mono ?_
    rintro e w5 ⟨nn, ⟨_, rfl⟩ | ⟨hbad, _⟩⟩
    rotate_left
    · exact absurd hbad H0.out
    rw [HE.out]
    have N := N.trans nn
    clear nn HR4
    go_wp2_with fail
    refine (refBlocksErr_any A n cap q c _ (HR.out.keep N)).mono ?_
    rintro e w6 ⟨rfl, nn⟩
    rw [HE.out]
    have N := N.trans nn
    clear nn
    go_wp2_with fail
    go_ret
    exact ⟨by simp, N⟩
end Go.Proofs.YtkahjpbnlclhhaaDoor
