/- Contracts: strconv.Itoa and strings.Join off the shelf; the check of a block, the head of a block.
   Contracts: whether a block is sound; the program's and the reference's. -/
import Derived.BigQuiet
import Derived.Deep.AppendLies
import Derived.Deep.Draws
import Derived.Deep.Quiet
import Derived.Deep.QuietTactic
import Derived.Laws.IdiomStrings
import Derived.Lib.Hide
import Derived.Lib.ItoaLen
import Derived.Lib.ItoaNum
import Derived.OrdersIn
import Derived.OwnWalkIn
import Derived.RangeFuncCalls
import Derived.Shelf.Strconv.Itoa3
import Derived.Shelf.Strings.OnBuilder
import Derived.StillTail
import Derived.TacticsIn
import Derived.Test.YtkahjpbnlclhhaaDoorProg
import Derived.Test.YtkahjpbnlclhhaaDoorRows
import Derived.WalkKit
import Derived.WalkLawsBesides
import Derived.WalkSpells
import Derived.Test.YtkahjpbnlclhhaaDoorC17F
import Derived.Test.YtkahjpbnlclhhaaDoorC17J
import Derived.Test.YtkahjpbnlclhhaaDoorC17O
import Derived.Test.YtkahjpbnlclhhaaDoorC17Q

namespace Go.Proofs.YtkahjpbnlclhhaaDoor
open Go.RowKit Go.Sky Go.Shelf

def itoaLay_ren : Go.Shelf.Ren := ⟨fun | 171 => 59 | 243 => 79 | 246 => 95 | 283 => 105 | 284 => 106 | 285 => 107 | 286 => 108 | 129 => 118 | 317 => 117 | 318 => 119 | 319 => 120 | 320 => 121 | 337 => 126 | 338 => 127 | n => n, fun | 3 => 3 | 9 => 9 | 2 => 2 | 4 => 4 | 171 => 160 | 0 => 0 | 53 => 161 | 37 => 56 | 5 => 5 | 173 => 164 | 212 => 175 | 51 => 176 | 20 => 20 | 213 => 177 | 46 => 143 | 232 => 187 | 233 => 188 | n => n, fun | 17 => 3 | 18 => 4 | 19 => 5 | n => n⟩
theorem itoaLay : Go.Proofs.LaysM.n171 Tryd.prog itoaLay_ren := {
  mixed := by kernel_rfl
  f129 := Tryd.func118.trans (congrArg some (by kernel_rfl))
  f171 := Tryd.func59.trans (congrArg some (by kernel_rfl))
  f243 := Tryd.func79.trans (congrArg some (by kernel_rfl))
  f246 := Tryd.func95.trans (congrArg some (by kernel_rfl))
  f283 := Tryd.func105.trans (congrArg some (by kernel_rfl))
  f284 := Tryd.func106.trans (congrArg some (by kernel_rfl))
  f285 := Tryd.func107.trans (congrArg some (by kernel_rfl))
  f286 := Tryd.func108.trans (congrArg some (by kernel_rfl))
  f317 := Tryd.func117.trans (congrArg some (by kernel_rfl))
  f318 := Tryd.func119.trans (congrArg some (by kernel_rfl))
  f319 := Tryd.func120.trans (congrArg some (by kernel_rfl))
  f320 := Tryd.func121.trans (congrArg some (by kernel_rfl))
  f337 := Tryd.func126.trans (congrArg some (by kernel_rfl))
  f338 := Tryd.func127.trans (congrArg some (by kernel_rfl))
  t0 := Tryd.underlying0
  a0 := Tryd.isAgg0
  z0 := Tryd.sizeOf0
  v0 := Tryd.zeroValue0
  t2 := Tryd.underlying2
  a2 := Tryd.isAgg2
  z2 := Tryd.sizeOf2
  v2 := Tryd.zeroValue2
  t3 := Tryd.underlying3
  a3 := Tryd.isAgg3
  z3 := Tryd.sizeOf3
  v3 := Tryd.zeroValue3
  t4 := Tryd.underlying4
  a4 := Tryd.isAgg4
  z4 := Tryd.sizeOf4
  v4 := Tryd.zeroValue4
  t5 := Tryd.underlying5
  a5 := Tryd.isAgg5
  z5 := Tryd.sizeOf5
  v5 := Tryd.zeroValue5
  t9 := Tryd.underlying9
  a9 := Tryd.isAgg9
  z9 := Tryd.sizeOf9
  v9 := Tryd.zeroValue9
  t20 := Tryd.underlying20
  a20 := Tryd.isAgg20
  z20 := Tryd.sizeOf20
  v20 := Tryd.zeroValue20
  t37 := Tryd.underlying56
  a37 := Tryd.isAgg56
  z37 := Tryd.sizeOf56
  v37 := Tryd.zeroValue56
  t46 := Tryd.underlying143
  a46 := Tryd.isAgg143
  z46 := Tryd.sizeOf143
  v46 := Tryd.zeroValue143
  t51 := Tryd.underlying176
  a51 := Tryd.isAgg176
  z51 := Tryd.sizeOf176
  v51 := Tryd.zeroValue176
  t53 := Tryd.underlying161
  a53 := Tryd.isAgg161
  z53 := Tryd.sizeOf161
  v53 := Tryd.zeroValue161
  t171 := Tryd.underlying160
  a171 := Tryd.isAgg160
  z171 := Tryd.sizeOf160
  v171 := Tryd.zeroValue160
  t173 := Tryd.underlying164
  a173 := Tryd.isAgg164
  z173 := Tryd.sizeOf164
  v173 := Tryd.zeroValue164
  t212 := Tryd.underlying175
  a212 := Tryd.isAgg175
  z212 := Tryd.sizeOf175
  v212 := Tryd.zeroValue175
  t213 := Tryd.underlying177
  a213 := Tryd.isAgg177
  z213 := Tryd.sizeOf177
  t232 := Tryd.underlying187
  a232 := Tryd.isAgg187
  z232 := Tryd.sizeOf187
  v232 := Tryd.zeroValue187
  t233 := Tryd.underlying188
  a233 := Tryd.isAgg188
  z233 := Tryd.sizeOf188
  v233 := Tryd.zeroValue188
  g17 := by kernel_rfl
  g18 := by kernel_rfl
  g19 := by kernel_rfl
  i0 := by kernel_rfl
  i2 := by kernel_rfl
  i3 := by kernel_rfl
  i4 := by kernel_rfl
  i5 := by kernel_rfl
  i9 := by kernel_rfl
  i20 := by kernel_rfl
  i37 := by kernel_rfl
  i46 := by kernel_rfl
  i51 := by kernel_rfl
  i53 := by kernel_rfl
  i171 := by kernel_rfl
  i173 := by kernel_rfl
  i212 := by kernel_rfl
  i232 := by kernel_rfl
  i233 := by kernel_rfl
  m17 := by kernel_rfl
  m18 := by kernel_rfl
  m19 := by kernel_rfl }
def joinLay_ren : Go.Shelf.Ren := ⟨fun | 156 => 58 | 165 => 78 | 166 => 43 | 169 => 44 | 240 => 71 | 241 => 94 | 276 => 91 | 277 => 104 | n => n, fun | 31 => 58 | 9 => 9 | 3 => 3 | 4 => 4 | 0 => 0 | 20 => 20 | 72 => 94 | 76 => 97 | 70 => 92 | 37 => 56 | 75 => 96 | 127 => 135 | 164 => 147 | 5 => 5 | 80 => 99 | n => n, fun | n => n⟩
theorem joinLay : Go.Proofs.Lays.n156 Tryd.prog joinLay_ren := {
  mixed := by kernel_rfl
  f156 := Tryd.func58.trans (congrArg some (by kernel_rfl))
  f165 := Tryd.func78.trans (congrArg some (by kernel_rfl))
  f166 := Tryd.func43.trans (congrArg some (by kernel_rfl))
  f169 := Tryd.func44.trans (congrArg some (by kernel_rfl))
  f240 := Tryd.func71.trans (congrArg some (by kernel_rfl))
  f241 := Tryd.func94.trans (congrArg some (by kernel_rfl))
  f276 := Tryd.func91.trans (congrArg some (by kernel_rfl))
  f277 := Tryd.func104.trans (congrArg some (by kernel_rfl))
  t0 := Tryd.underlying0
  a0 := Tryd.isAgg0
  z0 := Tryd.sizeOf0
  v0 := Tryd.zeroValue0
  t3 := Tryd.underlying3
  a3 := Tryd.isAgg3
  z3 := Tryd.sizeOf3
  v3 := Tryd.zeroValue3
  t4 := Tryd.underlying4
  a4 := Tryd.isAgg4
  z4 := Tryd.sizeOf4
  v4 := Tryd.zeroValue4
  t9 := Tryd.underlying9
  a9 := Tryd.isAgg9
  z9 := Tryd.sizeOf9
  v9 := Tryd.zeroValue9
  t20 := Tryd.underlying20
  a20 := Tryd.isAgg20
  z20 := Tryd.sizeOf20
  v20 := Tryd.zeroValue20
  t31 := Tryd.underlying58
  a31 := Tryd.isAgg58
  z31 := Tryd.sizeOf58
  v31 := Tryd.zeroValue58
  t37 := Tryd.underlying56
  a37 := Tryd.isAgg56
  z37 := Tryd.sizeOf56
  v37 := Tryd.zeroValue56
  t70 := Tryd.underlying92
  a70 := Tryd.isAgg92
  z70 := Tryd.sizeOf92
  v70 := Tryd.zeroValue92
  t72 := Tryd.underlying94
  a72 := Tryd.isAgg94
  z72 := Tryd.sizeOf94
  v72 := Tryd.zeroValue94
  t75 := Tryd.underlying96
  a75 := Tryd.isAgg96
  z75 := Tryd.sizeOf96
  v75 := Tryd.zeroValue96
  t76 := Tryd.underlying97
  a76 := Tryd.isAgg97
  z76 := Tryd.sizeOf97
  v76 := Tryd.zeroValue97
  t127 := Tryd.underlying135
  a127 := Tryd.isAgg135
  z127 := Tryd.sizeOf135
  v127 := Tryd.zeroValue135
  t164 := Tryd.underlying147
  a164 := Tryd.isAgg147
  z164 := Tryd.sizeOf147
  v164 := Tryd.zeroValue147 }
theorem joinExtra : Builder.Extra Tryd.prog joinLay_ren where
  sizeBuilder := by kernel_rfl
  liesBuilder := by kernel_rfl
  t5 := Tryd.underlying5
  a5 := Tryd.isAgg5
  z5 := Tryd.sizeOf5
  v5 := Tryd.zeroValue5
  infoByte := by kernel_rfl
  cellsByte := by kernel_rfl
  sizeByte := by kernel_rfl
  neB5 := by decide

/-- The table of powers of ten lies as it was laid. -/
def Tab (w : World) : Prop := Lib.TabIs Tryd.prog w ("internal/strconv.uint64pow10") .u64 Lib.pow10Tab
theorem tabGlobal : ∃ g, (Tryd.prog).globalNamed ("internal/strconv.uint64pow10") = some g :=
  Option.isSome_iff_exists.1 (show ((Tryd.prog).globalNamed ("internal/strconv.uint64pow10")).isSome = true by kernel_rfl)
theorem Tab.keep {w W : World} (h : Tab w) (hn : New w W) : Tab W := by
  obtain ⟨g, hg⟩ := tabGlobal
  have key : ∀ v : World, v.var? Tryd.prog ("internal/strconv.uint64pow10") = match v.heap[g]? with
      | some (.cells cs _ _) => some cs
      | _ => Option.none := fun v => by
    unfold World.var?
    rw [hg]
    rfl
  have h2 : w.var? Tryd.prog ("internal/strconv.uint64pow10") = some _ := h
  show W.var? Tryd.prog ("internal/strconv.uint64pow10") = some _
  rw [key] at h2 ⊢
  rcases hq : w.heap[g]? with _ | o
  · rw [hq] at h2; cases h2
  · rw [hn.heap hq]
    rw [hq] at h2
    exact h2

theorem itoa_any (n : Int) (w : World) (h0 : -9223372036854775808 ≤ n) (h1 : n ≤ 9223372036854775807) (ht : Tab w) :
    Calls Tryd.prog 59 #[.int .i64 n] w fun e w' => e = .returned (.string ⟨(Lib.itoa n).toArray⟩) ∧ New w w' := by
  refine (Any.strconv_Itoa itoaLay n h0 h1 w ht).mono ?_
  rintro e w' ⟨he, k, os, rfl⟩
  refine ⟨he, ?_⟩
  exact ⟨rfl, rfl, rfl, by simp [Sort.grow], fun b hb => by
    show (w.heap ++ os)[b]? = _
    rw [Array.getElem?_append_left hb]⟩

theorem size_of (l : List UInt8) : (⟨l.toArray⟩ : ByteArray).size = l.length := by
  show l.toArray.size = l.length
  simp
theorem decIs {n : Int} {s : ByteArray} (h : (⟨(Lib.itoa n).toArray⟩ : ByteArray) = s) (w : World) (h0 : -9223372036854775808 ≤ n) (h1 : n ≤ 9223372036854775807) :
    Calls Tryd.prog 20 #[.int .i64 n] w fun e w' => e = .returned (.string s) ∧ New w w' := h ▸ decimal_any n w h0 h1
/-- The head of a block. -/
def headL (n c : Int) (body : ByteArray) : List UInt8 := Lib.itoa n ++ [32] ++ Lib.itoa c ++ [32] ++ body.data.toList
theorem head_join (n c : Int) (body : ByteArray) : Lib.join ([(⟨(Lib.itoa n).toArray⟩ : ByteArray), ⟨(Lib.itoa c).toArray⟩, body].map (·.data.toList)) [32] = headL n c body := by
  simp [Lib.join, headL, List.intercalate, List.intersperse]
theorem headL_len (n c : Int) (body : ByteArray) (hn0 : -9223372036854775808 ≤ n) (hn1 : n ≤ 9223372036854775807) (hc0 : -9223372036854775808 ≤ c) (hc1 : c ≤ 9223372036854775807) : (headL n c body).length ≤ 44 + body.size := by
  have h1 := Lib.itoa_length_le n hn0 hn1
  have h2 := Lib.itoa_length_le c hc0 hc1
  have h3 : body.data.toList.length = body.size := by simp
  unfold headL
  simp only [List.length_append, List.length_singleton]
  omega

set_option maxRecDepth 100000 in
set_option maxHeartbeats 4000000 in
theorem checkOf_any (n c k : Int) (body : ByteArray) (w : World) (hn0 : -9223372036854775808 ≤ n) (hn1 : n ≤ 9223372036854775807) (hc0 : -9223372036854775808 ≤ c) (hc1 : c ≤ 9223372036854775807) (hb : body.size ≤ 3000) (ht : Tab w) :
    Calls Tryd.prog 55 #[.agg #[.int .i64 n, .int .i64 c, .int .i64 k, .string body]] w fun e w' => e = .returned (.int .i64 (crcS (headL n c body))) ∧ New w w' := by
  have HT := Lib.hid ht
  clear ht
  have HJ := Lib.hid (head_join n c body)
  have HJL := Lib.hid (headL_len n c body hn0 hn1 hc0 hc1)
  have N0 := (New.refl w).alloc (.cells #[.int .i64 n, .int .i64 c, .int .i64 k, .string body] 54)
  have b0 := Bx.mk w 54 #[.int .i64 n, .int .i64 c, .int .i64 k, .string body]
  go_enter Tryd.func55, Tryd.ntmps55
  go_wp2_with fail
  obtain ⟨W2, hW2⟩ : ∃ W2, w.alloc (.cells #[.int .i64 n, .int .i64 c, .int .i64 k, .string body] 54) = W2 := ⟨_, rfl⟩
  rw [hW2] at b0 N0 ⊢
  clear hW2
  have c0 : World.cell? _ ⟨w.heap.size, 0, none⟩ = some (.int .i64 n) := b0.cell 0
  have c1 : World.cell? _ ⟨w.heap.size, 1, none⟩ = some (.int .i64 c) := b0.cell 1
  have c3 : World.cell? _ ⟨w.heap.size, 3, none⟩ = some (.string body) := b0.cell 3
  have l2 := b0.lt
  have HT2 := Lib.hid (HT.out.keep N0)
  (refine wp_region_tail 8 (by kernel_rfl) (by kernel_rfl) ?_; simp only [List.take_succ_cons, List.take_zero, List.drop_succ_cons, List.drop_zero]; (repeat (go_big_quiet_step (((go_at_call 59; exact quiet_new (itoa_any _ _ (by omega) (by omega) (HT2.out.keep (plus_new _ _)))))))); refine wpQuiet_nil ?_)
  intro w3 n3
  go_wp2_with fail
  have bx := Bx.mk w3 9 #[.string ⟨(Lib.itoa n).toArray⟩, .string ⟨(Lib.itoa c).toArray⟩, .string body]
  have hj := Any.strings_Join joinLay joinExtra w3.heap.size 0 3 [⟨(Lib.itoa n).toArray⟩, ⟨(Lib.itoa c).toArray⟩, body] ⟨#[32]⟩ (w3.alloc (.cells #[.string ⟨(Lib.itoa n).toArray⟩, .string ⟨(Lib.itoa c).toArray⟩, .string body] 9))
    (fun j x hx => by
      rw [Nat.zero_add, bx.cell]
      match j, hx with
      | 0, hx => injection hx with hx; subst hx; rfl
      | 1, hx => injection hx with hx; subst hx; rfl
      | 2, hx => injection hx with hx; subst hx; rfl) bx.lt (by simp) (by simp) (by rw [show (⟨#[32]⟩ : ByteArray).data.toList = [32] from rfl, HJ.out]; have := HJL.out; omega)
  rw [show (⟨#[32]⟩ : ByteArray).data.toList = [32] from rfl, HJ.out] at hj
  refine hj.mono ?_
  rintro e w4 ⟨rfl, n4⟩
  have N4 := (N0.trans n3).trans (hn2of n4)
  clear hj bx n4
  go_wp2_with fail
  refine (check_any _ _ (by have := HJL.out; rw [size_of]; omega)).mono ?_
  rintro e w5 ⟨rfl, n5⟩
  go_wp2_with fail
  go_ret
  exact ⟨rfl, N4.trans n5⟩

set_option maxRecDepth 100000 in
set_option maxHeartbeats 4000000 in
theorem head_any (n c k : Int) (body : ByteArray) (w : World) (hn0 : -9223372036854775808 ≤ n) (hn1 : n ≤ 9223372036854775807) (hc0 : -9223372036854775808 ≤ c) (hc1 : c ≤ 9223372036854775807) (hb : body.size ≤ 3000) :
    Calls Tryd.prog 73 #[.agg #[.int .i64 n, .int .i64 c, .int .i64 k, .string body]] w fun e w' => e = .returned (.string ⟨(headL n c body).toArray⟩) ∧ New w w' := by
  have hl1 := Lib.itoa_length_le n hn0 hn1
  have hl2 := Lib.itoa_length_le c hc0 hc1
  have N0 := (New.refl w).alloc (.cells #[.int .i64 n, .int .i64 c, .int .i64 k, .string body] 54)
  have b0 := Bx.mk w 54 #[.int .i64 n, .int .i64 c, .int .i64 k, .string body]
  obtain ⟨sn, hsn⟩ : ∃ s : ByteArray, (⟨(Lib.itoa n).toArray⟩ : ByteArray) = s := ⟨_, rfl⟩
  obtain ⟨sc, hsc⟩ : ∃ s : ByteArray, (⟨(Lib.itoa c).toArray⟩ : ByteArray) = s := ⟨_, rfl⟩
  have hs1 : sn.size ≤ 21 := by rw [← hsn, size_of]; exact hl1
  have hs2 : sc.size ≤ 21 := by rw [← hsc, size_of]; exact hl2
  have HV := Lib.hid (show (⟨(headL n c body).toArray⟩ : ByteArray) = sn ++ ⟨#[32]⟩ ++ sc ++ ⟨#[32]⟩ ++ body by
    rw [← hsn, ← hsc]
    apply ByteArray.ext
    simp [headL, ByteArray.data_append])
  have HSN := Lib.hid hsn
  have HSC := Lib.hid hsc
  clear hsn hsc
  go_enter Tryd.func73, Tryd.ntmps73
  go_wp2_with fail
  obtain ⟨W2, hW2⟩ : ∃ W2, w.alloc (.cells #[.int .i64 n, .int .i64 c, .int .i64 k, .string body] 54) = W2 := ⟨_, rfl⟩
  rw [hW2] at b0 N0 ⊢
  clear hW2
  have c0 : World.cell? _ ⟨w.heap.size, 0, none⟩ = some (.int .i64 n) := b0.cell 0
  have c1 : World.cell? _ ⟨w.heap.size, 1, none⟩ = some (.int .i64 c) := b0.cell 1
  have c3 : World.cell? _ ⟨w.heap.size, 3, none⟩ = some (.string body) := b0.cell 3
  have l2 := b0.lt
  have l1 : (sn.size : Int) + 1 ≤ 9223372036854775807 := by omega
  have l3 : (sn.size : Int) + 1 + (sc.size : Int) ≤ 9223372036854775807 := by omega
  have l4 : (sn.size : Int) + 1 + (sc.size : Int) + 1 ≤ 9223372036854775807 := by omega
  have l5 : (sn.size : Int) + 1 + (sc.size : Int) + 1 + (body.size : Int) ≤ 9223372036854775807 := by omega
  have z1 : (({ data := (Lib.itoa n).toArray } : ByteArray).size : Int) ≤ 21 := by rw [size_of]; omega
  have z2 : (({ data := (Lib.itoa c).toArray } : ByteArray).size : Int) ≤ 21 := by rw [size_of]; omega
  (refine wp_region_new (by kernel_rfl) (by kernel_rfl) ?_; (repeat (go_big_quiet_step (((go_at_call 20; exact quiet_new (decimal_any _ _ (by omega) (by omega))))))); refine wpQuiet_nil ?_)
  intro w3 n3
  rw [HSN.out, HSC.out]
  go_wp2_with fail
  go_ret
  exact ⟨by rw [HV.out]; rfl, N0.trans n3⟩
end Go.Proofs.YtkahjpbnlclhhaaDoor

namespace Go.Proofs.YtkahjpbnlclhhaaDoor
open Go.RowKit Go.Sky

structure Blk where
  n : Int
  c : Int
  k : Int
  b : ByteArray
def encK (x : Blk) : List Value := [.int .i64 x.n, .int .i64 x.c, .int .i64 x.k, .string x.b]
def Blk.val (x : Blk) : Value := .agg #[.int .i64 x.n, .int .i64 x.c, .int .i64 x.k, .string x.b]
def okK (x : Blk) : Prop := -9223372036854775808 ≤ x.n ∧ x.n ≤ 9223372036854775807 ∧ -9223372036854775808 ≤ x.c ∧ x.c ≤ 9223372036854775807
def crcK (x : Blk) : Int := (crcS (headL x.n x.c x.b) : Int)
def soundK (x : Blk) : Bool := decide (0 ≤ x.n) && decide (x.n < x.c) && (x.k == crcK x)
theorem sound_cases (x : Blk) : (¬ 0 ≤ x.n ∧ soundK x = false) ∨ (0 ≤ x.n ∧ ¬ x.n < x.c ∧ soundK x = false) ∨ (0 ≤ x.n ∧ x.n < x.c ∧ soundK x = (x.k == crcK x)) := by
  unfold soundK
  by_cases h1 : 0 ≤ x.n
  · by_cases h2 : x.n < x.c
    · exact .inr (.inr ⟨h1, h2, by rw [decide_eq_true h1, decide_eq_true h2]; rfl⟩)
    · exact .inr (.inl ⟨h1, h2, by rw [decide_eq_true h1, decide_eq_false h2]; rfl⟩)
  · exact .inl ⟨h1, by rw [decide_eq_false h1]; rfl⟩
theorem checkIs {x : Blk} {v : Int} (h : crcK x = v) (hx : okK x) (hb : x.b.size ≤ 3000) (w : World) (ht : Tab w) :
    Calls Tryd.prog 55 #[.agg #[.int .i64 x.n, .int .i64 x.c, .int .i64 x.k, .string x.b]] w fun e w' => e = .returned (.int .i64 v) ∧ New w w' := h ▸ checkOf_any x.n x.c x.k x.b w hx.1 hx.2.1 hx.2.2.1 hx.2.2.2 hb ht
theorem refCrcIs {l : List UInt8} {v : Int} (h : (crcS l : Int) = v) (hl : l.length ≤ 4000) (w : World) : Calls Tryd.prog 72 #[.string ⟨l.toArray⟩] w fun e w' => e = .returned (.int .i64 v) ∧ New w w' := by
  subst h
  have := refCrc_any ⟨l.toArray⟩ w (by rw [size_of]; exact hl)
  rw [show (⟨l.toArray⟩ : ByteArray).data.toList = l from by simp, refCrc_eq] at this
  exact this

set_option maxRecDepth 100000 in
set_option maxHeartbeats 4000000 in
theorem isSound_any (x : Blk) (w : World) (hx : okK x) (hb : x.b.size ≤ 3000) (ht : Tab w) :
    Calls Tryd.prog 90 #[.agg #[.int .i64 x.n, .int .i64 x.c, .int .i64 x.k, .string x.b]] w fun e w' => e = .returned (.bool (soundK x)) ∧ New w w' := by
  have HT := Lib.hid ht
  have HX := Lib.hid hx
  clear ht hx
  have N0 := (New.refl w).alloc (.cells #[.int .i64 x.n, .int .i64 x.c, .int .i64 x.k, .string x.b] 54)
  have b0 := Bx.mk w 54 #[.int .i64 x.n, .int .i64 x.c, .int .i64 x.k, .string x.b]
  obtain ⟨v, hv⟩ : ∃ v, crcK x = v := ⟨_, rfl⟩
  have HV := Lib.hid hv
  have hc := sound_cases x
  rw [hv] at hc
  clear hv
  rcases hc with ⟨h1, h⟩ | ⟨h1, h2, h⟩ | ⟨h1, h2, h⟩
  all_goals
    have HS := Lib.hid h
    clear h
    go_enter Tryd.func90, Tryd.ntmps90
    go_wp2_with fail
    obtain ⟨W2, hW2⟩ : ∃ W2, w.alloc (.cells #[.int .i64 x.n, .int .i64 x.c, .int .i64 x.k, .string x.b] 54) = W2 := ⟨_, rfl⟩
    rw [hW2] at b0 N0 ⊢
    clear hW2
    have c0 : World.cell? _ ⟨w.heap.size, 0, none⟩ = some (.int .i64 x.n) := b0.cell 0
    have c1 : World.cell? _ ⟨w.heap.size, 1, none⟩ = some (.int .i64 x.c) := b0.cell 1
    have c2 : World.cell? _ ⟨w.heap.size, 2, none⟩ = some (.int .i64 x.k) := b0.cell 2
    have c3 : World.cell? _ ⟨w.heap.size, 3, none⟩ = some (.string x.b) := b0.cell 3
    have l2 := b0.lt
    have HT2 := Lib.hid (HT.out.keep N0)
  · have d1 : decide (0 ≤ x.n) = false := decide_eq_false (by omega)
    (refine wp_region_new (by kernel_rfl) (by kernel_rfl) ?_; (repeat (go_big_quiet_step ((fail)))); refine wpQuiet_nil ?_)
    intro w3 n3
    go_wp2_with fail
    go_ret
    exact ⟨by rw [HS.out]; rfl, N0.trans n3⟩
  · have d1 : decide (0 ≤ x.n) = true := decide_eq_true (by omega)
    have d2 : decide (x.n < x.c) = false := decide_eq_false (by omega)
    (refine wp_region_new (by kernel_rfl) (by kernel_rfl) ?_; (repeat (go_big_quiet_step ((fail)))); refine wpQuiet_nil ?_)
    intro w3 n3
    go_wp2_with fail
    go_ret
    exact ⟨by rw [HS.out]; rfl, N0.trans n3⟩
  · have d1 : decide (0 ≤ x.n) = true := decide_eq_true (by omega)
    have d2 : decide (x.n < x.c) = true := decide_eq_true (by omega)
    (refine wp_region_new (by kernel_rfl) (by kernel_rfl) ?_; (repeat (go_big_quiet_step (((go_at_call 55; exact quiet_new (checkIs HV.out HX.out (by omega) _ (HT2.out.keep (plus_new _ _)))))))); refine wpQuiet_nil ?_)
    intro w3 n3
    go_wp2_with fail
    go_ret
    exact ⟨by rw [HS.out]; rfl, N0.trans n3⟩

def bodyE (x : Blk) : Int := if 1000 < x.b.size then 8 else 0
theorem bodyErr_any (x : Blk) (w : World) : Calls Tryd.prog 62 #[.agg #[.int .i64 x.n, .int .i64 x.c, .int .i64 x.k, .string x.b]] w fun e w' => e = .returned (.int .i64 (bodyE x)) ∧ New w w' := by
  have N0 := (New.refl w).alloc (.cells #[.int .i64 x.n, .int .i64 x.c, .int .i64 x.k, .string x.b] 54)
  have HV := Lib.hid (show errU (decide ((x.b.size : Int) ≤ 1000)) 8 = bodyE x by
    unfold bodyE errU
    by_cases h : 1000 < x.b.size
    · rw [if_pos h, decide_eq_false (by omega)]; rfl
    · rw [if_neg h, decide_eq_true (by omega)]; rfl)
  go_enter Tryd.func62, Tryd.ntmps62
  go_wp2_with (go_at_call 42; refine (unless_any _ _ _).mono ?_; rintro e w' ⟨rfl, rfl⟩; rw [HV.out])
  go_ret
  exact ⟨rfl, N0⟩
theorem blockErr_any (x : Blk) (w : World) : Calls Tryd.prog 45 #[.agg #[.int .i64 x.n, .int .i64 x.c, .int .i64 x.k, .string x.b]] w fun e w' => e = .returned (.int .i64 (bodyE x)) ∧ New w w' := by
  have N0 := (New.refl w).alloc (.cells #[.int .i64 x.n, .int .i64 x.c, .int .i64 x.k, .string x.b] 54)
  by_cases h : 1000 < x.b.size
  · have HV := Lib.hid (show bodyE x = 8 by unfold bodyE; rw [if_pos h])
    have d1 : decide ((1000 : Int) < (x.b.size : Int)) = true := decide_eq_true (by omega)
    go_enter Tryd.func45, Tryd.ntmps45
    go_wp2_with fail
    go_ret
    exact ⟨by rw [HV.out]; rfl, N0⟩
  · have HV := Lib.hid (show bodyE x = 0 by unfold bodyE; rw [if_neg h])
    have d1 : decide ((1000 : Int) < (x.b.size : Int)) = false := decide_eq_false (by omega)
    go_enter Tryd.func45, Tryd.ntmps45
    go_wp2_with fail
    go_ret
    exact ⟨by rw [HV.out]; rfl, N0⟩
def soundE (x : Blk) : Bool := if bodyE x = 0 then soundK x else false
set_option maxRecDepth 100000 in
set_option maxHeartbeats 4000000 in
theorem refIsSound_any (x : Blk) (w : World) (hx : okK x) (hb : x.b.size ≤ 3000) :
    Calls Tryd.prog 46 #[.agg #[.int .i64 x.n, .int .i64 x.c, .int .i64 x.k, .string x.b]] w fun e w' => e = .returned (.bool (soundK x)) ∧ New w w' := by
  have HLL := Lib.hid (show (headL x.n x.c x.b).length ≤ 4000 by have := headL_len x.n x.c x.b hx.1 hx.2.1 hx.2.2.1 hx.2.2.2; omega)
  have HX := Lib.hid hx
  clear hx
  have N0 := (New.refl w).alloc (.cells #[.int .i64 x.n, .int .i64 x.c, .int .i64 x.k, .string x.b] 54)
  have b0 := Bx.mk w 54 #[.int .i64 x.n, .int .i64 x.c, .int .i64 x.k, .string x.b]
  obtain ⟨v, hv⟩ : ∃ v, crcK x = v := ⟨_, rfl⟩
  have HV := Lib.hid hv
  have hc := sound_cases x
  rw [hv] at hc
  clear hv
  obtain ⟨eq, heq⟩ : ∃ b, (x.k == v) = b := ⟨_, rfl⟩
  rw [heq] at hc
  rcases hc with ⟨h1, h⟩ | ⟨h1, h2, h⟩ | ⟨h1, h2, h⟩
  all_goals
    have HS := Lib.hid h
    clear h
    go_enter Tryd.func46, Tryd.ntmps46
    go_wp2_with fail
    obtain ⟨W2, hW2⟩ : ∃ W2, w.alloc (.cells #[.int .i64 x.n, .int .i64 x.c, .int .i64 x.k, .string x.b] 54) = W2 := ⟨_, rfl⟩
    rw [hW2] at b0 N0 ⊢
    clear hW2
    have c0 : World.cell? _ ⟨w.heap.size, 0, none⟩ = some (.int .i64 x.n) := b0.cell 0
    have c1 : World.cell? _ ⟨w.heap.size, 1, none⟩ = some (.int .i64 x.c) := b0.cell 1
    have c2 : World.cell? _ ⟨w.heap.size, 2, none⟩ = some (.int .i64 x.k) := b0.cell 2
    have c3 : World.cell? _ ⟨w.heap.size, 3, none⟩ = some (.string x.b) := b0.cell 3
    have l2 := b0.lt
    cases eq
    all_goals
      first
        | have d1 : decide (0 ≤ x.n) = false := decide_eq_false (by omega)
        | have d1 : decide (0 ≤ x.n) = true := decide_eq_true (by omega)
      try have d2 : decide (x.n < x.c) = false := decide_eq_false (by omega)
      try have d2 : decide (x.n < x.c) = true := decide_eq_true (by omega)
      (refine wp_region_new (by kernel_rfl) (by kernel_rfl) ?_; (repeat (go_big_quiet_step (((first | (go_at_call 73; exact quiet_new (head_any _ _ _ _ _ HX.out.1 HX.out.2.1 HX.out.2.2.1 HX.out.2.2.2 (by omega))) | (go_at_call 72; exact quiet_new (refCrcIs HV.out HLL.out _))))))); refine wpQuiet_nil ?_)
      intro w3 n3
      go_wp2_with fail
      go_ret
      exact ⟨by rw [HS.out]; rfl, N0.trans n3⟩
end Go.Proofs.YtkahjpbnlclhhaaDoor
