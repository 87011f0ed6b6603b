/- Contracts: slices.SortFunc at records. -/
import Derived.BigQuiet
import Derived.BigRegion
import Derived.Deep.AppendLies
import Derived.Deep.Draws
import Derived.Deep.Quiet
import Derived.Deep.QuietTactic
import Derived.Laws.BitsAllLaws
import Derived.Lib.Hide
import Derived.Shelf.SlSortCmp.Insertion
import Derived.Shelf.SlSortCmp.QuietGrown
import Derived.Shelf.SlSortCmp.WholeK
import Derived.StillTail
import Derived.Test.YtifppmbolpegpaaProg
import Derived.WalkKit
import Derived.WalkLawsBesides
import Derived.WalkSpells
import Derived.Test.YtifppmbolpegpaaC15M

namespace Go.Proofs.Ytifppmbolpegpaa
open Go.RowKit Go.Sky Go.Sort Go.Shelf

def sortRec_ren : Go.Shelf.Ren := ⟨fun | 6 => 48 | 15 => 85 | 14 => 84 | 28 => 115 | 29 => 116 | 20 => 107 | 21 => 108 | 22 => 109 | 23 => 110 | 24 => 111 | 25 => 112 | 26 => 113 | 27 => 114 | 46 => 125 | 47 => 126 | 48 => 127 | 49 => 128 | 50 => 129 | 57 => 135 | n => n, fun | 22 => 41 | 24 => 50 | 25 => 106 | 3 => 3 | 39 => 148 | 0 => 0 | 53 => 177 | 55 => 179 | 4 => 4 | 46 => 170 | 45 => 169 | 50 => 174 | 5 => 5 | 9 => 9 | 66 => 187 | 70 => 191 | 76 => 198 | 77 => 66 | n => n, fun | n => n⟩
theorem sortRec : Go.Proofs.SlLaysF0.n6 Try.prog sortRec_ren := {
  mixed := by kernel_rfl
  f6 := ⟨Try.f48.name, by decide, Try.func48.trans (congrArg some (by kernel_rfl))⟩
  f14 := ⟨Try.f84.name, by decide, Try.func84.trans (congrArg some (by kernel_rfl))⟩
  f15 := Try.func85.trans (congrArg some (by kernel_rfl))
  f20 := ⟨Try.f107.name, by decide, Try.func107.trans (congrArg some (by kernel_rfl))⟩
  f21 := ⟨Try.f108.name, by decide, Try.func108.trans (congrArg some (by kernel_rfl))⟩
  f22 := ⟨Try.f109.name, by decide, Try.func109.trans (congrArg some (by kernel_rfl))⟩
  f23 := ⟨Try.f110.name, by decide, Try.func110.trans (congrArg some (by kernel_rfl))⟩
  f24 := ⟨Try.f111.name, by decide, Try.func111.trans (congrArg some (by kernel_rfl))⟩
  f25 := ⟨Try.f112.name, by decide, Try.func112.trans (congrArg some (by kernel_rfl))⟩
  f26 := ⟨Try.f113.name, by decide, Try.func113.trans (congrArg some (by kernel_rfl))⟩
  f27 := ⟨Try.f114.name, by decide, Try.func114.trans (congrArg some (by kernel_rfl))⟩
  f28 := Try.func115.trans (congrArg some (by kernel_rfl))
  f29 := Try.func116.trans (congrArg some (by kernel_rfl))
  f46 := ⟨Try.f125.name, by decide, Try.func125.trans (congrArg some (by kernel_rfl))⟩
  f47 := Try.func126.trans (congrArg some (by kernel_rfl))
  f48 := Try.func127.trans (congrArg some (by kernel_rfl))
  f49 := ⟨Try.f128.name, by decide, Try.func128.trans (congrArg some (by kernel_rfl))⟩
  f50 := ⟨Try.f129.name, by decide, Try.func129.trans (congrArg some (by kernel_rfl))⟩
  f57 := ⟨Try.f135.name, by decide, Try.func135.trans (congrArg some (by kernel_rfl))⟩
  t0 := Try.underlying0
  a0 := Try.isAgg0
  z0 := Try.sizeOf0
  v0 := Try.zeroValue0
  t3 := Try.underlying3
  a3 := Try.isAgg3
  z3 := Try.sizeOf3
  v3 := Try.zeroValue3
  t4 := Try.underlying4
  a4 := Try.isAgg4
  z4 := Try.sizeOf4
  v4 := Try.zeroValue4
  t5 := Try.underlying5
  a5 := Try.isAgg5
  z5 := Try.sizeOf5
  v5 := Try.zeroValue5
  t9 := Try.underlying9
  a9 := Try.isAgg9
  z9 := Try.sizeOf9
  v9 := Try.zeroValue9
  t22 := Try.underlying41
  a22 := Try.isAgg41
  z22 := Try.sizeOf41
  v22 := Try.zeroValue41
  t25 := Try.underlying106
  a25 := Try.isAgg106
  z25 := Try.sizeOf106
  v25 := Try.zeroValue106
  t39 := Try.underlying148
  a39 := Try.isAgg148
  z39 := Try.sizeOf148
  v39 := Try.zeroValue148
  t45 := Try.underlying169
  a45 := Try.isAgg169
  z45 := Try.sizeOf169
  v45 := Try.zeroValue169
  t46 := Try.underlying170
  a46 := Try.isAgg170
  z46 := Try.sizeOf170
  v46 := Try.zeroValue170
  t50 := Try.underlying174
  a50 := Try.isAgg174
  z50 := Try.sizeOf174
  v50 := Try.zeroValue174
  t53 := Try.underlying177
  a53 := Try.isAgg177
  z53 := Try.sizeOf177
  v53 := Try.zeroValue177
  t55 := Try.underlying179
  a55 := Try.isAgg179
  z55 := Try.sizeOf179
  v55 := Try.zeroValue179
  t66 := Try.underlying187
  a66 := Try.isAgg187
  z66 := Try.sizeOf187
  v66 := Try.zeroValue187
  t70 := Try.underlying191
  a70 := Try.isAgg191
  z70 := Try.sizeOf191
  v70 := Try.zeroValue191
  t76 := Try.underlying198
  a76 := Try.isAgg198
  z76 := Try.sizeOf198
  v76 := Try.zeroValue198
  t77 := Try.underlying66
  a77 := Try.isAgg66
  z77 := Try.sizeOf66
  v77 := Try.zeroValue66 }
theorem recLays (blk off size : Nat) (w : World) : CmpLays Try.prog 49 #[] encRec 3 cmpR blk off size w :=
  fun _ _ _ _ x y => recClos x y _

theorem sortRec_any (blk off cap : Nat) (d : Array Sky.Rec) (w : World) (hH : HoldsK encRec 3 w blk off d) (hblk : blk < w.heap.size) (hsz : d.size < 4611686018427387904) :
    Calls Try.prog 48 #[.slice (some ⟨blk, off, none⟩) d.size cap, .func (.func 49) #[] #[]] w fun e w' =>
      e = .returned (.tuple #[]) ∧ ∃ d' n os, PermIn 0 d.size d d' ∧ SortedIn (ltOf cmpR) 0 d.size d' ∧ w' = sortWorldK encRec 3 w blk off n d' os := by
  have eg : ∀ args w, (callFunc 49 args).run Try.prog w = .ok (.enter 49 args) w := enters_of Try.func49 (by kernel_rfl) rfl
  exact AnyQ.slices_SortFunc sortRec 3 Try.isAgg50 Try.sizeOf50 encRec (fun _ => rfl) encRec_one cmpR swoR 49 #[] blk off cap d w eg (recLays blk off d.size w) hH hblk hsz
end Go.Proofs.Ytifppmbolpegpaa
