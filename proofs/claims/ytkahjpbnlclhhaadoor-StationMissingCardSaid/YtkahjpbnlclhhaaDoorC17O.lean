/- Contract: the decimal number of the base. -/
import Derived.BigQuiet
import Derived.Deep.AppendLies
import Derived.Deep.Draws
import Derived.Deep.Quiet
import Derived.Deep.QuietTactic
import Derived.Laws.IdiomStrings
import Derived.Lib.Hide
import Derived.Lib.ItoaLen
import Derived.Lib.ItoaNum
import Derived.StillTail
import Derived.Test.YtkahjpbnlclhhaaDoorProg
import Derived.WalkKit
import Derived.WalkLawsBesides
import Derived.WalkSpells
import Derived.Test.YtkahjpbnlclhhaaDoorC17J

namespace Go.Proofs.YtkahjpbnlclhhaaDoor
open Go.RowKit Go.Sky

/-- The digits of m, none for 0. -/
def digD (m : Nat) : List UInt8 := if m = 0 then [] else Lib.decDigits m
theorem digD_step {m : Nat} (h : m ≠ 0) : digD m = digD (m / 10) ++ [UInt8.ofNat (48 + m % 10)] := by
  unfold digD
  rw [if_neg h, Lib.decDigits]
  split
  · rename_i h10
    rw [if_pos (by omega), show m % 10 = m by omega]; rfl
  · rw [if_neg (by omega)]
theorem itoa_dig {n : Int} (h : n ≠ 0) : Lib.itoa n = (if n < 0 then [45] else []) ++ digD n.natAbs := by
  have hd : digD n.natAbs = Lib.decDigits n.natAbs := by unfold digD; rw [if_neg (by omega)]
  rw [hd]
  unfold Lib.itoa
  by_cases hn : n < 0
  · rw [if_pos hn, if_pos hn]; rfl
  · rw [if_neg hn, if_neg hn, show n.toNat = n.natAbs by omega]; rfl
theorem bytes_app (a b : List UInt8) : (⟨a.toArray⟩ : ByteArray) ++ ⟨b.toArray⟩ = ⟨(a ++ b).toArray⟩ := by
  apply ByteArray.ext
  simp [ByteArray.data_append]
theorem one_digit (w : World) (dd : Nat) (hd : dd < 10) :
    (convert 56 9 (.slice (some ⟨w.heap.size, 0, none⟩) 1 1)).run Tryd.prog (w.alloc (.cells #[.int .u8 (48 + (dd : Int))] 5)) = .ok (.string ⟨[UInt8.ofNat (48 + dd)].toArray⟩) (w.alloc (.cells #[.int .u8 (48 + (dd : Int))] 5)) := by
  refine run_convert_bytes_back (P := Tryd.prog) _ _ _ 5 ⟨w.heap.size, 0, none⟩ 1 [UInt8.ofNat (48 + dd)] Tryd.underlying56 Tryd.underlying5 Tryd.underlying9 ?_
  intro j hj
  have hj0 : j = 0 := by simpa using hj
  subst hj0
  have hv : ((UInt8.ofNat (48 + dd)).toNat : Int) = 48 + (dd : Int) := by
    rw [UInt8.toNat_ofNat']
    omega
  show World.cell? _ (Addr.add ⟨w.heap.size, 0, none⟩ 0) = some (.int .u8 ((UInt8.ofNat (48 + dd)).toNat : Int))
  rw [hv]
  simp [Addr.add]
theorem itoa_zero : Lib.itoa 0 = [48] := by
  unfold Lib.itoa
  rw [if_neg (by decide), Lib.decDigits]
  rfl

set_option maxRecDepth 100000 in
set_option maxHeartbeats 4000000 in
theorem decimal_any (n : Int) (w : World) (h0 : -9223372036854775808 ≤ n) (h1 : n ≤ 9223372036854775807) :
    Calls Tryd.prog 20 #[.int .i64 n] w fun e w' => e = .returned (.string ⟨(Lib.itoa n).toArray⟩) ∧ New w w' := by
  by_cases hz : n = 0
  · subst hz
    go_enter Tryd.func20, Tryd.ntmps20
    go_wp2
    go_ret
    exact ⟨by rw [itoa_zero]; rfl, New.refl _⟩
  have HI := Lib.hid (itoa_dig hz)
  have z0 : (n == 0) = false := beq_eq_false_iff_ne.2 hz
  have HD0 := Lib.hid (show digD n.natAbs = digD n.natAbs ++ [] by rw [List.append_nil])
  obtain ⟨sg, hsg⟩ : ∃ sg : List UInt8, (if n < 0 then [45] else []) = sg := ⟨_, rfl⟩
  have HSG := Lib.hid hsg
  rw [hsg] at HI
  have hcase : (n < 0 ∧ sg = [45]) ∨ (¬ n < 0 ∧ sg = []) := by
    by_cases h : n < 0
    · rw [if_pos h] at hsg; exact .inl ⟨h, hsg.symm⟩
    · rw [if_neg h] at hsg; exact .inr ⟨h, hsg.symm⟩
  obtain ⟨M, hM⟩ : ∃ M, n.natAbs = M := ⟨_, rfl⟩
  rw [hM] at HI HD0
  have HM := Lib.hid hM
  have HLEN := Lib.hid (show (digD M).length ≤ 21 by
    have h1 := Lib.itoa_length_le n h0 h1
    rw [HI.out, List.length_append] at h1
    omega)
  clear hsg
  go_enter Tryd.func20, Tryd.ntmps20
  rcases hcase with ⟨hn, rfl⟩ | ⟨hn, rfl⟩
  · have d1 : decide (n < 0) = true := decide_eq_true hn
    go_wp2_with fail
    go_loopw [0, 3, 5] (fun v0 v3 _ wr => ∃ (m : Int) (t : List UInt8), v0 = .int .i64 m ∧ v3 = .string ⟨t.toArray⟩ ∧ -9223372036854775808 ≤ m ∧ m ≤ 9223372036854775807 ∧ Hid (digD M = digD m.natAbs ++ t) ∧ New w wr) (fun v0 _ _ _ => (intOf v0).natAbs)
    case atStart => exact ⟨n, [], rfl, rfl, h0, h1, by unfold Hid; rw [hM]; exact HD0.out, New.refl _⟩
    case round =>
      clear HD0
      obtain ⟨m, t, rfl, rfl, m0, m1, HD, nw⟩ := hrel
      have htl : t.length ≤ 30 := by
        have := HLEN.out
        rw [HD.out, List.length_append] at this
        omega
      by_cases hmz : m = 0
      · subst hmz
        have HE := Lib.hid (show (Lib.itoa n) = [45] ++ t by rw [HI.out, HD.out]; rfl)
        go_wp2_with fail
        go_ret
        exact ⟨by rw [HE.out, ← bytes_app]; rfl, nw⟩
      · have z1 : (m != 0) = true := by simpa using hmz
        obtain ⟨t1, t2⟩ := tmod_bd m (b := 10) (by decide)
        have hab := Int.natAbs_tmod m 10
        have hqb := Int.natAbs_tdiv m 10
        obtain ⟨dd, hdd⟩ : ∃ dd : Nat, max (m.tmod 10) (-(m.tmod 10)) = (dd : Int) := ⟨(max (m.tmod 10) (-(m.tmod 10))).toNat, (Int.toNat_of_nonneg (by omega)).symm⟩
        have hd9 : dd < 10 := by omega
        have h10 : (10 : Int).natAbs = 10 := rfl
        rw [h10] at hab hqb
        have hdm : dd = m.natAbs % 10 := by rw [← hab]; omega
        have hq10 : (m.tdiv 10).natAbs = m.natAbs / 10 := hqb
        have hms : 10 * (m.tdiv 10).natAbs ≤ m.natAbs := by rw [hq10]; omega
        have q0 : -9223372036854775808 ≤ m.tdiv 10 := by omega
        have q1 : m.tdiv 10 ≤ 9223372036854775807 := by omega
        have hmm : (m.tdiv 10).natAbs < m.natAbs := by omega
        have HDM := Lib.hid (show digD M = digD (m.tdiv 10).natAbs ++ (UInt8.ofNat (48 + dd) :: t) by
          rw [HD.out, digD_step (m := m.natAbs) (by omega), hq10, ← hdm, List.append_assoc]; rfl)
        have HMS := Lib.hid hmm
        obtain ⟨ch, hch⟩ : ∃ ch, UInt8.ofNat (48 + dd) = ch := ⟨_, rfl⟩
        have HCH := Lib.hid (one_digit wr dd hd9)
        rw [hch] at HDM HCH
        have l63 : ([ch].toArray.size : Int) + (t.toArray.size : Int) ≤ 9223372036854775807 := by simp; omega
        clear hab hqb hdm hq10 hms hmm h10
        go_wp2_with (go_at_call 51; refine (Size_any _ _ (by omega) (by omega)).mono ?_; rintro e w' ⟨rfl, rfl⟩; rw [hdd])
        rw [HCH.out]
        go_wp2_with fail
        go_roundw
        case rel => exact ⟨m.tdiv 10, ch :: t, rfl, by rw [show (ch :: t) = [ch] ++ t from rfl, ← bytes_app], q0, q1, HDM, nw.alloc _⟩
        case measure => exact HMS.out
  · have d1 : decide (n < 0) = false := decide_eq_false hn
    go_wp2_with fail
    go_loopw [0, 3, 5] (fun v0 v3 _ wr => ∃ (m : Int) (t : List UInt8), v0 = .int .i64 m ∧ v3 = .string ⟨t.toArray⟩ ∧ -9223372036854775808 ≤ m ∧ m ≤ 9223372036854775807 ∧ Hid (digD M = digD m.natAbs ++ t) ∧ New w wr) (fun v0 _ _ _ => (intOf v0).natAbs)
    case atStart => exact ⟨n, [], rfl, rfl, h0, h1, by unfold Hid; rw [hM]; exact HD0.out, New.refl _⟩
    case round =>
      clear HD0
      obtain ⟨m, t, rfl, rfl, m0, m1, HD, nw⟩ := hrel
      have htl : t.length ≤ 30 := by
        have := HLEN.out
        rw [HD.out, List.length_append] at this
        omega
      by_cases hmz : m = 0
      · subst hmz
        have HE := Lib.hid (show (Lib.itoa n) = [] ++ t by rw [HI.out, HD.out]; rfl)
        go_wp2_with fail
        go_ret
        exact ⟨by rw [HE.out, ← bytes_app]; rfl, nw⟩
      · have z1 : (m != 0) = true := by simpa using hmz
        obtain ⟨t1, t2⟩ := tmod_bd m (b := 10) (by decide)
        have hab := Int.natAbs_tmod m 10
        have hqb := Int.natAbs_tdiv m 10
        obtain ⟨dd, hdd⟩ : ∃ dd : Nat, max (m.tmod 10) (-(m.tmod 10)) = (dd : Int) := ⟨(max (m.tmod 10) (-(m.tmod 10))).toNat, (Int.toNat_of_nonneg (by omega)).symm⟩
        have hd9 : dd < 10 := by omega
        have h10 : (10 : Int).natAbs = 10 := rfl
        rw [h10] at hab hqb
        have hdm : dd = m.natAbs % 10 := by rw [← hab]; omega
        have hq10 : (m.tdiv 10).natAbs = m.natAbs / 10 := hqb
        have hms : 10 * (m.tdiv 10).natAbs ≤ m.natAbs := by rw [hq10]; omega
        have q0 : -9223372036854775808 ≤ m.tdiv 10 := by omega
        have q1 : m.tdiv 10 ≤ 9223372036854775807 := by omega
        have hmm : (m.tdiv 10).natAbs < m.natAbs := by omega
        have HDM := Lib.hid (show digD M = digD (m.tdiv 10).natAbs ++ (UInt8.ofNat (48 + dd) :: t) by
          rw [HD.out, digD_step (m := m.natAbs) (by omega), hq10, ← hdm, List.append_assoc]; rfl)
        have HMS := Lib.hid hmm
        obtain ⟨ch, hch⟩ : ∃ ch, UInt8.ofNat (48 + dd) = ch := ⟨_, rfl⟩
        have HCH := Lib.hid (one_digit wr dd hd9)
        rw [hch] at HDM HCH
        have l63 : ([ch].toArray.size : Int) + (t.toArray.size : Int) ≤ 9223372036854775807 := by simp; omega
        clear hab hqb hdm hq10 hms hmm h10
        go_wp2_with (go_at_call 51; refine (Size_any _ _ (by omega) (by omega)).mono ?_; rintro e w' ⟨rfl, rfl⟩; rw [hdd])
        rw [HCH.out]
        go_wp2_with fail
        go_roundw
        case rel => exact ⟨m.tdiv 10, ch :: t, rfl, by rw [show (ch :: t) = [ch] ++ t from rfl, ← bytes_app], q0, q1, HDM, nw.alloc _⟩
        case measure => exact HMS.out
end Go.Proofs.YtkahjpbnlclhhaaDoor
