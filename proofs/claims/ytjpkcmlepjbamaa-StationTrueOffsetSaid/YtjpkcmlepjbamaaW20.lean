/- StationTrueOffset: its guard. -/
import Derived.Test.YtjpkcmlepjbamaaW19
namespace Go.Proofs.Ytjpkcmlepjbamaa
open Go.RowKit Go.Sky

/-- The guard of the law, in its order: which part fails first. -/
theorem guard_cases (n1 n2 n3 : Nat) (d ch off t : Int) :
    ((((n1 : Int) == 0) = true) ∨ (((n1 : Int) == 0) = false ∧ 20 < (n1 : Int)) ∨ (((n1 : Int) == 0) = false ∧ ¬ 20 < (n1 : Int) ∧ ((n2 : Int) != (n1 : Int)) = true) ∨
     (((n1 : Int) == 0) = false ∧ ¬ 20 < (n1 : Int) ∧ ((n2 : Int) != (n1 : Int)) = false ∧ ((n3 : Int) != (n1 : Int)) = true) ∨
     (((n1 : Int) == 0) = false ∧ ¬ 20 < (n1 : Int) ∧ ((n2 : Int) != (n1 : Int)) = false ∧ ((n3 : Int) != (n1 : Int)) = false ∧ inR d 0 1000 = false)) ∨
    (((n1 : Int) == 0) = false ∧ ¬ 20 < (n1 : Int) ∧ ((n2 : Int) != (n1 : Int)) = false ∧ ((n3 : Int) != (n1 : Int)) = false ∧ inR d 0 1000 = true ∧ 0 ≤ d ∧ d ≤ 1000 ∧
      (inR ch (-d) d = false ∨ (inR ch (-d) d = true ∧ inR off 0 1000000000 = false) ∨ (inR ch (-d) d = true ∧ inR off 0 1000000000 = true ∧ inR t 0 1000000 = false))) ∨
    (n1 = n2 ∧ n1 = n3 ∧ 1 ≤ n1 ∧ n1 ≤ 20 ∧ inR d 0 1000 = true ∧ 0 ≤ d ∧ d ≤ 1000 ∧ inR ch (-d) d = true ∧ -d ≤ ch ∧ ch ≤ d ∧ inR off 0 1000000000 = true ∧ 0 ≤ off ∧ off ≤ 1000000000 ∧ inR t 0 1000000 = true ∧ 0 ≤ t ∧ t ≤ 1000000) := by
  simp only [inR, decide_eq_true_eq, decide_eq_false_iff_not, beq_iff_eq, beq_eq_false_iff_ne, bne_iff_ne, bne_eq_false_iff_eq, ne_eq]
  omega

def GuardOut (n1 n2 n3 : Nat) (d ch off t : Int) : Prop :=
    ((((n1 : Int) == 0) = true) ∨ (((n1 : Int) == 0) = false ∧ 20 < (n1 : Int)) ∨ (((n1 : Int) == 0) = false ∧ ¬ 20 < (n1 : Int) ∧ ((n2 : Int) != (n1 : Int)) = true) ∨
     (((n1 : Int) == 0) = false ∧ ¬ 20 < (n1 : Int) ∧ ((n2 : Int) != (n1 : Int)) = false ∧ ((n3 : Int) != (n1 : Int)) = true) ∨
     (((n1 : Int) == 0) = false ∧ ¬ 20 < (n1 : Int) ∧ ((n2 : Int) != (n1 : Int)) = false ∧ ((n3 : Int) != (n1 : Int)) = false ∧ inR d 0 1000 = false)) ∨
    (((n1 : Int) == 0) = false ∧ ¬ 20 < (n1 : Int) ∧ ((n2 : Int) != (n1 : Int)) = false ∧ ((n3 : Int) != (n1 : Int)) = false ∧ inR d 0 1000 = true ∧ 0 ≤ d ∧ d ≤ 1000 ∧
      (inR ch (-d) d = false ∨ (inR ch (-d) d = true ∧ inR off 0 1000000000 = false) ∨ (inR ch (-d) d = true ∧ inR off 0 1000000000 = true ∧ inR t 0 1000000 = false)))

set_option maxRecDepth 100000 in
set_option maxHeartbeats 8000000 in
theorem trueOff_out (off ch d t : Int) (A1 A2 A3 : Option Addr) (n1 n2 n3 c1 c2 c3 : Nat) (w : World) (hg : GuardOut n1 n2 n3 d ch off t) :
    Calls Try.prog 4 #[.agg #[.int .i64 off, .int .i64 ch, .slice A1 n1 c1, .slice A2 n2 c2, .slice A3 n3 c3], .int .i64 d, .int .i64 t] w fun e w' => e = .returned (.bool true) ∧ New w w' := by
  rcases hg with (g1 | ⟨g1, g2⟩ | ⟨g1, g2, g3⟩ | ⟨g1, g2, g3, g4⟩ | ⟨g1, g2, g3, g4, g5⟩) | ⟨g1, g2, g3, g4, g5, d0, d1, (g6 | ⟨g6, g7⟩ | ⟨g6, g7, g8⟩)⟩
  iterate 8
    · go_enter Try.func4, Try.ntmps4
      go_wp2_with fail
      refine (awake_any _).mono ?_
      rintro e w1 ⟨rfl, nw⟩
      have hbx := (Bx.mk w 32 #[.int .i64 off, .int .i64 ch, .slice A1 n1 c1, .slice A2 n2 c2, .slice A3 n3 c3]).keep nw
      have p0 : w1.cell? _ = some _ := hbx.cell 0
      have p1 : w1.cell? _ = some _ := hbx.cell 1
      have p2 : w1.cell? _ = some _ := hbx.cell 2
      have p3 : w1.cell? _ = some _ := hbx.cell 3
      have p4 : w1.cell? _ = some _ := hbx.cell 4
      have hlt0 := hbx.lt
      have hN := hn2of nw
      clear nw hbx
      go_wp2_with (go_at_call 20; refine (bWithin_any _ _ _ _).mono ?_; rintro e w' ⟨rfl, rfl⟩)
      go_ret
      exact ⟨rfl, hN⟩
end Go.Proofs.Ytjpkcmlepjbamaa
