/- Plain functions: a packed series unpacked. No program. -/
import Derived.Test.YtjpkcmlepjbamaaW6
namespace Go.Sky
open Go.Proofs.Ytjpkcmlepjbamaa

def valU (ns : List Int) (i : Nat) : Int := ns.getD (2 * i) 0
def cntU (ns : List Int) (i : Nat) : Int := ns.getD (2 * i + 1) 0
/-- The first k counts are counts. -/
def cntsOk (ns : List Int) (k : Nat) : Bool := (List.range k).all fun i => inR (cntU ns i) 1 200
def sumU (ns : List Int) : Nat → Int
  | 0 => 0
  | k + 1 => sumU ns k + cntU ns k
/-- One number more: the series so far and its last number; nothing once a number was none. -/
def stepU (way : Int) (s : Option (List Int × Int)) (v : Int) : Option (List Int × Int) :=
  match s with
  | none => none
  | some (out, last) => if (way = 1 → inR v (-2000000000) 2000000000 = true) ∧ inR (if way = 1 then v + last else v) (-1000000000) 1000000000 = true
      then some (out ++ [if way = 1 then v + last else v], if way = 1 then v + last else v) else none
def expU (ns : List Int) : Nat → List Int
  | 0 => []
  | k + 1 => expU ns k ++ List.replicate (cntU ns k).toNat (valU ns k)
def runU (way : Int) (l : List Int) : Option (List Int × Int) := l.foldl (stepU way) (some ([], 0))
def unpE (way : Int) (ns : List Int) : Int := firstE [errU (inR way 0 2) 15, errU (decide ((ns.length : Int) ≤ 400)) 8, errU (decide (way = 0) || decide (ns.length % 2 = 0)) 10]
/-- The series and the error. -/
def unpS (way : Int) (ns : List Int) : List Int × Int :=
  if unpE way ns ≠ 0 then ([], unpE way ns)
  else if way = 0 then (if serE ns ≠ 0 then ([], serE ns) else (ns, 0))
  else if cntsOk ns (ns.length / 2) = false then ([], 2)
  else if 200 < sumU ns (ns.length / 2) then ([], 8)
  else match runU way (expU ns (ns.length / 2)) with
    | some r => (r.1, 0)
    | none => ([], 2)

theorem cntsOk_step (ns : List Int) (k : Nat) : cntsOk ns (k + 1) = (cntsOk ns k && inR (cntU ns k) 1 200) := by
  unfold cntsOk
  rw [List.range_succ, List.all_append]
  simp
theorem cntsOk_mono {ns : List Int} {k h : Nat} (hk : k ≤ h) (h1 : cntsOk ns k = false) : cntsOk ns h = false := by
  obtain ⟨m, rfl⟩ := Nat.exists_eq_add_of_le hk
  clear hk
  induction m with
  | zero => exact h1
  | succ m ih => rw [← Nat.add_assoc, cntsOk_step, ih]; rfl
theorem cntsOk_at {ns : List Int} {h i : Nat} (hi : i < h) (h1 : cntsOk ns h = true) : 1 ≤ cntU ns i ∧ cntU ns i ≤ 200 := by
  unfold cntsOk at h1
  rw [List.all_eq_true] at h1
  have := h1 i (List.mem_range.2 hi)
  unfold inR at this
  simpa using this
theorem sumU_bd {ns : List Int} {k : Nat} (h : cntsOk ns k = true) : (k : Int) ≤ sumU ns k ∧ sumU ns k ≤ 200 * (k : Int) := by
  induction k with
  | zero => simp [sumU]
  | succ k ih =>
    have h1 := cntsOk_at (Nat.lt_succ_self k) h
    rw [cntsOk_step, Bool.and_eq_true] at h
    have := ih h.1
    simp only [sumU]
    omega
theorem runU_app (way : Int) (a b : List Int) : runU way (a ++ b) = b.foldl (stepU way) (runU way a) := by unfold runU; rw [List.foldl_append]
theorem stepU_none (way : Int) (l : List Int) : l.foldl (stepU way) none = none := by
  induction l with
  | nil => rfl
  | cons a l ih => exact ih
theorem runU_prefix {way : Int} {a l : List Int} (h : a <+: l) (hn : runU way a = none) : runU way l = none := by
  obtain ⟨b, rfl⟩ := h
  rw [runU_app, hn, stepU_none]

/-! ### Over the indices met so far -/
def okL (ns : List Int) (l : List Nat) : Bool := l.all fun i => inR (cntU ns i) 1 200
def sumL (ns : List Int) (l : List Nat) : Int := l.foldl (fun s i => s + cntU ns i) 0
def runL (way : Int) (ns : List Int) (l : List Nat) : Option (List Int × Int) := l.foldl (fun s i => (List.replicate (cntU ns i).toNat (valU ns i)).foldl (stepU way) s) (some ([], 0))
theorem okL_range (ns : List Int) (k : Nat) : okL ns (List.range k) = cntsOk ns k := rfl
theorem okL_app (ns : List Int) (l : List Nat) (i : Nat) : okL ns (l ++ [i]) = (okL ns l && inR (cntU ns i) 1 200) := by unfold okL; rw [List.all_append]; simp
theorem okL_pre {ns : List Int} {l m : List Nat} (h : l <+: m) (hl : okL ns l = false) : okL ns m = false := by
  obtain ⟨r, rfl⟩ := h
  unfold okL at *
  rw [List.all_append, hl]; rfl
theorem sumL_app (ns : List Int) (l : List Nat) (i : Nat) : sumL ns (l ++ [i]) = sumL ns l + cntU ns i := by unfold sumL; rw [List.foldl_append]; rfl
theorem sumL_range (ns : List Int) (k : Nat) : sumL ns (List.range k) = sumU ns k := by
  induction k with
  | zero => rfl
  | succ k ih => rw [List.range_succ, sumL_app, ih]; rfl
theorem sumL_bd {ns : List Int} : ∀ {l : List Nat}, okL ns l = true → 0 ≤ sumL ns l ∧ sumL ns l ≤ 200 * (l.length : Int) := by
  intro l
  rw [← List.reverse_reverse l]
  generalize l.reverse = r
  intro h
  induction r with
  | nil => simp [sumL]
  | cons i r ih =>
    rw [List.reverse_cons] at h ⊢
    rw [okL_app, Bool.and_eq_true] at h
    have h1 := ih h.1
    have h2 := h.2
    unfold inR at h2
    have h2 := of_decide_eq_true h2
    rw [sumL_app]
    simp only [List.length_append, List.length_cons, List.length_nil]
    omega
theorem runL_app (way : Int) (ns : List Int) (l : List Nat) (i : Nat) : runL way ns (l ++ [i]) = (List.replicate (cntU ns i).toNat (valU ns i)).foldl (stepU way) (runL way ns l) := by unfold runL; rw [List.foldl_append]; rfl
theorem runL_range (way : Int) (ns : List Int) (k : Nat) : runL way ns (List.range k) = runU way (expU ns k) := by
  induction k with
  | zero => rfl
  | succ k ih => rw [List.range_succ, runL_app, ih]; simp only [expU]; rw [runU_app]
theorem runL_none {way : Int} {ns : List Int} {l m : List Nat} (h : l <+: m) (hl : runL way ns l = none) : runL way ns m = none := by
  obtain ⟨r, rfl⟩ := h
  unfold runL at *
  rw [List.foldl_append, hl]
  clear hl
  induction r with
  | nil => rfl
  | cons i r ih => rw [List.foldl_cons, stepU_none]; exact ih
end Go.Sky
