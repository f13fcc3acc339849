/- Points, screens and lines of sight: the plain functions that the walks speak of, and when two lines touch. -/
import Derived.WalkKit
set_option linter.unusedVariables false
set_option linter.unusedSimpArgs false
namespace Go.Proofs.Ytdpdchghafopfaa
open Go.RowKit
abbrev Pt := Int × Int
abbrev Sc := Pt × Pt
def inR (p : Pt) : Bool := decide (-100 ≤ p.1) && decide (p.1 ≤ 100) && (decide (-100 ≤ p.2) && decide (p.2 ≤ 100))
def sideZ (a b p : Pt) : Int := (b.1 - a.1) * (p.2 - a.2) - (b.2 - a.2) * (p.1 - a.1)
def sideW (a b p : Pt) : Int := wrap64 (wrap64 (wrap64 (b.1 - a.1) * wrap64 (p.2 - a.2)) - wrap64 (wrap64 (b.2 - a.2) * wrap64 (p.1 - a.1)))
theorem wrap64_id {x : Int} (h0 : -9223372036854775808 ≤ x) (h1 : x ≤ 9223372036854775807) : wrap64 x = x := by unfold wrap64; omega
def mxI (a b : Int) : Int := if a < b then b else a
def mnI (a b : Int) : Int := if b < a then b else a
theorem mul_bd {x y : Int} {m n : Nat} (h0 : -m ≤ x) (h1 : x ≤ m) (h2 : -n ≤ y) (h3 : y ≤ n) : -(m * n : Int) ≤ x * y ∧ x * y ≤ (m * n : Int) := by
  have e : (x * y).natAbs ≤ m * n := by
    rw [Int.natAbs_mul]; exact Nat.mul_le_mul (by omega) (by omega)
  have : ((m * n : Nat) : Int) = (m : Int) * n := by simp
  omega
theorem sideW_eq {a b p : Pt} (ha : inR a = true) (hb : inR b = true) (hp : inR p = true) : sideW a b p = sideZ a b p := by
  simp only [inR, Bool.and_eq_true, decide_eq_true_eq] at ha hb hp
  have m1 := @mul_bd (b.1 - a.1) (p.2 - a.2) 200 200 (by omega) (by omega) (by omega) (by omega)
  have m2 := @mul_bd (b.2 - a.2) (p.1 - a.1) 200 200 (by omega) (by omega) (by omega) (by omega)
  unfold sideW sideZ
  rw [wrap64_id (x := b.1 - a.1) (by omega) (by omega), wrap64_id (x := p.2 - a.2) (by omega) (by omega), wrap64_id (x := b.2 - a.2) (by omega) (by omega), wrap64_id (x := p.1 - a.1) (by omega) (by omega)]
  rw [wrap64_id (x := (b.1 - a.1) * (p.2 - a.2)) (by omega) (by omega), wrap64_id (x := (b.2 - a.2) * (p.1 - a.1)) (by omega) (by omega), wrap64_id (by omega) (by omega)]
theorem side_bd {a b p : Pt} (ha : inR a = true) (hb : inR b = true) (hp : inR p = true) : -((80000 : Nat) : Int) ≤ sideZ a b p ∧ sideZ a b p ≤ ((80000 : Nat) : Int) := by
  simp only [inR, Bool.and_eq_true, decide_eq_true_eq] at ha hb hp
  have m1 := @mul_bd (b.1 - a.1) (p.2 - a.2) 200 200 (by omega) (by omega) (by omega) (by omega)
  have m2 := @mul_bd (b.2 - a.2) (p.1 - a.1) 200 200 (by omega) (by omega) (by omega) (by omega)
  unfold sideZ
  omega
/-- Parted on an axis. -/
def partedB (a b c d : Int) : Bool := decide (max a b < min c d) || decide (max c d < min a b)
/-- The reference's touch. -/
def touchB (a b c d : Pt) : Bool := !(partedB a.1 b.1 c.1 d.1 || partedB a.2 b.2 c.2 d.2) && (decide (sideZ a b c * sideZ a b d ≤ 0) && decide (sideZ c d a * sideZ c d b ≤ 0))
def btwB (a b p : Pt) : Bool := decide (min a.1 b.1 ≤ p.1) && (decide (p.1 ≤ max a.1 b.1) && (decide (min a.2 b.2 ≤ p.2) && decide (p.2 ≤ max a.2 b.2)))
/-- The program's touch. -/
def touchP (a b c d : Pt) : Bool :=
  (sideZ a b c == 0 && btwB a b c || sideZ a b d == 0 && btwB a b d || sideZ c d a == 0 && btwB c d a || sideZ c d b == 0 && btwB c d b) ||
    (decide (Int.sign (sideZ a b c) * Int.sign (sideZ a b d) < 0) && decide (Int.sign (sideZ c d a) * Int.sign (sideZ c d b) < 0))
end Go.Proofs.Ytdpdchghafopfaa
