/- Contracts of functions that the statement reaches; the conditions stand in each theorem. -/
import Derived.Test.YtdpdchghafopfaaRows
import Derived.Test.YtdpdchghafopfaaS0
import Derived.Test.YtdpdchghafopfaaK
import Derived.WalkSpells
import Derived.WalkLawsBesides
set_option linter.unusedVariables false
set_option linter.unusedSimpArgs false
namespace Go.Proofs.Ytdpdchghafopfaa
open Go.RowKit
abbrev P2 (p : Pt) : Value := .agg #[.int .i64 p.1, .int .i64 p.2]

@[go_sem high] theorem eqPt (d : Nat) (w : World) (x0 y0 x1 y1 : Int) :
    (Op.equalIn (d + 2) 25 (.agg #[.int .i64 x0, .int .i64 x1]) (.agg #[.int .i64 y0, .int .i64 y1])).run Try.prog w = .ok (x0 == y0 && (x1 == y1)) w := by
  refine seq_of Try.underlying25 (by kernel_rfl) ?_
  refine seq_cons (by rfl) (by go_simp; rfl) (by go_simp; rfl) (by go_simp) ?_
  exact seq_last (by rfl) (by go_simp; rfl) (by go_simp; rfl) (by go_simp)

theorem within_any (n lo hi : Int) (w : World) :
    Calls Try.prog 54 #[.int .i64 n, .int .i64 lo, .int .i64 hi] w fun e w' => e = .returned (.bool (decide (lo ≤ n) && decide (n ≤ hi))) ∧ w = w' := by
  go_enter Try.func54, Try.ntmps54
  go_wp2
  all_goals (go_ret; refine ⟨rb ?_, rfl⟩; rw [Bool.eq_iff_iff]; simp only [Bool.and_eq_true, Bool.or_eq_true, Bool.not_eq_true', Bool.not_eq_false', decide_eq_true_eq, decide_eq_false_iff_not, beq_iff_eq, bne_iff_ne, Bool.and_eq_false_iff, Bool.or_eq_false_iff, Bool.false_eq_true, false_iff, true_iff, iff_true, iff_false, Bool.and_true, Bool.true_and, Bool.and_false, Bool.false_and, Bool.or_true, Bool.true_or, Bool.or_false, Bool.false_or, not_and, not_or, Bool.not_false, Bool.not_true, ]; omega)

set_option maxHeartbeats 400000 in
theorem refside_any (a b p : Pt) (w : World) :
    Calls Try.prog 73 #[P2 a, P2 b, P2 p] w fun e w' => e = .returned (.int .i64 (sideW a b p)) ∧ Below w.heap.size w w' := by
  go_enter Try.func73, Try.ntmps73
  go_wp2
  go_ret
  exact ⟨rfl, blw_alloc (blw_alloc (blw_alloc (Below.refl _ _) _) _) _⟩

set_option maxHeartbeats 400000 in
theorem isPoint_any (p : Pt) (w : World) :
    Calls Try.prog 69 #[P2 p] w fun e w' => e = .returned (.bool (inR p)) ∧ Below w.heap.size w w' := by
  go_enter Try.func69, Try.ntmps69
  go_wp2_with (go_at_call 54; refine (within_any _ _ _ _).mono ?_; rintro e w' ⟨rfl, rfl⟩)
  all_goals (go_ret; refine ⟨rb ?_, blw_alloc (Below.refl _ _) _⟩; unfold inR; rw [Bool.eq_iff_iff]; simp only [Bool.and_eq_true, Bool.or_eq_true, Bool.not_eq_true', Bool.not_eq_false', decide_eq_true_eq, decide_eq_false_iff_not, beq_iff_eq, bne_iff_ne, Bool.and_eq_false_iff, Bool.or_eq_false_iff, Bool.false_eq_true, false_iff, true_iff, iff_true, iff_false, Bool.and_true, Bool.true_and, Bool.and_false, Bool.false_and, Bool.or_true, Bool.true_or, Bool.or_false, Bool.false_or, not_and, not_or, Bool.not_false, Bool.not_true, ]; omega)

set_option maxHeartbeats 400000 in
theorem parted_any (a b c d : Int) (w : World) :
    Calls Try.prog 72 #[.int .i64 a, .int .i64 b, .int .i64 c, .int .i64 d] w fun e w' => e = .returned (.bool (partedB a b c d)) ∧ w = w' := by
  go_enter Try.func72, Try.ntmps72
  go_wp2
  all_goals (go_ret; refine ⟨rb ?_, rfl⟩; unfold partedB; rw [Bool.eq_iff_iff]; simp only [Bool.and_eq_true, Bool.or_eq_true, Bool.not_eq_true', Bool.not_eq_false', decide_eq_true_eq, decide_eq_false_iff_not, beq_iff_eq, bne_iff_ne, Bool.and_eq_false_iff, Bool.or_eq_false_iff, Bool.false_eq_true, false_iff, true_iff, iff_true, iff_false, Bool.and_true, Bool.true_and, Bool.and_false, Bool.false_and, Bool.or_true, Bool.true_or, Bool.or_false, Bool.false_or, not_and, not_or, Bool.not_false, Bool.not_true, ]; omega)

end Go.Proofs.Ytdpdchghafopfaa
