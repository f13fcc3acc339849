/- Contracts of functions that the statement reaches; the conditions stand in each theorem. -/
import Derived.Test.YtdpdchghafopfaaS13
import Derived.Test.YtdpdchghafopfaaS6
import Derived.Test.YtdpdchghafopfaaS7
set_option linter.unusedVariables false
set_option linter.unusedSimpArgs false
namespace Go.Proofs.Ytdpdchghafopfaa
open Go.RowKit
set_option maxRecDepth 20000 in
set_option maxHeartbeats 400000 in
theorem place1_any (p : Pt) (w : World) :
    Calls Try.prog 57 #[P2 p] w fun e w' => e = .returned (.bool (!inR p)) ∧ Below w.heap.size w w' := by
  go_enter Try.func57, Try.ntmps57
  go_wp2
  all_goals (go_ret; refine ⟨rb ?_, (by (repeat (first | exact Below.refl _ _ | refine blw_alloc ?_ _ | refine blw_drew ?_ | refine blw_rg ?_ _ | refine blw_call (by assumption) ?_)))⟩; go_light; unfold inR; grind)

theorem not_any_not {α : Type} (p : α → Bool) (xs : List α) : (!xs.any fun x => !p x) = xs.all p := by
  induction xs with
  | nil => rfl
  | cons x t ih => simp [List.any_cons, List.all_cons, ← ih]

set_option maxRecDepth 20000 in
set_option maxHeartbeats 400000 in
theorem place_any (xs : List Pt) (la : Option Addr) (c : Nat) (w : World) (H : Rd w encP 2 la xs) :
    Calls Try.prog 36 #[.slice la xs.length c] w fun e w' => e = .returned (.bool (xs.all inR)) ∧ Below w.heap.size w w' := by
  have hc := containsFuncP 57 #[] (enters_of Try.func57 (by kernel_rfl) rfl) (fun x => !inR x) xs la c w H (fun W x _ _ => place1_any x W)
  have hn := Go.Lib.hid (not_any_not inR xs)
  clear H
  generalize (xs.any fun x => !inR x) = bb at hc hn
  go_enter Try.func36, Try.ntmps36
  go_wp2_with (go_at_call 40; refine hc.mono ?_; rintro e w' ⟨rfl, hb⟩; clear hc)
  go_ret
  exact ⟨rb hn.out, hb⟩

def cmpI (x y : Int) : Int := if x < y then -1 else if y < x then 1 else 0
set_option maxRecDepth 20000 in
set_option maxHeartbeats 400000 in
theorem isnan_any (x : Int) (w : World) :
    Calls Try.prog 28 #[.int .i64 x] w fun e w' => e = .returned (.bool false) ∧ w = w' := by
  go_enter Try.func28, Try.ntmps28
  go_wp2
  all_goals (go_ret; exact ⟨rb (by simp), rfl⟩)
set_option maxRecDepth 20000 in
set_option maxHeartbeats 400000 in
theorem compare_any (x y : Int) (w : World) :
    Calls Try.prog 18 #[.int .i64 x, .int .i64 y] w fun e w' => e = .returned (.int .i64 (cmpI x y)) ∧ w = w' := by
  go_enter Try.func18, Try.ntmps18
  go_wp2_with (go_at_call 28; refine (isnan_any _ _).mono ?_; rintro e w' ⟨rfl, rfl⟩)
  all_goals (go_ret; refine ⟨ri ?_, rfl⟩; go_light; unfold cmpI; grind)

set_option maxRecDepth 20000 in
set_option maxHeartbeats 400000 in
theorem side_any (a b p : Pt) (w : World) :
    Calls Try.prog 59 #[P2 a, P2 b, P2 p] w fun e w' => e = .returned (.int .i64 (cmpI (sideW a b p) 0)) ∧ Below w.heap.size w w' := by
  go_enter Try.func59, Try.ntmps59
  go_wp2_with (go_at_call 18; refine (compare_any _ _ _).mono ?_; rintro e w' ⟨rfl, rfl⟩)
  go_ret
  exact ⟨rfl, (by (repeat (first | exact Below.refl _ _ | refine blw_alloc ?_ _ | refine blw_drew ?_ | refine blw_rg ?_ _ | refine blw_call (by assumption) ?_)))⟩

set_option maxRecDepth 20000 in
set_option maxHeartbeats 400000 in
theorem between_any (a b p : Pt) (w : World) :
    Calls Try.prog 60 #[P2 a, P2 b, P2 p] w fun e w' => e = .returned (.bool (btwB a b p)) ∧ Below w.heap.size w w' := by
  go_enter Try.func60, Try.ntmps60
  go_wp2
  all_goals (go_ret; refine ⟨rb ?_, (by (repeat (first | exact Below.refl _ _ | refine blw_alloc ?_ _ | refine blw_drew ?_ | refine blw_rg ?_ _ | refine blw_call (by assumption) ?_)))⟩; go_light; unfold btwB; grind)

set_option maxRecDepth 20000 in
set_option maxHeartbeats 400000 in
theorem inside_any (b : Bx) (p : Pt) (w : World) :
    Calls Try.prog 24 #[B4 b, P2 p] w fun e w' => e = .returned (.bool (inB b p)) ∧ Below w.heap.size w w' := by
  go_enter Try.func24, Try.ntmps24
  go_wp2
  all_goals (go_ret; refine ⟨rb ?_, (by (repeat (first | exact Below.refl _ _ | refine blw_alloc ?_ _ | refine blw_drew ?_ | refine blw_rg ?_ _ | refine blw_call (by assumption) ?_)))⟩; go_light; unfold inB; grind)
end Go.Proofs.Ytdpdchghafopfaa
