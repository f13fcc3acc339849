/- Contracts of functions that the statement reaches; the conditions stand in each theorem. -/
import Derived.Test.YtdpdchghafopfaaS6
set_option linter.unusedVariables false
set_option linter.unusedSimpArgs false
namespace Go.Proofs.Ytdpdchghafopfaa
open Go.RowKit
abbrev Bx := Pt × Pt
abbrev B4 (b : Bx) : Value := .agg #[.int .i64 b.1.1, .int .i64 b.1.2, .int .i64 b.2.1, .int .i64 b.2.2]
def lookE (l : List Sc) (eyes pts : List Pt) : Int := if valS l = 0 then (if 8 < eyes.length ∨ 16 < pts.length then 3 else if eyes.all inR && pts.all inR then 0 else 1) else valS l
def boxB (b : Bx) : Bool := (inR b.1 && inR b.2) && (decide (0 ≤ b.2.1 - b.1.1) && decide (b.2.1 - b.1.1 ≤ 20) && (decide (0 ≤ b.2.2 - b.1.2) && decide (b.2.2 - b.1.2 ≤ 20)))
def boxE (l : List Sc) (eyes pts : List Pt) (b : Bx) : Int := if lookE l eyes pts = 0 then (if boxB b then 0 else 1) else lookE l eyes pts
def inB (b : Bx) (p : Pt) : Bool := (decide (b.1.1 ≤ p.1) && decide (p.1 ≤ b.2.1)) && (decide (b.1.2 ≤ p.2) && decide (p.2 ≤ b.2.2))
def placeE (l : List Sc) (eyes pts : List Pt) (b : Bx) : Int := if boxE l eyes pts b = 0 then (if pts.all (inB b) then 0 else 4) else boxE l eyes pts b

set_option maxRecDepth 20000 in
set_option maxHeartbeats 400000 in
theorem looked_any (l : List Sc) (eyes pts : List Pt) (la ea pa : Option Addr) (c ce cp : Nat) (w : World) (H : Rd w encS 4 la l) (HE : Rd w encP 2 ea eyes) (HP : Rd w encP 2 pa pts) :
    Calls Try.prog 52 #[.slice la l.length c, .slice ea eyes.length ce, .slice pa pts.length cp] w fun e w' => e = .returned (.int .i64 (lookE l eyes pts)) ∧ Below w.heap.size w w' := by
  cases hv : (valS l != 0) <;> (by_cases h8 : (8 : Int) < eyes.length) <;> (by_cases h16 : (16 : Int) < pts.length) <;> cases hx : eyes.all inR <;> cases hy : pts.all inR
  all_goals
    have HX := asd (And.intro hv (And.intro h8 (And.intro h16 (And.intro hx hy))))
    go_enter Try.func52, Try.ntmps52
    go_wp2_with (first | (go_at_call 67; refine (refvalidate_any l la c _ H).mono ?_; rintro e w' ⟨rfl, hb1⟩) | (go_at_call_of 68 (Value.slice ea eyes.length ce); refine (arePoints_any eyes ea ce _ (HE.below ?_)).mono ?_; ((repeat (first | exact Below.refl _ _ | refine blw_alloc ?_ _ | refine blw_drew ?_ | refine blw_rg ?_ _ | refine blw_call (by assumption) ?_))); rintro e w' ⟨rfl, hb2⟩) | (go_at_call_of 68 (Value.slice pa pts.length cp); refine (arePoints_any pts pa cp _ (HP.below ?_)).mono ?_; ((repeat (first | exact Below.refl _ _ | refine blw_alloc ?_ _ | refine blw_drew ?_ | refine blw_rg ?_ _ | refine blw_call (by assumption) ?_))); rintro e w' ⟨rfl, hb3⟩))
  all_goals (go_ret; refine ⟨ri ?_, ?_⟩)
  all_goals first | ((repeat (first | exact Below.refl _ _ | refine blw_alloc ?_ _ | refine blw_drew ?_ | refine blw_rg ?_ _ | refine blw_call (by assumption) ?_)); done) | (have H2 := HX.out; clear HX; go_light; unfold lookE; grind) | trace_state
end Go.Proofs.Ytdpdchghafopfaa
