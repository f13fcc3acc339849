/- Contracts of functions that the statement reaches; the conditions stand in each theorem. -/
import Derived.Test.YtdpdchghafopfaaS1
set_option linter.unusedVariables false
set_option linter.unusedSimpArgs false
namespace Go.Proofs.Ytdpdchghafopfaa
open Go.RowKit
def encS (s : Sc) : List Value := [.int .i64 s.1.1, .int .i64 s.1.2, .int .i64 s.2.1, .int .i64 s.2.2]
def encP (p : Pt) : List Value := [.int .i64 p.1, .int .i64 p.2]
def encI (x : Int) : List Value := [.int .i64 x]
set_option maxHeartbeats 1000000 in
theorem reftouch_raw (a b c d : Pt) (w : World) (t : Bool) (h1 : decide (wrap64 (sideW a b c * sideW a b d) ≤ 0) = t) :
    Calls Try.prog 70 #[P2 a, P2 b, P2 c, P2 d] w fun e w' => e = .returned (.bool (!(partedB a.1 b.1 c.1 d.1 || partedB a.2 b.2 c.2 d.2) && (t && decide (wrap64 (sideW c d a * sideW c d b) ≤ 0)))) ∧ Below w.heap.size w w' := by
  cases t
  all_goals
    go_enter Try.func70, Try.ntmps70
    go_wp2_with (first | (go_at_call 72; refine (parted_any _ _ _ _ _).mono ?_; rintro e w' ⟨rfl, rfl⟩) | (((with_reducible refine wp_region_rg (by kernel_rfl) (by kernel_rfl) ?_); (repeat (first | go_big_quiet_step ((first | (go_at_call 73; exact rg_of (refside_any _ _ _ _)))) | quiet_step ((first | (go_at_call 73; exact rg_of (refside_any _ _ _ _)))))); refine wpQuiet_nil ?_; intro _ hw'; obtain ⟨prg, hw''⟩ := hw'; subst hw'')))
  all_goals (go_ret; refine ⟨rb (by simp [*]), ?_⟩; ((repeat (first | exact Below.refl _ _ | refine blw_alloc ?_ _ | refine blw_drew ?_ | refine blw_rg ?_ _ | refine blw_call (by assumption) ?_))))
theorem touchB_eq {a b c d : Pt} (ha : inR a = true) (hb : inR b = true) (hc : inR c = true) (hd : inR d = true) :
    (!(partedB a.1 b.1 c.1 d.1 || partedB a.2 b.2 c.2 d.2) && (decide (wrap64 (sideW a b c * sideW a b d) ≤ 0) && decide (wrap64 (sideW c d a * sideW c d b) ≤ 0))) = touchB a b c d := by
  have s1 := side_bd ha hb hc
  have s2 := side_bd ha hb hd
  have s3 := side_bd hc hd ha
  have s4 := side_bd hc hd hb
  have m1 := mul_bd s1.1 s1.2 s2.1 s2.2
  have m2 := mul_bd s3.1 s3.2 s4.1 s4.2
  rw [sideW_eq ha hb hc, sideW_eq ha hb hd, sideW_eq hc hd ha, sideW_eq hc hd hb]
  rw [wrap64_id (x := sideZ a b c * sideZ a b d) (by omega) (by omega), wrap64_id (x := sideZ c d a * sideZ c d b) (by omega) (by omega)]
  rfl
theorem reftouch_any (a b c d : Pt) (w : World) (ha : inR a = true) (hb : inR b = true) (hc : inR c = true) (hd : inR d = true) :
    Calls Try.prog 70 #[P2 a, P2 b, P2 c, P2 d] w fun e w' => e = .returned (.bool (touchB a b c d)) ∧ Below w.heap.size w w' :=
  (reftouch_raw a b c d w _ rfl).mono fun _ _ ⟨he, hb'⟩ => ⟨by rw [he, touchB_eq ha hb hc hd], hb'⟩

end Go.Proofs.Ytdpdchghafopfaa
