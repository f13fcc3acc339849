/- ScreenSteps: the walk of the law. -/
import Derived.Test.YtdpdchghafopfaaS28
set_option linter.unusedVariables false
set_option linter.unusedSimpArgs false
namespace Go.Proofs.Ytdpdchghafopfaa
open Go.RowKit
set_option maxRecDepth 20000 in
set_option maxHeartbeats 1000000 in
theorem slaw_long (l : List Sc) (eyes : List Pt) (b : Bx) (f t : Pt) (la ea : Option Addr) (c ce : Nat) (w : World) (hL : 100 < l.length ∨ 100 < eyes.length) :
    Calls Try.prog 4 #[.slice la l.length c, TripV ea eyes.length ce b f t] w fun e w' => e = .returned (.bool true) ∧ Below w.heap.size w w' := by
  have hlo := fun W => Long_any l eyes la ea c ce W
  have e : (decide (100 < l.length) || decide (100 < eyes.length)) = true := by simpa using hL
  rw [e] at hlo
  clear hL e
  go_enter Try.func4, Try.ntmps4
  go_wp2_with (first | (go_at_call 5; refine (hlo _).mono ?_; rintro e w' ⟨rfl, rfl⟩) | (go_at_call 6; refine (known_any _).mono ?_; rintro e w' ⟨rfl, hb1⟩))
  go_ret
  exact ⟨rfl, by (repeat (first | exact Below.refl _ _ | refine blw_alloc ?_ _ | refine blw_drew ?_ | refine blw_rg ?_ _ | refine blw_call (by assumption) ?_))⟩
set_option maxRecDepth 20000 in
set_option maxHeartbeats 1000000 in
theorem slaw_err (l : List Sc) (eyes : List Pt) (b : Bx) (f t : Pt) (la ea : Option Addr) (c ce : Nat) (w : World) (hL : ¬ (100 < l.length ∨ 100 < eyes.length)) (d : Int) (ok : Bool) (e0 : Int) (he : e0 ≠ 0) (pts : List Pt) (HB : BothS l eyes b f t la ea c ce (w.alloc (.cells (tripC ea eyes.length ce b f t) 29)) d ok e0 pts) :
    Calls Try.prog 4 #[.slice la l.length c, TripV ea eyes.length ce b f t] w fun e w' => e = .returned (.bool true) ∧ Below w.heap.size w w' := by
  have he2 : (e0 != 0) = true := by rw [bne_iff_ne]; exact he
  have hlo := fun W => Long_any l eyes la ea c ce W
  have e : (decide (100 < l.length) || decide (100 < eyes.length)) = false := by simpa using hL
  rw [e] at hlo
  clear hL e he
  obtain ⟨h1, h2, h3, h4, h5⟩ := HB
  clear h3 h4 h5
  go_enter Try.func4, Try.ntmps4
  go_wp2_with (first | (go_at_call 5; refine (hlo _).mono ?_; rintro e w' ⟨rfl, rfl⟩) | (go_at_call 6; refine (known_any _).mono ?_; rintro e w' ⟨rfl, hb1⟩) | (go_at_call 10; refine (h1 _ ?_).mono ?_; ((repeat (first | exact Below.refl _ _ | refine blw_alloc ?_ _ | refine blw_drew ?_ | refine blw_rg ?_ _ | refine blw_call (by assumption) ?_))); rintro e w' ⟨rfl, hb1⟩; have g0 := trip_at hb1 0 _ rfl; have g1 := trip_at hb1 1 _ rfl; have g2 := trip_at hb1 2 _ rfl; have g3 := trip_at hb1 3 _ rfl; have g4 := trip_at hb1 4 _ rfl; have g5 := trip_at hb1 5 _ rfl; have g6 := trip_at hb1 6 _ rfl; have g7 := trip_at hb1 7 _ rfl; have g8 := trip_at hb1 8 _ rfl) | (go_at_call 11; refine (h2 _ ?_).mono ?_; ((repeat (first | exact Below.refl _ _ | refine blw_alloc ?_ _ | refine blw_drew ?_ | refine blw_rg ?_ _ | refine blw_call (by assumption) ?_))); rintro e w' ⟨rfl, hb2⟩))
  go_ret
  exact ⟨rfl, by (repeat (first | exact Below.refl _ _ | refine blw_alloc ?_ _ | refine blw_drew ?_ | refine blw_rg ?_ _ | refine blw_call (by assumption) ?_))⟩
def eqT (t q : Pt) : Bool := q.1 == t.1 && (q.2 == t.2)
theorem any_takeS (t : Pt) (pts : List Pt) (k : Nat) (hk : k < pts.length) : (pts.take (k + 1)).any (eqT t) = ((pts.take k).any (eqT t) || eqT t pts[k]) := by
  rw [List.take_succ_eq_append_getElem hk, List.any_append]; simp
set_option maxRecDepth 20000 in
set_option maxHeartbeats 2000000 in
theorem slaw_ok (l : List Sc) (eyes : List Pt) (b : Bx) (f t : Pt) (la ea : Option Addr) (c ce : Nat) (w : World) (hL : ¬ (100 < l.length ∨ 100 < eyes.length)) (d : Int) (ok : Bool) (pts : List Pt) (HB : BothS l eyes b f t la ea c ce (w.alloc (.cells (tripC ea eyes.length ce b f t) 29)) d ok 0 pts) :
    Calls Try.prog 4 #[.slice la l.length c, TripV ea eyes.length ce b f t] w fun e w' => e = .returned (.bool true) ∧ Below w.heap.size w w' := by
  have hlo := fun W => Long_any l eyes la ea c ce W
  have e : (decide (100 < l.length) || decide (100 < eyes.length)) = false := by simpa using hL
  rw [e] at hlo
  clear hL e
  obtain ⟨h1, h2, h3, h4, h5⟩ := HB
  have h3' := h3 rfl
  have H4 := asd (h4 rfl)
  clear h3 h4
  go_enter Try.func4, Try.ntmps4
  go_wp2_with (first | (go_at_call 5; refine (hlo _).mono ?_; rintro e w' ⟨rfl, rfl⟩) | (go_at_call 10; refine (h1 _ ?_).mono ?_; ((repeat (first | exact Below.refl _ _ | refine blw_alloc ?_ _ | refine blw_drew ?_ | refine blw_rg ?_ _ | refine blw_call (by assumption) ?_))); rintro e w' ⟨rfl, hb1⟩; have g0 := trip_at hb1 0 _ rfl; have g1 := trip_at hb1 1 _ rfl; have g2 := trip_at hb1 2 _ rfl; have g3 := trip_at hb1 3 _ rfl; have g4 := trip_at hb1 4 _ rfl; have g5 := trip_at hb1 5 _ rfl; have g6 := trip_at hb1 6 _ rfl; have g7 := trip_at hb1 7 _ rfl; have g8 := trip_at hb1 8 _ rfl) | (go_at_call 11; refine (h2 _ ?_).mono ?_; ((repeat (first | exact Below.refl _ _ | refine blw_alloc ?_ _ | refine blw_drew ?_ | refine blw_rg ?_ _ | refine blw_call (by assumption) ?_))); rintro e w' ⟨rfl, hb2⟩; have hbW := blw_call hb2 hb1; have y0 := trip_at hbW 0 _ rfl; have y1 := trip_at hbW 1 _ rfl; have y2 := trip_at hbW 2 _ rfl; have y3 := trip_at hbW 3 _ rfl; have y4 := trip_at hbW 4 _ rfl; have y5 := trip_at hbW 5 _ rfl; have y6 := trip_at hbW 6 _ rfl) | (go_at_call 7; refine (h3' _ hbW).mono ?_; rintro e w' ⟨A, cc, rfl, hr, hb3⟩))
  have HBW := asd (blw_call hb3 hbW)
  have HW := asd (show Below w.heap.size w w' by exact blw_call HBW.out (by (repeat (first | exact Below.refl _ _ | refine blw_alloc ?_ _ | refine blw_drew ?_ | refine blw_rg ?_ _ | refine blw_call (by assumption) ?_))))
  clear g0 g1 g2 g3 g4 g5 g6 g7 g8 y0 y1 y2 y3 y4 y5 y6 hb1 hb2 hb3 hbW hlo h1 h2 h3'
  go_loopg [13, 14] pts.length (fun gg s13 s14 wr => ∃ k : Nat, k ≤ pts.length ∧ pts.length - k ≤ gg ∧ s14 = .int .i64 k ∧ s13 = .bool ((pts.take k).any (eqT t)) ∧ Aside (Below w'.heap.size w' wr))
  case atStart => exact ⟨0, Nat.zero_le _, by omega, rfl, rfl, Below.refl _ _⟩
  case round =>
    obtain ⟨k, hk, hg, rfl, rfl, HB⟩ := hrel
    by_cases hlt : k < pts.length
    · have hltz : (k : Int) < (pts.length : Int) := by omega
      have HT := Go.Lib.hid (any_takeS t pts k hlt)
      obtain ⟨b0, off, rfl, hb0, hc⟩ := (hr.below HB.out).at_ k hlt
      have q0 := rg_cell (hc 0 _ rfl)
      have q1 := rg_cell (hc 1 _ rfl)
      have t0 := rg_cell (trip_at (blw_call HB.out HBW.out) 7 _ rfl)
      have t1 := rg_cell (trip_at (blw_call HB.out HBW.out) 8 _ rfl)
      change ∀ p, (rg wr p).cell? ⟨b0, off + k * 2, none⟩ = _ at q0
      generalize pts[k] = x at q0 q1 HT
      clear hc hr
      generalize (pts.take k).any (eqT t) = cur at HT
      cases cur
      · have HT2 := Go.Lib.hid (show (pts.take (k + 1)).any (eqT t) = (x.1 == t.1 && (x.2 == t.2)) by rw [HT.out]; rfl)
        clear HT
        cases hx : (x.1 == t.1 && (x.2 == t.2))
        all_goals
          rw [hx] at HT2
          go_wp2_with fail
          ((with_reducible refine wp_region_rg (by kernel_rfl) (by kernel_rfl) ?_); (repeat (first | go_big_quiet_step (fail) | quiet_step (fail))); refine wpQuiet_nil ?_; intro _ hw'; obtain ⟨prg, hw''⟩ := hw'; subst hw'')
          have hbr := rg_below wr prg
          generalize rg wr prg = wr2 at hbr
          clear q0 q1 t0 t1
          go_wp2
          go_roundg (pts.length - (k + 1))
          case measure => omega
          case rel => exact ⟨k + 1, by omega, by omega, by go_num, by rw [HT2.out], blw_call hbr HB.out⟩
      · have HT2 := Go.Lib.hid (show (pts.take (k + 1)).any (eqT t) = true by rw [HT.out]; rfl)
        clear HT
        go_wp2_with fail
        ((with_reducible refine wp_region_rg (by kernel_rfl) (by kernel_rfl) ?_); (repeat (first | go_big_quiet_step (fail) | quiet_step (fail))); refine wpQuiet_nil ?_; intro _ hw'; obtain ⟨prg, hw''⟩ := hw'; subst hw'')
        have hbr := rg_below wr prg
        generalize rg wr prg = wr2 at hbr
        clear q0 q1 t0 t1
        go_wp2
        go_roundg (pts.length - (k + 1))
        case measure => omega
        case rel => exact ⟨k + 1, by omega, by omega, by go_num, by rw [HT2.out], blw_call hbr HB.out⟩
    · have hltz : ¬ (k : Int) < (pts.length : Int) := by omega
      have e0 : pts.take k = pts := List.take_of_length_le (by omega)
      rw [e0]
      have e1 : pts.any (eqT t) = ok := H4.out.symm
      rw [e1]
      clear hr e0 e1
      go_wp2_with (go_at_call 6; refine (known_any _).mono ?_; rintro e w' ⟨rfl, hb1⟩)
      go_ret
      have hw0 := blw_call HB.out HW.out
      exact ⟨rfl, by (repeat (first | exact Below.refl _ _ | refine blw_alloc ?_ _ | refine blw_drew ?_ | refine blw_rg ?_ _ | refine blw_call (by assumption) ?_))⟩
theorem slaw_any (l : List Sc) (eyes : List Pt) (b : Bx) (f t : Pt) (la ea : Option Addr) (c ce : Nat) (w : World) (H : l.length ≤ 100 → Rd w encS 4 la l) (HE : eyes.length ≤ 100 → Rd w encP 2 ea eyes) :
    Calls Try.prog 4 #[.slice la l.length c, TripV ea eyes.length ce b f t] w fun e w' => e = .returned (.bool true) ∧ Below w.heap.size w w' := by
  by_cases hL : 100 < l.length ∨ 100 < eyes.length
  · exact slaw_long l eyes b f t la ea c ce w hL
  · have hb : Below w.heap.size w (w.alloc (.cells (tripC ea eyes.length ce b f t) 29)) := by (repeat (first | exact Below.refl _ _ | refine blw_alloc ?_ _ | refine blw_drew ?_ | refine blw_rg ?_ _ | refine blw_call (by assumption) ?_))
    obtain ⟨d, ok, e0, pts, HB⟩ := bothS l eyes b f t la ea c ce (w.alloc (.cells (tripC ea eyes.length ce b f t) 29)) ((H (by omega)).below hb) ((HE (by omega)).below hb)
    by_cases he : e0 = 0
    · subst he
      exact slaw_ok l eyes b f t la ea c ce w hL d ok pts HB
    · exact slaw_err l eyes b f t la ea c ce w hL d ok e0 he pts HB
end Go.Proofs.Ytdpdchghafopfaa
