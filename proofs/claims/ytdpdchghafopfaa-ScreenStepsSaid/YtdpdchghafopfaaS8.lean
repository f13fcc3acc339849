/- Contracts of functions that the statement reaches; the conditions stand in each theorem. -/
import Derived.Test.YtdpdchghafopfaaS7
set_option linter.unusedVariables false
set_option linter.unusedSimpArgs false
namespace Go.Proofs.Ytdpdchghafopfaa
open Go.RowKit
set_option maxRecDepth 20000 in
set_option maxHeartbeats 400000 in
theorem isBox_any (b : Bx) (w : World) :
    Calls Try.prog 53 #[B4 b] w fun e w' => e = .returned (.bool (boxB b)) ∧ Below w.heap.size w w' := by
  have hi1 := fun W => isPoint_any b.1 W
  have hi2 := fun W => isPoint_any b.2 W
  cases h1 : inR b.1
  · have HF := Go.Lib.hid (show false = boxB b by unfold boxB; rw [h1]; rfl)
    rw [h1] at hi1
    go_enter Try.func53, Try.ntmps53
    go_wp2_with (go_at_call 69; (with_reducible refine (hi1 _).mono ?_); rintro e w' ⟨rfl, hb⟩; (first | (obtain ⟨pg, rfl⟩ := rg_next hb) | (obtain ⟨pg, rfl⟩ := rg_mk hb)))
    go_ret
    exact ⟨rb HF.out, (by (repeat (first | exact Below.refl _ _ | refine blw_alloc ?_ _ | refine blw_drew ?_ | refine blw_rg ?_ _ | refine blw_call (by assumption) ?_)))⟩
  cases h2 : inR b.2
  · have HF := Go.Lib.hid (show false = boxB b by unfold boxB; rw [h1, h2]; rfl)
    rw [h1] at hi1
    rw [h2] at hi2
    go_enter Try.func53, Try.ntmps53
    go_wp2_with (go_at_call 69; (first | (with_reducible refine (hi1 _).mono ?_) | (with_reducible refine (hi2 _).mono ?_)); rintro e w' ⟨rfl, hb⟩; (first | (obtain ⟨pg, rfl⟩ := rg_next hb) | (obtain ⟨pg, rfl⟩ := rg_mk hb)))
    go_ret
    exact ⟨rb HF.out, (by (repeat (first | exact Below.refl _ _ | refine blw_alloc ?_ _ | refine blw_drew ?_ | refine blw_rg ?_ _ | refine blw_call (by assumption) ?_)))⟩
  have B1 := h1
  have B2 := h2
  simp only [inR, Bool.and_eq_true, decide_eq_true_eq] at B1 B2
  have w1 : wrap64 (b.2.1 - b.1.1) = b.2.1 - b.1.1 := wrap64_id (by omega) (by omega)
  have w2 : wrap64 (b.2.2 - b.1.2) = b.2.2 - b.1.2 := wrap64_id (by omega) (by omega)
  have hw1 := fun W => within_any (b.2.1 - b.1.1) 0 20 W
  have hw2 := fun W => within_any (b.2.2 - b.1.2) 0 20 W
  have HF := Go.Lib.hid (show boxB b = (decide (0 ≤ b.2.1 - b.1.1) && decide (b.2.1 - b.1.1 ≤ 20) && (decide (0 ≤ b.2.2 - b.1.2) && decide (b.2.2 - b.1.2 ≤ 20))) by unfold boxB; rw [h1, h2]; rfl)
  rw [h1] at hi1
  rw [h2] at hi2
  clear h1 h2 w1 w2
  obtain ⟨⟨A1, A2⟩, A3, A4⟩ := B1
  obtain ⟨⟨A5, A6⟩, A7, A8⟩ := B2
  generalize hx : (decide (0 ≤ b.2.1 - b.1.1) && decide (b.2.1 - b.1.1 ≤ 20)) = x at hw1 HF
  clear hx
  cases x
  all_goals
    go_enter Try.func53, Try.ntmps53
    go_wp2_with (first | (go_at_call 69; (first | (with_reducible refine (hi1 _).mono ?_) | (with_reducible refine (hi2 _).mono ?_)); rintro e w' ⟨rfl, hb⟩; (first | (obtain ⟨pg, rfl⟩ := rg_next hb) | (obtain ⟨pg, rfl⟩ := rg_mk hb))) | (go_at_call 54; (first | (with_reducible refine (hw1 _).mono ?_) | (with_reducible refine (hw2 _).mono ?_)); rintro e w' ⟨rfl, rfl⟩))
    go_ret
    exact ⟨rb (by rw [HF.out]; simp), (by (repeat (first | exact Below.refl _ _ | refine blw_alloc ?_ _ | refine blw_drew ?_ | refine blw_rg ?_ _ | refine blw_call (by assumption) ?_)))⟩

set_option maxRecDepth 20000 in
set_option maxHeartbeats 400000 in
theorem boxed_any (l : List Sc) (eyes pts : List Pt) (b : Bx) (la ea pa : Option Addr) (c ce cp : Nat) (w : World) (H : Rd w encS 4 la l) (HE : Rd w encP 2 ea eyes) (HP : Rd w encP 2 pa pts) :
    Calls Try.prog 29 #[.slice la l.length c, .slice ea eyes.length ce, .slice pa pts.length cp, B4 b] w fun e w' => e = .returned (.int .i64 (boxE l eyes pts b)) ∧ Below w.heap.size w w' := by
  cases hv : (lookE l eyes pts != 0) <;> cases hx : boxB b
  all_goals
    have HX := asd (And.intro hv hx)
    go_enter Try.func29, Try.ntmps29
    go_wp2_with (first | (go_at_call 52; refine (looked_any l eyes pts la ea pa c ce cp _ (H.below ?_) (HE.below ?_) (HP.below ?_)).mono ?_; ((repeat (first | exact Below.refl _ _ | refine blw_alloc ?_ _ | refine blw_drew ?_ | refine blw_rg ?_ _ | refine blw_call (by assumption) ?_))); ((repeat (first | exact Below.refl _ _ | refine blw_alloc ?_ _ | refine blw_drew ?_ | refine blw_rg ?_ _ | refine blw_call (by assumption) ?_))); ((repeat (first | exact Below.refl _ _ | refine blw_alloc ?_ _ | refine blw_drew ?_ | refine blw_rg ?_ _ | refine blw_call (by assumption) ?_))); rintro e w' ⟨rfl, hb1⟩; (first | (obtain ⟨pg, rfl⟩ := rg_next hb1) | (obtain ⟨pg, rfl⟩ := rg_mk hb1))) | (go_at_call 53; refine (isBox_any b _).mono ?_; rintro e w' ⟨rfl, hb2⟩))
  all_goals (go_ret; refine ⟨ri ?_, ?_⟩)
  all_goals first | ((repeat (first | exact Below.refl _ _ | refine blw_alloc ?_ _ | refine blw_drew ?_ | refine blw_rg ?_ _ | refine blw_call (by assumption) ?_)); done) | (have H2 := HX.out; clear HX; go_light; unfold boxE; grind)

set_option maxRecDepth 20000 in
set_option maxHeartbeats 400000 in
theorem refin_any (b : Bx) (p : Pt) (w : World) :
    Calls Try.prog 30 #[B4 b, P2 p] w fun e w' => e = .returned (.bool (inB b p)) ∧ Below w.heap.size w w' := by
  have hw1 := fun W => within_any p.1 b.1.1 b.2.1 W
  have hw2 := fun W => within_any p.2 b.1.2 b.2.2 W
  have HF := Go.Lib.hid (show inB b p = ((decide (b.1.1 ≤ p.1) && decide (p.1 ≤ b.2.1)) && (decide (b.1.2 ≤ p.2) && decide (p.2 ≤ b.2.2))) from rfl)
  generalize hx : (decide (b.1.1 ≤ p.1) && decide (p.1 ≤ b.2.1)) = x at hw1 HF
  clear hx
  cases x
  all_goals
    go_enter Try.func30, Try.ntmps30
    go_wp2_with (go_at_call 54; (first | (with_reducible refine (hw1 _).mono ?_) | (with_reducible refine (hw2 _).mono ?_)); rintro e w' ⟨rfl, rfl⟩)
    go_ret
    exact ⟨rb (by rw [HF.out]; simp), (by (repeat (first | exact Below.refl _ _ | refine blw_alloc ?_ _ | refine blw_drew ?_ | refine blw_rg ?_ _ | refine blw_call (by assumption) ?_)))⟩

set_option maxRecDepth 20000 in
set_option maxHeartbeats 400000 in
theorem placed_any (l : List Sc) (eyes pts : List Pt) (b : Bx) (la ea pa : Option Addr) (c ce cp : Nat) (w : World) (H : Rd w encS 4 la l) (HE : Rd w encP 2 ea eyes) (HP : Rd w encP 2 pa pts) :
    Calls Try.prog 19 #[.slice la l.length c, .slice ea eyes.length ce, B4 b, .slice pa pts.length cp] w fun e w' => e = .returned (.int .i64 (placeE l eyes pts b)) ∧ Below w.heap.size w w' := by
  cases hv : (boxE l eyes pts b != 0)
  case true =>
    have HX := asd hv
    go_enter Try.func19, Try.ntmps19
    go_wp2_with (go_at_call 29; refine (boxed_any l eyes pts b la ea pa c ce cp _ (H.below ?_) (HE.below ?_) (HP.below ?_)).mono ?_; ((repeat (first | exact Below.refl _ _ | refine blw_alloc ?_ _ | refine blw_drew ?_ | refine blw_rg ?_ _ | refine blw_call (by assumption) ?_))); ((repeat (first | exact Below.refl _ _ | refine blw_alloc ?_ _ | refine blw_drew ?_ | refine blw_rg ?_ _ | refine blw_call (by assumption) ?_))); ((repeat (first | exact Below.refl _ _ | refine blw_alloc ?_ _ | refine blw_drew ?_ | refine blw_rg ?_ _ | refine blw_call (by assumption) ?_))); rintro e w' ⟨rfl, hb1⟩; (first | (obtain ⟨pg, rfl⟩ := rg_next hb1) | (obtain ⟨pg, rfl⟩ := rg_mk hb1)))
    go_ret
    refine ⟨ri ?_, (by (repeat (first | exact Below.refl _ _ | refine blw_alloc ?_ _ | refine blw_drew ?_ | refine blw_rg ?_ _ | refine blw_call (by assumption) ?_)))⟩
    have H2 := HX.out; clear HX; go_light; unfold placeE; grind
  have HV := Go.Lib.hid (show placeE l eyes pts b = if pts.all (inB b) then 0 else 4 by unfold placeE; rw [if_pos (by simpa using hv)])
  go_enter Try.func19, Try.ntmps19
  go_wp2_with (go_at_call 29; refine (boxed_any l eyes pts b la ea pa c ce cp _ (H.below ?_) (HE.below ?_) (HP.below ?_)).mono ?_; ((repeat (first | exact Below.refl _ _ | refine blw_alloc ?_ _ | refine blw_drew ?_ | refine blw_rg ?_ _ | refine blw_call (by assumption) ?_))); ((repeat (first | exact Below.refl _ _ | refine blw_alloc ?_ _ | refine blw_drew ?_ | refine blw_rg ?_ _ | refine blw_call (by assumption) ?_))); ((repeat (first | exact Below.refl _ _ | refine blw_alloc ?_ _ | refine blw_drew ?_ | refine blw_rg ?_ _ | refine blw_call (by assumption) ?_))); rintro e w' ⟨rfl, hb1⟩; (first | (obtain ⟨pg, rfl⟩ := rg_next hb1) | (obtain ⟨pg, rfl⟩ := rg_mk hb1)))
  go_loopg [10] pts.length (fun gg s8 wr => ∃ k : Nat, k ≤ pts.length ∧ pts.length - k ≤ gg ∧ s8 = .int .i64 k ∧ Aside ((pts.take k).all (inB b) = true) ∧ Aside (Below (w.alloc (.cells #[.int .i64 b.1.1, .int .i64 b.1.2, .int .i64 b.2.1, .int .i64 b.2.2] 27)).heap.size (w.alloc (.cells #[.int .i64 b.1.1, .int .i64 b.1.2, .int .i64 b.2.1, .int .i64 b.2.2] 27)) wr))
  case atStart => exact ⟨0, Nat.zero_le _, by omega, rfl, rfl, rg_below _ _⟩
  case round =>
    obtain ⟨k, hk, hg, rfl, HA, HB⟩ := hrel
    have big := HP.big
    have HB2 : Aside (Below w.heap.size w wr) := blw_call HB.out (blw_alloc (Below.refl _ _) _)
    by_cases hlt : k < pts.length
    · have hltz : (k : Int) < (pts.length : Int) := by omega
      have HR : Rd wr encP 2 pa pts := HP.below HB2.out
      obtain ⟨b0, off, rfl, hb0, hc⟩ := HR.at_ k hlt
      have q0 := rg_cell (hc 0 _ rfl)
      have q1 := rg_cell (hc 1 _ rfl)
      have HT := Go.Lib.hid (all_take (inB b) pts k hlt)
      have HF := Go.Lib.hid (all_false (inB b) pts k hlt)
      generalize pts[k] = x at q0 q1 HT HF
      change ∀ p, (rg wr p).cell? ⟨b0, off + k * 2, none⟩ = _ at q0
      have bx : ∀ i v, (#[Value.int .i64 b.1.1, .int .i64 b.1.2, .int .i64 b.2.1, .int .i64 b.2.2])[i]? = some v → wr.cell? ⟨w.heap.size, i, none⟩ = some v := fun i v hv => by
        rw [HB.out.cell (p := ⟨w.heap.size, i, none⟩) (by simp)]
        simpa using hv
      have c0 := fun q => rg_cell (bx 0 _ rfl) q
      have c1 := fun q => rg_cell (bx 1 _ rfl) q
      have c2 := fun q => rg_cell (bx 2 _ rfl) q
      have c3 := fun q => rg_cell (bx 3 _ rfl) q
      clear bx hc HR H HE HP
      cases hx : inB b x
      all_goals
        have hcall := fun q => refin_any b x (rg wr q)
        rw [hx] at hcall
        go_wp2_with fail
        ((with_reducible refine wp_region_rg (by kernel_rfl) (by kernel_rfl) ?_); (repeat (first | go_big_quiet_step ((go_at_call 30; with_reducible exact rg_of (hcall _))) | quiet_step ((go_at_call 30; with_reducible exact rg_of (hcall _))))); refine wpQuiet_nil ?_; intro _ hw'; obtain ⟨prg, hw''⟩ := hw'; subst hw'')
        have hbr := rg_below wr prg
        generalize rg wr prg = wr2 at hbr
        clear q0 q1 c0 c1 c2 c3 hcall
        go_wp2
      · go_ret
        exact ⟨ri (by rw [HV.out, HF.out hx]; rfl), blw_call hbr HB2.out⟩
      · go_roundg (pts.length - (k + 1))
        case measure => omega
        case rel => exact ⟨k + 1, by omega, by omega, by go_num, (by rw [HT.out, HA.out, hx]; rfl), blw_call hbr HB.out⟩
    · have hltz : ¬ (k : Int) < (pts.length : Int) := by omega
      have e0 : pts.take k = pts := List.take_of_length_le (by omega)
      rw [e0] at HA
      go_wp2
      go_ret
      exact ⟨ri (by rw [HV.out, HA.out]; rfl), HB2.out⟩
end Go.Proofs.Ytdpdchghafopfaa
