/- Contracts of functions that the statement reaches; the conditions stand in each theorem. -/
import Derived.Test.YtdpdchghafopfaaS9
set_option linter.unusedVariables false
set_option linter.unusedSimpArgs false
namespace Go.Proofs.Ytdpdchghafopfaa
open Go.RowKit
def absI (a b : Int) : Int := max (a - b) (b - a)
def apartZ (p q : Pt) : Int := absI p.1 q.1 + absI p.2 q.2

set_option maxRecDepth 20000 in
set_option maxHeartbeats 400000 in
theorem apart_any (p q : Pt) (w : World) (hp : inR p = true) (hq : inR q = true) :
    Calls Try.prog 32 #[P2 p, P2 q] w fun e w' => e = .returned (.int .i64 (apartZ p q)) ∧ Below w.heap.size w w' := by
  simp only [inR, Bool.and_eq_true, decide_eq_true_eq] at hp hq
  obtain ⟨⟨A1, A2⟩, A3, A4⟩ := hp
  obtain ⟨⟨A5, A6⟩, A7, A8⟩ := hq
  go_enter Try.func32, Try.ntmps32
  go_wp2
  all_goals (go_ret; refine ⟨ri ?_, (by (repeat (first | exact Below.refl _ _ | refine blw_alloc ?_ _ | refine blw_drew ?_ | refine blw_rg ?_ _ | refine blw_call (by assumption) ?_)))⟩; go_light; unfold apartZ absI; omega)

theorem eqb_pt (p q : Pt) : (p.1 == q.1 && (p.2 == q.2)) = decide (p = q) := by
  rw [Bool.eq_iff_iff]; simp [Prod.ext_iff]

theorem same_take (xs ys : List Pt) (k : Nat) (h : k < xs.length) (h2 : k < ys.length) (ht : xs.take k = ys.take k) (e : xs[k] = ys[k]) : xs.take (k + 1) = ys.take (k + 1) := by
  rw [List.take_succ_eq_append_getElem h, List.take_succ_eq_append_getElem h2, ht, e]

set_option maxRecDepth 20000 in
set_option maxHeartbeats 400000 in
theorem samePoints_any (xs ys : List Pt) (la lb : Option Addr) (c c2 : Nat) (w : World) (H : Rd w encP 2 la xs) (H2 : Rd w encP 2 lb ys) :
    Calls Try.prog 9 #[.slice la xs.length c, .slice lb ys.length c2] w fun e w' => e = .returned (.bool (decide (xs = ys))) ∧ Below w.heap.size w w' := by
  by_cases hL : xs.length = ys.length
  case neg =>
    have hL2 : ((xs.length : Int) != (ys.length : Int)) = true := by rw [bne_iff_ne]; omega
    have hf := Go.Lib.hid (show decide (xs = ys) = false by rw [decide_eq_false_iff_not]; exact fun h => hL (by rw [h]))
    go_enter Try.func9, Try.ntmps9
    go_wp2
    all_goals (go_ret; exact ⟨rb (by rw [hf.out]), Below.refl _ _⟩)
  have hL2 : ((xs.length : Int) != (ys.length : Int)) = false := by rw [bne_eq_false_iff_eq]; omega
  have HL := Go.Lib.hid hL
  have big := H.big
  have ho1 : ys.length ≤ xs.length := by omega
  have ho2 : xs.length ≤ ys.length := by omega
  clear hL
  go_enter Try.func9, Try.ntmps9
  go_wp2_with fail
  go_loopg [5] xs.length (fun gg s wr => ∃ k : Nat, k ≤ xs.length ∧ xs.length - k ≤ gg ∧ s = .int .i64 k ∧ Aside (xs.take k = ys.take k) ∧ Aside (Below w.heap.size w wr))
  case atStart => exact ⟨0, Nat.zero_le _, by omega, rfl, rfl, Below.refl _ _⟩
  case round =>
    obtain ⟨k, hk, hg, rfl, HA, HB⟩ := hrel
    by_cases hlt : k < xs.length
    · have hltz : (k : Int) < (xs.length : Int) := by omega
      have hltz2 : (k : Int) < (ys.length : Int) := by omega
      obtain ⟨b0, off, rfl, hb0, hc⟩ := (H.below HB.out).at_ k hlt
      obtain ⟨b1, off1, rfl, hb1, hc1⟩ := (H2.below HB.out).at_ k (by omega)
      have q0 := rg_cell (hc 0 _ rfl)
      have q1 := rg_cell (hc 1 _ rfl)
      have r0 := rg_cell (hc1 0 _ rfl)
      have r1 := rg_cell (hc1 1 _ rfl)
      have HT := Go.Lib.hid (same_take xs ys k hlt (by omega) HA.out)
      have HF := Go.Lib.hid (show xs[k] ≠ ys[k]'(by omega) → xs ≠ ys from fun h e => h (by simp [e]))
      generalize xs[k] = x at q0 q1 HT HF
      generalize ys[k]'(by omega) = y at r0 r1 HT HF
      change ∀ p, (rg wr p).cell? ⟨b0, off + k * 2, none⟩ = _ at q0
      change ∀ p, (rg wr p).cell? ⟨b1, off1 + k * 2, none⟩ = _ at r0
      clear hc hc1 H H2
      cases hx : (x.1 == y.1 && (x.2 == y.2))
      all_goals
        have hy := hx
        rw [eqb_pt] at hy
        have HY := Go.Lib.hid hy
        clear hy
        go_wp2_with fail
        ((with_reducible refine wp_region_rg (by kernel_rfl) (by kernel_rfl) ?_); (repeat (first | go_big_quiet_step (fail) | quiet_step (fail))); refine wpQuiet_nil ?_; intro _ hw'; obtain ⟨prg, hw''⟩ := hw'; subst hw'')
        have hbr := rg_below wr prg
        generalize rg wr prg = wr2 at hbr
        clear q0 q1 r0 r1
        go_wp2
      · go_ret
        exact ⟨rb (by have := HY.out; rw [decide_eq_false_iff_not] at this; rw [decide_eq_false (HF.out this)]), blw_call hbr HB.out⟩
      · go_roundg (xs.length - (k + 1))
        case measure => omega
        case rel => exact ⟨k + 1, by omega, by omega, by go_num, HT.out (by have := HY.out; rwa [decide_eq_true_eq] at this), blw_call hbr HB.out⟩
    · have hltz : ¬ (k : Int) < (xs.length : Int) := by omega
      have e0 : xs.take k = xs := List.take_of_length_le (by omega)
      have e1 : ys.take k = ys := List.take_of_length_le (by omega)
      rw [e0, e1] at HA
      go_wp2
      go_ret
      exact ⟨rb (by rw [decide_eq_true HA.out]), HB.out⟩
end Go.Proofs.Ytdpdchghafopfaa
