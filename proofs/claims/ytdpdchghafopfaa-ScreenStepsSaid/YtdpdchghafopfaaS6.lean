/- Contracts of functions that the statement reaches; the conditions stand in each theorem. -/
import Derived.Test.YtdpdchghafopfaaS5
set_option linter.unusedVariables false
set_option linter.unusedSimpArgs false
namespace Go.Proofs.Ytdpdchghafopfaa
open Go.RowKit
def goodS (s : Sc) : Bool := (inR s.1 && inR s.2) && !(s.1.1 == s.2.1 && s.1.2 == s.2.2)
def valS (l : List Sc) : Int := if 12 < l.length then 3 else if l.all goodS then 0 else 1

set_option maxRecDepth 20000 in
set_option maxHeartbeats 400000 in
theorem refvalidate_any (l : List Sc) (la : Option Addr) (c : Nat) (w : World) (H : Rd w encS 4 la l) :
    Calls Try.prog 67 #[.slice la l.length c] w fun e w' => e = .returned (.int .i64 (valS l)) ∧ Below w.heap.size w w' := by
  by_cases hL : 12 < l.length
  · have hL2 : (12 : Int) < (l.length : Int) := by omega
    have hv : valS l = 3 := by unfold valS; rw [if_pos hL]
    rw [hv]
    clear hv
    go_enter Try.func67, Try.ntmps67
    go_wp2
    go_ret
    exact ⟨rfl, Below.refl _ _⟩
  have hL2 : ¬ (12 : Int) < (l.length : Int) := by omega
  have HV := Go.Lib.hid (show valS l = if l.all goodS then 0 else 1 by unfold valS; rw [if_neg hL])
  go_enter Try.func67, Try.ntmps67
  go_wp2_with fail
  go_loopg [3] l.length (fun gg s3 wr => ∃ k : Nat, k ≤ l.length ∧ l.length - k ≤ gg ∧ s3 = .int .i64 k ∧ Aside ((l.take k).all goodS = true) ∧ Aside (Below w.heap.size w wr))
  case atStart => exact ⟨0, Nat.zero_le _, by omega, rfl, rfl, Below.refl _ _⟩
  case round =>
    obtain ⟨k, hk, hg, rfl, HA, HB⟩ := hrel
    have big := H.big
    by_cases hlt : k < l.length
    · have hltz : (k : Int) < (l.length : Int) := by omega
      have HR : Rd wr encS 4 la l := H.below HB.out
      obtain ⟨b0, off, rfl, hb0, hc⟩ := HR.at_ k hlt
      have q0 := rg_cell (hc 0 _ rfl)
      have q1 := rg_cell (hc 1 _ rfl)
      have q2 := rg_cell (hc 2 _ rfl)
      have q3 := rg_cell (hc 3 _ rfl)
      have HT := Go.Lib.hid (all_take goodS l k hlt)
      have HF := Go.Lib.hid (all_false goodS l k hlt)
      generalize l[k] = x at q0 q1 q2 q3 HT HF
      change ∀ p, (rg wr p).cell? ⟨b0, off + k * 4, none⟩ = _ at q0
      change ∀ p, (rg wr p).cell? ⟨b0, off + k * 4 + 2 + 1, none⟩ = _ at q3
      clear hc HR H
      have hi1 := fun q => isPoint_any x.1 (rg wr q)
      have hi2 := fun q => isPoint_any x.2 (rg wr q)
      cases h1 : inR x.1 <;> cases h2 : inR x.2 <;> cases h3 : (x.1.1 == x.2.1 && (x.1.2 == x.2.2))
      all_goals
        rw [h1] at hi1
        rw [h2] at hi2
        go_wp2_with fail
      all_goals
        ((with_reducible refine wp_region_rg (by kernel_rfl) (by kernel_rfl) ?_); (repeat (first | go_big_quiet_step ((go_at_call 69; first | with_reducible exact rg_of (hi1 _) | with_reducible exact rg_of (hi2 _))) | quiet_step ((go_at_call 69; first | with_reducible exact rg_of (hi1 _) | with_reducible exact rg_of (hi2 _))))); refine wpQuiet_nil ?_; intro _ hw'; obtain ⟨prg, hw''⟩ := hw'; subst hw'')
        have hbr := rg_below wr prg
        generalize rg wr prg = wr2 at hbr
        clear q0 q1 q2 q3 hi1 hi2
        go_wp2
      all_goals first
        | (go_ret
           have hx : goodS x = false := by unfold goodS; rw [h1, h2, h3]; rfl
           exact ⟨ri (by rw [HV.out, HF.out hx]; rfl), blw_call hbr HB.out⟩)
        | (go_roundg (l.length - (k + 1))
           case measure => omega
           case rel => exact ⟨k + 1, by omega, by omega, by go_num, (by rw [HT.out, HA.out]; unfold goodS; rw [h1, h2, h3]; rfl), blw_call hbr HB.out⟩)
    · have hltz : ¬ (k : Int) < (l.length : Int) := by omega
      have e0 : l.take k = l := List.take_of_length_le (by omega)
      rw [e0] at HA
      go_wp2
      go_ret
      exact ⟨ri (by rw [HV.out, HA.out]; rfl), HB.out⟩
end Go.Proofs.Ytdpdchghafopfaa
