/- Contracts of functions that the statement reaches; the conditions stand in each theorem. -/
import Derived.Test.YtdpdchghafopfaaS16
import Derived.Test.YtdpdchghafopfaaS12
set_option linter.unusedVariables false
set_option linter.unusedSimpArgs false
namespace Go.Proofs.Ytdpdchghafopfaa
open Go.RowKit
theorem rd_two' {W0 : World} (p q : Pt) (B : Nat) (hB : B = W0.heap.size) : Rd (W0.alloc (.cells #[.int .i64 p.1, .int .i64 p.2, .int .i64 q.1, .int .i64 q.2] 25)) encP 2 (some ⟨B, 0, none⟩) [p, q] := by
  subst hB
  refine ⟨by simp, fun _ => ⟨_, 0, rfl, by simp, fun j hj i v hv => ?_⟩⟩
  rw [World.cell?_alloc_new]
  simp only [List.length_cons, List.length_nil] at hj
  match j, hj with
  | 0, _ => match i, hv with
    | 0, hv => simpa [encP] using hv
    | 1, hv => simpa [encP] using hv
  | 1, _ => match i, hv with
    | 0, hv => simpa [encP] using hv
    | 1, hv => simpa [encP] using hv
set_option maxRecDepth 20000 in
set_option maxHeartbeats 400000 in
theorem validate_any (l : List Sc) (la : Option Addr) (c : Nat) (w : World) (H : Rd w encS 4 la l) :
    Calls Try.prog 35 #[.slice la l.length c] w fun e w' => e = .returned (.int .i64 (valS l)) ∧ Below w.heap.size w w' := by
  by_cases hL : 12 < l.length
  · have hL2 : (12 : Int) < (l.length : Int) := by omega
    have hv : valS l = 3 := by unfold valS; rw [if_pos hL]
    rw [hv]
    clear hv
    go_enter Try.func35, Try.ntmps35
    go_wp2
    go_ret
    exact ⟨rfl, Below.refl _ _⟩
  have hL2 : ¬ (12 : Int) < (l.length : Int) := by omega
  have HV := Go.Lib.hid (show valS l = if l.all goodS then 0 else 1 by unfold valS; rw [if_neg hL])
  go_enter Try.func35, Try.ntmps35
  go_wp2_with fail
  go_loopg [10] l.length (fun gg s10 wr => ∃ k : Nat, k ≤ l.length ∧ l.length - k ≤ gg ∧ s10 = .int .i64 k ∧ Aside ((l.take k).all goodS = true) ∧ Aside (Below w.heap.size w wr))
  case atStart => exact ⟨0, Nat.zero_le _, by omega, rfl, rfl, Below.refl _ _⟩
  case round =>
    obtain ⟨k, hk, hg, rfl, HA, HB⟩ := hrel
    have big := H.big
    by_cases hlt : k < l.length
    · have hltz : (k : Int) < (l.length : Int) := by omega
      obtain ⟨b0, off, rfl, hb0, hc⟩ := (H.below HB.out).at_ k hlt
      have q0 := hc 0 _ rfl
      have q1 := hc 1 _ rfl
      have q2 := hc 2 _ rfl
      have q3 := hc 3 _ rfl
      have HT := Go.Lib.hid (all_take goodS l k hlt)
      have HF := Go.Lib.hid (all_false goodS l k hlt)
      generalize l[k] = x at q0 q1 q2 q3 HT HF
      change wr.cell? ⟨b0, off + k * 4, none⟩ = _ at q0
      clear hc H
      have hp := fun pa W hW => place_any [x.1, x.2] pa 2 W hW
      have e12 : ([x.1, x.2] : List Pt).all inR = (inR x.1 && inR x.2) := by simp
      rw [e12] at hp
      clear e12
      cases h1 : inR x.1 <;> cases h2 : inR x.2 <;> cases h3 : (x.1.1 == x.2.1 && (x.1.2 == x.2.2))
      all_goals
        rw [h1, h2] at hp
        go_wp2_with (go_at_call 36; refine (hp _ _ (rd_two' _ _ _ ?_)).mono ?_; simp; rintro e w' ⟨rfl, hb⟩; (first | (obtain ⟨pg, rfl⟩ := rg_next hb) | (obtain ⟨pg, rfl⟩ := rg_mk hb)))
      all_goals first
        | (go_ret
           have hx : goodS x = false := by unfold goodS; rw [h1, h2, h3]; rfl
           exact ⟨ri (by rw [HV.out, HF.out hx]; rfl), (by have HB2 := HB.out; refine blw_rg (blw_alloc (blw_alloc HB2 _) _) _)⟩)
        | (go_roundg (l.length - (k + 1))
           case measure => omega
           case rel => exact ⟨k + 1, by omega, by omega, by go_num, (by rw [HT.out, HA.out]; unfold goodS; rw [h1, h2, h3]; rfl), (by have HB2 := HB.out; refine blw_rg (blw_alloc (blw_alloc HB2 _) _) _)⟩)
    · have hltz : ¬ (k : Int) < (l.length : Int) := by omega
      have e0 : l.take k = l := List.take_of_length_le (by omega)
      rw [e0] at HA
      go_wp2
      go_ret
      exact ⟨ri (by rw [HV.out, HA.out]; rfl), HB.out⟩
end Go.Proofs.Ytdpdchghafopfaa
