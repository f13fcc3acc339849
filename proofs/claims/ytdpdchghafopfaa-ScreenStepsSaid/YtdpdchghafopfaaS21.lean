/- cmp.Or, the compare closure of Reach. -/
import Derived.Test.YtdpdchghafopfaaS20
import Derived.StillTailTactics
set_option linter.unusedVariables false
set_option linter.unusedSimpArgs false
namespace Go.Proofs.Ytdpdchghafopfaa
open Go.RowKit Go.Sort
theorem wp_tail' {P : Program} {id : Nat} {Q : Exit → Act → World → Prop} {a : Act} {w : World} {l : List Oper} (n : Nat) (hm : P.follows .mixedOrders = true) (hB : Region.lexTailB .any l.toArray n = true)
    (h : ∀ W, W = w.drew → wpStill P l.toArray W (fun a' => wpList P l.toArray Q (l.drop n) a' W) (l.take n) a) : (Code.region id l.toArray true).wp P Q a w := wp_region_still_tail n hm hB (h _ rfl)
def firstNZ : List Int → Int
  | [] => 0
  | x :: t => if x = 0 then firstNZ t else x
theorem firstNZ_take (xs : List Int) : ∀ k, (h : k < xs.length) → firstNZ (xs.take k) = 0 → (xs[k] = 0 → firstNZ (xs.take (k + 1)) = 0) ∧ (xs[k] ≠ 0 → firstNZ xs = xs[k]) := by
  induction xs with
  | nil => intro k h; simp at h
  | cons x t ih =>
    intro k h h0
    cases k with
    | zero => simp only [List.getElem_cons_zero, List.take_succ_cons, List.take_zero, firstNZ]; exact ⟨fun h1 => by simp [h1], fun h1 => by simp [h1]⟩
    | succ k =>
      simp only [List.take_succ_cons, firstNZ, List.getElem_cons_succ] at h0 ⊢
      split at h0
      · rename_i hx
        simp only [hx, if_true]
        exact ih k (by simpa using h) h0
      · contradiction
set_option maxRecDepth 20000 in
set_option maxHeartbeats 400000 in
theorem or_any (xs : List Int) (A : Option Addr) (c : Nat) (w : World) (H : Rd w encI 1 A xs) :
    Calls Try.prog 17 #[.slice A xs.length c] w fun e w' => e = .returned (.int .i64 (firstNZ xs)) ∧ w' = w := by
  go_enter Try.func17, Try.ntmps17
  go_wp2_with fail
  go_loopg [8] xs.length (fun gg s8 wr => ∃ k : Nat, k ≤ xs.length ∧ xs.length - k ≤ gg ∧ s8 = .int .i64 k ∧ Aside (firstNZ (xs.take k) = 0) ∧ Aside (wr = w))
  case atStart => exact ⟨0, Nat.zero_le _, by omega, rfl, rfl, rfl⟩
  case round =>
    obtain ⟨k, hk, hg, rfl, HA, HB⟩ := hrel
    obtain rfl := HB.out
    have big := H.big
    by_cases hlt : k < xs.length
    · have hltz : (k : Int) < (xs.length : Int) := by omega
      obtain ⟨b0, off, rfl, hb0, hc⟩ := H.at_ k hlt
      have q0 := hc 0 _ rfl
      have HT := Go.Lib.hid (firstNZ_take xs k hlt HA.out)
      generalize xs[k] = x at q0 HT
      rw [Nat.mul_one, Nat.add_zero] at q0
      clear hc H
      by_cases hx : x = 0
      · subst hx
        go_wp2
        go_roundg (xs.length - (k + 1))
        case measure => omega
        case rel => exact ⟨k + 1, by omega, by omega, by go_num, HT.out.1 trivial, rfl⟩
      · go_wp2
        go_ret
        exact ⟨ri (HT.out.2 hx).symm, rfl⟩
    · have hltz : ¬ (k : Int) < (xs.length : Int) := by omega
      have e0 : xs.take k = xs := List.take_of_length_le (by omega)
      rw [e0] at HA
      clear H
      go_wp2
      go_ret
      exact ⟨ri HA.out.symm, rfl⟩
theorem rd_ints (W : World) (x y : Int) : Rd (W.alloc (.cells #[.int .i64 x, .int .i64 y] 3)) encI 1 (some ⟨W.heap.size, 0, none⟩) [x, y] := by
  refine ⟨by simp, fun _ => ⟨_, 0, rfl, by simp, fun j hj i u hu => ?_⟩⟩
  rw [World.cell?_alloc_new]
  simp at hj
  rcases (by omega : j = 0 ∨ j = 1) with rfl | rfl
  all_goals
    rcases i with _ | i
    · exact hu
    · exact absurd hu (by simp [encI])
set_option maxRecDepth 20000 in
set_option maxHeartbeats 400000 in
theorem closure_any (p q : Pt) (w : World) :
    Calls Try.prog 16 #[P2 p, P2 q] w fun e w' => e = .returned (.int .i64 (firstNZ [cmpI p.1 q.1, cmpI p.2 q.2])) ∧ ∃ n os, w' = Go.Sort.grow (w.drewN n) os := by
  have h1 : ∀ W, Calls Try.prog 18 #[.int .i64 p.1, .int .i64 q.1] W fun e w' => e = .returned (.int .i64 (cmpI p.1 q.1)) ∧ w' = W := fun W => (compare_any p.1 q.1 W).mono fun _ _ ⟨a, b⟩ => ⟨a, b.symm⟩
  have h2 : ∀ W, Calls Try.prog 18 #[.int .i64 p.2, .int .i64 q.2] W fun e w' => e = .returned (.int .i64 (cmpI p.2 q.2)) ∧ w' = W := fun W => (compare_any p.2 q.2 W).mono fun _ _ ⟨a, b⟩ => ⟨a, b.symm⟩
  have h3 := fun A W H => or_any [cmpI p.1 q.1, cmpI p.2 q.2] A 2 W H
  generalize cmpI p.1 q.1 = x at *
  generalize cmpI p.2 q.2 = y at *
  generalize firstNZ [x, y] = r at *
  go_enter Try.func16, Try.ntmps16
  go_wp2_with fail
  refine wp_tail' 10 (by kernel_rfl) (by kernel_rfl) ?_
  intro W hW
  have q0 : W.cell? ⟨w.heap.size, 0, none⟩ = some (.int .i64 p.1) := by rw [hW]; simp
  have q1 : W.cell? ⟨w.heap.size, 1, none⟩ = some (.int .i64 p.2) := by rw [hW]; simp
  have q2 : W.cell? ⟨w.heap.size + 1, 0, none⟩ = some (.int .i64 q.1) := by rw [hW]; simp
  have q3 : W.cell? ⟨w.heap.size + 1, 1, none⟩ = some (.int .i64 q.2) := by rw [hW]; simp
  have HW := asd hW
  clear hW
  simp only [List.take_succ_cons, List.take_zero, List.drop_succ_cons, List.drop_zero]
  still_step
  still_step
  still_step
  still_step
  still_call (h1 W)
  still_step
  still_step
  still_step
  still_step
  still_call (h2 W)
  refine wpStill_nil ?_
  go_wp2_with (go_at_call 17; refine (h3 _ _ ?_).mono ?_; exact rd_ints W x y; rintro e w' ⟨rfl, rfl⟩)
  go_ret
  refine ⟨rfl, 1, #[.cells #[.int .i64 p.1, .int .i64 p.2] 25, .cells #[.int .i64 q.1, .int .i64 q.2] 25, .cells #[.int .i64 x, .int .i64 y] 3], ?_⟩
  rw [HW.out]
  rfl
end Go.Proofs.Ytdpdchghafopfaa
