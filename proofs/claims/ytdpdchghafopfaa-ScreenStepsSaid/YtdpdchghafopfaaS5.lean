/- Contracts of functions that the statement reaches; the conditions stand in each theorem. -/
import Derived.Test.YtdpdchghafopfaaS4
set_option linter.unusedVariables false
set_option linter.unusedSimpArgs false
namespace Go.Proofs.Ytdpdchghafopfaa
open Go.RowKit
theorem all_take {α : Type} (p : α → Bool) (xs : List α) (k : Nat) (h : k < xs.length) : (xs.take (k + 1)).all p = ((xs.take k).all p && p xs[k]) := by
  rw [List.take_succ_eq_append_getElem h, List.all_append]; simp
theorem all_false {α : Type} (p : α → Bool) (xs : List α) (k : Nat) (h : k < xs.length) (hp : p xs[k] = false) : xs.all p = false := by
  rw [Bool.eq_false_iff]
  intro ha
  rw [List.all_eq_true] at ha
  rw [ha _ (List.getElem_mem h)] at hp
  cases hp

set_option maxRecDepth 20000 in
set_option maxHeartbeats 400000 in
theorem arePoints_any (l : List Pt) (la : Option Addr) (c : Nat) (w : World) (H : Rd w encP 2 la l) :
    Calls Try.prog 68 #[.slice la l.length c] w fun e w' => e = .returned (.bool (l.all inR)) ∧ Below w.heap.size w w' := by
  go_enter Try.func68, Try.ntmps68
  go_wp2_with fail
  go_loopg [3] l.length (fun gg s3 wr => ∃ k : Nat, k ≤ l.length ∧ l.length - k ≤ gg ∧ s3 = .int .i64 k ∧ Aside ((l.take k).all inR = true) ∧ Aside (Below w.heap.size w wr))
  case atStart => exact ⟨0, Nat.zero_le _, by omega, rfl, rfl, Below.refl _ _⟩
  case round =>
    obtain ⟨k, hk, hg, rfl, HA, HB⟩ := hrel
    have big := H.big
    by_cases hlt : k < l.length
    · have hltz : (k : Int) < (l.length : Int) := by omega
      have HR : Rd wr encP 2 la l := H.below HB.out
      obtain ⟨b0, off, rfl, hb0, hc⟩ := HR.at_ k hlt
      have q0 := hc 0 _ rfl
      have q1 := hc 1 _ rfl
      have HT := Go.Lib.hid (all_take inR l k hlt)
      have HF := Go.Lib.hid (all_false inR l k hlt)
      generalize l[k] = x at q0 q1 HT HF
      change wr.cell? ⟨b0, off + k * 2, none⟩ = _ at q0
      clear hc HR H
      cases hx : inR x
      all_goals go_wp2_with (go_at_call 69; refine (isPoint_any x _).mono ?_; rintro e w' ⟨rfl, hb⟩)
      · go_ret
        exact ⟨rb (by rw [HF.out hx]), blw_call hb HB.out⟩
      · go_roundg (l.length - (k + 1))
        case measure => omega
        case rel => exact ⟨k + 1, by omega, by omega, by go_num, (by rw [HT.out, HA.out, hx]; rfl), blw_call hb HB.out⟩
    · have hltz : ¬ (k : Int) < (l.length : Int) := by omega
      have e0 : l.take k = l := List.take_of_length_le (by omega)
      rw [e0] at HA
      go_wp2
      go_ret
      exact ⟨rb HA.out.symm, HB.out⟩
end Go.Proofs.Ytdpdchghafopfaa
