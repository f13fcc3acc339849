/- Contracts of functions that the statement reaches; the conditions stand in each theorem. -/
import Derived.Test.YtdpdchghafopfaaS5
import Derived.Shelf.Abstract
set_option linter.unusedVariables false
set_option linter.unusedSimpArgs false
namespace Go.Proofs.Ytdpdchghafopfaa
open Go.RowKit
theorem any_take {α : Type} (p : α → Bool) (xs : List α) (k : Nat) (h : k < xs.length) : (xs.take (k + 1)).any p = ((xs.take k).any p || p xs[k]) := by
  rw [List.take_succ_eq_append_getElem h, List.any_append]; simp
theorem any_true {α : Type} (p : α → Bool) (xs : List α) (k : Nat) (h : k < xs.length) (hp : p xs[k] = true) : xs.any p = true := by
  rw [List.any_eq_true]; exact ⟨_, List.getElem_mem h, hp⟩
abbrev S4 (s : Sc) : Value := .agg #[.int .i64 s.1.1, .int .i64 s.1.2, .int .i64 s.2.1, .int .i64 s.2.2]
def IdxPost (b : Bool) (w : World) (e : Ending) (w' : World) : Prop := ∃ r : Int, e = .returned (.int .i64 r) ∧ decide (0 ≤ r) = b ∧ Below w.heap.size w w'

set_option maxRecDepth 20000 in
set_option maxHeartbeats 400000 in
theorem indexFuncP (g : Nat) (lb : Array Value) (eg : ∀ args w, (callFunc g args).run Try.prog w = .ok (.enter g args) w) (p : Pt → Bool) (xs : List Pt) (la : Option Addr) (c : Nat) (w : World) (H : Rd w encP 2 la xs)
    (hp : ∀ W x, x ∈ xs → Below w.heap.size w W → Calls Try.prog g (#[P2 x] ++ lb) W fun e w' => e = .returned (.bool (p x)) ∧ Below W.heap.size W w') :
    Calls Try.prog 61 #[.slice la xs.length c, .func (.func g) #[] lb] w (IdxPost (xs.any p) w) := by
  go_enter Try.func61, Try.ntmps61
  go_wp2_with fail
  go_loopg [5, 8] xs.length (fun gg _ s8 wr => ∃ kk : Nat, kk ≤ xs.length ∧ xs.length - kk ≤ gg ∧ s8 = .int .i64 kk ∧ Aside ((xs.take kk).any p = false) ∧ Aside (Below w.heap.size w wr))
  case atStart => exact ⟨0, Nat.zero_le _, by omega, rfl, rfl, Below.refl _ _⟩
  case round =>
    obtain ⟨kk, hkk, hg, rfl, HA, HB⟩ := hrel
    have big := H.big
    by_cases hlt : kk < xs.length
    · have hltz : (kk : Int) < (xs.length : Int) := by omega
      obtain ⟨b0, off, rfl, hb0, hc⟩ := (H.below HB.out).at_ kk hlt
      have q0 := hc 0 _ rfl
      have q1 := hc 1 _ rfl
      have hcall := hp wr xs[kk] (List.getElem_mem hlt) HB.out
      have HT := Go.Lib.hid (any_take p xs kk hlt)
      have HF := Go.Lib.hid (any_true p xs kk hlt)
      generalize xs[kk] = x at q0 q1 HT HF hcall
      change wr.cell? ⟨b0, off + kk * 2, none⟩ = _ at q0
      clear hc H hp
      cases hx : p x
      all_goals
        rw [hx] at hcall
        go_wp2_with (go_at_fn g; refine hcall.mono ?_; rintro e w' ⟨rfl, hb⟩)
      · go_roundg (xs.length - (kk + 1))
        case measure => omega
        case rel => exact ⟨kk + 1, by omega, by omega, by go_num, (by rw [HT.out, HA.out, hx]; rfl), blw_call hb HB.out⟩
      · go_ret
        exact ⟨_, rfl, (by rw [HF.out hx]; simp), blw_call hb HB.out⟩
    · have hltz : ¬ (kk : Int) < (xs.length : Int) := by omega
      have e0 : xs.take kk = xs := List.take_of_length_le (by omega)
      rw [e0] at HA
      clear hp
      go_wp2
      go_ret
      exact ⟨_, rfl, (by rw [HA.out]; rfl), HB.out⟩

set_option maxRecDepth 20000 in
set_option maxHeartbeats 400000 in
theorem containsFuncP (g : Nat) (lb : Array Value) (eg : ∀ args w, (callFunc g args).run Try.prog w = .ok (.enter g args) w) (p : Pt → Bool) (xs : List Pt) (la : Option Addr) (c : Nat) (w : World) (H : Rd w encP 2 la xs)
    (hp : ∀ W x, x ∈ xs → Below w.heap.size w W → Calls Try.prog g (#[P2 x] ++ lb) W fun e w' => e = .returned (.bool (p x)) ∧ Below W.heap.size W w') :
    Calls Try.prog 40 #[.slice la xs.length c, .func (.func g) #[] lb] w fun e w' => e = .returned (.bool (xs.any p)) ∧ Below w.heap.size w w' := by
  have hi := indexFuncP g lb eg p xs la c w H hp
  clear hp H
  generalize xs.any p = bb at hi
  go_enter Try.func40, Try.ntmps40
  go_wp2_with (go_at_call 61; refine hi.mono ?_; rintro e w' ⟨r, rfl, hr, hb⟩; clear hi)
  go_ret
  exact ⟨rfl, hb⟩

set_option maxRecDepth 20000 in
set_option maxHeartbeats 400000 in
theorem indexFuncS (g : Nat) (lb : Array Value) (eg : ∀ args w, (callFunc g args).run Try.prog w = .ok (.enter g args) w) (p : Sc → Bool) (xs : List Sc) (la : Option Addr) (c : Nat) (w : World) (H : Rd w encS 4 la xs)
    (hp : ∀ W x, x ∈ xs → Below w.heap.size w W → Calls Try.prog g (#[S4 x] ++ lb) W fun e w' => e = .returned (.bool (p x)) ∧ Below W.heap.size W w') :
    Calls Try.prog 58 #[.slice la xs.length c, .func (.func g) #[] lb] w (IdxPost (xs.any p) w) := by
  go_enter Try.func58, Try.ntmps58
  go_wp2_with fail
  go_loopg [5, 8] xs.length (fun gg _ s8 wr => ∃ kk : Nat, kk ≤ xs.length ∧ xs.length - kk ≤ gg ∧ s8 = .int .i64 kk ∧ Aside ((xs.take kk).any p = false) ∧ Aside (Below w.heap.size w wr))
  case atStart => exact ⟨0, Nat.zero_le _, by omega, rfl, rfl, Below.refl _ _⟩
  case round =>
    obtain ⟨kk, hkk, hg, rfl, HA, HB⟩ := hrel
    have big := H.big
    by_cases hlt : kk < xs.length
    · have hltz : (kk : Int) < (xs.length : Int) := by omega
      obtain ⟨b0, off, rfl, hb0, hc⟩ := (H.below HB.out).at_ kk hlt
      have q0 := hc 0 _ rfl
      have q1 := hc 1 _ rfl
      have q2 := hc 2 _ rfl
      have q3 := hc 3 _ rfl
      have hcall := hp wr xs[kk] (List.getElem_mem hlt) HB.out
      have HT := Go.Lib.hid (any_take p xs kk hlt)
      have HF := Go.Lib.hid (any_true p xs kk hlt)
      generalize xs[kk] = x at q0 q1 q2 q3 HT HF hcall
      change wr.cell? ⟨b0, off + kk * 4, none⟩ = _ at q0
      clear hc H hp
      cases hx : p x
      all_goals
        rw [hx] at hcall
        go_wp2_with (go_at_fn g; refine hcall.mono ?_; rintro e w' ⟨rfl, hb⟩)
      · go_roundg (xs.length - (kk + 1))
        case measure => omega
        case rel => exact ⟨kk + 1, by omega, by omega, by go_num, (by rw [HT.out, HA.out, hx]; rfl), blw_call hb HB.out⟩
      · go_ret
        exact ⟨_, rfl, (by rw [HF.out hx]; simp), blw_call hb HB.out⟩
    · have hltz : ¬ (kk : Int) < (xs.length : Int) := by omega
      have e0 : xs.take kk = xs := List.take_of_length_le (by omega)
      rw [e0] at HA
      clear hp
      go_wp2
      go_ret
      exact ⟨_, rfl, (by rw [HA.out]; rfl), HB.out⟩

set_option maxRecDepth 20000 in
set_option maxHeartbeats 400000 in
theorem containsFuncS (g : Nat) (lb : Array Value) (eg : ∀ args w, (callFunc g args).run Try.prog w = .ok (.enter g args) w) (p : Sc → Bool) (xs : List Sc) (la : Option Addr) (c : Nat) (w : World) (H : Rd w encS 4 la xs)
    (hp : ∀ W x, x ∈ xs → Below w.heap.size w W → Calls Try.prog g (#[S4 x] ++ lb) W fun e w' => e = .returned (.bool (p x)) ∧ Below W.heap.size W w') :
    Calls Try.prog 37 #[.slice la xs.length c, .func (.func g) #[] lb] w fun e w' => e = .returned (.bool (xs.any p)) ∧ Below w.heap.size w w' := by
  have hi := indexFuncS g lb eg p xs la c w H hp
  clear hp H
  generalize xs.any p = bb at hi
  go_enter Try.func37, Try.ntmps37
  go_wp2_with (go_at_call 58; refine hi.mono ?_; rintro e w' ⟨r, rfl, hr, hb⟩; clear hi)
  go_ret
  exact ⟨rfl, hb⟩
end Go.Proofs.Ytdpdchghafopfaa
