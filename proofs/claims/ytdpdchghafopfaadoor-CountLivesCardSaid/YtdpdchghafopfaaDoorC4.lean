/- How many birds are something on a day: number, total, days. -/
import Derived.Test.YtdpdchghafopfaaDoorC3
import Derived.Shelf.Abstract
import Derived.Laws.EntriesVeiled
set_option linter.unusedVariables false
set_option linter.unusedSimpArgs false
namespace Go.Proofs.YtdpdchghafopfaaDoor
open Go.RowKit
def encStr (s : ByteArray) : List Value := [.string s]
abbrev FnV (g : Nat) : Value := .func (.func g) #[] #[]
theorem days_any (xs : List ByteArray) (la : Option Addr) (c : Nat) (w : World) (H : Rd w encStr 1 la xs) (h9 : ∀ s ∈ xs, s.size ≤ 1000) :
    Calls Tryd.prog 29 #[.slice la xs.length c] w fun e w' => e = .returned (.int .i64 (daysH xs : Int)) ∧ w = w' := by
  have big := H.big
  cases xs with
  | nil =>
    go_enter Tryd.func29, Tryd.ntmps29
    go_wp2
    go_ret
    exact ⟨rfl, rfl⟩
  | cons s t =>
    obtain ⟨b0, off, rfl, hb0, hc⟩ := H.at_ 0 (by simp)
    have q0 := hc 0 _ rfl
    simp only [List.getElem_cons_zero, Nat.zero_mul, Nat.add_zero] at q0
    have hs := h9 s (by simp)
    have hL : (0 : Int) < ((s :: t).length : Int) := by simp only [List.length_cons]; omega
    have hL2 : ¬ ((s :: t).length : Int) = 0 := by omega
    have hL3 : 0 < (s :: t).length := by simp
    have hd : daysH (s :: t) = s.size := rfl
    rw [hd]
    generalize (s :: t).length = L at *
    clear hc H h9 hd
    go_enter Tryd.func29, Tryd.ntmps29
    go_wp2
    go_ret
    exact ⟨rfl, rfl⟩
theorem num1_any (g : Nat) (eg : ∀ args w, (callFunc g args).run Tryd.prog w = .ok (.enter g args) w) (r : Bool) (d : Int) (s : ByteArray) (B1 B2 : Nat) (w : World)
    (c1 : w.cell? ⟨B1, 0, none⟩ = some (FnV g)) (c2 : w.cell? ⟨B2, 0, none⟩ = some (.int .i64 d))
    (hp : Calls Tryd.prog g #[.string s, .int .i64 d] w fun e w' => e = .returned (.bool r) ∧ w = w') :
    Calls Tryd.prog 61 #[.string s, .pointer (some ⟨B1, 0, none⟩), .pointer (some ⟨B2, 0, none⟩)] w fun e w' => e = .returned (.int .i64 (if r then 1 else 0)) ∧ w = w' := by
  cases r
  all_goals
    go_enter Tryd.func61, Tryd.ntmps61
    go_wp2_with (go_at_fn g; refine hp.mono ?_; rintro e w' ⟨rfl, rfl⟩)
    go_ret
    exact ⟨rfl, rfl⟩
set_option maxRecDepth 20000 in
set_option maxHeartbeats 400000 in
theorem total_any (g : Nat) (lb : Array Value) (eg : ∀ args w, (callFunc g args).run Tryd.prog w = .ok (.enter g args) w) (p : ByteArray → Bool) (xs : List ByteArray) (la : Option Addr) (c : Nat) (w : World) (H : Rd w encStr 1 la xs)
    (hp : ∀ s ∈ xs, Calls Tryd.prog g (#[.string s] ++ lb) w fun e w' => e = .returned (.int .i64 (if p s then 1 else 0)) ∧ w = w') :
    Calls Tryd.prog 60 #[.slice la xs.length c, .func (.func g) #[] lb] w fun e w' => e = .returned (.int .i64 (cntB p xs)) ∧ w = w' := by
  go_enter Tryd.func60, Tryd.ntmps60
  go_wp2_with fail
  go_loopg [5, 10] xs.length (fun gg s5 s10 wr => ∃ k : Nat, k ≤ xs.length ∧ xs.length - k ≤ gg ∧ s10 = .int .i64 k ∧ s5 = .int .i64 (cntB p (xs.take k)) ∧ Aside (wr = w))
  case atStart => exact ⟨0, Nat.zero_le _, by omega, rfl, rfl, rfl⟩
  case round =>
    obtain ⟨k, hk, hg, rfl, rfl, HB⟩ := hrel
    obtain rfl := HB.out
    have big := H.big
    have hbd := cntB_bd p (xs.take k)
    have hl : ((xs.take k).length : Int) ≤ 1000000 := by simp; omega
    by_cases hlt : k < xs.length
    · have hltz : (k : Int) < (xs.length : Int) := by omega
      obtain ⟨b0, off, rfl, hb0, hc⟩ := H.at_ k hlt
      have q0 := hc 0 _ rfl
      have hcall := hp xs[k] (List.getElem_mem hlt)
      have HT := Go.Lib.hid (cntB_take p xs k hlt)
      generalize xs[k] = x at q0 HT hcall
      rw [Nat.mul_one, Nat.add_zero] at q0
      have HI := asd H
      clear hc H hp
      generalize cntB p (xs.take k) = cur at *
      cases hx : p x
      all_goals
        rw [hx] at hcall HT
        go_wp2_with (go_at_fn g; refine hcall.mono ?_; rintro e w' ⟨rfl, rfl⟩)
        go_roundg (xs.length - (k + 1))
        case measure => omega
        case rel => exact ⟨k + 1, by omega, by omega, by go_num, by rw [HT.out]; simp, rfl⟩
    · have hltz : ¬ (k : Int) < (xs.length : Int) := by omega
      have e0 : xs.take k = xs := List.take_of_length_le (by omega)
      rw [e0] at *
      clear hp H
      go_wp2
      go_ret
      exact ⟨rfl, rfl⟩
set_option maxRecDepth 20000 in
set_option maxHeartbeats 400000 in
theorem number_any (g : Nat) (eg : ∀ args w, (callFunc g args).run Tryd.prog w = .ok (.enter g args) w) (p : ByteArray → Bool) (d : Nat) (xs : List ByteArray) (la : Option Addr) (c : Nat) (w : World) (H : Rd w encStr 1 la xs)
    (hp : ∀ s ∈ xs, ∀ W, Calls Tryd.prog g #[.string s, .int .i64 d] W fun e w' => e = .returned (.bool (p s)) ∧ W = w') :
    Calls Tryd.prog 30 #[.slice la xs.length c, .int .i64 d, FnV g] w fun e w' => e = .returned (.int .i64 (cntB p xs)) ∧ Below w.heap.size w w' := by
  have e61 := enters_of Tryd.func61 (by kernel_rfl) rfl
  have ht := fun (W : World) (hW : Below w.heap.size w W) (c1 : W.cell? ⟨w.heap.size + 1, 0, none⟩ = some (FnV g)) (c2 : W.cell? ⟨w.heap.size, 0, none⟩ = some (.int .i64 (d : Int))) =>
    total_any 61 #[.pointer (some ⟨w.heap.size + 1, 0, none⟩), .pointer (some ⟨w.heap.size, 0, none⟩)] e61 p xs la c W (H.below hW) fun s hs => num1_any g eg (p s) d s (w.heap.size + 1) w.heap.size W c1 c2 (hp s hs W)
  clear hp H
  go_enter Tryd.func30, Tryd.ntmps30
  go_wp2_with (go_at_call 60; refine (ht _ ?_ ?_ ?_).mono ?_; ((repeat (first | exact Below.refl _ _ | refine blw_alloc ?_ _ | refine blw_drew ?_ | refine blw_rg ?_ _ | refine blw_call (by assumption) ?_))); go_simp; go_simp; rintro e w' ⟨rfl, rfl⟩)
  go_ret
  exact ⟨rfl, by (repeat (first | exact Below.refl _ _ | refine blw_alloc ?_ _ | refine blw_drew ?_ | refine blw_rg ?_ _ | refine blw_call (by assumption) ?_))⟩
end Go.Proofs.YtdpdchghafopfaaDoor
