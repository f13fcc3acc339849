/- The lines of a book, walked: next, text, read. -/
import Derived.Test.YthfdlfdbjiofhaaDoorB8
set_option linter.unusedVariables false
set_option linter.unusedSimpArgs false
namespace Go.Proofs.YthfdlfdbjiofhaaDoor
open Go.RowKit
set_option maxRecDepth 20000
abbrev bs (l : List UInt8) : ByteArray := ⟨l.toArray⟩
theorem bs_by (s : ByteArray) : bs (by_ s) = s := by cases s; rfl
/-- What a line is: a page, or what is torn. -/
def nextV (t : List UInt8) : Value :=
  match cutL t with
  | none => .iface 85 (.string (bs t))
  | some (a, _) => if pageL a = true then .iface 83 (.string (bs a)) else .iface 85 (.string (bs t))
theorem next_any (s : ByteArray) (hs : s.size ≤ 1000000) (w : World) (hE : EnvB w) : Calls Tryd.prog 52 #[.string s] w fun e w' => e = .returned (nextV (by_ s)) ∧ Below w.heap.size w w' := by
  cases h : cutL (by_ s) with
  | none =>
    have hcut := cut_no s hs h w hE
    have HN := Go.Lib.hid (show nextV (by_ s) = .iface 85 (.string s) by unfold nextV; rw [h, bs_by])
    clear h
    go_enter Tryd.func52, Tryd.ntmps52
    go_wp2_with (go_at_call 80; refine hcut.mono ?_; rintro e w1 ⟨rfl, hb1⟩)
    go_ret
    exact ⟨by rw [HN.out]; rfl, by (repeat (first | exact Below.refl _ _ | refine blw_alloc ?_ _ | refine blw_drew ?_ | refine blw_rg ?_ _ | refine blw_call (by assumption) ?_))⟩
  | some x =>
    obtain ⟨a, b⟩ := x
    have hcut := cut_yes s hs a b h w hE
    have hpg := page_any (bs a)
    cases hp : pageL a with
    | false =>
      have HN := Go.Lib.hid (show nextV (by_ s) = .iface 85 (.string s) by unfold nextV; rw [h, bs_by]; simp [hp])
      rw [show pageL (bs a).data.toList = false from hp] at hpg
      clear h hp
      go_enter Tryd.func52, Tryd.ntmps52
      go_wp2_with (first | (go_at_call 80; refine hcut.mono ?_; rintro e w1 ⟨rfl, hb1⟩) | (go_at_call 45; refine (hpg _).mono ?_; rintro e w2 ⟨rfl, hb2⟩))
      go_ret
      exact ⟨by rw [HN.out]; rfl, by (repeat (first | exact Below.refl _ _ | refine blw_alloc ?_ _ | refine blw_drew ?_ | refine blw_rg ?_ _ | refine blw_call (by assumption) ?_))⟩
    | true =>
      have HN := Go.Lib.hid (show nextV (by_ s) = .iface 83 (.string (bs a)) by unfold nextV; rw [h]; simp [hp])
      rw [show pageL (bs a).data.toList = true from hp] at hpg
      clear h hp
      go_enter Tryd.func52, Tryd.ntmps52
      go_wp2_with (first | (go_at_call 80; refine hcut.mono ?_; rintro e w1 ⟨rfl, hb1⟩) | (go_at_call 45; refine (hpg _).mono ?_; rintro e w2 ⟨rfl, hb2⟩))
      go_ret
      exact ⟨by rw [HN.out]; rfl, by (repeat (first | exact Below.refl _ _ | refine blw_alloc ?_ _ | refine blw_drew ?_ | refine blw_rg ?_ _ | refine blw_call (by assumption) ?_))⟩
theorem text_any (s : ByteArray) (w : World) : Calls Tryd.prog 53 #[.string s] w fun e w' => e = .returned (.string s) ∧ w = w' := by
  go_enter Tryd.func53, Tryd.ntmps53
  go_wp2_with fail
  go_ret
  exact ⟨rfl, rfl⟩
/-- What is read of a text: the pages, the rest, whether the book is whole, and the error. -/
def readD (t : List UInt8) : List (List UInt8) × List UInt8 × Bool × Int :=
  match headL t with
  | none => ([], [], false, 2)
  | some (n, sum, r) => if (readL n r).1.length < n then ((readL n r).1, (readL n r).2, false, 0)
    else if rootP (readL n r).1 = sum then ((readL n r).1, (readL n r).2, true, 0) else ([], [], false, 7)
def bsl (l : List (List UInt8)) : List ByteArray := l.map bs
theorem bsl_by (l : List (List UInt8)) : (bsl l).map by_ = l := by
  unfold bsl; rw [List.map_map, show (by_ ∘ bs) = id from rfl, List.map_id]
theorem bsl_len (l : List (List UInt8)) : (bsl l).length = l.length := by unfold bsl; simp
def ReadP (t : List UInt8) (w : World) (e : Ending) (w' : World) : Prop := ∃ A c, (readD t).1.length ≤ c ∧ e = .returned (.tuple #[.slice A (readD t).1.length c, .string (bs (readD t).2.1), .bool (readD t).2.2.1, .int .i64 (readD t).2.2.2]) ∧ Rd w' encStr 1 A (bsl (readD t).1) ∧ Below w.heap.size w w'
theorem readL_len : ∀ (n : Nat) (t : List UInt8), (readL n t).1.length ≤ n := by
  intro n
  induction n with
  | zero => intro t; simp [readL]
  | succ n ih =>
    intro t
    unfold readL
    split
    · simp
    · split
      · simp only [List.length_cons]; have := ih (by assumption); omega
      · simp
theorem readL_page : ∀ (n : Nat) (t : List UInt8), ∀ p ∈ (readL n t).1, pageL p = true := by
  intro n
  induction n with
  | zero => intro t p hp; simp [readL] at hp
  | succ n ih =>
    intro t p hp
    unfold readL at hp
    split at hp
    · simp at hp
    · split at hp
      · rename_i hq
        rcases List.mem_cons.1 hp with rfl | hp
        · exact hq
        · exact ih _ p hp
      · simp at hp
end Go.Proofs.YthfdlfdbjiofhaaDoor
