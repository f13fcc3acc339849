/- Histories of birds: the plain functions that the walks speak of. -/
import Derived.WalkKit
set_option linter.unusedVariables false
set_option linter.unusedSimpArgs false
namespace Go.Proofs.YtdpdchghafopfaaDoor
/-- The bird was caught on day d. -/
def hitB (s : ByteArray) (d : Nat) : Bool := s.data.toList.getD d 0 == 49
/-- The bird was caught on some day from a to b (not included). -/
def caughtB (s : ByteArray) (a b : Nat) : Bool := (List.range b).any fun d => decide (a ≤ d) && hitB s d
theorem caughtB_iff {s : ByteArray} {a b : Nat} : caughtB s a b = true ↔ ∃ d, a ≤ d ∧ d < b ∧ hitB s d = true := by
  unfold caughtB
  rw [List.any_eq_true]
  constructor
  · rintro ⟨d, h1, h2⟩
    rw [Bool.and_eq_true, decide_eq_true_eq] at h2
    exact ⟨d, h2.1, List.mem_range.1 h1, h2.2⟩
  · rintro ⟨d, h1, h2, h3⟩
    exact ⟨d, List.mem_range.2 h2, by rw [Bool.and_eq_true, decide_eq_true_eq]; exact ⟨h1, h3⟩⟩
theorem caughtB_none {s : ByteArray} {a b : Nat} (h : b ≤ a) : caughtB s a b = false := by
  cases e : caughtB s a b
  · rfl
  · obtain ⟨d, h1, h2, _⟩ := caughtB_iff.1 e; omega
theorem caughtB_first {s : ByteArray} {a b : Nat} (h : a < b) : caughtB s a b = (hitB s a || caughtB s (a + 1) b) := by
  rw [Bool.eq_iff_iff, Bool.or_eq_true, caughtB_iff, caughtB_iff]
  constructor
  · rintro ⟨d, h1, h2, h3⟩
    by_cases e : d = a
    · subst e; exact .inl h3
    · exact .inr ⟨d, by omega, h2, h3⟩
  · rintro (h3 | ⟨d, h1, h2, h3⟩)
    · exact ⟨a, Nat.le_refl _, h, h3⟩
    · exact ⟨d, by omega, h2, h3⟩
theorem caughtB_last {s : ByteArray} {a b : Nat} (h : a ≤ b) : caughtB s a (b + 1) = (caughtB s a b || hitB s b) := by
  rw [Bool.eq_iff_iff, Bool.or_eq_true, caughtB_iff, caughtB_iff]
  constructor
  · rintro ⟨d, h1, h2, h3⟩
    by_cases e : d = b
    · subst e; exact .inr h3
    · exact .inl ⟨d, h1, by omega, h3⟩
  · rintro (⟨d, h1, h2, h3⟩ | h3)
    · exact ⟨d, h1, by omega, h3⟩
    · exact ⟨b, h, by omega, h3⟩
theorem hitB_lt {s : ByteArray} {d : Nat} (h : hitB s d = true) : d < s.size := by
  rcases Nat.lt_or_ge d s.size with a | a
  · exact a
  · unfold hitB at h
    rw [List.getD_eq_getElem?_getD, List.getElem?_eq_none (by simpa using a)] at h
    simp at h
/-- All signs are 0 or 1. -/
def digB (s : ByteArray) : Bool := s.data.toList.all fun c => c == 48 || c == 49
def daysH (xs : List ByteArray) : Nat := match xs with | [] => 0 | s :: _ => s.size
/-- The error of one history, n days. -/
def errH (n : Nat) (s : ByteArray) : Int := if 8 < s.size then 3 else if s.size = n then if digB s then if caughtB s 0 s.size then 0 else 8 else 1 else 1
def firstE : List Int → Int
  | [] => 0
  | x :: t => if x = 0 then firstE t else x
def valH (xs : List ByteArray) : Int := if 60 < xs.length then 3 else firstE (xs.map (errH (daysH xs)))
theorem firstE_take (xs : List Int) : ∀ k, (h : k < xs.length) → firstE (xs.take k) = 0 → (xs[k] = 0 → firstE (xs.take (k + 1)) = 0) ∧ (xs[k] ≠ 0 → firstE xs = xs[k]) := by
  induction xs with
  | nil => intro k h; simp at h
  | cons x t ih =>
    intro k h h0
    cases k with
    | zero => simp only [List.getElem_cons_zero, List.take_succ_cons, List.take_zero, firstE]; exact ⟨fun h1 => by simp [h1], fun h1 => by simp [h1]⟩
    | succ k =>
      simp only [List.take_succ_cons, firstE, List.getElem_cons_succ] at h0 ⊢
      split at h0
      · rename_i hx
        simp only [hx, if_true]
        exact ih k (by simpa using h) h0
      · contradiction
theorem firstE_all {xs : List Int} (h : firstE xs = 0) : ∀ x ∈ xs, x = 0 := by
  induction xs with
  | nil => intro x hx; cases hx
  | cons y t ih =>
    unfold firstE at h
    split at h
    · rename_i hy
      intro x hx
      rcases List.mem_cons.1 hx with rfl | hx
      · exact hy
      · exact ih h x hx
    · contradiction
/-- What valid histories are. -/
structure GoodH (xs : List ByteArray) : Prop where
  len : xs.length ≤ 60
  size : ∀ s ∈ xs, s.size = daysH xs
  days : daysH xs ≤ 8
  one : ∀ s ∈ xs, caughtB s 0 (daysH xs) = true
theorem goodH {xs : List ByteArray} (h : valH xs = 0) : GoodH xs := by
  unfold valH at h
  split at h
  · contradiction
  · rename_i hl
    have hall : ∀ s ∈ xs, errH (daysH xs) s = 0 := fun s hs => firstE_all h _ (List.mem_map.2 ⟨s, hs, rfl⟩)
    have h1 : ∀ s ∈ xs, s.size ≤ 8 ∧ s.size = daysH xs ∧ caughtB s 0 s.size = true := by
      intro s hs
      have := hall s hs
      unfold errH at this
      split at this
      · contradiction
      · rename_i h8
        split at this
        · rename_i hn
          split at this
          · split at this
            · rename_i hc; exact ⟨by omega, hn, hc⟩
            · contradiction
          · contradiction
        · contradiction
    refine ⟨by omega, fun s hs => (h1 s hs).2.1, ?_, fun s hs => by have := h1 s hs; rw [← this.2.1]; exact this.2.2⟩
    cases xs with
    | nil => simp [daysH]
    | cons s t => exact (h1 s (by simp)).1
/-- How many birds p holds for. -/
def cntB (p : ByteArray → Bool) (xs : List ByteArray) : Int := (xs.countP p : Nat)
theorem cntB_take (p : ByteArray → Bool) (xs : List ByteArray) (k : Nat) (h : k < xs.length) : cntB p (xs.take (k + 1)) = cntB p (xs.take k) + if p xs[k] then 1 else 0 := by
  unfold cntB
  rw [List.take_succ_eq_append_getElem h, List.countP_append]
  simp only [List.countP_cons, List.countP_nil]
  split <;> simp
theorem cntB_bd (p : ByteArray → Bool) (xs : List ByteArray) : 0 ≤ cntB p xs ∧ cntB p xs ≤ xs.length := by
  unfold cntB
  have := List.countP_le_length (p := p) (l := xs)
  omega
def markB (d : Nat) (s : ByteArray) : Bool := caughtB s 0 d
def freshB (d : Nat) (s : ByteArray) : Bool := hitB s d && !caughtB s 0 d
def againB (d : Nat) (s : ByteArray) : Bool := hitB s d && caughtB s 0 d
def aliveB (n d : Nat) (s : ByteArray) : Bool := caughtB s 0 (d + 1) && caughtB s d n
theorem mark_succ (d : Nat) (xs : List ByteArray) : cntB (markB (d + 1)) xs = cntB (markB d) xs + cntB (freshB d) xs := by
  unfold cntB
  induction xs with
  | nil => simp
  | cons s t ih =>
    simp only [List.countP_cons]
    have e : markB (d + 1) s = (caughtB s 0 d || hitB s d) := caughtB_last (Nat.zero_le _)
    rw [e]
    unfold markB freshB at *
    cases caughtB s 0 d <;> cases hitB s d <;> simp at * <;> omega
/-- The catches, and what was new, day by day. -/
abbrev C3 := Int × Int × Int
def catchL (xs : List ByteArray) (n : Nat) : List C3 := (List.range n).map fun d => (cntB (markB d) xs, cntB (fun s => hitB s d) xs, cntB (againB d) xs)
def freshL (xs : List ByteArray) (n : Nat) : List Int := (List.range n).map fun d => cntB (freshB d) xs
def aliveL (xs : List ByteArray) (n : Nat) : List Int := (List.range n).map fun d => cntB (aliveB (daysH xs) d) xs
theorem map_range_succ {α : Type} (f : Nat → α) (k : Nat) : (List.range (k + 1)).map f = (List.range k).map f ++ [f k] := by
  rw [List.range_succ, List.map_append]; rfl
end Go.Proofs.YtdpdchghafopfaaDoor
