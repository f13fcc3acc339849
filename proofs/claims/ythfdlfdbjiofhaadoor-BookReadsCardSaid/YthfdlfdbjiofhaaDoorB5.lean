/- The head of a book: the plain law. -/
import Derived.Test.YthfdlfdbjiofhaaDoorB4
import Derived.Lib.AtoiAllCases
import Derived.Lib.ItoaMem
set_option linter.unusedVariables false
set_option linter.unusedSimpArgs false
namespace Go.Proofs.YthfdlfdbjiofhaaDoor
open Go.RowKit
theorem dec_small {n : Nat} (h : n < 10) : Lib.decDigits n = [UInt8.ofNat (48 + n)] := Lib.decDigits_one h
theorem dec_big {n : Nat} (h : ¬ n < 10) : Lib.decDigits n = Lib.decDigits (n / 10) ++ [UInt8.ofNat (48 + n % 10)] := by
  conv => lhs; rw [Lib.decDigits]
  rw [dif_neg h]
theorem u8_of {n : Nat} (h : n < 256) : (UInt8.ofNat n).toNat = n := by
  rw [UInt8.toNat_ofNat']; exact Nat.mod_eq_of_lt h
theorem dec_digit (n : Nat) : ∀ c ∈ Lib.decDigits n, 48 ≤ c.toNat ∧ c.toNat ≤ 57 := by
  induction n using Nat.strongRecOn with
  | _ n ih =>
    intro c hc
    by_cases h : n < 10
    · rw [dec_small h, List.mem_singleton] at hc
      rw [hc, u8_of (by omega)]; omega
    · rw [dec_big h, List.mem_append, List.mem_singleton] at hc
      rcases hc with hc | rfl
      · exact ih (n / 10) (by omega) c hc
      · rw [u8_of (by omega)]; omega
theorem dec_ne (n : Nat) : Lib.decDigits n ≠ [] := by
  by_cases h : n < 10
  · rw [dec_small h]; simp
  · rw [dec_big h]; simp
theorem dec_sp (n : Nat) : (32 : UInt8) ∉ Lib.decDigits n := fun h => by have := dec_digit n 32 h; revert this; decide
theorem dec_nl (n : Nat) : (10 : UInt8) ∉ Lib.decDigits n := fun h => by have := dec_digit n 10 h; revert this; decide
theorem parse_dec : ∀ (n : Nat) (r : List UInt8), n < 10000000000 → Lib.parseUint10 0 (Lib.decDigits n ++ r) = Lib.parseUint10 n r := by
  intro n
  induction n using Nat.strongRecOn with
  | _ n ih =>
    intro r hn
    by_cases h : n < 10
    · rw [dec_small h]
      show Lib.parseUint10 0 (UInt8.ofNat (48 + n) :: r) = _
      rw [Lib.parseUint10, u8_of (by omega), if_pos (by omega), if_neg (by omega), if_neg (by omega)]
      congr 1; omega
    · rw [dec_big h, List.append_assoc, ih (n / 10) (by omega) _ (by omega)]
      show Lib.parseUint10 (n / 10) (UInt8.ofNat (48 + n % 10) :: r) = _
      rw [Lib.parseUint10, u8_of (by omega), if_pos (by omega), if_neg (by omega), if_neg (by omega)]
      congr 1; omega
theorem atoi_dec (n : Nat) (hn : n < 10000000000) : Lib.atoiAll (Lib.decDigits n) = .ok (n : Int) := by
  have hp := parse_dec n [] hn
  rw [List.append_nil] at hp
  have hd := dec_digit n
  have hne := dec_ne n
  cases hl : Lib.decDigits n with
  | nil => exact absurd hl hne
  | cons c r =>
    have := hd c (by rw [hl]; simp)
    rw [hl] at hp
    have hm : Lib.parseMag (c :: r) = .ok n := by unfold Lib.parseMag; rw [if_neg (by simp), hp]; rfl
    unfold Lib.atoiAll
    simp only
    rw [if_neg (by omega), hm]
    simp only
    rw [if_neg (by omega), if_neg (by omega), if_neg (by omega)]
theorem itoa_dec (n : Nat) : Lib.itoa (n : Int) = Lib.decDigits n := Lib.itoa_nonneg n
theorem dec_inj {n m : Nat} (hn : n < 10000000000) (hm : m < 10000000000) (h : Lib.decDigits n = Lib.decDigits m) : n = m := by
  have a := atoi_dec n hn
  rw [h, atoi_dec m hm] at a
  simp only [Lib.NumEnd.ok.injEq] at a
  omega
/-- The first line as the program reads it: what stands ahead of the line feed. -/
def numsD (w1 w2 : List UInt8) : Option (Nat × Nat) :=
  match Lib.atoiAll w1, Lib.atoiAll w2 with
  | .ok n, .ok s => if Lib.itoa n = w1 ∧ Lib.itoa s = w2 ∧ 0 ≤ n ∧ n ≤ 64 ∧ sumB s = true then some (n.toNat, s.toNat) else none
  | _, _ => none
def lineD (a : List UInt8) : Option (Nat × Nat) :=
  match splitW a with
  | [w0, w1, w2] => if w0 = pagesW then numsD w1 w2 else none
  | _ => none
def lineL (n sum : Nat) : List UInt8 := pagesW ++ [32] ++ Lib.decDigits n ++ [32] ++ Lib.decDigits sum
theorem firstL_eq (n sum : Nat) : firstL n sum = lineL n sum ++ [10] := rfl
theorem line_nl (n sum : Nat) : (10 : UInt8) ∉ lineL n sum := by
  unfold lineL pagesW
  simp only [List.mem_append, not_or]
  refine ⟨⟨⟨⟨by decide, by decide⟩, dec_nl n⟩, by decide⟩, dec_nl sum⟩
theorem splitW_line (n sum : Nat) : splitW (lineL n sum) = [pagesW, Lib.decDigits n, Lib.decDigits sum] := by
  have e : lineL n sum = pagesW ++ 32 :: (Lib.decDigits n ++ 32 :: Lib.decDigits sum) := by unfold lineL; simp
  rw [e, splitW_at (by decide), splitW_at (dec_sp n), splitW_one (dec_sp sum)]
theorem nums_iff (w1 w2 : List UInt8) (n sum : Nat) : numsD w1 w2 = some (n, sum) ↔ n ≤ 64 ∧ (sum : Int) < Pm ∧ w1 = Lib.decDigits n ∧ w2 = Lib.decDigits sum := by
  constructor
  · intro h
    unfold numsD at h
    split at h
    · rename_i x y h1 h2
      split at h
      · rename_i hc
        obtain ⟨c1, c2, c3, c4, c5⟩ := hc
        rw [sumB_iff] at c5
        simp only [Option.some.injEq, Prod.mk.injEq] at h
        obtain ⟨rfl, rfl⟩ := h
        obtain ⟨a, rfl⟩ : ∃ a : Nat, x = a := ⟨x.toNat, by omega⟩
        obtain ⟨b, rfl⟩ : ∃ b : Nat, y = b := ⟨y.toNat, by omega⟩
        rw [itoa_dec] at c1 c2
        simp only [Int.toNat_natCast]
        exact ⟨by omega, c5.2, c1.symm, c2.symm⟩
      · cases h
    · cases h
  · rintro ⟨h1, h2, rfl, rfl⟩
    have hp : Pm = 2147483647 := rfl
    unfold numsD
    rw [atoi_dec n (by omega), atoi_dec sum (by omega)]
    simp only
    rw [if_pos ⟨itoa_dec n, itoa_dec sum, by omega, by omega, by rw [sumB_iff]; omega⟩]
    simp
theorem line_iff (a : List UInt8) (n sum : Nat) : lineD a = some (n, sum) ↔ n ≤ 64 ∧ (sum : Int) < Pm ∧ a = lineL n sum := by
  constructor
  · intro h
    unfold lineD at h
    have hj := (splitW_join a).1
    split at h
    · rename_i w0 w1 w2 hs
      split at h
      · rename_i h0
        obtain ⟨h1, h2, rfl, rfl⟩ := (nums_iff _ _ _ _).1 h
        refine ⟨h1, h2, ?_⟩
        rw [hs, h0] at hj
        rw [← hj]
        simp [lineL, List.intersperse]
      · cases h
    · cases h
  · rintro ⟨h1, h2, rfl⟩
    unfold lineD
    rw [splitW_line]
    simp only [if_true]
    exact (nums_iff _ _ _ _).2 ⟨h1, h2, rfl, rfl⟩
/-- The head of a text: the numbers and the rest. -/
def headL (t : List UInt8) : Option (Nat × Nat × List UInt8) :=
  match cutL t with
  | none => none
  | some (a, r) => match lineD a with
    | none => none
    | some (n, s) => some (n, s, r)
theorem headL_iff (t : List UInt8) (n sum : Nat) (r : List UInt8) : headL t = some (n, sum, r) ↔ HeadIs t n sum r := by
  unfold headL HeadIs
  constructor
  · intro h
    cases hc : cutL t with
    | none => rw [hc] at h; cases h
    | some x =>
      obtain ⟨a, b⟩ := x
      rw [hc] at h
      simp only at h
      cases hl : lineD a with
      | none => rw [hl] at h; cases h
      | some y =>
        obtain ⟨p, q⟩ := y
        rw [hl] at h
        simp only [Option.some.injEq, Prod.mk.injEq] at h
        obtain ⟨rfl, rfl, rfl⟩ := h
        obtain ⟨h1, h2, rfl⟩ := (line_iff a p q).1 hl
        refine ⟨h1, h2, ?_⟩
        rw [(cutL_some hc).1, firstL_eq]; simp
  · rintro ⟨h1, h2, rfl⟩
    have e : firstL n sum ++ r = lineL n sum ++ 10 :: r := by rw [firstL_eq]; simp
    rw [e, cutL_of (line_nl n sum)]
    simp only
    rw [(line_iff _ n sum).2 ⟨h1, h2, rfl⟩]
end Go.Proofs.YthfdlfdbjiofhaaDoor
