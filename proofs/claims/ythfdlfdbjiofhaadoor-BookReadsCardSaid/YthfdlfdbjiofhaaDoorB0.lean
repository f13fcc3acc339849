/- Books: the plain functions that the walks speak of. -/
import Derived.WalkKit
import Derived.Lib.ItoaNum
set_option linter.unusedVariables false
set_option linter.unusedSimpArgs false
namespace Go.Proofs.YthfdlfdbjiofhaaDoor
abbrev Pm : Int := 2147483647
def okC (c : UInt8) : Bool := decide (32 ≤ c.toNat) && decide (c.toNat ≤ 126)
def pageL (l : List UInt8) : Bool := decide (1 ≤ l.length) && (decide (l.length ≤ 60) && l.all okC)
def leafStep (x : Int) (c : UInt8) : Int := (x * 257 + (c.toNat : Int) + 1) % Pm
def leafL (l : List UInt8) : Int := l.foldl leafStep 1
def joinZ (x y : Int) : Int := (x * 48271 + y * 16807 + 1) % Pm
def sumB (x : Int) : Bool := decide (0 ≤ x) && decide (x < Pm)
theorem sumB_iff {x : Int} : sumB x = true ↔ 0 ≤ x ∧ x < Pm := by simp [sumB]
theorem leafStep_bd (x : Int) (c : UInt8) : sumB (leafStep x c) = true := by
  rw [sumB_iff]; unfold leafStep Pm
  exact ⟨Int.emod_nonneg _ (by decide), Int.emod_lt_of_pos _ (by decide)⟩
theorem foldl_bd (l : List UInt8) : ∀ x, sumB x = true → sumB (l.foldl leafStep x) = true := by
  induction l with
  | nil => intro x h; exact h
  | cons c t ih => intro x _; exact ih _ (leafStep_bd x c)
theorem leafL_bd (l : List UInt8) : sumB (leafL l) = true := foldl_bd l 1 (by decide)
theorem joinZ_bd (x y : Int) : sumB (joinZ x y) = true := by
  rw [sumB_iff]; unfold joinZ Pm
  exact ⟨Int.emod_nonneg _ (by decide), Int.emod_lt_of_pos _ (by decide)⟩
theorem leaf_take (l : List UInt8) (k : Nat) (h : k < l.length) : leafL (l.take (k + 1)) = leafStep (leafL (l.take k)) l[k] := by
  unfold leafL
  rw [List.take_succ_eq_append_getElem h, List.foldl_append]; rfl
/-- The greatest power of two below n. -/
def splitN (n : Nat) : Nat := 2 ^ Nat.log2 (n - 1)
theorem split_bd (n : Nat) (h : 2 ≤ n) : 1 ≤ splitN n ∧ splitN n < n := by
  unfold splitN
  have h1 : 2 ^ Nat.log2 (n - 1) ≤ n - 1 := Nat.log2_self_le (by omega)
  have h2 : 0 < 2 ^ Nat.log2 (n - 1) := Nat.two_pow_pos _
  omega
def rootF : Nat → List Int → Int
  | 0, _ => 0
  | k + 1, l => if l.length = 0 then 0 else if l.length = 1 then l.headD 0 else joinZ (rootF k (l.take (splitN l.length))) (rootF k (l.drop (splitN l.length)))
def rootL (l : List Int) : Int := rootF l.length l
theorem rootF_more : ∀ (k : Nat) (l : List Int), l.length ≤ k → rootF k l = rootL l := by
  intro k
  induction k using Nat.strongRecOn with
  | _ k ih =>
    intro l hl
    unfold rootL
    cases k with
    | zero =>
      have : l.length = 0 := by omega
      rw [this]
    | succ k =>
      rcases Nat.lt_or_ge l.length 1 with h | h
      · have : l.length = 0 := by omega
        rw [this]; simp [rootF, this]
      · obtain ⟨m, hm⟩ : ∃ m, l.length = m + 1 := ⟨l.length - 1, by omega⟩
        rw [hm]
        unfold rootF
        by_cases h1 : l.length = 1
        · simp [h1]
        · have hs := split_bd l.length (by omega)
          have h0 : ¬ l.length = 0 := by omega
          rw [if_neg h0, if_neg h1, if_neg h0, if_neg h1]
          have e1 : (l.take (splitN l.length)).length = splitN l.length := by rw [List.length_take]; omega
          have e2 : (l.drop (splitN l.length)).length = l.length - splitN l.length := List.length_drop
          rw [ih k (by omega) _ (by omega), ih k (by omega) _ (by omega), ih m (by omega) _ (by omega), ih m (by omega) _ (by omega)]
theorem root_zero (l : List Int) (h : l.length = 0) : rootL l = 0 := by unfold rootL; rw [h]; rfl
theorem root_one (l : List Int) (h : l.length = 1) : rootL l = l.headD 0 := by unfold rootL; rw [h]; simp [rootF, h]
theorem root_two (l : List Int) (h : 2 ≤ l.length) : rootL l = joinZ (rootL (l.take (splitN l.length))) (rootL (l.drop (splitN l.length))) := by
  have hs := split_bd l.length h
  obtain ⟨m, hm⟩ : ∃ m, l.length = m + 1 := ⟨l.length - 1, by omega⟩
  have e1 : (l.take (splitN l.length)).length = splitN l.length := by rw [List.length_take]; omega
  have e2 : (l.drop (splitN l.length)).length = l.length - splitN l.length := List.length_drop
  rw [← rootF_more m (l.take (splitN l.length)) (by omega), ← rootF_more m (l.drop (splitN l.length)) (by omega)]
  show rootF l.length l = _
  rw [hm]
  conv => lhs; unfold rootF
  rw [if_neg (by omega), if_neg (by omega), ← hm]
theorem rootL_bd : ∀ (n : Nat) (l : List Int), l.length = n → (∀ x ∈ l, sumB x = true) → sumB (rootL l) = true := by
  intro n l hn h
  rcases Nat.lt_or_ge l.length 2 with h2 | h2
  · rcases Nat.lt_or_ge l.length 1 with h1 | h1
    · rw [root_zero l (by omega)]; decide
    · rw [root_one l (by omega)]
      cases l with
      | nil => simp at h1
      | cons x t => exact h x (by simp)
  · rw [root_two l h2]; exact joinZ_bd _ _
def validP (l : List (List UInt8)) : Int := if 64 < l.length then 3 else if l.all pageL then 0 else 1
def rootP (l : List (List UInt8)) : Int := rootL (l.map leafL)
/-- The first line of a book, the text of a book. -/
def pagesW : List UInt8 := [112, 97, 103, 101, 115]
def firstL (n sum : Nat) : List UInt8 := pagesW ++ [32] ++ Lib.decDigits n ++ [32] ++ Lib.decDigits sum ++ [10]
def restL (l : List (List UInt8)) : List UInt8 := l.flatMap fun p => p ++ [10]
def bookL (l : List (List UInt8)) : List UInt8 := firstL l.length (rootP l).toNat ++ restL l
/-- A text cut at its first line feed. -/
def cutL : List UInt8 → Option (List UInt8 × List UInt8)
  | [] => none
  | c :: t => if c = 10 then some ([], t) else (cutL t).map fun x => (c :: x.1, x.2)
theorem cutL_some {l a b : List UInt8} (h : cutL l = some (a, b)) : l = a ++ 10 :: b ∧ (10 : UInt8) ∉ a := by
  induction l generalizing a b with
  | nil => cases h
  | cons c t ih =>
    unfold cutL at h
    split at h
    · rename_i hc
      simp only [Option.some.injEq, Prod.mk.injEq] at h
      obtain ⟨rfl, rfl⟩ := h
      exact ⟨by rw [hc]; rfl, by simp⟩
    · rename_i hc
      cases hx : cutL t with
      | none => rw [hx] at h; cases h
      | some x =>
        rw [hx] at h
        simp only [Option.map_some, Option.some.injEq, Prod.mk.injEq] at h
        obtain ⟨rfl, rfl⟩ := h
        obtain ⟨e, hn⟩ := ih (a := x.1) (b := x.2) hx
        refine ⟨by rw [e]; rfl, ?_⟩
        rw [List.mem_cons, not_or]
        exact ⟨fun e2 => hc e2.symm, hn⟩
theorem cutL_none {l : List UInt8} (h : cutL l = none) : (10 : UInt8) ∉ l := by
  induction l with
  | nil => simp
  | cons c t ih =>
    unfold cutL at h
    split at h
    · cases h
    · rename_i hc
      rw [List.mem_cons, not_or]
      refine ⟨fun e => hc e.symm, ih ?_⟩
      cases hx : cutL t with
      | none => rfl
      | some x => rw [hx] at h; cases h
theorem cutL_of {a b : List UInt8} (h : (10 : UInt8) ∉ a) : cutL (a ++ 10 :: b) = some (a, b) := by
  induction a with
  | nil => simp [cutL]
  | cons c t ih =>
    rw [List.mem_cons, not_or] at h
    show cutL (c :: (t ++ 10 :: b)) = _
    unfold cutL
    rw [if_neg (fun e => h.1 e.symm), ih h.2]; rfl
/-- The pages that are read: at most n, up to a line that is none. -/
def readL : Nat → List UInt8 → List (List UInt8) × List UInt8
  | 0, t => ([], t)
  | n + 1, t => match cutL t with
    | none => ([], t)
    | some (s, r) => if pageL s then ((s :: (readL n r).1), (readL n r).2) else ([], t)
/-- The first line is one. -/
def HeadIs (t : List UInt8) (n sum : Nat) (r : List UInt8) : Prop := n ≤ 64 ∧ (sum : Int) < Pm ∧ t = firstL n sum ++ r
end Go.Proofs.YthfdlfdbjiofhaaDoor
