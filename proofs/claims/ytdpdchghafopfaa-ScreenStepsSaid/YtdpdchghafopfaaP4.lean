/- The points that are reached, sorted: one list. -/
import Derived.Test.YtdpdchghafopfaaP3
import Derived.Test.YtdpdchghafopfaaS22
set_option linter.unusedVariables false
set_option linter.unusedSimpArgs false
namespace Go.Proofs.Ytdpdchghafopfaa
open Classical
abbrev LtL (xs : List Pt) : Prop := xs.Pairwise fun x y => ltP x y = true
theorem ltP_irr (x : Pt) : ltP x x = false := by simp [ltP]
theorem ltP_asymm {x y : Pt} (h : ltP x y = true) : ltP y x = false := by
  simp only [ltP, decide_eq_true_eq, decide_eq_false_iff_not] at *; omega
theorem ltL_eq : ∀ xs ys : List Pt, LtL xs → LtL ys → (∀ q, q ∈ xs ↔ q ∈ ys) → xs = ys := by
  intro xs
  induction xs with
  | nil =>
    intro ys _ _ h
    cases ys with
    | nil => rfl
    | cons y u => exact absurd ((h y).2 (by simp)) (by simp)
  | cons x t ih =>
    intro ys hx hy h
    cases ys with
    | nil => exact absurd ((h x).1 (by simp)) (by simp)
    | cons y u =>
      rw [LtL, List.pairwise_cons] at hx hy
      have e : x = y := by
        rcases List.mem_cons.1 ((h x).1 (by simp)) with e | h1
        · exact e
        rcases List.mem_cons.1 ((h y).2 (by simp)) with e | h2
        · exact e.symm
        have a1 := hy.1 x h1
        have a2 := hx.1 y h2
        rw [ltP_asymm a1] at a2
        cases a2
      subst e
      refine congrArg (x :: ·) (ih u hx.2 hy.2 fun q => ⟨fun hq => ?_, fun hq => ?_⟩)
      · rcases List.mem_cons.1 ((h q).1 (List.mem_cons_of_mem _ hq)) with e | h1
        · subst e
          have := hx.1 q hq
          rw [ltP_irr] at this
          cases this
        · exact h1
      · rcases List.mem_cons.1 ((h q).2 (List.mem_cons_of_mem _ hq)) with e | h1
        · subst e
          have := hy.1 q hq
          rw [ltP_irr] at this
          cases this
        · exact h1
theorem col_lt (f : Pt → Bool) (x y0 : Int) (j : Nat) : LtL (colTo f x y0 j) := by
  unfold colTo
  refine List.Pairwise.filter _ (List.pairwise_map.2 (List.Pairwise.imp ?_ List.pairwise_lt_range))
  intro a b h
  simp [ltP]; omega
theorem grid_lt (f : Pt → Bool) (x0 y0 : Int) (m i : Nat) : LtL (gridTo f x0 y0 m i) := by
  unfold gridTo
  refine List.pairwise_flatMap.2 ⟨fun a _ => col_lt f _ y0 m, List.Pairwise.imp ?_ List.pairwise_lt_range⟩
  intro a b h p hp q hq
  obtain ⟨e1, _⟩ := mem_col hp
  obtain ⟨e2, _⟩ := mem_col hq
  simp only [ltP, decide_eq_true_eq]; omega
theorem reachL_lt (l : List Sc) (eyes : List Pt) (b : Bx) (f : Pt) : LtL (reachL l (darkL l eyes b) f) := (grid_lt _ _ _ _ _).filter _
def sortP (xs : List Pt) : List Pt := xs.mergeSort fun x y => !(Go.Proofs.ltOf cfP) y x
theorem sortP_lt (xs : List Pt) (hn : xs.Nodup) : LtL (sortP xs) := by
  have hp : (sortP xs).Perm xs := List.mergeSort_perm _ _
  have hs : (sortP xs).Pairwise fun x y => (!(Go.Proofs.ltOf cfP) y x) = true := by
    refine List.pairwise_mergeSort ?_ ?_ xs
    · intro a b c h1 h2
      rw [lt_cfP] at *
      simp only [ltP, Bool.not_eq_true', decide_eq_false_iff_not] at *; omega
    · intro a b
      rw [lt_cfP]
      simp only [ltP, Bool.or_eq_true, Bool.not_eq_true', decide_eq_false_iff_not]; omega
  have hn2 : (sortP xs).Nodup := hp.nodup_iff.2 hn
  refine List.Pairwise.imp₂ ?_ hs hn2
  intro a b h1 h2
  rw [lt_cfP] at h1
  simp only [ltP, Bool.not_eq_true', decide_eq_false_iff_not, decide_eq_true_eq] at *
  have : ¬ (a.1 = b.1 ∧ a.2 = b.2) := fun e => h2 (Prod.ext e.1 e.2)
  omega
theorem sortP_mem (xs : List Pt) (q : Pt) : q ∈ sortP xs ↔ q ∈ xs := (List.mergeSort_perm _ _).mem_iff
theorem sortP_len (xs : List Pt) : (sortP xs).length = xs.length := (List.mergeSort_perm _ _).length_eq
theorem sort_reach {l : List Sc} {eyes : List Pt} {b : Bx} {f : Pt} {r : St} (h : SpTo l eyes b 0 (initS f) r) (hb : inB b f = true) (hh : hidB l eyes f = true) : sortP r.1 = reachL l (darkL l eyes b) f := by
  obtain ⟨hn, hm⟩ := spread_reach l eyes b h hb hh
  exact ltL_eq _ _ (sortP_lt _ hn) (reachL_lt l eyes b f) fun q => (sortP_mem _ q).trans (hm q)
theorem reach_no {l : List Sc} {eyes : List Pt} {b : Bx} {f : Pt} (hh : hidB l eyes f = false) : reachL l (darkL l eyes b) f = [] := by
  unfold reachL
  rw [List.filter_eq_nil_iff]
  intro q _ h
  rw [decide_eq_true_eq] at h
  obtain ⟨n, hw⟩ := h
  have := ((mem_dark f).1 hw.start).2
  rw [hh] at this
  cases this
end Go.Proofs.Ytdpdchghafopfaa
