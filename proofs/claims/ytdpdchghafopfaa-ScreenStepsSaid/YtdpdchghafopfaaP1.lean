/- Plain laws of ways: which points are reached. -/
import Derived.Test.YtdpdchghafopfaaS20
import Derived.Test.YtdpdchghafopfaaS12
set_option linter.unusedVariables false
set_option linter.unusedSimpArgs false
namespace Go.Proofs.Ytdpdchghafopfaa
/-- A hidden way of n steps from f to q. -/
inductive Wk (l : List Sc) (V : List Pt) (f : Pt) : Nat → Pt → Prop
  | zero : f ∈ V → Wk l V f 0 f
  | step {n p q} : Wk l V f n p → nbr l p q = true → q ∈ V → Wk l V f (n + 1) q
theorem Wk.mem {l : List Sc} {V : List Pt} {f : Pt} {n : Nat} {q : Pt} (h : Wk l V f n q) : q ∈ V := by cases h <;> assumption
theorem Wk.start {l : List Sc} {V : List Pt} {f : Pt} {n : Nat} {q : Pt} (h : Wk l V f n q) : f ∈ V := by
  induction h with
  | zero h => exact h
  | step _ _ _ ih => exact ih
theorem Wk.cons {l : List Sc} {V : List Pt} {f g : Pt} {n : Nat} {q : Pt} (h : Wk l V f n q) (hn : nbr l g f = true) (hg : g ∈ V) : Wk l V g (n + 1) q := by
  induction h with
  | zero h => exact .step (.zero hg) hn h
  | step _ h1 h2 ih => exact .step ih h1 h2
theorem Wk.trans {l : List Sc} {V : List Pt} {f p q : Pt} {n m : Nat} (h : Wk l V f n p) (k : Wk l V p m q) : Wk l V f (n + m) q := by
  induction k with
  | zero _ => exact h
  | step _ h1 h2 ih => exact .step ih h1 h2
theorem partedB_symm (a b c d : Int) : partedB a b c d = partedB b a c d := by
  unfold partedB; rw [Int.max_comm a b, Int.min_comm a b]
theorem touchB_symm (a b c d : Pt) : touchB a b c d = touchB b a c d := by
  unfold touchB
  rw [partedB_symm a.1, partedB_symm a.2, g_f3 a b c, g_f3 a b d]
  rw [Int.neg_mul_neg, Int.mul_comm (sideZ c d a)]
theorem seesB_symm (l : List Sc) (a b : Pt) : seesB l a b = seesB l b a := by
  unfold seesB
  rw [show (fun s : Sc => touchB a b s.1 s.2) = fun s : Sc => touchB b a s.1 s.2 from funext fun s => touchB_symm a b s.1 s.2]
theorem apartZ_symm (p q : Pt) : apartZ p q = apartZ q p := by unfold apartZ absI; omega
theorem nbr_symm (l : List Sc) (p q : Pt) : nbr l p q = nbr l q p := by unfold nbr; rw [apartZ_symm, seesB_symm]
theorem Wk.rev {l : List Sc} {V : List Pt} {f q : Pt} {n : Nat} (h : Wk l V f n q) : Wk l V q n f := by
  induction h with
  | zero h => exact .zero h
  | step _ h1 h2 ih => exact ih.cons (by rw [nbr_symm]; exact h1) h2
theorem reach_iff {l : List Sc} {V : List Pt} {f g : Pt} (h : ∃ n, Wk l V f n g) (x : Pt) : (∃ n, Wk l V g n x) ↔ ∃ n, Wk l V f n x := by
  obtain ⟨n, h⟩ := h
  exact ⟨fun ⟨m, k⟩ => ⟨_, h.trans k⟩, fun ⟨m, k⟩ => ⟨_, h.rev.trans k⟩⟩

/-! One round of the reference. -/
section
variable (l : List Sc) (V : List Pt) (rd : Int) (s : List Int)
def Rel (t : List Int) : Prop := t.length = s.length ∧ ∀ k, t.getD k 0 = s.getD k 0 ∨ (s.getD k 0 < 0 ∧ t.getD k 0 = rd + 1 ∧ ∃ i, i < V.length ∧ s.getD i 0 = rd ∧ nbr l (V.getD i (0, 0)) (V.getD k (0, 0)) = true)
theorem rel_refl : Rel l V rd s s := ⟨rfl, fun k => .inl rfl⟩
theorem rel_relax (h0 : 0 ≤ rd) (i : Nat) (hi : i < V.length) (hsi : s.getD i 0 = rd) (st : List Int × Bool) (h : Rel l V rd s st.1) (hf : st.2 = false → st.1 = s) (k : Nat) :
    Rel l V rd s (relaxK l V rd i st k).1 ∧ ((relaxK l V rd i st k).2 = false → (relaxK l V rd i st k).1 = s) := by
  unfold relaxK
  split
  · rename_i hc
    rw [Bool.and_eq_true, decide_eq_true_eq] at hc
    refine ⟨⟨by simpa using h.1, fun j => ?_⟩, fun hx => absurd hx (by simp)⟩
    by_cases e : k = j
    · subst e
      by_cases hk : k < st.1.length
      · right
        refine ⟨?_, ?_, i, hi, hsi, hc.2⟩
        · rcases h.2 k with h1 | ⟨h1, h2, _⟩
          · omega
          · exact h1
        · simp [List.getD_eq_getElem?_getD, List.getElem?_set, hk]
      · exfalso
        have := hc.1
        rw [List.getD_eq_getElem?_getD, List.getElem?_eq_none (by omega)] at this
        simp at this
    · have : (st.1.set k (rd + 1)).getD j 0 = st.1.getD j 0 := by simp [List.getD_eq_getElem?_getD, List.getElem?_set_ne e]
      rw [this]
      exact h.2 j
  · exact ⟨h, hf⟩
theorem rel_relaxF (h0 : 0 ≤ rd) (i : Nat) (hi : i < V.length) (hsi : s.getD i 0 = rd) (ks : List Nat) : ∀ st : List Int × Bool, Rel l V rd s st.1 → (st.2 = false → st.1 = s) →
    Rel l V rd s (ks.foldl (relaxK l V rd i) st).1 ∧ ((ks.foldl (relaxK l V rd i) st).2 = false → (ks.foldl (relaxK l V rd i) st).1 = s) := by
  induction ks with
  | nil => intro st h hf; exact ⟨h, hf⟩
  | cons k t ih =>
    intro st h hf
    have := rel_relax l V rd s h0 i hi hsi st h hf k
    exact ih _ this.1 this.2
theorem rel_at {t : List Int} (h0 : 0 ≤ rd) (h : Rel l V rd s t) (i : Nat) (hi : t.getD i 0 = rd) : s.getD i 0 = rd := by
  rcases h.2 i with h1 | ⟨_, h2, _⟩
  · omega
  · omega
theorem rel_row (h0 : 0 ≤ rd) (st : List Int × Bool) (h : Rel l V rd s st.1) (hf : st.2 = false → st.1 = s) (i : Nat) (hi : i < V.length) :
    Rel l V rd s (rowI l V rd st i).1 ∧ ((rowI l V rd st i).2 = false → (rowI l V rd st i).1 = s) := by
  unfold rowI
  split
  · rename_i hc
    exact rel_relaxF l V rd s h0 i hi (rel_at l V rd s h0 h i hc) _ _ h hf
  · exact ⟨h, hf⟩
theorem rel_rows (h0 : 0 ≤ rd) (is : List Nat) : ∀ st : List Int × Bool, (∀ i ∈ is, i < V.length) → Rel l V rd s st.1 → (st.2 = false → st.1 = s) →
    Rel l V rd s (is.foldl (rowI l V rd) st).1 ∧ ((is.foldl (rowI l V rd) st).2 = false → (is.foldl (rowI l V rd) st).1 = s) := by
  induction is with
  | nil => intro st _ h hf; exact ⟨h, hf⟩
  | cons i t ih =>
    intro st hi h hf
    have := rel_row l V rd s h0 st h hf i (hi i (by simp))
    exact ih _ (fun j hj => hi j (by simp [hj])) this.1 this.2
theorem row_keep (h0 : 0 ≤ rd) (st : List Int × Bool) (i j : Nat) (h : 0 ≤ st.1.getD j 0) : (rowI l V rd st i).1.getD j 0 = st.1.getD j 0 := by
  unfold rowI
  split
  · exact relaxF_keep l V rd h0 i st _ j h
  · rfl
theorem rows_keep (h0 : 0 ≤ rd) (is : List Nat) : ∀ (st : List Int × Bool) (j : Nat), 0 ≤ st.1.getD j 0 → (is.foldl (rowI l V rd) st).1.getD j 0 = st.1.getD j 0 := by
  induction is with
  | nil => intro st j _; rfl
  | cons i t ih =>
    intro st j h
    rw [List.foldl_cons, ih _ _ (by rw [row_keep l V rd h0 st i j h]; exact h), row_keep l V rd h0 st i j h]
theorem relaxF_hit (h0 : 0 ≤ rd) (i k : Nat) (hn : nbr l (V.getD i (0, 0)) (V.getD k (0, 0)) = true) (ks : List Nat) : ∀ st : List Int × Bool, k ∈ ks → k < st.1.length → 0 ≤ (ks.foldl (relaxK l V rd i) st).1.getD k 0 := by
  induction ks with
  | nil => intro st h; cases h
  | cons j t ih =>
    intro st h hk
    rw [List.foldl_cons]
    rcases List.mem_cons.1 h with h1 | h1
    · subst h1
      have h2 : 0 ≤ (relaxK l V rd i st k).1.getD k 0 := by
        unfold relaxK
        split
        · simp [List.getD_eq_getElem?_getD, List.getElem?_set, hk]; omega
        · rename_i hc
          rw [hn, Bool.and_true, decide_eq_true_eq] at hc
          omega
      rw [relaxF_keep l V rd h0 i _ t k h2]
      exact h2
    · exact ih _ h1 (by rw [relaxK_len]; exact hk)
theorem rows_hit (h0 : 0 ≤ rd) (i k : Nat) (hi : s.getD i 0 = rd) (hn : nbr l (V.getD i (0, 0)) (V.getD k (0, 0)) = true) (hk : k < V.length) (is : List Nat) : ∀ st : List Int × Bool, i ∈ is → st.1.length = V.length → st.1.getD i 0 = rd → 0 ≤ (is.foldl (rowI l V rd) st).1.getD k 0 := by
  induction is with
  | nil => intro st h; cases h
  | cons j t ih =>
    intro st h hl hs
    rw [List.foldl_cons]
    rcases List.mem_cons.1 h with h1 | h1
    · subst h1
      have h2 : 0 ≤ (rowI l V rd st i).1.getD k 0 := by
        unfold rowI
        rw [if_pos hs]
        exact relaxF_hit l V rd h0 i k hn _ st (List.mem_range.2 hk) (by omega)
      rw [rows_keep l V rd h0 t _ k h2]
      exact h2
    · exact ih _ h1 (by rw [rowI_len]; exact hl) (by rw [row_keep l V rd h0 st j i (by omega)]; exact hs)
end
theorem round_rel (l : List Sc) (V : List Pt) (rd : Int) (s : List Int) (h0 : 0 ≤ rd) : Rel l V rd s (roundL l V rd s).1 ∧ ((roundL l V rd s).2 = false → (roundL l V rd s).1 = s) :=
  rel_rows l V rd s h0 _ _ (fun i hi => List.mem_range.1 hi) (rel_refl l V rd s) (fun _ => rfl)
theorem round_hit (l : List Sc) (V : List Pt) (rd : Int) (s : List Int) (h0 : 0 ≤ rd) (hl : s.length = V.length) (i k : Nat) (hi : i < V.length) (hs : s.getD i 0 = rd) (hn : nbr l (V.getD i (0, 0)) (V.getD k (0, 0)) = true) (hk : k < V.length) : 0 ≤ (roundL l V rd s).1.getD k 0 :=
  rows_hit l V rd s h0 i k hs hn hk _ _ (List.mem_range.2 hi) hl hs
theorem round_keep (l : List Sc) (V : List Pt) (rd : Int) (s : List Int) (h0 : 0 ≤ rd) (k : Nat) (h : 0 ≤ s.getD k 0) : (roundL l V rd s).1.getD k 0 = s.getD k 0 := rows_keep l V rd h0 _ _ k h
end Go.Proofs.Ytdpdchghafopfaa
