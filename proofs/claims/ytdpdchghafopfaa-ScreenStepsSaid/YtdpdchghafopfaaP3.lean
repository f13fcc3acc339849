/- What the program's spread reaches. -/
import Derived.Test.YtdpdchghafopfaaP2
set_option linter.unusedVariables false
set_option linter.unusedSimpArgs false
namespace Go.Proofs.Ytdpdchghafopfaa
open Classical
theorem mem_dark {l : List Sc} {eyes : List Pt} {b : Bx} (q : Pt) : q ∈ darkL l eyes b ↔ inB b q = true ∧ hidB l eyes q = true := by
  constructor
  · intro h
    unfold darkL at h
    obtain ⟨h1, h2, h3, h4, h5⟩ := mem_grid h
    unfold wid at h2; unfold hei at h4
    exact ⟨by simp [inB]; omega, h5⟩
  · rintro ⟨h1, h2⟩
    simp [inB] at h1
    unfold darkL gridTo colTo
    rw [List.mem_flatMap]
    refine ⟨(q.1 - b.1.1).toNat, List.mem_range.2 (by unfold wid; omega), List.mem_filter.2 ⟨List.mem_map.2 ⟨(q.2 - b.1.2).toNat, List.mem_range.2 (by unfold hei; omega), Prod.ext ?_ ?_⟩, h2⟩⟩
    · show b.1.1 + ((q.1 - b.1.1).toNat : Int) = q.1; omega
    · show b.1.2 + ((q.2 - b.1.2).toNat : Int) = q.2; omega
theorem apart_dirs (p q : Pt) : apartZ p q = 1 ↔ ∃ d ∈ dirs, q = (p.1 + d.1, p.2 + d.2) := by
  unfold apartZ absI
  constructor
  · intro h
    have : (q.1 - p.1 = 1 ∧ q.2 = p.2) ∨ (q.1 - p.1 = -1 ∧ q.2 = p.2) ∨ (q.1 = p.1 ∧ q.2 - p.2 = 1) ∨ (q.1 = p.1 ∧ q.2 - p.2 = -1) := by omega
    rcases this with ⟨a, b⟩ | ⟨a, b⟩ | ⟨a, b⟩ | ⟨a, b⟩
    · exact ⟨(1, 0), by simp [dirs], Prod.ext (by show q.1 = p.1 + 1; omega) (by show q.2 = p.2 + 0; omega)⟩
    · exact ⟨(-1, 0), by simp [dirs], Prod.ext (by show q.1 = p.1 + -1; omega) (by show q.2 = p.2 + 0; omega)⟩
    · exact ⟨(0, 1), by simp [dirs], Prod.ext (by show q.1 = p.1 + 0; omega) (by show q.2 = p.2 + 1; omega)⟩
    · exact ⟨(0, -1), by simp [dirs], Prod.ext (by show q.1 = p.1 + 0; omega) (by show q.2 = p.2 + -1; omega)⟩
  · rintro ⟨d, hd, rfl⟩
    simp [dirs] at hd
    rcases hd with rfl | rfl | rfl | rfl <;> (show max _ _ + max _ _ = (1 : Int); simp only; omega)
theorem free_iff {l : List Sc} {eyes : List Pt} {b : Bx} (p q : Pt) (h : apartZ p q = 1) : free l eyes b p q = true ↔ nbr l p q = true ∧ q ∈ darkL l eyes b := by
  rw [mem_dark]
  simp only [free, nbr, Bool.and_eq_true, h, decide_true, true_and]
  constructor
  · rintro ⟨⟨h1, h2⟩, h3⟩; exact ⟨h2, h1, h3⟩
  · rintro ⟨h2, h1, h3⟩; exact ⟨⟨h1, h2⟩, h3⟩
section
variable (l : List Sc) (eyes : List Pt) (b : Bx)
theorem step_pre (p q : Pt) (st : St) : ∃ ext, (stepS l eyes b p st q).1 = st.1 ++ ext := by
  unfold stepS; split
  · exact ⟨[], by simp⟩
  · exact ⟨[q], rfl⟩
theorem step_mem (p q x : Pt) (st : St) (h : x ∈ (stepS l eyes b p st q).1) : x ∈ st.1 ∨ (x = q ∧ free l eyes b p q = true) := by
  unfold stepS at h
  split at h
  · exact .inl h
  · rename_i hc
    simp only [Bool.or_eq_true, Bool.not_eq_true', not_or, Bool.not_eq_true, Bool.not_eq_false] at hc
    rcases List.mem_append.1 h with h | h
    · exact .inl h
    · exact .inr ⟨by simpa using h, hc.2⟩
theorem step_has (p q : Pt) (st : St) (hg : Gd b st) (hf : free l eyes b p q = true) : q ∈ (stepS l eyes b p st q).1 := by
  unfold stepS
  split
  · rename_i hc
    rw [hf] at hc
    simp at hc
    have := hg.dom q
    rw [hc] at this
    simpa using this.symm
  · simp
theorem fold_facts (p : Pt) (ds : List Pt) : ∀ st : St, Gd b st → Gd b (ds.foldl (stepD l eyes b p) st) ∧ (∃ ext, (ds.foldl (stepD l eyes b p) st).1 = st.1 ++ ext) ∧
    (∀ x ∈ (ds.foldl (stepD l eyes b p) st).1, x ∈ st.1 ∨ ∃ d ∈ ds, x = (p.1 + d.1, p.2 + d.2) ∧ free l eyes b p x = true) ∧
    (∀ d ∈ ds, free l eyes b p (p.1 + d.1, p.2 + d.2) = true → (p.1 + d.1, p.2 + d.2) ∈ (ds.foldl (stepD l eyes b p) st).1) := by
  induction ds with
  | nil => intro st hg; exact ⟨hg, ⟨[], by simp⟩, fun x hx => .inl hx, fun d hd => by cases hd⟩
  | cons d t ih =>
    intro st hg
    have hg1 : Gd b (stepD l eyes b p st d) := gd_step l eyes b p _ st hg
    obtain ⟨h1, ⟨e1, h2⟩, h3, h4⟩ := ih _ hg1
    obtain ⟨e2, h5⟩ := step_pre l eyes b p (p.1 + d.1, p.2 + d.2) st
    rw [List.foldl_cons]
    refine ⟨h1, ⟨e2 ++ e1, by rw [h2]; show (stepS l eyes b p st _).1 ++ _ = _; rw [h5, List.append_assoc]⟩, fun x hx => ?_, fun d' hd' hf => ?_⟩
    · rcases h3 x hx with h | ⟨d', hd', hx'⟩
      · rcases step_mem l eyes b p _ x st h with h | ⟨rfl, hf⟩
        · exact .inl h
        · exact .inr ⟨d, by simp, rfl, hf⟩
      · exact .inr ⟨d', by simp [hd'], hx'⟩
    · rcases List.mem_cons.1 hd' with rfl | hd'
      · rw [h2]
        exact List.mem_append_left _ (step_has l eyes b p _ st hg hf)
      · exact h4 d' hd' hf
structure InvS (f : Pt) (i : Nat) (st : St) : Prop where
  gd : Gd b st
  start : f ∈ st.1
  sound : ∀ q ∈ st.1, ∃ n, Wk l (darkL l eyes b) f n q
  closed : ∀ j (hj : j < st.1.length), j < i → ∀ q ∈ darkL l eyes b, nbr l st.1[j] q = true → q ∈ st.1
theorem invS_round (f : Pt) (i : Nat) (st : St) (h : InvS l eyes b f i st) (hi : i < st.1.length) : InvS l eyes b f (i + 1) (roundS l eyes b (st.1[i]) st) := by
  obtain ⟨h1, ⟨ext, h2⟩, h3, h4⟩ := fold_facts l eyes b st.1[i] dirs st h.gd
  have hr : (roundS l eyes b st.1[i] st).1 = st.1 ++ ext := h2
  refine ⟨h1, by rw [hr]; exact List.mem_append_left _ h.start, fun q hq => ?_, fun j hj hji q hq hn => ?_⟩
  · rcases h3 q hq with h5 | ⟨d, hd, e, hf⟩
    · exact h.sound q h5
    · obtain ⟨n, hw⟩ := h.sound st.1[i] (List.getElem_mem hi)
      have ha := (apart_dirs st.1[i] q).2 ⟨d, hd, e⟩
      obtain ⟨f1, f2⟩ := (free_iff _ _ ha).1 hf
      exact ⟨_, .step hw f1 f2⟩
  · have hj2 : j < st.1.length := by omega
    have ej : (roundS l eyes b st.1[i] st).1[j] = st.1[j] := by
      simp only [hr]
      rw [List.getElem_append_left hj2]
    rw [ej] at hn
    by_cases e : j = i
    · subst e
      have ha : apartZ st.1[j] q = 1 := by simp only [nbr, Bool.and_eq_true, decide_eq_true_eq] at hn; exact hn.1
      obtain ⟨d, hd, e⟩ := (apart_dirs _ _).1 ha
      have hf := (free_iff (l := l) (eyes := eyes) (b := b) _ _ ha).2 ⟨hn, hq⟩
      rw [e] at hf ⊢
      exact h4 d hd hf
    · rw [hr]
      exact List.mem_append_left _ (h.closed j hj2 (by omega) q hq hn)
theorem spread_inv {f : Pt} {i : Nat} {st r : St} (h : SpTo l eyes b i st r) : InvS l eyes b f i st → InvS l eyes b f r.1.length r := by
  induction h with
  | done hd => intro hi; exact ⟨hi.gd, hi.start, hi.sound, fun j hj hji q hq hn => hi.closed j hj (by omega) q hq hn⟩
  | next hlt _ ih => intro hi; exact ih (invS_round l eyes b f _ _ hi hlt)
theorem spread_reach {f : Pt} {r : St} (h : SpTo l eyes b 0 (initS f) r) (hb : inB b f = true) (hh : hidB l eyes f = true) : r.1.Nodup ∧ ∀ q, q ∈ r.1 ↔ q ∈ reachL l (darkL l eyes b) f := by
  have hf : f ∈ darkL l eyes b := (mem_dark f).2 ⟨hb, hh⟩
  have hi : InvS l eyes b f 0 (initS f) := ⟨gd_init b f hb, by simp [initS], fun q hq => by simp [initS] at hq; subst hq; exact ⟨0, .zero hf⟩, fun j hj hji => absurd hji (by omega)⟩
  have h1 := spread_inv l eyes b h hi
  refine ⟨h1.gd.nodup, fun q => ?_⟩
  unfold reachL
  rw [List.mem_filter, decide_eq_true_eq]
  constructor
  · intro hq
    obtain ⟨n, hw⟩ := h1.sound q hq
    exact ⟨hw.mem, n, hw⟩
  · rintro ⟨hq0, n, hw⟩
    clear hq0
    induction hw with
    | zero _ => exact h1.start
    | step _ hn hq ih =>
      obtain ⟨j, hj, e⟩ := List.getElem_of_mem ih
      exact h1.closed j hj hj _ hq (by rw [e]; exact hn)
end
end Go.Proofs.Ytdpdchghafopfaa
