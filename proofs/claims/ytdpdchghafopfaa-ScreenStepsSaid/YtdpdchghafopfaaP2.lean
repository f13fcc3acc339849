/- What the reference's distances say. -/
import Derived.Test.YtdpdchghafopfaaP1
set_option linter.unusedVariables false
set_option linter.unusedSimpArgs false
namespace Go.Proofs.Ytdpdchghafopfaa
open Classical
structure InvD (l : List Sc) (V : List Pt) (f : Pt) (rd : Int) (s : List Int) : Prop where
  len : s.length = V.length
  pos : ∀ k, k < V.length → 0 ≤ s.getD k 0 → s.getD k 0 ≤ rd ∧ Wk l V f (s.getD k 0).toNat (V.getD k (0, 0)) ∧ ∀ m : Nat, Wk l V f m (V.getD k (0, 0)) → s.getD k 0 ≤ m
  neg : ∀ k, k < V.length → s.getD k 0 < 0 → ∀ m : Nat, Wk l V f m (V.getD k (0, 0)) → rd < m
theorem getD_mem {V : List Pt} {k : Nat} (h : k < V.length) : V.getD k (0, 0) ∈ V := by
  rw [getD_of _ _ _ h]; exact List.getElem_mem h
theorem mem_getD {V : List Pt} {p : Pt} (h : p ∈ V) : ∃ k, k < V.length ∧ V.getD k (0, 0) = p := by
  obtain ⟨k, hk, e⟩ := List.getElem_of_mem h
  exact ⟨k, hk, by rw [getD_of _ _ _ hk]; exact e⟩
theorem init_getD (V : List Pt) (f : Pt) (k : Nat) (h : k < V.length) : (V.map (initV f)).getD k 0 = if V.getD k (0, 0) = f then 0 else -1 := by
  rw [getD_of _ _ _ (by simpa using h), getD_of _ _ _ h, List.getElem_map]
  unfold initV
  by_cases e : V[k] = f
  · simp [e]
  · rw [if_neg e, if_neg]
    intro h1
    simp only [Bool.and_eq_true, beq_iff_eq] at h1
    exact e (Prod.ext h1.1 h1.2)
theorem inv_init (l : List Sc) (V : List Pt) (f : Pt) : InvD l V f 0 (V.map (initV f)) := by
  refine ⟨by simp, fun k hk h => ?_, fun k hk h m hw => ?_⟩
  · rw [init_getD V f k hk] at h ⊢
    split at h
    · rename_i e
      rw [if_pos e, e]
      exact ⟨by omega, .zero (by rw [← e]; exact getD_mem hk), fun m _ => by omega⟩
    · omega
  · rw [init_getD V f k hk] at h
    split at h
    · omega
    · rename_i e
      cases m with
      | zero =>
        exfalso
        generalize V.getD k (0, 0) = x at hw e
        cases hw
        exact e rfl
      | succ m => omega
theorem inv_round {l : List Sc} {V : List Pt} {f : Pt} {rd : Int} {s : List Int} (h0 : 0 ≤ rd) (h : InvD l V f rd s) : InvD l V f (rd + 1) (roundL l V rd s).1 := by
  have hr := (round_rel l V rd s h0).1
  refine ⟨by rw [hr.1, h.len], fun k hk hp => ?_, fun k hk hn m hw => ?_⟩
  · rcases hr.2 k with e | ⟨hneg, e, i, hi, hsi, hnb⟩
    · rw [e] at hp ⊢
      obtain ⟨a, b, c⟩ := h.pos k hk hp
      exact ⟨by omega, b, c⟩
    · rw [e]
      refine ⟨by omega, ?_, fun m hw => ?_⟩
      · have hp := (h.pos i hi (by omega)).2.1
        rw [hsi] at hp
        have e2 : (rd + 1).toNat = rd.toNat + 1 := by omega
        rw [e2]
        exact .step hp hnb (getD_mem hk)
      · have := h.neg k hk hneg m hw
        omega
  · have hs : s.getD k 0 < 0 := by
      rcases Int.lt_or_le (s.getD k 0) 0 with a | a
      · exact a
      · rw [round_keep l V rd s h0 k a] at hn; exact hn
    have hm := h.neg k hk hs m hw
    rcases Int.lt_or_le (rd + 1) m with a | a
    · exact a
    · exfalso
      obtain ⟨m', rfl⟩ : ∃ m', m = m' + 1 := ⟨m - 1, by omega⟩
      have hwk := hw
      generalize hx : V.getD k (0, 0) = x at hw
      cases hw with
      | step hp hnb hq =>
        rename_i p
        obtain ⟨i, hi, rfl⟩ := mem_getD hp.mem
        have hsi : s.getD i 0 = rd := by
          rcases Int.lt_or_le (s.getD i 0) 0 with b | b
          · have := h.neg i hi b _ hp; omega
          · obtain ⟨c1, c2, c3⟩ := h.pos i hi b
            have h3 : Wk l V f ((s.getD i 0).toNat + 1) (V.getD k (0, 0)) := .step c2 (by rw [hx]; exact hnb) (getD_mem hk)
            have := h.neg k hk hs _ h3
            omega
        have := round_hit l V rd s h0 h.len i k hi hsi (by rw [hx]; exact hnb) hk
        omega
structure Ans (l : List Sc) (V : List Pt) (f : Pt) (r : List Int) : Prop where
  len : r.length = V.length
  pos : ∀ k, k < V.length → 0 ≤ r.getD k 0 → Wk l V f (r.getD k 0).toNat (V.getD k (0, 0)) ∧ ∀ m : Nat, Wk l V f m (V.getD k (0, 0)) → r.getD k 0 ≤ m
  neg : ∀ k, k < V.length → r.getD k 0 < 0 → ∀ m : Nat, ¬ Wk l V f m (V.getD k (0, 0))
theorem inv_done {l : List Sc} {V : List Pt} {f : Pt} {rd : Int} {s : List Int} (h0 : 0 ≤ rd) (h : InvD l V f rd s) (hd : (roundL l V rd s).2 = false) : Ans l V f (roundL l V rd s).1 := by
  have e := (round_rel l V rd s h0).2 hd
  have all : ∀ m q, Wk l V f m q → ∃ k, k < V.length ∧ V.getD k (0, 0) = q ∧ 0 ≤ s.getD k 0 := by
    intro m q hw
    induction hw with
    | zero hf =>
      obtain ⟨k, hk, ek⟩ := mem_getD hf
      refine ⟨k, hk, ek, ?_⟩
      rcases Int.lt_or_le (s.getD k 0) 0 with b | b
      · have := h.neg k hk b 0 (by rw [ek]; exact .zero hf); omega
      · exact b
    | step hp hnb hq ih =>
      obtain ⟨i, hi, ei, hs⟩ := ih
      obtain ⟨k, hk, ek⟩ := mem_getD hq
      refine ⟨k, hk, ek, ?_⟩
      rcases Int.lt_or_le (s.getD k 0) 0 with b | b
      · exfalso
        obtain ⟨c1, c2, c3⟩ := h.pos i hi hs
        have h3 : Wk l V f ((s.getD i 0).toNat + 1) (V.getD k (0, 0)) := .step c2 (by rw [ek, ei]; exact hnb) (getD_mem hk)
        have h4 := h.neg k hk b _ h3
        have h5 := round_hit l V rd s h0 h.len i k hi (by omega) (by rw [ek, ei]; exact hnb) hk
        rw [e] at h5
        omega
      · exact b
  rw [e]
  refine ⟨h.len, fun k hk hp => (h.pos k hk hp).2, fun k hk hn m hw => ?_⟩
  obtain ⟨i, hi, ei, hs⟩ := all m _ hw
  obtain ⟨c1, c2, c3⟩ := h.pos i hi hs
  rw [ei] at c2
  have h5 := h.neg k hk hn _ c2
  omega
theorem dist_ans {l : List Sc} {V : List Pt} {f : Pt} {rd : Int} {s r : List Int} (hd : DistTo l V rd s r) : 0 ≤ rd → InvD l V f rd s → Ans l V f r := by
  induction hd with
  | done rd s h => intro h0 hi; exact inv_done h0 hi h
  | go rd s r h t ih => intro h0 hi; exact ih (by omega) (inv_round h0 hi)
noncomputable def reachL (l : List Sc) (V : List Pt) (f : Pt) : List Pt := V.filter fun q => decide (∃ n, Wk l V f n q)
theorem selP_filter (P : Pt → Prop) : ∀ (V : List Pt) (r : List Int), r.length = V.length → (∀ k, k < V.length → (0 ≤ r.getD k 0 ↔ P (V.getD k (0, 0)))) → selP V r = V.filter fun q => decide (P q) := by
  intro V
  induction V with
  | nil => intro r _ _; rfl
  | cons x t ih =>
    intro r hl h
    cases r with
    | nil => simp at hl
    | cons y u =>
      have h0 := h 0 (by simp)
      have ht := ih u (by simpa using hl) (fun k hk => by have := h (k + 1) (by simpa using hk); simpa using this)
      simp only [List.getD_cons_zero] at h0
      unfold selP at ht ⊢
      rw [List.zip_cons_cons, List.filter_cons, List.filter_cons]
      by_cases hy : 0 ≤ y
      · simp [hy, h0.1 hy, ht]
      · have : ¬ P x := fun hp => hy (h0.2 hp)
        simp [hy, this, ht]
theorem sel_reach {l : List Sc} {V : List Pt} {f : Pt} {r : List Int} (h : Ans l V f r) : selP V r = reachL l V f := by
  refine selP_filter (fun q => ∃ n, Wk l V f n q) V r h.len fun k hk => ⟨fun hp => ⟨_, (h.pos k hk hp).1⟩, fun ⟨n, hw⟩ => ?_⟩
  rcases Int.lt_or_le (r.getD k 0) 0 with b | b
  · exact absurd hw (h.neg k hk b n)
  · exact b
theorem ref_reach {l : List Sc} {V : List Pt} {f : Pt} {r : List Int} (hd : DistTo l V 0 (V.map (initV f)) r) : selP V r = reachL l V f := sel_reach (dist_ans hd (by omega) (inv_init l V f))
theorem reachL_same {l : List Sc} {V : List Pt} {f g : Pt} (h : g ∈ reachL l V f) : reachL l V g = reachL l V f := by
  unfold reachL at h ⊢
  rw [List.mem_filter, decide_eq_true_eq] at h
  congr 1
  funext q
  rw [decide_eq_decide]
  exact reach_iff h.2 q
end Go.Proofs.Ytdpdchghafopfaa
