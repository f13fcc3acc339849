/- The program's spread finds the points in order of their distance, and each one from a point that is one step nearer. -/
import Derived.Test.YtdpdchghafopfaaP3
set_option linter.unusedVariables false
set_option linter.unusedSimpArgs false
namespace Go.Proofs.Ytdpdchghafopfaa
open Classical
/-- q is n steps from f, and no fewer. -/
def Dst (l : List Sc) (V : List Pt) (f : Pt) (n : Nat) (q : Pt) : Prop := Wk l V f n q ∧ ∀ m, Wk l V f m q → n ≤ m
theorem Dst.uniq {l : List Sc} {V : List Pt} {f q : Pt} {n m : Nat} (h : Dst l V f n q) (k : Dst l V f m q) : n = m :=
  Nat.le_antisymm (h.2 _ k.1) (k.2 _ h.1)
theorem wk_dst {l : List Sc} {V : List Pt} {f q : Pt} : ∀ n, Wk l V f n q → ∃ m, m ≤ n ∧ Dst l V f m q := by
  intro n
  induction n using Nat.strongRecOn with
  | _ n ih =>
    intro h
    by_cases hm : ∀ m, Wk l V f m q → n ≤ m
    · exact ⟨n, Nat.le_refl _, h, hm⟩
    · obtain ⟨m, hm⟩ := Classical.not_forall.1 hm
      obtain ⟨hw, hlt⟩ := Classical.not_imp.1 hm
      obtain ⟨m', h1, h2⟩ := ih m (by omega) hw
      exact ⟨m', by omega, h2⟩
theorem Dst.pred {l : List Sc} {V : List Pt} {f q : Pt} {n : Nat} (h : Dst l V f (n + 1) q) : ∃ p, Dst l V f n p ∧ nbr l p q = true := by
  obtain ⟨hw, hmin⟩ := h
  cases hw with
  | step hp hn hq =>
    rename_i p
    refine ⟨p, ⟨hp, fun m hm => ?_⟩, hn⟩
    have := hmin _ (Wk.step hm hn hq)
    omega
theorem Dst.zero {l : List Sc} {V : List Pt} {f q : Pt} (h : Dst l V f 0 q) : q = f := by
  have := h.1
  cases this
  rfl
theorem dst_start {l : List Sc} {V : List Pt} {f : Pt} (h : f ∈ V) : Dst l V f 0 f := ⟨.zero h, fun _ _ => Nat.zero_le _⟩
section
variable (l : List Sc) (eyes : List Pt) (b : Bx)
structure InvB (f : Pt) (i : Nat) (st : St) : Prop where
  gd : Gd b st
  start : st.1[0]? = some f
  lvl : ∀ q ∈ st.1, ∃ n, Dst l (darkL l eyes b) f n q
  mono : ∀ (j k : Nat) (x y : Pt), st.1[j]? = some x → st.1[k]? = some y → j ≤ k → ∀ (n m : Nat), Dst l (darkL l eyes b) f n x → Dst l (darkL l eyes b) f m y → n ≤ m
  near : ∀ (k : Nat) (x y : Pt), st.1[i]? = some x → st.1[k]? = some y → ∀ (n m : Nat), Dst l (darkL l eyes b) f n x → Dst l (darkL l eyes b) f m y → m ≤ n + 1
  closed : ∀ (j : Nat) (x : Pt), st.1[j]? = some x → j < i → ∀ q ∈ darkL l eyes b, nbr l x q = true → q ∈ st.1
  back : ∀ q p, st.2 q = some p → (q = f ∧ p = f) ∨ ∃ n, Dst l (darkL l eyes b) f n p ∧ Dst l (darkL l eyes b) f (n + 1) q
theorem early {f : Pt} {i : Nat} {st : St} {p : Pt} (h : InvB l eyes b f i st) (hp : st.1[i]? = some p) {n : Nat} (hn : Dst l (darkL l eyes b) f n p) : ∀ k x, Dst l (darkL l eyes b) f k x → k < n → ∃ j, j < i ∧ st.1[j]? = some x := by
  intro k
  induction k with
  | zero =>
    intro x hx hlt
    have hxf := hx.zero
    subst hxf
    refine ⟨0, ?_, h.start⟩
    rcases Nat.eq_zero_or_pos i with e | e
    · subst e
      rw [h.start] at hp
      cases hp
      have := hn.uniq hx
      omega
    · exact e
  | succ k ih =>
    intro x hx hlt
    obtain ⟨y, hy, hnb⟩ := hx.pred
    obtain ⟨j, hji, e⟩ := ih y hy (by omega)
    have hm := h.closed j y e hji x hx.1.mem hnb
    obtain ⟨jx, hjx, ex⟩ := List.getElem_of_mem hm
    have ex2 : st.1[jx]? = some x := by rw [List.getElem?_eq_getElem hjx, ex]
    refine ⟨jx, ?_, ex2⟩
    rcases Nat.lt_or_ge jx i with a | a
    · exact a
    · have := h.mono i jx p x hp ex2 a n (k + 1) hn hx
      omega
theorem seen_all {f : Pt} {i : Nat} {st : St} {p q : Pt} (h : InvB l eyes b f i st) (hp : st.1[i]? = some p) {n m : Nat} (hn : Dst l (darkL l eyes b) f n p) (hm : Dst l (darkL l eyes b) f m q) (hle : m ≤ n) : q ∈ st.1 := by
  cases m with
  | zero =>
    have := hm.zero
    subst this
    exact List.mem_of_getElem? h.start
  | succ k =>
    obtain ⟨y, hy, hnb⟩ := hm.pred
    obtain ⟨j, hji, e⟩ := early l eyes b h hp hn k y hy (by omega)
    exact h.closed j y e hji q hm.1.mem hnb
theorem invB_step {f : Pt} {i : Nat} {st : St} {p q : Pt} (h : InvB l eyes b f i st) (hp : st.1[i]? = some p) (ha : apartZ p q = 1) :
    InvB l eyes b f i (stepS l eyes b p st q) ∧ (stepS l eyes b p st q).1[i]? = some p := by
  have hg := gd_step l eyes b p q st h.gd
  by_cases hc : ((st.2 q).isSome || !(free l eyes b p q)) = true
  · have e : stepS l eyes b p st q = st := by unfold stepS; rw [if_pos hc]
    rw [e]; exact ⟨h, hp⟩
  · have e : stepS l eyes b p st q = (st.1 ++ [q], fun q' => if q' = q then some p else st.2 q') := by unfold stepS; rw [if_neg hc]
    rw [e] at hg ⊢
    simp only [Bool.or_eq_true, Bool.not_eq_true', not_or, Bool.not_eq_true, Bool.not_eq_false] at hc
    obtain ⟨h1, h2⟩ := hc
    have hnm : q ∉ st.1 := by
      have := h.gd.dom q
      rw [h1] at this
      simpa using this.symm
    obtain ⟨hnb, hdk⟩ := (free_iff p q ha).1 h2
    obtain ⟨n, hn⟩ := h.lvl p (List.mem_of_getElem? hp)
    obtain ⟨m, hm1, hm⟩ := wk_dst _ (Wk.step hn.1 hnb hdk)
    obtain rfl : m = n + 1 := by
      rcases Nat.lt_or_ge n m with a | a
      · omega
      · exact absurd (seen_all l eyes b h hp hn hm a) hnm
    have old : ∀ j x, (st.1 ++ [q])[j]? = some x → st.1[j]? = some x ∨ (j = st.1.length ∧ x = q) := by
      intro j x hx
      rcases Nat.lt_or_ge j st.1.length with a | a
      · rw [List.getElem?_append_left a] at hx; exact .inl hx
      · right
        rw [List.getElem?_append_right a] at hx
        rcases Nat.eq_zero_or_pos (j - st.1.length) with c | c
        · rw [c] at hx; simp at hx; exact ⟨by omega, hx.symm⟩
        · rw [List.getElem?_eq_none (by simp; omega)] at hx; cases hx
    have lt : ∀ j x, st.1[j]? = some x → j < st.1.length := fun j x hx => (List.getElem?_eq_some_iff.1 hx).1
    have keep : ∀ j x, st.1[j]? = some x → (st.1 ++ [q])[j]? = some x := fun j x hx => by rw [List.getElem?_append_left (lt j x hx)]; exact hx
    have hil := lt i p hp
    refine ⟨⟨hg, keep 0 f h.start, fun x hx => ?_, fun j k x y hx hy hjk n' m' hn' hm' => ?_, fun k x y hx hy n' m' hn' hm' => ?_, fun j x hx hji z hz hzn => ?_, fun q' p' hq' => ?_⟩, keep i p hp⟩
    · rcases List.mem_append.1 hx with hx | hx
      · exact h.lvl x hx
      · simp at hx; subst hx; exact ⟨_, hm⟩
    · rcases old j x hx with a | ⟨a, rfl⟩ <;> rcases old k y hy with c | ⟨c, rfl⟩
      · exact h.mono j k x y a c hjk n' m' hn' hm'
      · have e1 := hm'.uniq hm
        have := h.near j p x hp a n n' hn hn'
        omega
      · have := lt k y c; omega
      · have := hn'.uniq hm'; omega
    · rcases old i x hx with a | ⟨a, rfl⟩
      · rcases old k y hy with c | ⟨c, rfl⟩
        · exact h.near k x y a c n' m' hn' hm'
        · rw [hp] at a; cases a
          have e1 := hm'.uniq hm
          have e2 := hn'.uniq hn
          omega
      · omega
    · rcases old j x hx with a | ⟨a, rfl⟩
      · exact List.mem_append_left _ (h.closed j x a hji z hz hzn)
      · omega
    · by_cases c : q' = q
      · subst c
        simp only [if_true] at hq'
        cases hq'
        exact .inr ⟨n, hn, hm⟩
      · simp only [if_neg c] at hq'
        exact h.back q' p' hq'
theorem invB_fold {f : Pt} {i : Nat} {p : Pt} (ds : List Pt) (hd : ∀ d ∈ ds, apartZ p (p.1 + d.1, p.2 + d.2) = 1) : ∀ {st : St}, InvB l eyes b f i st → st.1[i]? = some p → InvB l eyes b f i (ds.foldl (stepD l eyes b p) st) ∧ (ds.foldl (stepD l eyes b p) st).1[i]? = some p := by
  induction ds with
  | nil => intro st h hp; exact ⟨h, hp⟩
  | cons d t ih =>
    intro st h hp
    obtain ⟨h1, h2⟩ := invB_step l eyes b h hp (hd d (by simp))
    exact ih (fun d' hd' => hd d' (by simp [hd'])) h1 h2
theorem invB_round {f : Pt} {i : Nat} {st : St} (h : InvB l eyes b f i st) (hi : i < st.1.length) : InvB l eyes b f (i + 1) (roundS l eyes b (st.1[i]) st) := by
  have hp : st.1[i]? = some st.1[i] := List.getElem?_eq_getElem hi
  obtain ⟨h1, h2⟩ := invB_fold l eyes b (p := st.1[i]) dirs (fun d hd => (apart_dirs _ _).2 ⟨d, hd, rfl⟩) h hp
  obtain ⟨_, _, _, h4⟩ := fold_facts l eyes b st.1[i] dirs st h.gd
  change InvB l eyes b f i (roundS l eyes b (st.1[i]) st) at h1
  change (roundS l eyes b (st.1[i]) st).1[i]? = _ at h2
  generalize st.1[i] = p at *
  generalize hst : roundS l eyes b p st = st2 at *
  refine ⟨h1.gd, h1.start, h1.lvl, h1.mono, fun k x y hx hy n m hn hm => ?_, fun j x hx hj q hq hqn => ?_, h1.back⟩
  · obtain ⟨n0, hn0⟩ := h1.lvl p (List.mem_of_getElem? h2)
    have a := h1.near k p y h2 hy n0 m hn0 hm
    have c := h1.mono i (i + 1) p x h2 hx (by omega) n0 n hn0 hn
    omega
  · by_cases e : j = i
    · subst e
      rw [h2] at hx; cases hx
      have ha : apartZ p q = 1 := by simp only [nbr, Bool.and_eq_true, decide_eq_true_eq] at hqn; exact hqn.1
      obtain ⟨d, hd, e⟩ := (apart_dirs _ _).1 ha
      have hf := (free_iff (l := l) (eyes := eyes) (b := b) _ _ ha).2 ⟨hqn, hq⟩
      rw [e] at hf ⊢
      rw [← hst]
      exact h4 d hd hf
    · exact h1.closed j x hx (by omega) q hq hqn
theorem invB_init {f : Pt} (hb : inB b f = true) (hh : hidB l eyes f = true) : InvB l eyes b f 0 (initS f) := by
  have hf : f ∈ darkL l eyes b := (mem_dark f).2 ⟨hb, hh⟩
  have one : ∀ (k : Nat) (y : Pt), (initS f).1[k]? = some y → y = f := by
    intro k y hy
    have := List.mem_of_getElem? hy
    simpa [initS] using this
  refine ⟨gd_init b f hb, rfl, fun q hq => ?_, fun j k x y hx hy _ n m hn hm => ?_, fun k x y hx hy n m hn hm => ?_, fun j x hx hj => absurd hj (by omega), fun q p hq => ?_⟩
  · simp [initS] at hq; subst hq; exact ⟨0, dst_start hf⟩
  · have e1 := one j x hx; have e2 := one k y hy; subst e1; subst e2
    exact Nat.le_of_eq (hn.uniq hm)
  · have e1 := one 0 x hx; have e2 := one k y hy; subst e1; subst e2
    have := hn.uniq hm; omega
  · unfold initS at hq
    by_cases e : q = f
    · simp only [if_pos e] at hq; cases hq; exact .inl ⟨e, rfl⟩
    · simp only [if_neg e] at hq; cases hq
theorem spread_invB {f : Pt} {i : Nat} {st r : St} (h : SpTo l eyes b i st r) : InvB l eyes b f i st → ∃ j, InvB l eyes b f j r := by
  induction h with
  | done hd => intro hi; exact ⟨_, hi⟩
  | next hlt _ ih => intro hi; exact ih (invB_round l eyes b hi hlt)
/-- What the way back says. -/
structure BackS (f : Pt) (r : St) : Prop where
  dom : ∀ q, (r.2 q).isSome = decide (q ∈ r.1)
  inb : ∀ q ∈ r.1, inB b q = true
  lvl : ∀ q ∈ r.1, ∃ n, Dst l (darkL l eyes b) f n q
  all : ∀ q n, Wk l (darkL l eyes b) f n q → q ∈ r.1
  back : ∀ q p, r.2 q = some p → (q = f ∧ p = f) ∨ ∃ n, Dst l (darkL l eyes b) f n p ∧ Dst l (darkL l eyes b) f (n + 1) q
  nodup : r.1.Nodup
theorem spread_back {f : Pt} {r : St} (h : SpTo l eyes b 0 (initS f) r) (hb : inB b f = true) (hh : hidB l eyes f = true) : BackS l eyes b f r := by
  obtain ⟨j, hj⟩ := spread_invB l eyes b h (invB_init l eyes b hb hh)
  have h2 := (spread_reach l eyes b h hb hh).2
  refine ⟨hj.gd.dom, hj.gd.inb, hj.lvl, fun q n hw => (h2 q).2 ?_, hj.back, hj.gd.nodup⟩
  unfold reachL
  rw [List.mem_filter, decide_eq_true_eq]
  exact ⟨hw.mem, n, hw⟩
end
/-- One step back: nearer by one. -/
theorem BackS.step {l : List Sc} {eyes : List Pt} {b : Bx} {f : Pt} {r : St} (h : BackS l eyes b f r) {q : Pt} {n : Nat} (hn : Dst l (darkL l eyes b) f (n + 1) q) : ∃ p, r.2 q = some p ∧ Dst l (darkL l eyes b) f n p := by
  have hm := h.all q _ hn.1
  have hd := h.dom q
  simp only [hm, decide_true] at hd
  obtain ⟨p, hp⟩ := Option.isSome_iff_exists.1 hd
  refine ⟨p, hp, ?_⟩
  rcases h.back q p hp with ⟨e1, e2⟩ | ⟨m, h1, h2⟩
  · subst e1
    have := hn.2 0 (.zero hn.1.start)
    omega
  · have := hn.uniq h2
    obtain rfl : m = n := by omega
    exact h1
theorem dst_len {l : List Sc} {eyes : List Pt} {b : Bx} (hb : boxB b = true) {f q : Pt} {n : Nat} (hn : Dst l (darkL l eyes b) f n q) : n < 441 := by
  have hx : ∀ m, m ≤ n → ∃ x, Dst l (darkL l eyes b) f m x := by
    intro m
    generalize hk : n - m = k
    induction k generalizing m with
    | zero => intro hm; obtain rfl : m = n := by omega
              exact ⟨q, hn⟩
    | succ k ih =>
      intro hm
      obtain ⟨x, hx⟩ := ih (m + 1) (by omega) (by omega)
      obtain ⟨p, hp, _⟩ := hx.pred
      exact ⟨p, hp⟩
  let g : Nat → Pt := fun m => if hm : m ≤ n then Classical.choose (hx m hm) else (0, 0)
  have hg : ∀ m, m ≤ n → Dst l (darkL l eyes b) f m (g m) := by
    intro m hm
    simp only [g, dif_pos hm]
    exact Classical.choose_spec (hx m hm)
  have hl : ((List.range (n + 1)).map g).length ≤ 441 := by
    refine box_pig b hb _ ?_ ?_
    · rw [List.nodup_iff_pairwise_ne, List.pairwise_map]
      refine List.Pairwise.imp_of_mem ?_ List.pairwise_lt_range
      intro a c ha hc hlt e
      have h1 := hg a (by simp at ha; omega)
      have h2 := hg c (by simp at hc; omega)
      rw [e] at h1
      have := h1.uniq h2
      omega
    · intro x hx
      obtain ⟨m, hm, rfl⟩ := List.mem_map.1 hx
      exact ((mem_dark _).1 (hg m (by simp at hm; omega)).1.mem).1
  simp at hl
  omega
/-- The first number that the reference finds. -/
theorem ans_dst {l : List Sc} {V : List Pt} {f : Pt} {r : List Int} (h : Ans l V f r) {k : Nat} (hk : k < V.length) (hp : 0 ≤ r.getD k 0) : Dst l V f (r.getD k 0).toNat (V.getD k (0, 0)) := by
  obtain ⟨h1, h2⟩ := h.pos k hk hp
  exact ⟨h1, fun m hm => by have := h2 m hm; omega⟩
end Go.Proofs.Ytdpdchghafopfaa
