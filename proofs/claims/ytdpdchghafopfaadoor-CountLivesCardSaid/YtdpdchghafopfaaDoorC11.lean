/- How long birds live: the plain law, and the reference's Lives (as printed). -/
import Derived.Test.YtdpdchghafopfaaDoorCvQLives
import Derived.Test.YtdpdchghafopfaaDoorPLivesx2
set_option linter.unusedVariables false
set_option linter.unusedSimpArgs false
namespace Go.Proofs.YtdpdchghafopfaaDoor
open Go.RowKit Go.Proofs.YtdpdchghafopfaaDoorW.PrintWords Go.Proofs.YtdpdchghafopfaaDoorW.PrintLast Go.Proofs.YtdpdchghafopfaaDoorW.PrintMore
/-- On how many of n days the bird is known to be alive. -/
def lifeN (n : Nat) (s : ByteArray) : Int := ((List.range n).countP fun d => aliveB n d s : Nat)
def lifeL (xs : List ByteArray) : List Int := xs.map (lifeN (daysH xs))
/-- The first and the last day. -/
structure Ends (s : ByteArray) (n f l : Nat) : Prop where
  le : f ≤ l
  lt : l < n
  hf : hitB s f = true
  hl : hitB s l = true
  lo : ∀ j, j < f → hitB s j = false
  hi : ∀ j, l < j → j < n → hitB s j = false
theorem ends_ex {s : ByteArray} {n : Nat} (h : caughtB s 0 n = true) : ∃ f l, Ends s n f l := by
  have h1 : ∃ f, f < n ∧ hitB s f = true ∧ ∀ j, j < f → hitB s j = false := by
    obtain ⟨d, _, h2, h3⟩ := caughtB_iff.1 h
    clear h
    induction d using Nat.strongRecOn with
    | _ d ih =>
      by_cases hx : ∀ j, j < d → hitB s j = false
      · exact ⟨d, h2, h3, hx⟩
      · obtain ⟨j, hj⟩ := Classical.not_forall.1 hx
        obtain ⟨hj1, hj2⟩ := Classical.not_imp.1 hj
        exact ih j hj1 (Nat.zero_le _) (by omega) (by simpa using hj2)
  obtain ⟨f, hfn, hf, hlo⟩ := h1
  have h2 : ∀ m, m ≤ n → f < m → ∃ l, f ≤ l ∧ l < m ∧ hitB s l = true ∧ ∀ j, l < j → j < m → hitB s j = false := by
    intro m
    induction m with
    | zero => intro _ h; omega
    | succ m ih =>
      intro hm hfm
      cases hh : hitB s m
      · by_cases e : f = m
        · subst e; rw [hf] at hh; cases hh
        · obtain ⟨l, a, b, c, d⟩ := ih (by omega) (by omega)
          exact ⟨l, a, by omega, c, fun j hj hjm => by
            by_cases e2 : j = m
            · subst e2; exact hh
            · exact d j hj (by omega)⟩
      · exact ⟨m, by omega, by omega, hh, fun j hj hjm => by omega⟩
  obtain ⟨l, a, b, c, d⟩ := h2 n (Nat.le_refl _) hfn
  exact ⟨f, l, a, b, hf, c, hlo, d⟩
theorem Ends.ahead {s : ByteArray} {n f l : Nat} (h : Ends s n f l) (d : Nat) : caughtB s 0 (d + 1) = decide (f ≤ d) := by
  rw [Bool.eq_iff_iff, decide_eq_true_eq, caughtB_iff]
  constructor
  · rintro ⟨j, _, hj, hh⟩
    rcases Nat.lt_or_ge j f with a | a
    · rw [h.lo j a] at hh; cases hh
    · omega
  · intro hd; exact ⟨f, Nat.zero_le _, by omega, h.hf⟩
theorem Ends.behind {s : ByteArray} {n f l : Nat} (h : Ends s n f l) (d : Nat) : caughtB s d n = decide (d ≤ l) := by
  rw [Bool.eq_iff_iff, decide_eq_true_eq, caughtB_iff]
  constructor
  · rintro ⟨j, hj, hjn, hh⟩
    rcases Nat.lt_or_ge l j with a | a
    · rw [h.hi j a hjn] at hh; cases hh
    · omega
  · intro hd; exact ⟨l, hd, h.lt, h.hl⟩
theorem count_mid (f l : Nat) (h : f ≤ l) : ∀ n, (List.range n).countP (fun d => decide (f ≤ d) && decide (d ≤ l)) = min n (l + 1) - min n f := by
  intro n
  induction n with
  | zero => simp
  | succ n ih =>
    rw [List.range_succ, List.countP_append, ih]
    simp only [List.countP_cons, List.countP_nil]
    by_cases h1 : f ≤ n <;> by_cases h2 : n ≤ l <;> simp [h1, h2] <;> omega
theorem Ends.life {s : ByteArray} {n f l : Nat} (h : Ends s n f l) : lifeN n s = (l : Int) - f + 1 := by
  unfold lifeN
  have e : (fun d => aliveB n d s) = fun d => decide (f ≤ d) && decide (d ≤ l) := funext fun d => by
    unfold aliveB; rw [h.ahead, h.behind]
  rw [e, count_mid f l h.le]
  have := h.le; have := h.lt
  omega
/-! Both sums are one. -/
theorem range_sum_add (f g : Nat → Int) : ∀ n, ((List.range n).map fun d => f d + g d).sum = ((List.range n).map f).sum + ((List.range n).map g).sum := by
  intro n
  induction n with
  | zero => rfl
  | succ n ih =>
    simp only [List.range_succ, List.map_append, List.sum_append, ih, List.map_cons, List.map_nil, List.sum_cons, List.sum_nil]
    omega
theorem range_count (p : Nat → Bool) : ∀ n, ((List.range n).map fun d => if p d then (1 : Int) else 0).sum = ((List.range n).countP p : Nat) := by
  intro n
  induction n with
  | zero => rfl
  | succ n ih =>
    simp only [List.range_succ, List.map_append, List.sum_append, List.countP_append, ih, List.map_cons, List.map_nil, List.sum_cons, List.sum_nil, List.countP_cons, List.countP_nil]
    cases p n <;> simp
theorem both_sum (n : Nat) : ∀ xs : List ByteArray, ((List.range n).map fun d => cntB (aliveB n d) xs).sum = (xs.map (lifeN n)).sum := by
  intro xs
  induction xs with
  | nil =>
    have : ∀ m, ((List.range m).map fun d => cntB (aliveB n d) []).sum = 0 := by
      intro m
      induction m with
      | zero => rfl
      | succ m ih => rw [List.range_succ, List.map_append, List.sum_append, ih]; rfl
    rw [this]; rfl
  | cons s t ih =>
    have e : (fun d => cntB (aliveB n d) (s :: t)) = fun d => (if aliveB n d s then (1 : Int) else 0) + cntB (aliveB n d) t := funext fun d => by
      unfold cntB
      rw [List.countP_cons]
      split <;> simp <;> omega
    rw [e, range_sum_add, range_count, ih, List.map_cons, List.sum_cons]
    rfl
theorem alive_life (xs : List ByteArray) : (aliveL xs (daysH xs)).sum = (lifeL xs).sum := both_sum (daysH xs) xs
/-! The reference's Lives. -/
namespace PLives
theorem wr_pred (a : Int) (h : -1000 ≤ a ∧ a ≤ 1000) : wrap64 (a - 1) = a - 1 := by unfold wrap64; omega
theorem lives_l2 (xs : List ByteArray) (hg : GoodH xs) (out : List Int) (i : Nat) (hi : i < xs.length) (ho : out.length ≤ 60) (f l : Nat) (he : Ends xs[i] xs[i].size f l) (R : List Int × Int) (hR : Ev (fun k => wigeonref06_Lives.l0 k xs (out ++ [(l : Int) - f + 1]) ((i + 1 : Nat) : Int)) R) :
    ∀ m : Nat, l + m < xs[i].size → Ev (fun k => wigeonref06_Lives.l2 k xs out (i : Int) ((l : Int) + m - f + 1) ((l + m : Nat) : Int)) R := by
  have h60 := hg.len
  have hsz := hg.size _ (List.getElem_mem hi)
  have h8 := hg.days
  have hrd := rdOf_at ByteArray.empty xs i hi
  have hle := he.le
  intro m
  induction m with
  | zero =>
    intro hm
    refine Ev.step (f := fun k => (wigeonref06_caught.f k xs[i] (l : Int) (xs[i].size : Int)).bind fun t => if t = true then wigeonref06_Lives.l0 k xs (out ++ [(l : Int) - f + 1]) ((i + 1 : Nat) : Int) else wigeonref06_Lives.l2 k xs out (i : Int) ((l : Int) - f + 1 - 1) ((l : Int) - 1)) (fun k => ?_) ?_
    · simp only [wigeonref06_Lives.l2]
      rw [if_pos (by omega), if_pos (by omega), hrd, wr_succ i (by omega), if_pos (by omega), wr_pred _ (by omega), wr_pred _ (by omega)]
      simp only [Nat.add_zero, Int.natCast_zero, Int.add_zero]
    · refine Ev.bind (caught_f xs[i] l xs[i].size (Nat.le_refl _) (by omega)) ?_
      rw [he.behind l]
      simp only [Nat.le_refl, decide_true, if_true]
      exact hR
  | succ m ih =>
    intro hm
    have hnext := ih (by omega)
    refine Ev.step (f := fun k => (wigeonref06_caught.f k xs[i] ((l + (m + 1) : Nat) : Int) (xs[i].size : Int)).bind fun t => if t = true then wigeonref06_Lives.l0 k xs (out ++ [(l : Int) + (m + 1 : Nat) - f + 1]) ((i + 1 : Nat) : Int) else wigeonref06_Lives.l2 k xs out (i : Int) ((l : Int) + m - f + 1) ((l + m : Nat) : Int)) (fun k => ?_) ?_
    · simp only [wigeonref06_Lives.l2]
      rw [if_pos (by omega), if_pos (by omega), hrd, wr_succ i (by omega), if_pos (by omega), wr_pred _ (by omega), wr_pred _ (by omega)]
      rw [show (l : Int) + (m + 1 : Nat) - f + 1 - 1 = (l : Int) + m - f + 1 by omega, show ((l + (m + 1) : Nat) : Int) - 1 = ((l + m : Nat) : Int) by omega]
    · refine Ev.bind (caught_f xs[i] (l + (m + 1)) xs[i].size (Nat.le_refl _) (by omega)) ?_
      rw [he.behind (l + (m + 1))]
      rw [show decide (l + (m + 1) ≤ l) = false by simp]
      simp only [Bool.false_eq_true, if_false]
      exact hnext
theorem lives_l1 (xs : List ByteArray) (hg : GoodH xs) (out : List Int) (i : Nat) (hi : i < xs.length) (ho : out.length ≤ 60) (f l : Nat) (he : Ends xs[i] xs[i].size f l) (R : List Int × Int) (hR : Ev (fun k => wigeonref06_Lives.l0 k xs (out ++ [(l : Int) - f + 1]) ((i + 1 : Nat) : Int)) R) :
    ∀ m d : Nat, d + m = f → Ev (fun k => wigeonref06_Lives.l1 k xs out (i : Int) ((xs[i].size : Int) - d) (d : Int)) R := by
  have h60 := hg.len
  have hsz := hg.size _ (List.getElem_mem hi)
  have h8 := hg.days
  have hrd := rdOf_at ByteArray.empty xs i hi
  have hle := he.le
  have hlt := he.lt
  have h2 := lives_l2 xs hg out i hi ho f l he R hR (xs[i].size - 1 - l) (by omega)
  rw [show (l : Int) + ((xs[i].size - 1 - l : Nat) : Int) - f + 1 = (xs[i].size : Int) - f by omega, show l + (xs[i].size - 1 - l) = xs[i].size - 1 by omega] at h2
  intro m
  induction m with
  | zero =>
    intro d hd
    obtain rfl : d = f := by omega
    refine Ev.step (f := fun k => (wigeonref06_caught.f k xs[i] ((0 : Nat) : Int) ((d + 1 : Nat) : Int)).bind fun t => if t = true then wigeonref06_Lives.l2 k xs out (i : Int) ((xs[i].size : Int) - d) ((xs[i].size - 1 : Nat) : Int) else wigeonref06_Lives.l1 k xs out (i : Int) ((xs[i].size : Int) - d - 1) ((d + 1 : Nat) : Int)) (fun k => ?_) ?_
    · simp only [wigeonref06_Lives.l1]
      rw [if_pos (by omega), if_pos (by omega), hrd, wr_succ d (by omega), wr_pred _ (by omega), wr_pred _ (by omega), show (xs[i].size : Int) - 1 = ((xs[i].size - 1 : Nat) : Int) by omega]
      rfl
    · refine Ev.bind (caught_f xs[i] 0 (d + 1) (by omega) (by omega)) ?_
      rw [he.ahead d]
      simp only [Nat.le_refl, decide_true, if_true]
      exact h2
  | succ m ih =>
    intro d hd
    have hnext := ih (d + 1) (by omega)
    refine Ev.step (f := fun k => (wigeonref06_caught.f k xs[i] ((0 : Nat) : Int) ((d + 1 : Nat) : Int)).bind fun t => if t = true then wigeonref06_Lives.l2 k xs out (i : Int) ((xs[i].size : Int) - d) ((xs[i].size - 1 : Nat) : Int) else wigeonref06_Lives.l1 k xs out (i : Int) ((xs[i].size : Int) - ((d + 1 : Nat) : Int)) ((d + 1 : Nat) : Int)) (fun k => ?_) ?_
    · simp only [wigeonref06_Lives.l1]
      rw [if_pos (by omega), if_pos (by omega), hrd, wr_succ d (by omega), wr_pred _ (by omega), wr_pred _ (by omega), show (xs[i].size : Int) - 1 = ((xs[i].size - 1 : Nat) : Int) by omega, show (xs[i].size : Int) - (d : Int) - 1 = (xs[i].size : Int) - ((d + 1 : Nat) : Int) by omega]
      rfl
    · refine Ev.bind (caught_f xs[i] 0 (d + 1) (by omega) (by omega)) ?_
      rw [he.ahead d, show decide (f ≤ d) = false by simp; omega]
      simp only [Bool.false_eq_true, if_false]
      exact hnext
theorem lives_l0 (xs : List ByteArray) (hg : GoodH xs) : ∀ m i : Nat, i + m = xs.length → Ev (fun k => wigeonref06_Lives.l0 k xs ((lifeL xs).take i) (i : Int)) (lifeL xs, 0) := by
  have h60 := hg.len
  have hl : (lifeL xs).length = xs.length := by simp [lifeL]
  intro m
  induction m with
  | zero =>
    intro i hi
    rw [List.take_of_length_le (by omega)]
    refine Ev.step (f := fun _ => some (lifeL xs, 0)) (fun k => ?_) (Ev.now _)
    simp only [wigeonref06_Lives.l0]
    rw [if_neg (by omega)]
  | succ m ih =>
    intro i hi
    have hlt : i < xs.length := by omega
    have hrd := rdOf_at ByteArray.empty xs i hlt
    have hsz := hg.size _ (List.getElem_mem hlt)
    obtain ⟨f, l, he⟩ := ends_ex (hg.one _ (List.getElem_mem hlt))
    have hlife := he.life
    rw [← hsz] at he
    have hnext := ih (i + 1) (by omega)
    have et : (lifeL xs).take (i + 1) = (lifeL xs).take i ++ [(l : Int) - f + 1] := by
      rw [List.take_succ_eq_append_getElem (by omega)]
      congr 2
      simp only [lifeL, List.getElem_map]
      exact hlife
    rw [et] at hnext
    have h1 := lives_l1 xs hg ((lifeL xs).take i) i hlt (by simp; omega) f l he _ hnext f 0 (by omega)
    refine Ev.step (f := fun k => wigeonref06_Lives.l1 k xs ((lifeL xs).take i) (i : Int) ((xs[i].size : Int) - ((0 : Nat) : Int)) ((0 : Nat) : Int)) (fun k => ?_) h1
    simp only [wigeonref06_Lives.l0]
    rw [if_pos (by omega), if_pos (by omega), hrd, show (xs[i].size : Int) - ((0 : Nat) : Int) = xs[i].size by omega]
    rfl
theorem lives_ev (xs : List ByteArray) : Ev (fun k => wigeonref06_Lives.f k xs) (if valH xs = 0 then (lifeL xs, 0) else ([], valH xs)) := by
  unfold wigeonref06_Lives.f
  refine Ev.bind (vh_ev xs) ?_
  by_cases h : valH xs = 0
  · rw [if_pos h]
    exact Ev.congr (f := fun k => wigeonref06_Lives.l0 k xs ((lifeL xs).take 0) ((0 : Nat) : Int)) (fun k => by rw [if_pos h]; rfl) (lives_l0 xs (goodH h) xs.length 0 (by omega))
  · rw [if_neg h]
    exact Ev.congr (f := fun _ => some ([], valH xs)) (fun k => by rw [if_neg h]) (Ev.now _)
end PLives
end Go.Proofs.YtdpdchghafopfaaDoor
