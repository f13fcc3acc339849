/- When two lines touch: the program's test and the reference's are one. -/
import Derived.Test.YtdpdchghafopfaaS0
set_option linter.unusedVariables false
set_option linter.unusedSimpArgs false
namespace Go.Proofs.Ytdpdchghafopfaa
theorem g_f1 (a b c d : Pt) : sideZ a b c - sideZ a b d + sideZ c d a - sideZ c d b = 0 := by
  unfold sideZ; grind
theorem g_f2x (a b c d : Pt) : sideZ c d a * b.1 - sideZ c d b * a.1 = sideZ a b d * c.1 - sideZ a b c * d.1 := by
  unfold sideZ; grind
theorem g_f2y (a b c d : Pt) : sideZ c d a * b.2 - sideZ c d b * a.2 = sideZ a b d * c.2 - sideZ a b c * d.2 := by
  unfold sideZ; grind
theorem g_f3 (c d p : Pt) : sideZ d c p = - sideZ c d p := by
  unfold sideZ; grind
theorem g_f4x (a b c d : Pt) : (b.1 - c.1) * sideZ c d a + (c.1 - a.1) * sideZ c d b + (d.1 - c.1) * sideZ a b c = 0 := by
  unfold sideZ; grind
theorem g_f4y (a b c d : Pt) : (b.2 - c.2) * sideZ c d a + (c.2 - a.2) * sideZ c d b + (d.2 - c.2) * sideZ a b c = 0 := by
  unfold sideZ; grind

theorem g_comb {u v p q : Int} (h : u * p + v * q = 0) (hs : 0 ≤ u ∧ 0 ≤ v ∨ u ≤ 0 ∧ v ≤ 0) (hn : u ≠ 0 ∨ v ≠ 0) : p * q ≤ 0 := by
  rcases Int.lt_or_le 0 (p * q) with hpq | hpq
  · exfalso
    rcases Int.lt_trichotomy p 0 with hp | hp | hp
    · have hq : q < 0 := by
        rcases Int.lt_or_le q 0 with h1 | h1
        · exact h1
        · have := Int.mul_nonpos_of_nonpos_of_nonneg (Int.le_of_lt hp) h1; omega
      rcases hs with ⟨hu, hv⟩ | ⟨hu, hv⟩
      · have h1 := Int.mul_nonpos_of_nonneg_of_nonpos hu (Int.le_of_lt hp)
        have h2 := Int.mul_nonpos_of_nonneg_of_nonpos hv (Int.le_of_lt hq)
        have h3 : u * p = 0 := by omega
        have h4 : v * q = 0 := by omega
        rcases Int.mul_eq_zero.1 h3 with h5 | h5 <;> rcases Int.mul_eq_zero.1 h4 with h6 | h6 <;> omega
      · have h1 := Int.mul_nonneg_of_nonpos_of_nonpos hu (Int.le_of_lt hp)
        have h2 := Int.mul_nonneg_of_nonpos_of_nonpos hv (Int.le_of_lt hq)
        have h3 : u * p = 0 := by omega
        have h4 : v * q = 0 := by omega
        rcases Int.mul_eq_zero.1 h3 with h5 | h5 <;> rcases Int.mul_eq_zero.1 h4 with h6 | h6 <;> omega
    · subst hp; simp at hpq
    · have hq : 0 < q := by
        rcases Int.lt_or_le 0 q with h1 | h1
        · exact h1
        · have := Int.mul_nonpos_of_nonneg_of_nonpos (Int.le_of_lt hp) h1; omega
      rcases hs with ⟨hu, hv⟩ | ⟨hu, hv⟩
      · have h1 := Int.mul_nonneg hu (Int.le_of_lt hp)
        have h2 := Int.mul_nonneg hv (Int.le_of_lt hq)
        have h3 : u * p = 0 := by omega
        have h4 : v * q = 0 := by omega
        rcases Int.mul_eq_zero.1 h3 with h5 | h5 <;> rcases Int.mul_eq_zero.1 h4 with h6 | h6 <;> omega
      · have h1 := Int.mul_nonpos_of_nonpos_of_nonneg hu (Int.le_of_lt hp)
        have h2 := Int.mul_nonpos_of_nonpos_of_nonneg hv (Int.le_of_lt hq)
        have h3 : u * p = 0 := by omega
        have h4 : v * q = 0 := by omega
        rcases Int.mul_eq_zero.1 h3 with h5 | h5 <;> rcases Int.mul_eq_zero.1 h4 with h6 | h6 <;> omega
  · exact hpq

/-- A point between, as a convex sum. -/
theorem g_conv {p q a b c : Int} (hs : 0 ≤ p ∧ 0 ≤ q ∨ p ≤ 0 ∧ q ≤ 0) (hn : p + q ≠ 0) (h : p * b + q * a = (p + q) * c) : min a b ≤ c ∧ c ≤ max a b := by
  have e : p * (b - c) + q * (a - c) = 0 := by grind
  constructor
  · rcases Int.lt_or_le c (min a b) with hc | hc
    · exfalso
      have h1 : 0 < b - c := by omega
      have h2 : 0 < a - c := by omega
      have := g_comb (u := b - c) (v := a - c) (p := p) (q := q) (by grind) (.inl ⟨by omega, by omega⟩) (.inl (by omega))
      rcases hs with ⟨hp, hq⟩ | ⟨hp, hq⟩
      · have h3 := Int.mul_nonneg hp (Int.le_of_lt h1)
        have h4 := Int.mul_nonneg hq (Int.le_of_lt h2)
        rcases Int.mul_eq_zero.1 (show p * (b - c) = 0 by omega) with h5 | h5 <;> rcases Int.mul_eq_zero.1 (show q * (a - c) = 0 by omega) with h6 | h6 <;> omega
      · have h3 := Int.mul_nonpos_of_nonpos_of_nonneg hp (Int.le_of_lt h1)
        have h4 := Int.mul_nonpos_of_nonpos_of_nonneg hq (Int.le_of_lt h2)
        rcases Int.mul_eq_zero.1 (show p * (b - c) = 0 by omega) with h5 | h5 <;> rcases Int.mul_eq_zero.1 (show q * (a - c) = 0 by omega) with h6 | h6 <;> omega
    · exact hc
  · rcases Int.lt_or_le (max a b) c with hc | hc
    · exfalso
      have h1 : b - c < 0 := by omega
      have h2 : a - c < 0 := by omega
      rcases hs with ⟨hp, hq⟩ | ⟨hp, hq⟩
      · have h3 := Int.mul_nonpos_of_nonneg_of_nonpos hp (Int.le_of_lt h1)
        have h4 := Int.mul_nonpos_of_nonneg_of_nonpos hq (Int.le_of_lt h2)
        rcases Int.mul_eq_zero.1 (show p * (b - c) = 0 by omega) with h5 | h5 <;> rcases Int.mul_eq_zero.1 (show q * (a - c) = 0 by omega) with h6 | h6 <;> omega
      · have h3 := Int.mul_nonneg_of_nonpos_of_nonpos hp (Int.le_of_lt h1)
        have h4 := Int.mul_nonneg_of_nonpos_of_nonpos hq (Int.le_of_lt h2)
        rcases Int.mul_eq_zero.1 (show p * (b - c) = 0 by omega) with h5 | h5 <;> rcases Int.mul_eq_zero.1 (show q * (a - c) = 0 by omega) with h6 | h6 <;> omega
    · exact hc

/-- Between, as a proposition. -/
def Btw (a b p : Pt) : Prop := (min a.1 b.1 ≤ p.1 ∧ p.1 ≤ max a.1 b.1) ∧ (min a.2 b.2 ≤ p.2 ∧ p.2 ≤ max a.2 b.2)
def Parted (a b c d : Int) : Prop := max a b < min c d ∨ max c d < min a b
def Tch (a b c d : Pt) : Prop := ¬ Parted a.1 b.1 c.1 d.1 ∧ ¬ Parted a.2 b.2 c.2 d.2 ∧ sideZ a b c * sideZ a b d ≤ 0 ∧ sideZ c d a * sideZ c d b ≤ 0

theorem g_on {a b c d : Pt} (hs : sideZ a b c = 0) (hb : Btw a b c) : Tch a b c d := by
  obtain ⟨⟨x1, x2⟩, y1, y2⟩ := hb
  refine ⟨by unfold Parted; omega, by unfold Parted; omega, by rw [hs, Int.zero_mul]; exact Int.le_refl _, ?_⟩
  have hx := g_f4x a b c d
  have hy := g_f4y a b c d
  rw [hs, Int.mul_zero, Int.add_zero] at hx hy
  by_cases h1 : a.1 = b.1
  · by_cases h2 : a.2 = b.2
    · have e1 : c.1 = a.1 := by omega
      have e2 : c.2 = a.2 := by omega
      have : sideZ c d a = 0 := by unfold sideZ; rw [e1, e2]; simp
      rw [this, Int.zero_mul]; exact Int.le_refl _
    · exact g_comb hy (by omega) (by omega)
  · exact g_comb hx (by omega) (by omega)

theorem Parted.symm {a b c d : Int} (h : Parted a b c d) : Parted c d a b := by unfold Parted at *; omega
theorem Tch.swap {a b c d : Pt} (h : Tch a b c d) : Tch c d a b :=
  ⟨fun p => h.1 p.symm, fun p => h.2.1 p.symm, h.2.2.2, h.2.2.1⟩
theorem Tch.flip {a b c d : Pt} (h : Tch a b c d) : Tch a b d c := by
  obtain ⟨h1, h2, h3, h4⟩ := h
  refine ⟨?_, ?_, by rw [Int.mul_comm]; exact h3, by rw [g_f3 c d a, g_f3 c d b, Int.neg_mul_neg]; exact h4⟩
  · unfold Parted at *; omega
  · unfold Parted at *; omega

theorem g_sum_lt {p q x y u v z t m n : Int} (hp : 0 < p) (hq : 0 < q) (hu : 0 < u) (hv : 0 < v) (hx : x ≤ m) (hy : y ≤ m) (hz : n ≤ z) (ht : n ≤ t) (hm : m < n) (he : p + q = u + v) (h : p * x + q * y = u * z + v * t) : False := by
  have h1 := Int.mul_le_mul_of_nonneg_left hx (Int.le_of_lt hp)
  have h2 := Int.mul_le_mul_of_nonneg_left hy (Int.le_of_lt hq)
  have h3 := Int.mul_le_mul_of_nonneg_left hz (Int.le_of_lt hu)
  have h4 := Int.mul_le_mul_of_nonneg_left ht (Int.le_of_lt hv)
  have h5 := Int.mul_lt_mul_of_pos_left hm (show 0 < p + q by omega)
  have e1 : (p + q) * m = p * m + q * m := Int.add_mul ..
  have e2 : (p + q) * n = u * n + v * n := by rw [he, Int.add_mul]
  omega

theorem g_signs {x y : Int} (h : x * y < 0) : (0 < x ∧ y < 0) ∨ (x < 0 ∧ 0 < y) := by
  rcases Int.lt_trichotomy x 0 with hx | hx | hx
  · rcases Int.lt_or_le 0 y with hy | hy
    · exact .inr ⟨hx, hy⟩
    · have := Int.mul_nonneg_of_nonpos_of_nonpos (Int.le_of_lt hx) hy; omega
  · subst hx; simp at h
  · rcases Int.lt_or_le y 0 with hy | hy
    · exact .inl ⟨hx, hy⟩
    · have := Int.mul_nonneg (Int.le_of_lt hx) hy; omega

theorem g_cross {a b c d : Pt} (h1 : sideZ a b c * sideZ a b d < 0) (h2 : sideZ c d a * sideZ c d b < 0) : Tch a b c d := by
  have f1 := g_f1 a b c d
  have fx := g_f2x a b c d
  have fy := g_f2y a b c d
  refine ⟨?_, ?_, Int.le_of_lt h1, Int.le_of_lt h2⟩
  all_goals
    generalize sideZ a b c = s1 at *
    generalize sideZ a b d = s2 at *
    generalize sideZ c d a = s3 at *
    generalize sideZ c d b = s4 at *
    unfold Parted
    rintro (hp | hp)
    all_goals
      rcases g_signs h1 with ⟨p1, p2⟩ | ⟨p1, p2⟩ <;> rcases g_signs h2 with ⟨p3, p4⟩ | ⟨p3, p4⟩ <;> first | omega | skip
  · exact g_sum_lt (p := -s3) (q := s4) (x := b.1) (y := a.1) (u := -s2) (v := s1) (z := c.1) (t := d.1) (m := max a.1 b.1) (n := min c.1 d.1) (by omega) (by omega) (by omega) (by omega) (by omega) (by omega) (by omega) (by omega) hp (by omega) (by grind)
  · exact g_sum_lt (p := s3) (q := -s4) (x := b.1) (y := a.1) (u := s2) (v := -s1) (z := c.1) (t := d.1) (m := max a.1 b.1) (n := min c.1 d.1) (by omega) (by omega) (by omega) (by omega) (by omega) (by omega) (by omega) (by omega) hp (by omega) (by grind)
  · exact g_sum_lt (p := -s2) (q := s1) (x := c.1) (y := d.1) (u := -s3) (v := s4) (z := b.1) (t := a.1) (m := max c.1 d.1) (n := min a.1 b.1) (by omega) (by omega) (by omega) (by omega) (by omega) (by omega) (by omega) (by omega) hp (by omega) (by grind)
  · exact g_sum_lt (p := s2) (q := -s1) (x := c.1) (y := d.1) (u := s3) (v := -s4) (z := b.1) (t := a.1) (m := max c.1 d.1) (n := min a.1 b.1) (by omega) (by omega) (by omega) (by omega) (by omega) (by omega) (by omega) (by omega) hp (by omega) (by grind)
  · exact g_sum_lt (p := -s3) (q := s4) (x := b.2) (y := a.2) (u := -s2) (v := s1) (z := c.2) (t := d.2) (m := max a.2 b.2) (n := min c.2 d.2) (by omega) (by omega) (by omega) (by omega) (by omega) (by omega) (by omega) (by omega) hp (by omega) (by grind)
  · exact g_sum_lt (p := s3) (q := -s4) (x := b.2) (y := a.2) (u := s2) (v := -s1) (z := c.2) (t := d.2) (m := max a.2 b.2) (n := min c.2 d.2) (by omega) (by omega) (by omega) (by omega) (by omega) (by omega) (by omega) (by omega) hp (by omega) (by grind)
  · exact g_sum_lt (p := -s2) (q := s1) (x := c.2) (y := d.2) (u := -s3) (v := s4) (z := b.2) (t := a.2) (m := max c.2 d.2) (n := min a.2 b.2) (by omega) (by omega) (by omega) (by omega) (by omega) (by omega) (by omega) (by omega) hp (by omega) (by grind)
  · exact g_sum_lt (p := s2) (q := -s1) (x := c.2) (y := d.2) (u := s3) (v := -s4) (z := b.2) (t := a.2) (m := max c.2 d.2) (n := min a.2 b.2) (by omega) (by omega) (by omega) (by omega) (by omega) (by omega) (by omega) (by omega) hp (by omega) (by grind)

theorem g_btwx {c d p : Pt} (hn : c.1 ≠ d.1) (hs : sideZ c d p = 0) (h1 : min c.1 d.1 ≤ p.1) (h2 : p.1 ≤ max c.1 d.1) : Btw c d p := by
  refine ⟨⟨h1, h2⟩, ?_⟩
  exact g_conv (p := p.1 - c.1) (q := d.1 - p.1) (a := c.2) (b := d.2) (by omega) (by omega) (by unfold sideZ at hs; grind)
theorem g_btwy {c d p : Pt} (hn : c.2 ≠ d.2) (hs : sideZ c d p = 0) (h1 : min c.2 d.2 ≤ p.2) (h2 : p.2 ≤ max c.2 d.2) : Btw c d p := by
  refine ⟨?_, ⟨h1, h2⟩⟩
  exact g_conv (p := p.2 - c.2) (q := d.2 - p.2) (a := c.1) (b := d.1) (by omega) (by omega) (by unfold sideZ at hs; grind)

/-- An end of one lies on the other. -/
def Ends (a b c d : Pt) : Prop := (sideZ a b c = 0 ∧ Btw a b c) ∨ (sideZ a b d = 0 ∧ Btw a b d) ∨ (sideZ c d a = 0 ∧ Btw c d a) ∨ (sideZ c d b = 0 ∧ Btw c d b)

theorem g_line {a b c d : Pt} (hx : ¬ Parted a.1 b.1 c.1 d.1) (hy : ¬ Parted a.2 b.2 c.2 d.2) (hn : ¬ (c.1 = d.1 ∧ c.2 = d.2)) (s1 : sideZ a b c = 0) (s2 : sideZ a b d = 0) (s3 : sideZ c d a = 0) (s4 : sideZ c d b = 0) : Ends a b c d := by
  unfold Parted at hx hy
  by_cases h1 : c.1 = d.1
  · have h2 : c.2 ≠ d.2 := fun h => hn ⟨h1, h⟩
    by_cases ha : min c.2 d.2 ≤ a.2 ∧ a.2 ≤ max c.2 d.2
    · exact .inr (.inr (.inl ⟨s3, g_btwy h2 s3 ha.1 ha.2⟩))
    by_cases hb : min c.2 d.2 ≤ b.2 ∧ b.2 ≤ max c.2 d.2
    · exact .inr (.inr (.inr ⟨s4, g_btwy h2 s4 hb.1 hb.2⟩))
    have hab : a.2 ≠ b.2 := by omega
    exact .inl ⟨s1, g_btwy hab s1 (by omega) (by omega)⟩
  · by_cases ha : min c.1 d.1 ≤ a.1 ∧ a.1 ≤ max c.1 d.1
    · exact .inr (.inr (.inl ⟨s3, g_btwx h1 s3 ha.1 ha.2⟩))
    by_cases hb : min c.1 d.1 ≤ b.1 ∧ b.1 ≤ max c.1 d.1
    · exact .inr (.inr (.inr ⟨s4, g_btwx h1 s4 hb.1 hb.2⟩))
    have hab : a.1 ≠ b.1 := by omega
    exact .inl ⟨s1, g_btwx hab s1 (by omega) (by omega)⟩

theorem g_sq {x : Int} (h : x * x ≤ 0) : x = 0 := by
  rcases Int.lt_trichotomy x 0 with hx | hx | hx
  · have := Int.mul_pos_of_neg_of_neg hx hx; omega
  · exact hx
  · have := Int.mul_pos hx hx; omega

/-- c lies on the line through a and b, and d does not. -/
theorem g_one {a b c d : Pt} (s1 : sideZ a b c = 0) (s2 : sideZ a b d ≠ 0) (h : sideZ c d a * sideZ c d b ≤ 0) : Btw a b c := by
  have f1 := g_f1 a b c d
  have fx := g_f4x a b c d
  have fy := g_f4y a b c d
  rw [s1] at f1 fx fy
  generalize sideZ a b d = s2' at *
  generalize sideZ c d a = s3 at *
  generalize sideZ c d b = s4 at *
  have hs : 0 ≤ s3 ∧ 0 ≤ -s4 ∨ s3 ≤ 0 ∧ -s4 ≤ 0 := by
    rcases Int.lt_or_le (s3 * s4) 0 with h1 | h1
    · rcases g_signs h1 with ⟨h2, h3⟩ | ⟨h2, h3⟩ <;> omega
    · rcases Int.mul_eq_zero.1 (show s3 * s4 = 0 by omega) with h2 | h2 <;> omega
  have hn : s3 + -s4 ≠ 0 := by omega
  exact ⟨g_conv hs hn (by grind), g_conv hs hn (by grind)⟩

theorem g_main {a b c d : Pt} (hn : ¬ (c.1 = d.1 ∧ c.2 = d.2)) (h : Tch a b c d) (h0 : ¬ (sideZ a b c * sideZ a b d < 0 ∧ sideZ c d a * sideZ c d b < 0)) : Ends a b c d := by
  obtain ⟨hx, hy, h1, h2⟩ := h
  have f1 := g_f1 a b c d
  by_cases z1 : sideZ a b c = 0
  · by_cases z2 : sideZ a b d = 0
    · have e : sideZ c d a = sideZ c d b := by omega
      rw [e] at h2
      have z4 := g_sq h2
      exact g_line hx hy hn z1 z2 (by omega) z4
    · exact .inl ⟨z1, g_one z1 z2 h2⟩
  by_cases z2 : sideZ a b d = 0
  · refine .inr (.inl ⟨z2, ?_⟩)
    exact g_one (c := d) (d := c) z2 z1 (by rw [g_f3 c d a, g_f3 c d b, Int.neg_mul_neg]; exact h2)
  by_cases z3 : sideZ c d a = 0
  · by_cases z4 : sideZ c d b = 0
    · have e : sideZ a b c = sideZ a b d := by omega
      rw [e] at h1
      exact absurd (g_sq h1) z2
    · exact .inr (.inr (.inl ⟨z3, g_one z3 z4 h1⟩))
  by_cases z4 : sideZ c d b = 0
  · refine .inr (.inr (.inr ⟨z4, ?_⟩))
    exact g_one (a := c) (b := d) (c := b) (d := a) z4 z3 (by rw [g_f3 a b c, g_f3 a b d, Int.neg_mul_neg]; exact h1)
  · exfalso
    have n1 : sideZ a b c * sideZ a b d ≠ 0 := fun h => (Int.mul_eq_zero.1 h).elim z1 z2
    have n2 : sideZ c d a * sideZ c d b ≠ 0 := fun h => (Int.mul_eq_zero.1 h).elim z3 z4
    exact h0 ⟨by omega, by omega⟩

theorem g_iff {a b c d : Pt} (hn : ¬ (c.1 = d.1 ∧ c.2 = d.2)) : (Ends a b c d ∨ (sideZ a b c * sideZ a b d < 0 ∧ sideZ c d a * sideZ c d b < 0)) ↔ Tch a b c d := by
  constructor
  · rintro ((⟨h1, h2⟩ | ⟨h1, h2⟩ | ⟨h1, h2⟩ | ⟨h1, h2⟩) | ⟨h1, h2⟩)
    · exact g_on h1 h2
    · exact (g_on h1 h2).flip
    · exact (g_on h1 h2).swap
    · exact (g_on h1 h2).flip.swap
    · exact g_cross h1 h2
  · intro h
    by_cases h0 : sideZ a b c * sideZ a b d < 0 ∧ sideZ c d a * sideZ c d b < 0
    · exact .inr h0
    · exact .inl (g_main hn h h0)
end Go.Proofs.Ytdpdchghafopfaa
