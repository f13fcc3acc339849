/- CountLives: the walk of the law. -/
import Derived.Test.YtdpdchghafopfaaDoorC12
set_option linter.unusedVariables false
set_option linter.unusedSimpArgs false
namespace Go.Proofs.YtdpdchghafopfaaDoor
open Go.RowKit Go.Proofs.YtdpdchghafopfaaDoorW.PrintWords
/-- Two lists of small numbers with one sum. -/
structure LifeF (L F : List Int) : Prop where
  n8 : L.length ≤ 60
  m8 : F.length ≤ 60
  bd : ∀ i, i ≤ L.length → 0 ≤ (L.take i).sum ∧ (L.take i).sum ≤ 10000
  bl : ∀ i (h : i < L.length), 0 ≤ L[i] ∧ L[i] ≤ 100
  bd2 : ∀ i, i ≤ F.length → 0 ≤ (F.take i).sum ∧ (F.take i).sum ≤ 10000
  bf : ∀ i (h : i < F.length), 0 ≤ F[i] ∧ F[i] ≤ 100
  sum : L.sum = F.sum
theorem sum_bd (L : List Int) (hb : ∀ i (h : i < L.length), 0 ≤ L[i] ∧ L[i] ≤ 100) : ∀ i, i ≤ L.length → 0 ≤ (L.take i).sum ∧ (L.take i).sum ≤ 100 * i := by
  intro i
  induction i with
  | zero => intro _; simp
  | succ i ih =>
    intro hi
    have h1 := ih (by omega)
    have h2 := hb i (by omega)
    rw [List.take_succ_eq_append_getElem (by omega), List.sum_append]
    simp only [List.sum_cons, List.sum_nil]
    omega
theorem lifeF (xs : List ByteArray) (hg : GoodH xs) : LifeF (aliveL xs (daysH xs)) (lifeL xs) := by
  have hl : (aliveL xs (daysH xs)).length = daysH xs := by simp [aliveL]
  have hl2 : (lifeL xs).length = xs.length := by simp [lifeL]
  have h8 := hg.days
  have h60 := hg.len
  have hb1 : ∀ i (h : i < (aliveL xs (daysH xs)).length), 0 ≤ (aliveL xs (daysH xs))[i] ∧ (aliveL xs (daysH xs))[i] ≤ 100 := by
    intro i h
    simp only [aliveL, List.getElem_map, List.getElem_range]
    have := cntB_bd (aliveB (daysH xs) i) xs
    omega
  have hb2 : ∀ i (h : i < (lifeL xs).length), 0 ≤ (lifeL xs)[i] ∧ (lifeL xs)[i] ≤ 100 := by
    intro i h
    simp only [lifeL, List.getElem_map]
    unfold lifeN
    have := List.countP_le_length (p := fun d => aliveB (daysH xs) d (xs[i]'(by rw [hl2] at h; exact h))) (l := List.range (daysH xs))
    rw [List.length_range] at this
    omega
  refine ⟨by omega, by omega, fun i h => ?_, hb1, fun i h => ?_, hb2, alive_life xs⟩
  · have := sum_bd _ hb1 i h; omega
  · have := sum_bd _ hb2 i h; omega
theorem lifeF_nil : LifeF [] [] := ⟨by simp, by simp, fun i h => by simp, fun i h => by simp at h, fun i h => by simp, fun i h => by simp at h, rfl⟩
structure BothL (xs : List ByteArray) (la : Option Addr) (c : Nat) (w : World) (L F : List Int) (e0 : Int) : Prop where
  pa : ∀ W, Below w.heap.size w W → Calls Tryd.prog 15 #[.slice la xs.length c] W (ListPost encInt 1 L e0 W)
  ra : ∀ W, Below w.heap.size w W → Calls Tryd.prog 16 #[.slice la xs.length c] W (ListPost encInt 1 L e0 W)
  pl : ∀ W, Below w.heap.size w W → Calls Tryd.prog 17 #[.slice la xs.length c] W (ListPost encInt 1 F e0 W)
  rl : ∀ W, Below w.heap.size w W → Calls Tryd.prog 18 #[.slice la xs.length c] W (ListPost encInt 1 F e0 W)
  fact : LifeF L F
theorem bothL (xs : List ByteArray) (la : Option Addr) (c : Nat) (w : World) (H : Rd w encStr 1 la xs) (hcap : xs.length ≤ c) (h9 : ∀ s ∈ xs, s.size ≤ 1000) : ∃ L F e0, BothL xs la c w L F e0 := by
  by_cases h : valH xs = 0
  · have hf := fun W (hW : Below w.heap.size w W) => reflives_any xs la c W (H.below hW) hcap
    rw [if_pos h] at hf
    refine ⟨aliveL xs (daysH xs), lifeL xs, valH xs, ?_, ?_, ?_, hf, lifeF xs (goodH h)⟩
    · intro W hW; rw [h]; exact alive_ok xs la c W (H.below hW) h
    · intro W hW; rw [h]; exact refalive_ok xs la c W (H.below hW) hcap h
    · intro W hW; rw [h]; exact lives_ok xs la c W (H.below hW) h
  · have hf := fun W (hW : Below w.heap.size w W) => reflives_any xs la c W (H.below hW) hcap
    rw [if_neg h] at hf
    refine ⟨[], [], valH xs, ?_, ?_, ?_, hf, lifeF_nil⟩
    · intro W hW; exact alive_err xs la c W (H.below hW) h9 h
    · intro W hW; exact refalive_err xs la c W (H.below hW) hcap h
    · intro W hW; exact lives_err xs la c W (H.below hW) h9 h
set_option maxRecDepth 20000 in
set_option maxHeartbeats 1000000 in
theorem llaw_many (xs : List ByteArray) (la : Option Addr) (c : Nat) (w : World) (hm : ∀ W, Below w.heap.size w W → Calls Tryd.prog 6 #[.slice la xs.length c] W fun e w' => e = .returned (.bool true) ∧ Below W.heap.size W w') :
    Calls Tryd.prog 4 #[.slice la xs.length c] w fun e w' => e = .returned (.bool true) ∧ Below w.heap.size w w' := by
  go_enter Tryd.func4, Tryd.ntmps4
  go_wp2_with (first | (go_at_call 6; refine (hm _ (Below.refl _ _)).mono ?_; rintro e w' ⟨rfl, hb1⟩) | (go_at_call 7; refine (known_any _).mono ?_; rintro e w' ⟨rfl, hb2⟩))
  go_ret
  exact ⟨rfl, by (repeat (first | exact Below.refl _ _ | refine blw_alloc ?_ _ | refine blw_drew ?_ | refine blw_rg ?_ _ | refine blw_call (by assumption) ?_))⟩
set_option maxRecDepth 20000 in
set_option maxHeartbeats 2000000 in
theorem llaw_few (xs : List ByteArray) (la : Option Addr) (c : Nat) (w : World) (L F : List Int) (e0 : Int) (HB : BothL xs la c w L F e0) (hm : ∀ W, Below w.heap.size w W → Calls Tryd.prog 6 #[.slice la xs.length c] W fun e w' => e = .returned (.bool false) ∧ Below W.heap.size W w') :
    Calls Tryd.prog 4 #[.slice la xs.length c] w fun e w' => e = .returned (.bool true) ∧ Below w.heap.size w w' := by
  obtain ⟨h1, h2, h3, h4, hfact⟩ := HB
  have HF := Go.Lib.hid hfact
  have hn8 := hfact.n8
  have hm8 := hfact.m8
  clear hfact
  go_enter Tryd.func4, Tryd.ntmps4
  go_wp2_with (first | (go_at_call 6; refine (hm _ (Below.refl _ _)).mono ?_; rintro e w0 ⟨rfl, hb0⟩) | (go_at_call 15; refine (h1 _ ?_).mono ?_; ((repeat (first | exact Below.refl _ _ | refine blw_alloc ?_ _ | refine blw_drew ?_ | refine blw_rg ?_ _ | refine blw_call (by assumption) ?_))); rintro e w1 ⟨A1, c1, hc1, rfl, hr1, hb1⟩) | (go_at_call 16; refine (h2 _ ?_).mono ?_; ((repeat (first | exact Below.refl _ _ | refine blw_alloc ?_ _ | refine blw_drew ?_ | refine blw_rg ?_ _ | refine blw_call (by assumption) ?_))); rintro e w2 ⟨A2, c2, hc2, rfl, hr2, hb2⟩) | (go_at_call 17; refine (h3 _ ?_).mono ?_; ((repeat (first | exact Below.refl _ _ | refine blw_alloc ?_ _ | refine blw_drew ?_ | refine blw_rg ?_ _ | refine blw_call (by assumption) ?_))); rintro e w3 ⟨A3, c3, hc3, rfl, hr3, hb3⟩) | (go_at_call 18; refine (h4 _ ?_).mono ?_; ((repeat (first | exact Below.refl _ _ | refine blw_alloc ?_ _ | refine blw_drew ?_ | refine blw_rg ?_ _ | refine blw_call (by assumption) ?_))); rintro e w4 ⟨A4, c4, hc4, rfl, hr4, hb4⟩) | (go_at_call 14; (first | ((with_reducible refine (same_any L L A1 A2 c1 c2 _ (hr1.below ?_) (hr2.below ?_) hc1 hc2).mono ?_); ((repeat (first | exact Below.refl _ _ | refine blw_alloc ?_ _ | refine blw_drew ?_ | refine blw_rg ?_ _ | refine blw_call (by assumption) ?_))); ((repeat (first | exact Below.refl _ _ | refine blw_alloc ?_ _ | refine blw_drew ?_ | refine blw_rg ?_ _ | refine blw_call (by assumption) ?_))); rintro e w5 ⟨he7, hb5⟩; rw [show decide (L = L) = true by simp] at he7; subst he7) | ((with_reducible refine (same_any F F A3 A4 c3 c4 _ (hr3.below ?_) (hr4.below ?_) hc3 hc4).mono ?_); ((repeat (first | exact Below.refl _ _ | refine blw_alloc ?_ _ | refine blw_drew ?_ | refine blw_rg ?_ _ | refine blw_call (by assumption) ?_))); ((repeat (first | exact Below.refl _ _ | refine blw_alloc ?_ _ | refine blw_drew ?_ | refine blw_rg ?_ _ | refine blw_call (by assumption) ?_))); rintro e w6 ⟨he7, hb6⟩; rw [show decide (F = F) = true by simp] at he7; subst he7))))
  have R1 := asd (hr1.below (show Below w1.heap.size w1 w6 by (repeat (first | exact Below.refl _ _ | refine blw_alloc ?_ _ | refine blw_drew ?_ | refine blw_rg ?_ _ | refine blw_call (by assumption) ?_))))
  have R3 := asd (hr3.below (show Below w3.heap.size w3 w6 by (repeat (first | exact Below.refl _ _ | refine blw_alloc ?_ _ | refine blw_drew ?_ | refine blw_rg ?_ _ | refine blw_call (by assumption) ?_))))
  have HW := asd (show Below w.heap.size w w6 by (repeat (first | exact Below.refl _ _ | refine blw_alloc ?_ _ | refine blw_drew ?_ | refine blw_rg ?_ _ | refine blw_call (by assumption) ?_)))
  clear hr1 hr2 hr3 hr4 hb0 hb1 hb2 hb3 hb4 hb5 hb6 h1 h2 h3 h4 hm hc1 hc2 hc3 hc4
  go_loopg [11, 12] L.length (fun gg s11 s12 wr => ∃ k : Nat, k ≤ L.length ∧ L.length - k ≤ gg ∧ s12 = .int .i64 k ∧ s11 = .int .i64 (L.take k).sum ∧ Aside (wr = w6))
  case atStart => exact ⟨0, Nat.zero_le _, by omega, rfl, rfl, rfl⟩
  case round =>
    obtain ⟨k, hk, hg, rfl, rfl, HB⟩ := hrel
    obtain rfl := HB.out
    by_cases hlt : k < L.length
    · have hltz : (k : Int) < (L.length : Int) := by omega
      obtain ⟨b1, o1, rfl, hb1, hc1⟩ := R1.out.at_ k hlt
      have q0 := hc1 0 _ rfl
      simp only [Nat.mul_one, Nat.add_zero] at q0
      have hbd := HF.out.bd k (by omega)
      have hbf := HF.out.bl k hlt
      have HT := Go.Lib.hid (show (L.take (k + 1)).sum = (L.take k).sum + L[k] by rw [List.take_succ_eq_append_getElem hlt, List.sum_append]; simp)
      generalize L[k] = y at *
      generalize (L.take k).sum = z at *
      clear hc1
      go_wp2
      go_roundg (L.length - (k + 1))
      case measure => omega
      case rel => exact ⟨k + 1, by omega, by omega, by go_num, (by rw [HT.out]), rfl⟩
    · have hltz : ¬ (k : Int) < (L.length : Int) := by omega
      have e0 : L.take k = L := List.take_of_length_le (by omega)
      rw [e0]
      have HS := asd (HF.out.sum)
      have hbd := HF.out.bd L.length (Nat.le_refl _)
      rw [List.take_of_length_le (Nat.le_refl _)] at hbd
      generalize L.sum = S at *
      clear e0
      go_wp2
      go_loopg [11, 13] F.length (fun gg s11 s13 wr' => ∃ k : Nat, k ≤ F.length ∧ F.length - k ≤ gg ∧ s13 = .int .i64 k ∧ s11 = .int .i64 (S - (F.take k).sum) ∧ Aside (wr' = wr))
      case atStart => exact ⟨0, Nat.zero_le _, by omega, rfl, by simp, rfl⟩
      case round =>
        obtain ⟨m, hm, hgm, rfl, rfl, HB2⟩ := hrel
        obtain rfl := HB2.out
        by_cases hmlt : m < F.length
        · have hmz : (m : Int) < (F.length : Int) := by omega
          obtain ⟨b1, o1, rfl, hb1, hc1⟩ := R3.out.at_ m hmlt
          have q0 := hc1 0 _ rfl
          simp only [Nat.mul_one, Nat.add_zero] at q0
          have hbd2 := HF.out.bd2 m (by omega)
          have hbf := HF.out.bf m hmlt
          have HT := Go.Lib.hid (show S - (F.take (m + 1)).sum = S - (F.take m).sum - F[m] by rw [List.take_succ_eq_append_getElem hmlt, List.sum_append]; simp; omega)
          generalize F[m] = y at *
          generalize (F.take m).sum = z at *
          clear hc1
          go_wp2
          go_roundg (F.length - (m + 1))
          case measure => omega
          case rel => exact ⟨m + 1, by omega, by omega, by go_num, (by rw [HT.out]), rfl⟩
        · have hmz : ¬ (m : Int) < (F.length : Int) := by omega
          have e0 : F.take m = F := List.take_of_length_le (by omega)
          have ez : S - (F.take m).sum = 0 := by rw [e0, HS.out]; omega
          rw [ez]
          clear e0 ez
          go_wp2_with (go_at_call 7; refine (known_any _).mono ?_; rintro e w' ⟨rfl, hb1⟩)
          go_ret
          have hw0 := HW.out
          exact ⟨rfl, by (repeat (first | exact Below.refl _ _ | refine blw_alloc ?_ _ | refine blw_drew ?_ | refine blw_rg ?_ _ | refine blw_call (by assumption) ?_))⟩
theorem llaw_any (xs : List ByteArray) (la : Option Addr) (c : Nat) (w : World) (K : Kd.C Kd.string w la xs.length xs) (hcap : xs.length ≤ c) (hL : xs.length ≤ 17592186044416) (HR : xs.length ≤ 1000000 → Rd w encStr 1 la xs) :
    Calls Tryd.prog 4 #[.slice la xs.length c] w fun e w' => e = .returned (.bool true) ∧ Below w.heap.size w w' := by
  have hm := fun W (hW : Below w.heap.size w W) => many_any xs la c W (Kd.C_below K hW) hcap hL
  cases hmb : PMany.manyB xs
  · rw [hmb] at hm
    have hmb2 := hmb
    unfold PMany.manyB at hmb2
    rw [Bool.or_eq_false_iff, decide_eq_false_iff_not, List.any_eq_false] at hmb2
    have h9 : ∀ s ∈ xs, s.size ≤ 1000 := fun s hs => by have := hmb2.1 s hs; simp at this; omega
    obtain ⟨L, F, e0, HB⟩ := bothL xs la c w (HR (by omega)) hcap h9
    exact llaw_few xs la c w L F e0 HB hm
  · rw [hmb] at hm
    exact llaw_many xs la c w hm
end Go.Proofs.YtdpdchghafopfaaDoor
