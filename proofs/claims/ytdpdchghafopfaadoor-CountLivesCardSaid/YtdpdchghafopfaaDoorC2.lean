/- The reference's First (as printed): what it answers. known, Many and SameInts. -/
import Derived.Test.YtdpdchghafopfaaDoorCvQFirst
import Derived.Test.YtdpdchghafopfaaDoorPknownx3
import Derived.Test.YtdpdchghafopfaaDoorPManyx1
import Derived.Test.YtdpdchghafopfaaDoorPSameIntsx1
set_option linter.unusedVariables false
set_option linter.unusedSimpArgs false
namespace Go.Proofs.YtdpdchghafopfaaDoor
open Go.RowKit Go.Proofs.YtdpdchghafopfaaDoorW.PrintWords Go.Proofs.YtdpdchghafopfaaDoorW.PrintLast Go.Proofs.YtdpdchghafopfaaDoorW.PrintMore
namespace PFirst
theorem days_f (xs : List ByteArray) : wigeonref06_days.f xs = some (daysH xs : Int) := by
  unfold wigeonref06_days.f
  cases xs with
  | nil => simp [daysH]
  | cons s t =>
    rw [if_neg (by simp only [List.length_cons]; omega), if_pos (by simp only [List.length_cons]; omega), rdOf_0 _ (by simp)]
theorem first_l1 (xs : List ByteArray) (hg : GoodH xs) (out : List Int) (d : Nat) (hd : d < daysH xs) (ho : out.length ≤ 8) (R : List Int × Int) (hR : Ev (fun k => wigeonref06_First.l0 k xs (out ++ [cntB (freshB d) xs]) ((d + 1 : Nat) : Int)) R) :
    ∀ m i : Nat, i + m = xs.length → Ev (fun k => wigeonref06_First.l1 k xs out (d : Int) (cntB (freshB d) (xs.take i)) (i : Int)) R := by
  have h8 := hg.days
  have h60 := hg.len
  intro m
  induction m with
  | zero =>
    intro i hi
    rw [List.take_of_length_le (by omega)]
    refine Ev.step (f := fun k => wigeonref06_First.l0 k xs (out ++ [cntB (freshB d) xs]) ((d + 1 : Nat) : Int)) (fun k => ?_) hR
    simp only [wigeonref06_First.l1]
    rw [if_neg (by omega), if_pos (by omega), wr_succ d (by omega)]
  | succ m ih =>
    intro i hi
    have hlt : i < xs.length := by omega
    have hrd := rdOf_at ByteArray.empty xs i hlt
    have hsz := hg.size _ (List.getElem_mem hlt)
    have hnext := ih (i + 1) (by omega)
    rw [cntB_take (freshB d) xs i hlt] at hnext
    have hbd := cntB_bd (freshB d) (xs.take i)
    have hl : ((xs.take i).length : Int) ≤ 60 := by simp; omega
    have hw : wrap64 (cntB (freshB d) (xs.take i) + 1) = cntB (freshB d) (xs.take i) + 1 := by unfold wrap64; omega
    refine Ev.step (f := fun k => (wigeonref06_caught.f k xs[i] (d : Int) ((d + 1 : Nat) : Int)).bind fun t => if t = true then (wigeonref06_caught.f k xs[i] ((0 : Nat) : Int) (d : Int)).bind fun u => if u = true then wigeonref06_First.l1 k xs out (d : Int) (cntB (freshB d) (xs.take i)) ((i + 1 : Nat) : Int) else wigeonref06_First.l1 k xs out (d : Int) (cntB (freshB d) (xs.take i) + 1) ((i + 1 : Nat) : Int) else wigeonref06_First.l1 k xs out (d : Int) (cntB (freshB d) (xs.take i)) ((i + 1 : Nat) : Int)) (fun k => ?_) ?_
    · simp only [wigeonref06_First.l1]
      rw [if_pos (by omega), if_pos (by omega), hrd, wr_succ i (by omega), wr_succ d (by omega), hw]
      rfl
    · refine Ev.bind (caught_f xs[i] d (d + 1) (by omega) (by omega)) ?_
      have e1 : caughtB xs[i] d (d + 1) = hitB xs[i] d := by rw [caughtB_last (Nat.le_refl _), caughtB_none (Nat.le_refl _), Bool.false_or]
      rw [e1]
      cases hh : hitB xs[i] d
      · have ef : freshB d xs[i] = false := by unfold freshB; rw [hh]; rfl
        rw [ef] at hnext
        simp only [Bool.false_eq_true, if_false, Int.add_zero] at hnext ⊢
        exact hnext
      · simp only [if_true]
        refine Ev.bind (caught_f xs[i] 0 d (by omega) (by omega)) ?_
        cases hc : caughtB xs[i] 0 d
        · have ef : freshB d xs[i] = true := by unfold freshB; rw [hh, hc]; rfl
          rw [ef] at hnext
          simp only [Bool.false_eq_true, if_false, if_true] at hnext ⊢
          exact hnext
        · have ef : freshB d xs[i] = false := by unfold freshB; rw [hh, hc]; rfl
          rw [ef] at hnext
          simp only [Bool.false_eq_true, if_false, if_true, Int.add_zero] at hnext ⊢
          exact hnext
theorem first_l0 (xs : List ByteArray) (hg : GoodH xs) : ∀ m d : Nat, d + m = daysH xs → Ev (fun k => wigeonref06_First.l0 k xs (freshL xs d) (d : Int)) (freshL xs (daysH xs), 0) := by
  have h8 := hg.days
  intro m
  induction m with
  | zero =>
    intro d hd
    obtain rfl : d = daysH xs := by omega
    refine Ev.step (f := fun _ => some (freshL xs (daysH xs), 0)) (fun k => ?_) (Ev.now _)
    simp only [wigeonref06_First.l0]
    rw [days_f, Option.bind_some, if_neg (by omega)]
  | succ m ih =>
    intro d hd
    have hnext := ih (d + 1) (by omega)
    have e : freshL xs (d + 1) = freshL xs d ++ [cntB (freshB d) xs] := map_range_succ _ d
    rw [e] at hnext
    have h1 := first_l1 xs hg (freshL xs d) d (by omega) (by simp [freshL]; omega) _ hnext xs.length 0 (by omega)
    refine Ev.step (f := fun k => wigeonref06_First.l1 k xs (freshL xs d) (d : Int) (cntB (freshB d) (xs.take 0)) ((0 : Nat) : Int)) (fun k => ?_) h1
    simp only [wigeonref06_First.l0]
    rw [days_f, Option.bind_some, if_pos (by omega)]
    rfl
theorem first_ev (xs : List ByteArray) : Ev (fun k => wigeonref06_First.f k xs) (if valH xs = 0 then (freshL xs (daysH xs), 0) else ([], valH xs)) := by
  unfold wigeonref06_First.f
  refine Ev.bind (vh_ev xs) ?_
  by_cases h : valH xs = 0
  · rw [if_pos h]
    exact Ev.congr (f := fun k => wigeonref06_First.l0 k xs (freshL xs 0) ((0 : Nat) : Int)) (fun k => by rw [if_pos h]; rfl) (first_l0 xs (goodH h) (daysH xs) 0 (by omega))
  · rw [if_neg h]
    exact Ev.congr (f := fun _ => some ([], valH xs)) (fun k => by rw [if_neg h]) (Ev.now _)
end PFirst
theorem known_f : Pknown.wigeonlaw06_known.f 200 = some true := by kernel_rfl
namespace PMany
def manyB (xs : List ByteArray) : Bool := xs.any (fun s => decide (100 < s.size)) || decide (200 < xs.length)
theorem many_l0 (xs : List ByteArray) (hL : xs.length ≤ 17592186044416) : ∀ n i : Nat, i + n = xs.length → Ev (fun k => wigeonlaw06_Many.l0 k xs (i : Int)) ((xs.drop i).any (fun s => decide (100 < s.size)) || decide (200 < xs.length)) := by
  intro n
  induction n with
  | zero =>
    intro i hi
    rw [List.drop_eq_nil_of_le (by omega)]
    refine Ev.step (f := fun _ => some (decide (200 < xs.length))) (fun k => ?_) (by simpa using Ev.now _)
    simp only [wigeonlaw06_Many.l0]
    rw [if_neg (by omega)]
    congr 1
    rw [decide_eq_decide]; omega
  | succ n ih =>
    intro i hi
    have hlt : i < xs.length := by omega
    have hrd := rdOf_at ByteArray.empty xs i hlt
    rw [List.drop_eq_getElem_cons hlt, List.any_cons]
    by_cases h : 100 < xs[i].size
    · refine Ev.step (f := fun _ => some true) (fun k => ?_) (by simpa [h] using Ev.now _)
      simp only [wigeonlaw06_Many.l0]
      rw [if_pos (by omega), if_pos (by omega), hrd, if_pos (by omega)]
    · have e : decide (100 < xs[i].size) = false := by simpa using h
      rw [e, Bool.false_or]
      refine Ev.step (f := fun k => wigeonlaw06_Many.l0 k xs ((i + 1 : Nat) : Int)) (fun k => ?_) (ih (i + 1) (by omega))
      simp only [wigeonlaw06_Many.l0]
      have hw : wrap64 ((i : Int) + 1) = ((i + 1 : Nat) : Int) := by unfold wrap64; omega
      rw [if_pos (by omega), if_pos (by omega), hrd, if_neg (by omega), hw]
theorem many_ev (xs : List ByteArray) (hL : xs.length ≤ 17592186044416) : Ev (fun k => wigeonlaw06_Many.f k xs) (manyB xs) := by
  have := many_l0 xs hL xs.length 0 (by omega)
  rw [List.drop_zero] at this
  exact this
end PMany
namespace PSameInts
theorem same_l0 (xs ys : List Int) (hl : xs.length = ys.length) (h9 : xs.length ≤ 1000000) : ∀ n i : Nat, i + n = xs.length → Ev (fun k => wigeonref06_SameInts.l0 k xs ys (i : Int)) (decide (xs.drop i = ys.drop i)) := by
  intro n
  induction n with
  | zero =>
    intro i hi
    rw [List.drop_eq_nil_of_le (by omega), List.drop_eq_nil_of_le (by omega)]
    refine Ev.step (f := fun _ => some true) (fun k => ?_) (by simpa using Ev.now _)
    simp only [wigeonref06_SameInts.l0]
    rw [if_neg (by omega)]
  | succ n ih =>
    intro i hi
    have hlt : i < xs.length := by omega
    have hlt2 : i < ys.length := by omega
    have hx : rd xs (i : Int) = xs[i] := by unfold rd; rw [Int.toNat_natCast, List.getD_eq_getElem?_getD, List.getElem?_eq_getElem hlt]; rfl
    have hy : rd ys (i : Int) = ys[i] := by unfold rd; rw [Int.toNat_natCast, List.getD_eq_getElem?_getD, List.getElem?_eq_getElem hlt2]; rfl
    rw [List.drop_eq_getElem_cons hlt, List.drop_eq_getElem_cons hlt2]
    by_cases h : xs[i] = ys[i]
    · have e : decide (xs[i] :: xs.drop (i + 1) = ys[i] :: ys.drop (i + 1)) = decide (xs.drop (i + 1) = ys.drop (i + 1)) := by
        rw [decide_eq_decide, List.cons_eq_cons]; exact ⟨fun a => a.2, fun a => ⟨h, a⟩⟩
      rw [e]
      refine Ev.step (f := fun k => wigeonref06_SameInts.l0 k xs ys ((i + 1 : Nat) : Int)) (fun k => ?_) (ih (i + 1) (by omega))
      simp only [wigeonref06_SameInts.l0]
      simp only [hx, hy]
      rw [if_pos (by omega), if_pos (by omega), if_pos (by omega), wr_succ i (by omega)]
      rw [if_pos h]
    · have e : decide (xs[i] :: xs.drop (i + 1) = ys[i] :: ys.drop (i + 1)) = false := decide_eq_false fun e => h (List.cons.inj e).1
      rw [e]
      refine Ev.step (f := fun _ => some false) (fun k => ?_) (Ev.now _)
      simp only [wigeonref06_SameInts.l0]
      simp only [hx, hy]
      rw [if_pos (by omega), if_pos (by omega), if_pos (by omega), if_neg h]
theorem same_ev (xs ys : List Int) (h9 : xs.length ≤ 1000000) : Ev (fun k => wigeonref06_SameInts.f k xs ys) (decide (xs = ys)) := by
  unfold wigeonref06_SameInts.f
  by_cases h : xs.length = ys.length
  · have := same_l0 xs ys h h9 xs.length 0 (by omega)
    rw [List.drop_zero, List.drop_zero] at this
    exact Ev.congr (f := fun k => wigeonref06_SameInts.l0 k xs ys ((0 : Nat) : Int)) (fun k => by rw [if_pos (by omega)]; rfl) this
  · have e : decide (xs = ys) = false := by
      rw [decide_eq_false_iff_not]; intro e; exact h (by rw [e])
    rw [e]
    exact Ev.congr (f := fun _ => some false) (fun k => by rw [if_neg (by omega)]) (Ev.now _)
end PSameInts
end Go.Proofs.YtdpdchghafopfaaDoor
