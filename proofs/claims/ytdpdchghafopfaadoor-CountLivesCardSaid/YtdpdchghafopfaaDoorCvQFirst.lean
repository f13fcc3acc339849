/- The reference's caught and ValidateHistories (as printed for First): what they answer. -/
import Derived.Test.YtdpdchghafopfaaDoorC1
import Derived.Test.YtdpdchghafopfaaDoorPFirstx1
set_option linter.unusedVariables false
set_option linter.unusedSimpArgs false
namespace Go.Proofs.YtdpdchghafopfaaDoor.PFirst
open Go.RowKit Go.Proofs.YtdpdchghafopfaaDoorW.PrintWords Go.Proofs.YtdpdchghafopfaaDoorW.PrintLast Go.Proofs.YtdpdchghafopfaaDoorW.PrintMore
theorem caught_ev (s : ByteArray) (b : Nat) (hb : b ≤ s.size) (h9 : b ≤ 1000) : ∀ n a : Nat, b - a = n → Ev (fun k => wigeonref06_caught.l0 k s (b : Int) (a : Int)) (caughtB s a b) := by
  intro n
  induction n with
  | zero =>
    intro a h
    rw [caughtB_none (by omega)]
    exact Ev.step (f := fun _ => some false) (fun k => by simp only [wigeonref06_caught.l0]; rw [if_neg (by omega)]) (Ev.now _)
  | succ n ih =>
    intro a h
    have hlt : a < b := by omega
    rw [caughtB_first hlt]
    have hs := bt_hit s a (by omega)
    cases hh : hitB s a
    · rw [Bool.false_or]
      refine Ev.step (f := fun k => wigeonref06_caught.l0 k s (b : Int) ((a + 1 : Nat) : Int)) (fun k => ?_) (ih (a + 1) (by omega))
      simp only [wigeonref06_caught.l0]
      rw [if_pos (by omega), if_pos (by omega), if_pos (by omega), if_neg (by rw [hs, hh]; simp), wr_succ a (by omega)]
    · rw [Bool.true_or]
      refine Ev.step (f := fun _ => some true) (fun k => ?_) (Ev.now _)
      simp only [wigeonref06_caught.l0]
      rw [if_pos (by omega), if_pos (by omega), if_pos (by omega), if_pos (hs.2 hh)]
theorem caught_f (s : ByteArray) (a b : Nat) (hb : b ≤ s.size) (h9 : b ≤ 1000) : Ev (fun k => wigeonref06_caught.f k s (a : Int) (b : Int)) (caughtB s a b) := caught_ev s b hb h9 _ a rfl
def digFrom (s : ByteArray) (j : Nat) : Bool := (s.data.toList.drop j).all fun c => c == 48 || c == 49
theorem digFrom_step (s : ByteArray) (j : Nat) (h : j < s.size) : digFrom s j = ((s.data.toList[j]'(by simpa using h) == 48 || s.data.toList[j]'(by simpa using h) == 49) && digFrom s (j + 1)) := by
  unfold digFrom
  rw [List.drop_eq_getElem_cons (by simpa using h), List.all_cons]
theorem vh_l1 (xs : List ByteArray) (i : Nat) (hi : i < xs.length) (h8 : xs[i].size ≤ 8) (h60 : xs.length ≤ 60) (R : Int) (hR : Ev (fun k => wigeonref06_ValidateHistories.l0 k xs ((i + 1 : Nat) : Int)) R) :
    ∀ m j : Nat, j + m = xs[i].size → Ev (fun k => wigeonref06_ValidateHistories.l1 k xs (i : Int) (j : Int)) (if digFrom xs[i] j then if caughtB xs[i] 0 xs[i].size then R else 8 else 1) := by
  intro m
  have hrd := rdOf_at ByteArray.empty xs i hi
  induction m with
  | zero =>
    intro j hj
    have e : digFrom xs[i] j = true := by unfold digFrom; rw [List.drop_eq_nil_of_le (by simp; omega)]; rfl
    rw [e]
    simp only [if_true]
    refine Ev.step (f := fun k => (wigeonref06_caught.f k xs[i] ((0 : Nat) : Int) (xs[i].size : Int)).bind fun t => if t = true then wigeonref06_ValidateHistories.l0 k xs ((i + 1 : Nat) : Int) else some 8) (fun k => ?_) ?_
    · simp only [wigeonref06_ValidateHistories.l1]
      rw [hrd, if_pos (by omega), if_pos (by omega), if_neg (by omega), wr_succ i (by omega)]
      rfl
    · refine Ev.bind (caught_f xs[i] 0 xs[i].size (Nat.le_refl _) (by omega)) ?_
      cases hc : caughtB xs[i] 0 xs[i].size
      · exact Ev.now _
      · exact hR
  | succ m ih =>
    intro j hj
    have hjl : j < xs[i].size := by omega
    have hb := bt_at xs[i] j hjl
    rw [digFrom_step xs[i] j hjl]
    generalize hx : (xs[i].data.toList[j]'(by simpa using hjl)) = x at *
    have ht : ((x.toNat : Int) = 48 ↔ x = 48) ∧ ((x.toNat : Int) = 49 ↔ x = 49) := by
      refine ⟨⟨fun h => UInt8.toNat_inj.1 (by show x.toNat = 48; omega), fun h => by rw [h]; rfl⟩, ⟨fun h => UInt8.toNat_inj.1 (by show x.toNat = 49; omega), fun h => by rw [h]; rfl⟩⟩
    by_cases h1 : x = 48
    · have e : (x == 48 || x == 49) = true := by rw [h1]; rfl
      rw [e, Bool.true_and]
      refine Ev.step (f := fun k => wigeonref06_ValidateHistories.l1 k xs (i : Int) ((j + 1 : Nat) : Int)) (fun k => ?_) (ih (j + 1) (by omega))
      simp only [wigeonref06_ValidateHistories.l1]
      rw [hrd, if_pos (by omega), if_pos (by omega), if_pos (by omega), if_pos (by omega), hb, if_pos (ht.1.2 h1), wr_succ j (by omega)]
    · by_cases h2 : x = 49
      · have e : (x == 48 || x == 49) = true := by rw [h2]; rfl
        rw [e, Bool.true_and]
        refine Ev.step (f := fun k => wigeonref06_ValidateHistories.l1 k xs (i : Int) ((j + 1 : Nat) : Int)) (fun k => ?_) (ih (j + 1) (by omega))
        simp only [wigeonref06_ValidateHistories.l1]
        rw [hrd, if_pos (by omega), if_pos (by omega), if_pos (by omega), if_pos (by omega), hb, if_neg (fun h => h1 (ht.1.1 h)), if_pos (ht.2.2 h2), wr_succ j (by omega)]
      · have e : (x == 48 || x == 49) = false := by simp [h1, h2]
        rw [e, Bool.false_and]
        refine Ev.step (f := fun _ => some 1) (fun k => ?_) (Ev.now _)
        simp only [wigeonref06_ValidateHistories.l1]
        rw [hrd, if_pos (by omega), if_pos (by omega), if_pos (by omega), if_pos (by omega), hb, if_neg (fun h => h1 (ht.1.1 h)), if_neg (fun h => h2 (ht.2.1 h))]
theorem vh_l0 (xs : List ByteArray) (h60 : xs.length ≤ 60) : ∀ n i : Nat, i + n = xs.length → Ev (fun k => wigeonref06_ValidateHistories.l0 k xs (i : Int)) (firstE ((xs.drop i).map (errH (daysH xs)))) := by
  intro n
  induction n with
  | zero =>
    intro i hi
    rw [List.drop_eq_nil_of_le (by omega)]
    exact Ev.step (f := fun _ => some 0) (fun k => by simp only [wigeonref06_ValidateHistories.l0]; rw [if_neg (by omega)]) (Ev.now _)
  | succ n ih =>
    intro i hi
    have hlt : i < xs.length := by omega
    have hrd := rdOf_at ByteArray.empty xs i hlt
    have h0 := rdOf_0 xs (by omega)
    have hnext := ih (i + 1) (by omega)
    rw [List.drop_eq_getElem_cons hlt, List.map_cons]
    by_cases h8 : 8 < xs[i].size
    · have e : errH (daysH xs) xs[i] = 3 := by unfold errH; rw [if_pos h8]
      rw [e]
      refine Ev.step (f := fun _ => some 3) (fun k => ?_) (Ev.now _)
      simp only [wigeonref06_ValidateHistories.l0]
      rw [if_pos (by omega), if_pos (by omega), hrd, if_pos (by omega)]
    · by_cases hn : xs[i].size = daysH xs
      · have e : firstE (errH (daysH xs) xs[i] :: (xs.drop (i + 1)).map (errH (daysH xs))) = if digFrom xs[i] 0 then if caughtB xs[i] 0 xs[i].size then firstE ((xs.drop (i + 1)).map (errH (daysH xs))) else 8 else 1 := by
          unfold errH
          rw [if_neg h8, if_pos hn]
          have ed : digB xs[i] = digFrom xs[i] 0 := by unfold digB digFrom; rw [List.drop_zero]
          rw [ed]
          cases digFrom xs[i] 0
          · rfl
          · cases caughtB xs[i] 0 xs[i].size <;> rfl
        rw [e]
        refine Ev.step (f := fun k => wigeonref06_ValidateHistories.l1 k xs (i : Int) ((0 : Nat) : Int)) (fun k => ?_) (vh_l1 xs i hlt (by omega) h60 _ hnext xs[i].size 0 (by omega))
        simp only [wigeonref06_ValidateHistories.l0]
        rw [if_pos (by omega), if_pos (by omega), hrd, if_neg (by omega), if_pos (by omega), if_pos (by omega)]
        rfl
      · have e : errH (daysH xs) xs[i] = 1 := by unfold errH; rw [if_neg h8, if_neg hn]
        rw [e]
        refine Ev.step (f := fun _ => some 1) (fun k => ?_) (Ev.now _)
        simp only [wigeonref06_ValidateHistories.l0]
        rw [if_pos (by omega), if_pos (by omega), hrd, if_neg (by omega), if_pos (by omega), if_neg (by omega)]
theorem vh_ev (xs : List ByteArray) : Ev (fun k => wigeonref06_ValidateHistories.f k xs) (valH xs) := by
  unfold valH wigeonref06_ValidateHistories.f
  by_cases h : 60 < xs.length
  · rw [if_pos h]
    exact Ev.congr (f := fun _ => some 3) (fun k => by rw [if_pos (by omega)]) (Ev.now _)
  · rw [if_neg h]
    have := vh_l0 xs (by omega) xs.length 0 (by omega)
    rw [List.drop_zero] at this
    exact Ev.congr (f := fun k => wigeonref06_ValidateHistories.l0 k xs ((0 : Nat) : Int)) (fun k => by rw [if_neg (by omega)]; rfl) this
end Go.Proofs.YtdpdchghafopfaaDoor.PFirst
