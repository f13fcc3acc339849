/- Read and Merge of the program. -/
import Derived.Test.YthfdlfdbjiofhaaDoorB10
set_option linter.unusedVariables false
set_option linter.unusedSimpArgs false
namespace Go.Proofs.YthfdlfdbjiofhaaDoor
open Go.RowKit
set_option maxRecDepth 20000
set_option maxHeartbeats 1000000
def ReadQ (t : List UInt8) (w : World) (e : Ending) (w' : World) : Prop := ∃ A c, (readD t).1.length ≤ c ∧ e = .returned (.tuple #[.slice A (readD t).1.length c, .string (bs (readD t).2.1), .int .i64 (readD t).2.2.2]) ∧ Rd w' encStr 1 A (bsl (readD t).1) ∧ Below w.heap.size w w'
theorem Read_any (s : ByteArray) (hs : s.size ≤ 1000000) (w : World) (hE : EnvB w) : Calls Tryd.prog 8 #[.string s] w (ReadQ (by_ s) w) := by
  have hr := read_any s hs w hE
  unfold ReadP at hr
  unfold ReadQ
  generalize readD (by_ s) = d at *
  obtain ⟨l, r, full, er⟩ := d
  simp only at hr ⊢
  go_enter Tryd.func8, Tryd.ntmps8
  go_wp2_with (go_at_call 26; refine hr.mono ?_; rintro e w1 ⟨A, c, hc, rfl, hrd, hb1⟩; have HC := asd hc; have HR := asd hrd; clear hc hrd)
  go_ret3
  exact ⟨A, c, HC.out, rfl, HR.out, by (repeat (first | exact Below.refl _ _ | refine blw_alloc ?_ _ | refine blw_drew ?_ | refine blw_rg ?_ _ | refine blw_call (by assumption) ?_))⟩
/-- What Merge answers. -/
def mergeD (a b : ByteArray) : ByteArray × Int × Int :=
  if (readD (by_ a)).2.2.2 ≠ 0 then (⟨#[]⟩, 0, (readD (by_ a)).2.2.2)
  else if (readD (by_ b)).2.2.2 ≠ 0 then (⟨#[]⟩, 0, (readD (by_ b)).2.2.2)
  else if (readD (by_ a)).2.2.1 = false ∨ (readD (by_ b)).2.2.1 = false ∨ (readD (by_ a)).2.1 ≠ [] ∨ (readD (by_ b)).2.1 ≠ [] then (⟨#[]⟩, 0, 9)
  else if comN (bsl (readD (by_ a)).1) (bsl (readD (by_ b)).1) = (readD (by_ b)).1.length then (a, ((readD (by_ a)).1.length : Nat), 0)
  else if comN (bsl (readD (by_ a)).1) (bsl (readD (by_ b)).1) = (readD (by_ a)).1.length then (b, ((readD (by_ b)).1.length : Nat), 0)
  else (⟨#[]⟩, (comN (bsl (readD (by_ a)).1) (bsl (readD (by_ b)).1) : Nat), 7)
def mergeV (d : ByteArray × Int × Int) : Value := .tuple #[.string d.1, .int .i64 d.2.1, .int .i64 d.2.2]
theorem em_eq (x : List UInt8) : ((bs x).toList == ([] : List UInt8)) = decide (x = []) := by
  rw [Lib.toList_data, Bool.eq_iff_iff, beq_iff_eq, decide_eq_true_eq]
theorem common_P (x y : List (List UInt8)) (A B : Option Addr) (c d : Nat) (w : World) (H : Rd w encStr 1 A (bsl x)) (H2 : Rd w encStr 1 B (bsl y)) :
    Calls Tryd.prog 28 #[.slice A x.length c, .slice B y.length d] w fun e w' => e = .returned (.int .i64 (comN (bsl x) (bsl y) : Nat)) ∧ Below w.heap.size w w' := by
  have h := common_any (bsl x) (bsl y) A B c d w H H2
  rw [bsl_len, bsl_len] at h
  exact h
theorem Merge_any (a b : ByteArray) (ha : a.size ≤ 1000000) (hb : b.size ≤ 1000000) (w : World) (hE : EnvB w) : Calls Tryd.prog 11 #[.string a, .string b] w fun e w' => e = .returned (mergeV (mergeD a b)) ∧ Below w.heap.size w w' := by
  have h1 := read_any a ha w hE
  have h2 := fun W (hb1 : Below w.heap.size w W) => read_any b hb W (hE.below hb1)
  have HM := Go.Lib.hid (show mergeD a b = _ by unfold mergeD; rfl)
  unfold ReadP at h1 h2
  generalize readD (by_ a) = x at *
  generalize readD (by_ b) = y at *
  obtain ⟨xl, xr, xf, xe⟩ := x
  obtain ⟨yl, yr, yf, ye⟩ := y
  simp only at h1 h2 HM
  clear hE ha hb
  by_cases hxe : xe = 0
  case neg =>
    rw [if_pos hxe] at HM
    have hx2 : (xe != 0) = true := by simpa using hxe
    clear hxe h2
    go_enter Tryd.func11, Tryd.ntmps11
    go_wp2_with (go_at_call 26; refine h1.mono ?_; rintro e w1 ⟨A, c, hc, rfl, hrd, hb1⟩; have HC := asd hc; have HR := asd hrd; clear hc hrd)
    go_ret3
    exact ⟨by rw [HM.out]; rfl, by (repeat (first | exact Below.refl _ _ | refine blw_alloc ?_ _ | refine blw_drew ?_ | refine blw_rg ?_ _ | refine blw_call (by assumption) ?_))⟩
  subst hxe
  rw [if_neg (fun h => h rfl)] at HM
  by_cases hye : ye = 0
  case neg =>
    rw [if_pos hye] at HM
    have hx2 : (ye != 0) = true := by simpa using hye
    clear hye
    go_enter Tryd.func11, Tryd.ntmps11
    go_wp2_with (go_at_call 26; (first | ((with_reducible (refine h1.mono ?_)); rintro e w1 ⟨A, c, hc, rfl, hrd, hb1⟩; have HC := asd hc; have HR := asd hrd; clear hc hrd) | ((with_reducible (refine (h2 _ hb1).mono ?_)); rintro e w2 ⟨B, d, hc2, rfl, hrd2, hb2⟩; have HC2 := asd hc2; have HR2 := asd hrd2; clear hc2 hrd2)))
    go_ret3
    exact ⟨by rw [HM.out]; rfl, by (repeat (first | exact Below.refl _ _ | refine blw_alloc ?_ _ | refine blw_drew ?_ | refine blw_rg ?_ _ | refine blw_call (by assumption) ?_))⟩
  subst hye
  rw [if_neg (fun h => h rfl)] at HM
  by_cases hbad : xf = false ∨ yf = false ∨ xr ≠ [] ∨ yr ≠ []
  case pos =>
    rw [if_pos hbad] at HM
    have e1 := em_eq xr
    have e2 := em_eq yr
    generalize bs xr = sx at *
    generalize bs yr = sy at *
    have hc4 : xf = false ∨ (xf = true ∧ yf = false) ∨ (xf = true ∧ yf = true ∧ (sx.toList == ([] : List UInt8)) = false) ∨ (xf = true ∧ yf = true ∧ (sx.toList == ([] : List UInt8)) = true ∧ (sy.toList == ([] : List UInt8)) = false) := by
      rw [e1, e2]
      cases xf <;> cases yf <;> simp_all
      by_cases h : xr = [] <;> simp_all
    clear e1 e2 hbad
    rcases hc4 with rfl | ⟨rfl, rfl⟩ | ⟨rfl, rfl, e1⟩ | ⟨rfl, rfl, e1, e2⟩
    all_goals
      go_enter Tryd.func11, Tryd.ntmps11
      go_wp2_with (go_at_call 26; (first | ((with_reducible (refine h1.mono ?_)); rintro e w1 ⟨A, c, hc, rfl, hrd, hb1⟩; have HC := asd hc; have HR := asd hrd; clear hc hrd) | ((with_reducible (refine (h2 _ hb1).mono ?_)); rintro e w2 ⟨B, d, hc2, rfl, hrd2, hb2⟩; have HC2 := asd hc2; have HR2 := asd hrd2; clear hc2 hrd2)))
      go_ret3
      exact ⟨by rw [HM.out]; rfl, by (repeat (first | exact Below.refl _ _ | refine blw_alloc ?_ _ | refine blw_drew ?_ | refine blw_rg ?_ _ | refine blw_call (by assumption) ?_))⟩
  rw [if_neg hbad] at HM
  have e1 := em_eq xr
  have e2 := em_eq yr
  obtain ⟨rfl, rfl, rfl, rfl⟩ : xf = true ∧ yf = true ∧ xr = [] ∧ yr = [] := by
    cases xf <;> cases yf <;> simp_all
  simp only [decide_true] at e1 e2
  generalize bs [] = sx at *
  clear hbad e2
  have hcm := fun A B c d W (H : Rd W encStr 1 A (bsl xl)) (H2 : Rd W encStr 1 B (bsl yl)) => common_P xl yl A B c d W H H2
  have hkx : comN (bsl xl) (bsl yl) ≤ xl.length := by have := (comN_le (bsl xl) (bsl yl)).1; rwa [bsl_len] at this
  have hky : comN (bsl xl) (bsl yl) ≤ yl.length := by have := (comN_le (bsl xl) (bsl yl)).2; rwa [bsl_len] at this
  generalize comN (bsl xl) (bsl yl) = k at *
  by_cases hk1 : k = yl.length
  · rw [if_pos hk1] at HM
    subst hk1
    go_enter Tryd.func11, Tryd.ntmps11
    go_wp2_with (first | (go_at_call 26; (first | ((with_reducible (refine h1.mono ?_)); rintro e w1 ⟨A, c, hc, rfl, hrd, hb1⟩; have HC := asd hc; have HR := asd hrd; clear hc hrd) | ((with_reducible (refine (h2 _ hb1).mono ?_)); rintro e w2 ⟨B, d, hc2, rfl, hrd2, hb2⟩; have HC2 := asd hc2; have HR2 := asd hrd2; clear hc2 hrd2))) | (go_at_call 28; refine (hcm _ _ _ _ _ (HR.out.below hb2) HR2.out).mono ?_; rintro e w3 ⟨rfl, hb3⟩))
    go_ret3
    exact ⟨by rw [HM.out]; rfl, by (repeat (first | exact Below.refl _ _ | refine blw_alloc ?_ _ | refine blw_drew ?_ | refine blw_rg ?_ _ | refine blw_call (by assumption) ?_))⟩
  rw [if_neg hk1] at HM
  have hk1' : ¬ (k : Int) = (yl.length : Int) := by omega
  by_cases hk2 : k = xl.length
  · rw [if_pos hk2] at HM
    subst hk2
    go_enter Tryd.func11, Tryd.ntmps11
    go_wp2_with (first | (go_at_call 26; (first | ((with_reducible (refine h1.mono ?_)); rintro e w1 ⟨A, c, hc, rfl, hrd, hb1⟩; have HC := asd hc; have HR := asd hrd; clear hc hrd) | ((with_reducible (refine (h2 _ hb1).mono ?_)); rintro e w2 ⟨B, d, hc2, rfl, hrd2, hb2⟩; have HC2 := asd hc2; have HR2 := asd hrd2; clear hc2 hrd2))) | (go_at_call 28; refine (hcm _ _ _ _ _ (HR.out.below hb2) HR2.out).mono ?_; rintro e w3 ⟨rfl, hb3⟩))
    go_ret3
    exact ⟨by rw [HM.out]; rfl, by (repeat (first | exact Below.refl _ _ | refine blw_alloc ?_ _ | refine blw_drew ?_ | refine blw_rg ?_ _ | refine blw_call (by assumption) ?_))⟩
  · rw [if_neg hk2] at HM
    have hk2' : ¬ (k : Int) = (xl.length : Int) := by omega
    go_enter Tryd.func11, Tryd.ntmps11
    go_wp2_with (first | (go_at_call 26; (first | ((with_reducible (refine h1.mono ?_)); rintro e w1 ⟨A, c, hc, rfl, hrd, hb1⟩; have HC := asd hc; have HR := asd hrd; clear hc hrd) | ((with_reducible (refine (h2 _ hb1).mono ?_)); rintro e w2 ⟨B, d, hc2, rfl, hrd2, hb2⟩; have HC2 := asd hc2; have HR2 := asd hrd2; clear hc2 hrd2))) | (go_at_call 28; refine (hcm _ _ _ _ _ (HR.out.below hb2) HR2.out).mono ?_; rintro e w3 ⟨rfl, hb3⟩))
    go_ret3
    exact ⟨by rw [HM.out]; rfl, by (repeat (first | exact Below.refl _ _ | refine blw_alloc ?_ _ | refine blw_drew ?_ | refine blw_rg ?_ _ | refine blw_call (by assumption) ?_))⟩
end Go.Proofs.YthfdlfdbjiofhaaDoor
