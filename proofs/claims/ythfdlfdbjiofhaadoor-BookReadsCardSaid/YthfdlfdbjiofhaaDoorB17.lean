/- The law BookReads, walked. -/
import Derived.Test.YthfdlfdbjiofhaaDoorB11
import Derived.Test.YthfdlfdbjiofhaaDoorB16
set_option linter.unusedVariables false
set_option linter.unusedSimpArgs false
namespace Go.Proofs.YthfdlfdbjiofhaaDoor
open Go.RowKit
set_option maxRecDepth 20000
set_option maxHeartbeats 1000000
theorem sameT_P (x y : List (List UInt8)) (la lb : Option Addr) (c d : Nat) (w : World) (H : Rd w encStr 1 la (bsl x)) (H2 : Rd w encStr 1 lb (bsl y)) :
    Calls Tryd.prog 10 #[.slice la x.length c, .slice lb y.length d] w fun e w' => e = .returned (.bool (decide (bsl x = bsl y))) ∧ Below w.heap.size w w' := by
  have h := sameTexts_any (bsl x) (bsl y) la lb c d w H H2
  rw [bsl_len, bsl_len] at h
  exact h
theorem reads_law (s : ByteArray) (w : World) (hE : EnvB w) : Calls Tryd.prog 3 #[.string s] w fun e w' => e = .returned (.bool true) ∧ Below w.heap.size w w' := by
  have hk := known_any
  by_cases hs : 6000 < s.size
  · have hsz : (6000 : Int) < (s.size : Int) := by omega
    go_enter Tryd.func3, Tryd.ntmps3
    go_wp2_with (go_at_call 7; refine (hk _).mono ?_; rintro e w1 ⟨rfl, hb1⟩)
    go_ret
    exact ⟨rfl, by (repeat (first | exact Below.refl _ _ | refine blw_alloc ?_ _ | refine blw_drew ?_ | refine blw_rg ?_ _ | refine blw_call (by assumption) ?_))⟩
  · have hsz : ¬ (6000 : Int) < (s.size : Int) := by omega
    have h1 := Read_any s (by omega) w hE
    have h2 := fun W => rRead_any s (by omega) W
    unfold ReadQ at h1 h2
    generalize readD (by_ s) = d at *
    obtain ⟨l, r, full, er⟩ := d
    simp only at h1 h2
    have h3 := fun A B c d W (H : Rd W encStr 1 A (bsl l)) (H2 : Rd W encStr 1 B (bsl l)) => sameT_P l l A B c d W H H2
    simp only [decide_true] at h3
    generalize bs r = y at *
    clear hE
    go_enter Tryd.func3, Tryd.ntmps3
    go_wp2_with (first | (go_at_call 8; refine h1.mono ?_; rintro e w1 ⟨A, c, hc, rfl, hrd, hb1⟩; have HR := asd hrd; clear hc hrd) | (go_at_call 9; refine (h2 _).mono ?_; rintro e w2 ⟨B, d, hc, rfl, hrd, hb2⟩; have HR2 := asd hrd; clear hc hrd) | (go_at_call 10; refine (h3 _ _ _ _ _ (HR.out.below hb2) HR2.out).mono ?_; rintro e w3 ⟨rfl, hb3⟩) | (go_at_call 7; refine (hk _).mono ?_; rintro e w4 ⟨rfl, hb4⟩))
    go_ret
    exact ⟨rfl, by (repeat (first | exact Below.refl _ _ | refine blw_alloc ?_ _ | refine blw_drew ?_ | refine blw_rg ?_ _ | refine blw_call (by assumption) ?_))⟩
end Go.Proofs.YthfdlfdbjiofhaaDoor
