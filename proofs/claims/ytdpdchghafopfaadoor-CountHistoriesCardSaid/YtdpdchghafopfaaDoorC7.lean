/- Catches of the program. -/
import Derived.Test.YtdpdchghafopfaaDoorC6
set_option linter.unusedVariables false
set_option linter.unusedSimpArgs false
namespace Go.Proofs.YtdpdchghafopfaaDoor
open Go.RowKit
set_option maxRecDepth 20000 in
set_option maxHeartbeats 1000000 in
theorem catches_err (xs : List ByteArray) (la : Option Addr) (c : Nat) (w : World) (H : Rd w encStr 1 la xs) (h9 : ∀ s ∈ xs, s.size ≤ 1000) (he : valH xs ≠ 0) :
    Calls Tryd.prog 8 #[.slice la xs.length c] w (ListPost encC 3 [] (valH xs) w) := by
  have hv := fun W hW => vh_any xs la c W (H.below hW) h9
  have he2 : (valH xs != 0) = true := by rw [bne_iff_ne]; exact he
  clear H h9 he
  generalize valH xs = e0 at *
  go_enter Tryd.func8, Tryd.ntmps8
  go_wp2_with (go_at_call 12; refine (hv _ ?_).mono ?_; ((repeat (first | exact Below.refl _ _ | refine blw_alloc ?_ _ | refine blw_drew ?_ | refine blw_rg ?_ _ | refine blw_call (by assumption) ?_))); rintro e w' ⟨rfl, hb1⟩)
  go_ret2
  exact ⟨_, _, Nat.zero_le _, rfl, rd_nilC _ _ _ _, by (repeat (first | exact Below.refl _ _ | refine blw_alloc ?_ _ | refine blw_drew ?_ | refine blw_rg ?_ _ | refine blw_call (by assumption) ?_))⟩
set_option maxRecDepth 20000 in
set_option maxHeartbeats 1000000 in
theorem catches_ok (xs : List ByteArray) (la : Option Addr) (c : Nat) (w : World) (H : Rd w encStr 1 la xs) (he : valH xs = 0) :
    Calls Tryd.prog 8 #[.slice la xs.length c] w (ListPost encC 3 (catchL xs (daysH xs)) 0 w) := by
  have hgood := goodH he
  have h8 := hgood.days
  have h9 := good9 hgood
  have hv := fun W hW => vh_any xs la c W (H.below hW) h9
  have hdays := fun W hW => days_any xs la c W (H.below hW) h9
  have hA := fun (d : Nat) (hd : d < daysH xs) W hW => number_any 31 (enters_of Tryd.func31 (by kernel_rfl) rfl) (markB d) d xs la c W (H.below hW) fun s hs W => ahead_any s d (by rw [hgood.size s hs]; omega) (h9 s hs) W
  have hO := fun (d : Nat) (hd : d < daysH xs) W hW => number_any 32 (enters_of Tryd.func32 (by kernel_rfl) rfl) (fun s => hitB s d) d xs la c W (H.below hW) fun s hs W => on_any s d (by rw [hgood.size s hs]; omega) (h9 s hs) W
  have hB := fun (d : Nat) (hd : d < daysH xs) W hW => number_any 33 (enters_of Tryd.func33 (by kernel_rfl) rfl) (againB d) d xs la c W (H.below hW) fun s hs W => both_any s d (by rw [hgood.size s hs]; omega) (h9 s hs) W
  rw [he] at hv
  clear H he hgood h9
  have HT0 := Go.Lib.hid (fun k => (show catchL xs (k + 1) = catchL xs k ++ [(cntB (markB k) xs, cntB (fun s => hitB s k) xs, cntB (againB k) xs)] from map_range_succ _ k))
  have HL := Go.Lib.hid (fun k => (show (catchL xs k).length = k by simp [catchL]))
  generalize daysH xs = n at *
  go_enter Tryd.func8, Tryd.ntmps8
  go_wp2_with (first | (go_at_call 12; refine (hv _ ?_).mono ?_; ((repeat (first | exact Below.refl _ _ | refine blw_alloc ?_ _ | refine blw_drew ?_ | refine blw_rg ?_ _ | refine blw_call (by assumption) ?_))); rintro e w' ⟨rfl, hb1⟩) | (go_at_call 29; refine (hdays _ ?_).mono ?_; ((repeat (first | exact Below.refl _ _ | refine blw_alloc ?_ _ | refine blw_drew ?_ | refine blw_rg ?_ _ | refine blw_call (by assumption) ?_))); rintro e w' ⟨rfl, rfl⟩))
  have HW := asd (show Below w.heap.size w w' by (repeat (first | exact Below.refl _ _ | refine blw_alloc ?_ _ | refine blw_drew ?_ | refine blw_rg ?_ _ | refine blw_call (by assumption) ?_)))
  clear hb1 hv hdays
  go_loopg [5, 14] n (fun gg s5 s14 wr => ∃ k : Nat, k ≤ n ∧ n - k ≤ gg ∧ s14 = .int .i64 k ∧ Aside (wr.ownsRow w'.heap.size 35 3 s5 k ((catchL xs k).flatMap encC)) ∧ Aside (Below w'.heap.size w' wr))
  case atStart => exact ⟨0, Nat.zero_le _, by omega, rfl, World.ownsRow_nil _ _ _ _, Below.refl _ _⟩
  case round =>
    obtain ⟨k, hk, hg, rfl, HO, HB⟩ := hrel
    by_cases hlt : k < n
    · have hltz : (k : Int) < (n : Int) := by omega
      have hA1 := fun W hW => hA k hlt W (blw_call hW (blw_call HB.out HW.out))
      have hO1 := fun W hW => hO k hlt W (blw_call hW (blw_call HB.out HW.out))
      have hB1 := fun W hW => hB k hlt W (blw_call hW (blw_call HB.out HW.out))
      have HT := Go.Lib.hid (HT0.out k)
      have hsz := HB.out.size
      clear hA hO hB
      generalize cntB (markB k) xs = x at *
      generalize cntB (fun s => hitB s k) xs = y at *
      generalize cntB (againB k) xs = z at *
      go_wp2_with (first | (go_at_call 30; (first | ((with_reducible refine (hA1 _ (Below.refl _ _)).mono ?_); rintro e w2 ⟨rfl, hb2⟩) | ((with_reducible refine (hO1 _ hb2).mono ?_); rintro e w3 ⟨rfl, hb3⟩) | ((with_reducible refine (hB1 _ (blw_call hb3 hb2)).mono ?_); rintro e w4 ⟨rfl, hb4⟩; have hb5 := blw_call hb4 (blw_call hb3 hb2); have hsz2 := hb5.size))) | (at_builtin; (refine app_own (w0 := w') w'.heap.size rfl _ _ 25 35 (.agg #[.int .i64 0, .int .i64 0, .int .i64 0]) 3 24 rfl Tryd.underlying25 (by kernel_rfl) rfl (by decide) (by decide) u5 _ _ [.int .i64 x, .int .i64 y, .int .i64 z] rfl rfl rfl (by simp [Value.oneCell']) (own_blw HO.out hb5) (blw_call hb5 HB.out) (by omega) (by omega) ?_); intro v1 w5 ho1 hb6 _ _))
      go_roundg (n - (k + 1))
      case measure => omega
      case rel =>
        refine ⟨k + 1, by omega, by omega, by go_num, ?_, hb6⟩
        rw [HT.out, List.flatMap_append]
        exact ho1
    · have hltz : ¬ (k : Int) < (n : Int) := by omega
      obtain rfl : k = n := by omega
      have hlen := HL.out k
      have HO2 : wr.ownsRow w'.heap.size 35 3 u5 (catchL xs k).length ((catchL xs k).flatMap encC) := by rw [hlen]; exact HO.out
      obtain ⟨A, cc, rfl, hc, hr⟩ := own_rdc (enc := encC) (fun _ => rfl) (by omega) HO2
      have HR := asd hr
      have HC := asd hc
      clear hr HO2 hc hA hO hB
      go_wp2
      go_ret2
      exact ⟨A, cc, HC.out, (by rw [hlen]; rfl), HR.out, blw_call HB.out HW.out⟩
end Go.Proofs.YtdpdchghafopfaaDoor
