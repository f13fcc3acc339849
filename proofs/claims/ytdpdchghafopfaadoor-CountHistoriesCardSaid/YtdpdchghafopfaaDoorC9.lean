/- Catches of the reference. -/
import Derived.Test.YtdpdchghafopfaaDoorC8
set_option linter.unusedVariables false
set_option linter.unusedSimpArgs false
namespace Go.Proofs.YtdpdchghafopfaaDoor
open Go.RowKit
set_option maxRecDepth 20000 in
set_option maxHeartbeats 1000000 in
theorem refcatches_err (xs : List ByteArray) (la : Option Addr) (c : Nat) (w : World) (H : Rd w encStr 1 la xs) (hcap : xs.length ≤ c) (he : valH xs ≠ 0) :
    Calls Tryd.prog 9 #[.slice la xs.length c] w (ListPost encC 3 [] (valH xs) w) := by
  have hv := fun W hW => refvh_any xs la c W (H.below hW) hcap
  have he2 : (valH xs != 0) = true := by rw [bne_iff_ne]; exact he
  clear H he hcap
  generalize valH xs = e0 at *
  go_enter Tryd.func9, Tryd.ntmps9
  go_wp2_with (go_at_call 13; refine (hv _ ?_).mono ?_; ((repeat (first | exact Below.refl _ _ | refine blw_alloc ?_ _ | refine blw_drew ?_ | refine blw_rg ?_ _ | refine blw_call (by assumption) ?_))); rintro e w' ⟨rfl, hb1⟩)
  go_ret2
  exact ⟨_, _, Nat.zero_le _, rfl, rd_nilC _ _ _ _, by (repeat (first | exact Below.refl _ _ | refine blw_alloc ?_ _ | refine blw_drew ?_ | refine blw_rg ?_ _ | refine blw_call (by assumption) ?_))⟩
set_option maxRecDepth 20000 in
set_option maxHeartbeats 1000000 in
theorem refcatches_ok (xs : List ByteArray) (la : Option Addr) (c : Nat) (w : World) (H : Rd w encStr 1 la xs) (hcap : xs.length ≤ c) (he : valH xs = 0) :
    Calls Tryd.prog 9 #[.slice la xs.length c] w (ListPost encC 3 (catchL xs (daysH xs)) 0 w) := by
  have hgood := goodH he
  have h8 := hgood.days
  have h9 := good9 hgood
  have h60 := hgood.len
  have hv := fun W hW => refvh_any xs la c W (H.below hW) hcap
  have hdays := fun W hW => refdays_any xs la c W (H.below hW) hcap
  rw [he] at hv
  clear he h9 hcap
  have HSZ := Go.Lib.hid hgood.size
  have HT0 := Go.Lib.hid (fun k => (show catchL xs (k + 1) = catchL xs k ++ [(cntB (markB k) xs, cntB (fun s => hitB s k) xs, cntB (againB k) xs)] from map_range_succ _ k))
  have HL := Go.Lib.hid (fun k => (show (catchL xs k).length = k by simp [catchL]))
  clear hgood
  generalize daysH xs = n at *
  go_enter Tryd.func9, Tryd.ntmps9
  go_wp2_with (first | (go_at_call 13; refine (hv _ ?_).mono ?_; ((repeat (first | exact Below.refl _ _ | refine blw_alloc ?_ _ | refine blw_drew ?_ | refine blw_rg ?_ _ | refine blw_call (by assumption) ?_))); rintro e w' ⟨rfl, hb1⟩))
  have HW := asd (show Below w.heap.size w w' by (repeat (first | exact Below.refl _ _ | refine blw_alloc ?_ _ | refine blw_drew ?_ | refine blw_rg ?_ _ | refine blw_call (by assumption) ?_)))
  clear hb1 hv
  go_loopg [5, 6] n (fun gg s5 s6 wr => ∃ k : Nat, k ≤ n ∧ n - k ≤ gg ∧ s6 = .int .i64 k ∧ Aside (wr.ownsRow w'.heap.size 35 3 s5 k ((catchL xs k).flatMap encC)) ∧ Aside (Below w'.heap.size w' wr))
  case atStart => exact ⟨0, Nat.zero_le _, by omega, rfl, World.ownsRow_nil _ _ _ _, Below.refl _ _⟩
  case round =>
    obtain ⟨k, hk, hg, rfl, HO, HB⟩ := hrel
    obtain ⟨wo, rfl⟩ : ∃ wo : World, wo = wr := ⟨_, rfl⟩
    have hd1 := fun W hW => hdays W (blw_call hW (blw_call HB.out HW.out))
    by_cases hlt : k < n
    · have hltz : (k : Int) < (n : Int) := by omega
      go_wp2_with (go_at_call 34; refine (hd1 _ (Below.refl _ _)).mono ?_; rintro e w2 ⟨rfl, hb2⟩)
      have HI : RcI w' xs k u5 w2.heap.size (w2.alloc (.cells #[.int .i64 0, .int .i64 0, .int .i64 0] 35)) := by
        refine ⟨(own_blw HO.out hb2).alloc _, fun e => ?_, ?_, by (repeat (first | exact Below.refl _ _ | refine blw_alloc ?_ _ | refine blw_drew ?_ | refine blw_rg ?_ _ | refine blw_call (by assumption) ?_))⟩
        · have h1 := (HO.out.lt _ e).2; have h2 := hb2.size; omega
        · have h1 := HB.out.size; have h2 := hb2.size; omega
      have HC : Cnt3 (w2.alloc (.cells #[.int .i64 0, .int .i64 0, .int .i64 0] 35)) w2.heap.size 0 0 0 := by
        refine ⟨?_, ?_, ?_, ?_, ?_, ?_⟩ <;> go_simp
      have HI0 := asd HI
      have HC0 := asd HC
      clear HI HC hb2 hd1
      go_loopg [8] xs.length (fun gg s8 wr => ∃ m : Nat, m ≤ xs.length ∧ xs.length - m ≤ gg ∧ s8 = .int .i64 m ∧ Aside (RcI w' xs k u5 w2.heap.size wr) ∧ Aside (Cnt3 wr w2.heap.size (cntB (markB k) (xs.take m)) (cntB (fun s => hitB s k) (xs.take m)) (cntB (againB k) (xs.take m))))
      case atStart => exact ⟨0, Nat.zero_le _, by omega, rfl, HI0, HC0⟩
      case round =>
        obtain ⟨m, hm, hgm, rfl, HI, HC⟩ := hrel
        clear HI0 HC0
        by_cases hmlt : m < xs.length
        · have hmz : (m : Int) < (xs.length : Int) := by omega
          obtain ⟨b0, off, rfl, hb0, hc⟩ := (H.below (blw_call HI.out.old HW.out)).at_ m hmlt
          have q0 := rg_cell (hc 0 _ rfl)
          simp only [Nat.mul_one, Nat.add_zero] at q0
          have hsx := HSZ.out _ (List.getElem_mem hmlt)
          have T1 := Go.Lib.hid (cntB_take (markB k) xs m hmlt)
          have T2 := Go.Lib.hid (cntB_take (fun s => hitB s k) xs m hmlt)
          have T3 := Go.Lib.hid (cntB_take (againB k) xs m hmlt)
          have l60 : ((xs.take m).length : Int) ≤ 60 := by simp; omega
          have bd1 := cntB_bd (markB k) (xs.take m)
          have bd2 := cntB_bd (fun s => hitB s k) (xs.take m)
          have bd3 := cntB_bd (againB k) (xs.take m)
          have HRd := asd H
          generalize xs[m] = x at *
          generalize cntB (markB k) (xs.take m) = y1 at *
          generalize cntB (fun s => hitB s k) (xs.take m) = y2 at *
          generalize cntB (againB k) (xs.take m) = y3 at *
          have hc1 := fun W => refcaught_any x 0 k (by omega) (by omega) W
          have hc2 := fun W => refcaught_any x k (k + 1) (by omega) (by omega) W
          rw [show caughtB x k (k + 1) = hitB x k by rw [caughtB_last (Nat.le_refl _), caughtB_none (Nat.le_refl _), Bool.false_or]] at hc2
          have ek : ((k + 1 : Nat) : Int) = (k : Int) + 1 := by omega
          rw [ek] at hc2
          have w1 : IntKind.i64.wrap ((k : Int) + 1) = (k : Int) + 1 := by simp [IntKind.wrap, IntKind.bits, IntKind.signed]; omega
          clear hc H ek
          have e1 : markB k x = caughtB x 0 k := rfl
          have e3 : againB k x = (hitB x k && caughtB x 0 k) := rfl
          generalize caughtB x 0 k = r1 at *
          generalize hitB x k = r2 at *
          rw [e1] at T1
          rw [e3] at T3
          clear e1 e3
          cases r1 <;> cases r2
          all_goals
            go_wp2_with fail
            ((with_reducible refine wp_region_rg (by kernel_rfl) (by kernel_rfl) ?_); (repeat (first | go_big_quiet_step ((go_at_call 35; first | with_reducible exact rg_of (hc1 _) | with_reducible exact rg_of (hc2 _))) | quiet_step ((go_at_call 35; first | with_reducible exact rg_of (hc1 _) | with_reducible exact rg_of (hc2 _))))); refine wpQuiet_nil ?_; intro _ hw'; obtain ⟨prg, hw''⟩ := hw'; subst hw'')
            have hbr := rg_below wr prg
            generalize rg wr prg = wr2 at hbr
            have HI2 := asd (HI.out.below hbr)
            have HC2 := asd (HC.out.below hbr)
            have c0 := HC2.out.c0
            have c1 := HC2.out.c1
            have c2 := HC2.out.c2
            have f0 := HC2.out.f0
            have f1 := HC2.out.f1
            have f2 := HC2.out.f2
            clear q0 hc1 hc2 hbr
            go_wp2
            go_roundg (xs.length - (m + 1))
            case measure => omega
          · exact ⟨m + 1, by omega, by omega, by go_num, HI2.out, asd (by rw [T1.out, T2.out, T3.out]; simpa using HC2.out)⟩
          · exact ⟨m + 1, by omega, by omega, by go_num, HI2.out.set _ _, asd (by rw [T1.out, T2.out, T3.out]; simpa using HC2.out.set1 _)⟩
          · exact ⟨m + 1, by omega, by omega, by go_num, HI2.out.set _ _, asd (by rw [T1.out, T2.out, T3.out]; simpa using HC2.out.set0 _)⟩
          · exact ⟨m + 1, by omega, by omega, by go_num, ((HI2.out.set _ _).set _ _).set _ _, asd (by rw [T1.out, T2.out, T3.out]; simpa using ((HC2.out.set0 _).set1 _).set2 _)⟩
        · have hmz : ¬ (m : Int) < (xs.length : Int) := by omega
          have e0 : xs.take m = xs := List.take_of_length_le (by omega)
          rw [e0] at HC
          have HT := Go.Lib.hid (HT0.out k)
          have c0 := HC.out.c0
          have c1 := HC.out.c1
          have c2 := HC.out.c2
          have hsz := HI.out.old.size
          clear H e0
          generalize cntB (markB k) xs = y1 at *
          generalize cntB (fun s => hitB s k) xs = y2 at *
          generalize cntB (againB k) xs = y3 at *
          go_wp2_with (at_builtin; (refine app_own (w0 := w') w'.heap.size rfl _ _ 25 35 (.agg #[.int .i64 0, .int .i64 0, .int .i64 0]) 3 24 rfl Tryd.underlying25 (by kernel_rfl) rfl (by decide) (by decide) u5 _ _ [.int .i64 y1, .int .i64 y2, .int .i64 y3] rfl rfl rfl (by simp [Value.oneCell']) HI.out.own HI.out.old (by omega) (by omega) ?_); intro v1 w5 ho1 hb6 _ _)
          go_roundg (n - (k + 1))
          case measure => omega
          case rel =>
            refine ⟨k + 1, by omega, by omega, by go_num, ?_, hb6⟩
            rw [HT.out, List.flatMap_append]
            exact ho1
    · have hltz : ¬ (k : Int) < (n : Int) := by omega
      obtain rfl : k = n := by omega
      have hlen := HL.out k
      have HO2 : wo.ownsRow w'.heap.size 35 3 u5 (catchL xs k).length ((catchL xs k).flatMap encC) := by rw [hlen]; exact HO.out
      obtain ⟨A, cc, rfl, hc, hr⟩ := own_rdc (enc := encC) (fun _ => rfl) (by omega) HO2
      have HR := asd hr
      have HCC := asd hc
      clear hr HO2 hc H
      go_wp2_with (go_at_call 34; refine (hd1 _ (Below.refl _ _)).mono ?_; rintro e w2 ⟨rfl, hb2⟩)
      go_ret2
      exact ⟨A, cc, HCC.out, (by rw [hlen]; rfl), HR.out.below hb2, blw_call hb2 (blw_call HB.out HW.out)⟩
end Go.Proofs.YtdpdchghafopfaaDoor
