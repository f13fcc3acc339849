/- The reference's Read and Merge; SameTexts. -/
import Derived.Test.YthfdlfdbjiofhaaDoorB15
set_option linter.unusedVariables false
set_option linter.unusedSimpArgs false
namespace Go.Proofs.YthfdlfdbjiofhaaDoor
open Go.RowKit
set_option maxRecDepth 20000
set_option maxHeartbeats 1000000
theorem readN_neg {t : List UInt8} (h : readN t < 0) : (readD t).1 = [] ∧ (readD t).2.1 = [] ∧ (readD t).2.2.2 ≠ 0 := by
  unfold readN at h
  unfold readD
  cases hl : headL t with
  | none => simp
  | some x =>
    obtain ⟨n, sum, r⟩ := x
    rw [hl] at h
    simp only at h ⊢
    split at h
    · omega
    · rename_i h1
      split at h
      · omega
      · rename_i h2
        rw [if_neg h1, if_neg h2]; simp
theorem readN_full {t : List UInt8} (h : (readD t).2.2.2 = 0) : 0 ≤ readN t ∧ ((readD t).2.2.1 = false ↔ ((readD t).1.length : Int) < readN t) := by
  unfold readN
  unfold readD at h ⊢
  cases hl : headL t with
  | none => rw [hl] at h; simp at h
  | some x =>
    obtain ⟨n, sum, r⟩ := x
    rw [hl] at h
    simp only at h ⊢
    have hle := readL_len n r
    by_cases h1 : (readL n r).1.length < n
    · rw [if_pos h1, if_pos h1]
      simp
      first | exact h1 | exact ⟨by omega, h1⟩ | omega
    · rw [if_neg h1] at h ⊢
      by_cases h2 : rootP (readL n r).1 = sum
      · rw [if_neg h1, if_pos h2, if_pos h2]
        simp
        omega
      · rw [if_neg h2] at h; simp at h
theorem rRead_any (s : ByteArray) (hs : s.size ≤ 1000000) (w : World) : Calls Tryd.prog 9 #[.string s] w (ReadQ (by_ s) w) := by
  have hr := rall_any s hs w
  have hneg := Go.Lib.hid (@readN_neg (by_ s))
  unfold RAP at hr
  unfold ReadQ
  generalize readN (by_ s) = n at *
  generalize readD (by_ s) = d at *
  obtain ⟨l, r, full, er⟩ := d
  simp only at hr hneg ⊢
  by_cases hn : n < 0
  · obtain ⟨rfl, rfl, _⟩ := hneg.out hn
    go_enter Tryd.func9, Tryd.ntmps9
    go_wp2_with (go_at_call 27; refine hr.mono ?_; rintro e w1 ⟨A, c, hc, rfl, hrd, hb1⟩; have HC := asd hc; have HR := asd hrd; clear hc hrd)
    go_ret3
    exact ⟨none, 0, by simp, rfl, rd_nilC _ _ _ _, by (repeat (first | exact Below.refl _ _ | refine blw_alloc ?_ _ | refine blw_drew ?_ | refine blw_rg ?_ _ | refine blw_call (by assumption) ?_))⟩
  · have hnz : ¬ n < 0 := hn
    go_enter Tryd.func9, Tryd.ntmps9
    go_wp2_with (go_at_call 27; refine hr.mono ?_; rintro e w1 ⟨A, c, hc, rfl, hrd, hb1⟩; have HC := asd hc; have HR := asd hrd; clear hc hrd)
    go_ret3
    exact ⟨A, c, HC.out, rfl, HR.out, by (repeat (first | exact Below.refl _ _ | refine blw_alloc ?_ _ | refine blw_drew ?_ | refine blw_rg ?_ _ | refine blw_call (by assumption) ?_))⟩
theorem sameTexts_any (xs ys : List ByteArray) (la lb : Option Addr) (c d : Nat) (w : World) (H : Rd w encStr 1 la xs) (H2 : Rd w encStr 1 lb ys) :
    Calls Tryd.prog 10 #[.slice la xs.length c, .slice lb ys.length d] w fun e w' => e = .returned (.bool (decide (xs = ys))) ∧ Below w.heap.size w w' := by
  have big := H.big
  by_cases hl : xs.length = ys.length
  case neg =>
    have hlz : ((xs.length : Int) != (ys.length : Int)) = true := by simp; omega
    have HE := Go.Lib.hid (show decide (xs = ys) = false by simp; intro h; exact hl (by rw [h]))
    clear H H2
    have hl2 : ¬ (xs.length : Int) = (ys.length : Int) := by omega
    go_enter Tryd.func10, Tryd.ntmps10
    go_wp2
    go_ret
    exact ⟨rb (by rw [HE.out]), Below.refl _ _⟩
  rw [← hl]
  go_enter Tryd.func10, Tryd.ntmps10
  go_wp2_with fail
  go_loopg [5] xs.length (fun gg s5 wr => ∃ k : Nat, k ≤ xs.length ∧ xs.length - k ≤ gg ∧ s5 = .int .i64 k ∧ Aside (xs.take k = ys.take k) ∧ Aside (Below w.heap.size w wr))
  case atStart => exact ⟨0, Nat.zero_le _, by omega, rfl, asd (by simp), Below.refl _ _⟩
  case round =>
    obtain ⟨k, hk, hg, rfl, HA, HB⟩ := hrel
    by_cases hx : k < xs.length
    · have hxz : (k : Int) < (xs.length : Int) := by omega
      have hy : k < ys.length := by omega
      obtain ⟨b0, o0, rfl, hb0, hc0⟩ := (H.below HB.out).at_ k hx
      obtain ⟨b1, o1, rfl, hb1, hc1⟩ := (H2.below HB.out).at_ k hy
      have q0 := rg_cell (hc0 0 _ rfl)
      have q1 := rg_cell (hc1 0 _ rfl)
      simp only [Nat.mul_one, Nat.add_zero] at q0 q1
      have hq := str_eq xs[k] ys[k]
      have HT := Go.Lib.hid (List.take_succ_eq_append_getElem hx)
      have HT2 := Go.Lib.hid (List.take_succ_eq_append_getElem hy)
      have HD := Go.Lib.hid (show xs[k] ≠ ys[k] → decide (xs = ys) = false from fun h => by
        simp only [decide_eq_false_iff_not]
        intro e; subst e; exact h rfl)
      generalize xs[k] = x at *
      generalize ys[k] = y at *
      clear hc0 hc1 H H2
      by_cases e : x = y
      · have he : (x.toList == y.toList) = true := by rw [hq]; simpa using e
        have HE := asd e
        clear hq e
        go_wp2_with fail
        ((with_reducible refine wp_region_rg (by kernel_rfl) (by kernel_rfl) ?_); (repeat (first | go_big_quiet_step (fail) | quiet_step (fail))); refine wpQuiet_nil ?_; intro _ hw'; obtain ⟨prg, hw''⟩ := hw'; subst hw'')
        have hbr := rg_below wr prg
        generalize rg wr prg = wr2 at hbr
        clear q0 q1
        go_wp2
        go_roundg (xs.length - (k + 1))
        case measure => omega
        case rel => exact ⟨k + 1, by omega, by omega, by go_num, asd (by rw [HT.out, HT2.out, HA.out, HE.out]), blw_call hbr HB.out⟩
      · have he : (x.toList == y.toList) = false := by rw [hq]; simpa using e
        have HE := Go.Lib.hid (HD.out e)
        clear hq e
        go_wp2_with fail
        ((with_reducible refine wp_region_rg (by kernel_rfl) (by kernel_rfl) ?_); (repeat (first | go_big_quiet_step (fail) | quiet_step (fail))); refine wpQuiet_nil ?_; intro _ hw'; obtain ⟨prg, hw''⟩ := hw'; subst hw'')
        have hbr := rg_below wr prg
        generalize rg wr prg = wr2 at hbr
        clear q0 q1
        go_wp2
        go_ret
        exact ⟨rb (by rw [HE.out]), blw_call hbr HB.out⟩
    · have hxz : ¬ (k : Int) < (xs.length : Int) := by omega
      have HE := Go.Lib.hid (show decide (xs = ys) = true by
        have := HA.out
        rw [List.take_of_length_le (by omega), List.take_of_length_le (by omega)] at this
        simpa using this)
      clear H H2
      go_wp2
      go_ret
      exact ⟨rb (by rw [HE.out]), HB.out⟩
end Go.Proofs.YthfdlfdbjiofhaaDoor
