/- Lives of the program; Alive of the reference; the reference's Lives in the walks' words. -/
import Derived.Test.YtdpdchghafopfaaDoorC8
import Derived.Test.YtdpdchghafopfaaDoorC11
set_option linter.unusedVariables false
set_option linter.unusedSimpArgs false
namespace Go.Proofs.YtdpdchghafopfaaDoor
open Go.RowKit Go.Proofs.YtdpdchghafopfaaDoorW.PrintWords Go.Proofs.YtdpdchghafopfaaDoorW.PrintLast Go.Proofs.YtdpdchghafopfaaDoorW.PrintMore
theorem hit_bang {s : ByteArray} {j : Nat} (h : j < s.size) : ((s.data[j]!).toNat : Int) = 49 ↔ hitB s j = true := by
  rw [hit_at h, decide_eq_true_eq]
  have e : s.data[j]! = s[j] := by
    rw [getElem!_pos s.data j (by exact h)]; rfl
  rw [e]
theorem last_ends {s : ByteArray} {f l : Nat} (h : Ends s s.size f l) : Lib.lastIndexByte s 49 = l := by
  unfold Lib.lastIndexByte
  rcases Lib.lastIdx_spec s 49 s.size with ⟨_, h2⟩ | ⟨i, hi, e, hh, hhi⟩
  · exact absurd ((hit_bang h.lt).2 h.hl) (h2 l h.lt)
  · rw [e]
    have h1 := (hit_bang hi).1 hh
    rcases Nat.lt_trichotomy i l with a | a | a
    · exact absurd ((hit_bang h.lt).2 h.hl) (hhi l a h.lt)
    · rw [a]
    · rw [h.hi i a hi] at h1; cases h1
theorem hit_get {s : ByteArray} {j : Nat} : s.data.toList[j]? = some 49 ↔ hitB s j = true := by
  unfold hitB
  rw [List.getD_eq_getElem?_getD, beq_iff_eq]
  cases h : s.data.toList[j]? with
  | none => simp
  | some x => simp
theorem first_ends {s : ByteArray} {n f l : Nat} (h : Ends s n f l) : Lib.indexByte s.data.toList 49 = f := by
  have hge := Lib.indexByte_ge s.data.toList 49
  by_cases e : Lib.indexByte s.data.toList 49 = -1
  · exact absurd (hit_get.2 h.hf) (Lib.indexByte_none e f)
  · obtain ⟨o, ho⟩ : ∃ o : Nat, Lib.indexByte s.data.toList 49 = o := ⟨(Lib.indexByte s.data.toList 49).toNat, by omega⟩
    obtain ⟨h1, h2⟩ := Lib.indexByte_some ho
    rw [ho]
    have h3 := hit_get.1 h1
    rcases Nat.lt_trichotomy o f with a | a | a
    · rw [h.lo o a] at h3; cases h3
    · rw [a]
    · exact absurd (hit_get.2 h.hf) (h2 f a)
set_option maxRecDepth 20000 in
set_option maxHeartbeats 1000000 in
theorem lives_err (xs : List ByteArray) (la : Option Addr) (c : Nat) (w : World) (H : Rd w encStr 1 la xs) (h9 : ∀ s ∈ xs, s.size ≤ 1000) (he : valH xs ≠ 0) :
    Calls Tryd.prog 17 #[.slice la xs.length c] w (ListPost encInt 1 [] (valH xs) w) := by
  have hv := fun W hW => vh_any xs la c W (H.below hW) h9
  have he2 : (valH xs != 0) = true := by rw [bne_iff_ne]; exact he
  clear H h9 he
  generalize valH xs = e0 at *
  go_enter Tryd.func17, Tryd.ntmps17
  go_wp2_with (go_at_call 12; refine (hv _ ?_).mono ?_; ((repeat (first | exact Below.refl _ _ | refine blw_alloc ?_ _ | refine blw_drew ?_ | refine blw_rg ?_ _ | refine blw_call (by assumption) ?_))); rintro e w' ⟨rfl, hb1⟩)
  go_ret2
  exact ⟨_, _, Nat.zero_le _, rfl, rd_nilC _ _ _ _, by (repeat (first | exact Below.refl _ _ | refine blw_alloc ?_ _ | refine blw_drew ?_ | refine blw_rg ?_ _ | refine blw_call (by assumption) ?_))⟩
set_option maxRecDepth 20000 in
set_option maxHeartbeats 1000000 in
theorem lives_ok (xs : List ByteArray) (la : Option Addr) (c : Nat) (w : World) (H : Rd w encStr 1 la xs) (he : valH xs = 0) :
    Calls Tryd.prog 17 #[.slice la xs.length c] w (ListPost encInt 1 (lifeL xs) 0 w) := by
  have hgood := goodH he
  have h8 := hgood.days
  have h60 := hgood.len
  have hv := fun W hW => vh_any xs la c W (H.below hW) (good9 hgood)
  rw [he] at hv
  clear he
  have hl : (lifeL xs).length = xs.length := by simp [lifeL]
  have HG := Go.Lib.hid hgood
  have HL := Go.Lib.hid hl
  clear hgood hl
  go_enter Tryd.func17, Tryd.ntmps17
  go_wp2_with (first | (go_at_call 12; refine (hv _ ?_).mono ?_; ((repeat (first | exact Below.refl _ _ | refine blw_alloc ?_ _ | refine blw_drew ?_ | refine blw_rg ?_ _ | refine blw_call (by assumption) ?_))); rintro e w' ⟨rfl, hb1⟩))
  have HW := asd (show Below w.heap.size w w' by (repeat (first | exact Below.refl _ _ | refine blw_alloc ?_ _ | refine blw_drew ?_ | refine blw_rg ?_ _ | refine blw_call (by assumption) ?_)))
  clear hb1 hv
  go_loopg [5, 15] xs.length (fun gg s5 s15 wr => ∃ k : Nat, k ≤ xs.length ∧ xs.length - k ≤ gg ∧ s15 = .int .i64 k ∧ Aside (wr.ownsRow w'.heap.size 3 1 s5 k (((lifeL xs).take k).flatMap encInt)) ∧ Aside (Below w'.heap.size w' wr))
  case atStart => exact ⟨0, Nat.zero_le _, by omega, rfl, World.ownsRow_nil _ _ _ _, Below.refl _ _⟩
  case round =>
    obtain ⟨k, hk, hg, rfl, HO, HB⟩ := hrel
    by_cases hlt : k < xs.length
    · have hltz : (k : Int) < (xs.length : Int) := by omega
      obtain ⟨b0, off, rfl, hb0, hc⟩ := (H.below (blw_call HB.out HW.out)).at_ k hlt
      have q0 := hc 0 _ rfl
      simp only [Nat.mul_one, Nat.add_zero] at q0
      have hm := List.getElem_mem hlt
      have hsx := HG.out.size _ hm
      obtain ⟨f, l, hends⟩ := ends_ex (HG.out.one _ hm)
      have hlife := hends.life
      rw [← hsx] at hends
      have h1 := last_ends hends
      have h2 := first_ends hends
      have hle := hends.le
      have hln := hends.lt
      have HT := Go.Lib.hid (show (lifeL xs).take (k + 1) = (lifeL xs).take k ++ [(l : Int) - f + 1] by
        rw [List.take_succ_eq_append_getElem (by rw [HL.out]; exact hlt)]
        congr 2
        simp only [lifeL, List.getElem_map]
        exact hlife)
      generalize xs[k] = x at *
      have hc1 := fun W => Any.strings_LastIndex_one Tryd.lays148 x ⟨#[49]⟩ rfl (by omega) W
      have hc2 := fun W => Any.strings_Index_one Tryd.lays143 x 49 W
      rw [h2] at hc2
      rw [show (((ByteArray.mk #[49])[0]'(by decide)).toNat : Int) = 49 from rfl, h1] at hc1
      have hsz := HB.out.size
      clear hc hends hlife h1 h2 H hm
      go_wp2_with (first | (go_at_call 41; refine (hc1 _).mono ?_; rintro e w2 ⟨rfl, rfl⟩) | (go_at_call 42; refine (hc2 _).mono ?_; rintro e w2 ⟨rfl, rfl⟩) | (at_builtin; (refine app_own (w0 := w') w'.heap.size rfl _ _ 29 3 (.int .i64 0) 1 8 rfl Tryd.underlying29 (by kernel_rfl) rfl (by decide) (by decide) u5 _ _ [.int .i64 ((l : Int) - f + 1)] rfl rfl rfl (by simp [Value.oneCell']) HO.out HB.out (by omega) (by omega) ?_); intro v1 w3 ho1 hb3 _ _))
      go_roundg (xs.length - (k + 1))
      case measure => omega
      case rel =>
        refine ⟨k + 1, by omega, by omega, by go_num, ?_, hb3⟩
        rw [HT.out, List.flatMap_append]
        exact ho1
    · have hltz : ¬ (k : Int) < (xs.length : Int) := by omega
      obtain rfl : k = xs.length := by omega
      have hlen := HL.out
      have HO2 : wr.ownsRow w'.heap.size 3 1 u5 (lifeL xs).length ((lifeL xs).flatMap encInt) := by
        have := HO.out
        rw [List.take_of_length_le (by omega)] at this
        rw [hlen]; exact this
      obtain ⟨A, cc, rfl, hc, hr⟩ := own_rdc (enc := encInt) (fun _ => rfl) (by omega) HO2
      have HR := asd hr
      have HC := asd hc
      clear hr HO2 hc H
      go_wp2
      go_ret2
      exact ⟨A, cc, HC.out, (by rw [hlen]; rfl), HR.out, blw_call HB.out HW.out⟩
theorem reflives_any (xs : List ByteArray) (la : Option Addr) (c : Nat) (w : World) (H : Rd w encStr 1 la xs) (hc : xs.length ≤ c) :
    Calls Tryd.prog 18 #[.slice la xs.length c] w (ListPost encInt 1 (if valH xs = 0 then lifeL xs else []) (valH xs) w) := by
  obtain ⟨k, hk⟩ := (PLives.lives_ev xs).rounds
  have hlen : (if valH xs = 0 then lifeL xs else []).length ≤ 1000000 := by
    split
    · have := H.big
      simpa [lifeL] using this
    · simp
  have hk2 : PLives.wigeonref06_Lives.f k xs = some (if valH xs = 0 then lifeL xs else [], valH xs) := by
    rw [hk]
    split
    · rename_i h; rw [h]
    · rfl
  refine (PLives.wigeonref06_Lives.calls k la c xs _ _ w (kd_str H) hc hk2).mono ?_
  rintro e w' ⟨v, rfl, hr, hb⟩
  obtain ⟨A, cc, rfl, hcc, hC⟩ := Kd.R_reads hr
  exact ⟨A, cc, hcc, rfl, rd_int hlen hC, hb⟩
set_option maxRecDepth 20000 in
set_option maxHeartbeats 1000000 in
theorem refalive_err (xs : List ByteArray) (la : Option Addr) (c : Nat) (w : World) (H : Rd w encStr 1 la xs) (hcap : xs.length ≤ c) (he : valH xs ≠ 0) :
    Calls Tryd.prog 16 #[.slice la xs.length c] w (ListPost encInt 1 [] (valH xs) w) := by
  have hv := fun W hW => refvh_any xs la c W (H.below hW) hcap
  have he2 : (valH xs != 0) = true := by rw [bne_iff_ne]; exact he
  clear H he hcap
  generalize valH xs = e0 at *
  go_enter Tryd.func16, Tryd.ntmps16
  go_wp2_with (go_at_call 13; refine (hv _ ?_).mono ?_; ((repeat (first | exact Below.refl _ _ | refine blw_alloc ?_ _ | refine blw_drew ?_ | refine blw_rg ?_ _ | refine blw_call (by assumption) ?_))); rintro e w' ⟨rfl, hb1⟩)
  go_ret2
  exact ⟨_, _, Nat.zero_le _, rfl, rd_nilC _ _ _ _, by (repeat (first | exact Below.refl _ _ | refine blw_alloc ?_ _ | refine blw_drew ?_ | refine blw_rg ?_ _ | refine blw_call (by assumption) ?_))⟩
set_option maxRecDepth 20000 in
set_option maxHeartbeats 1000000 in
theorem refalive_ok (xs : List ByteArray) (la : Option Addr) (c : Nat) (w : World) (H : Rd w encStr 1 la xs) (hcap : xs.length ≤ c) (he : valH xs = 0) :
    Calls Tryd.prog 16 #[.slice la xs.length c] w (ListPost encInt 1 (aliveL xs (daysH xs)) 0 w) := by
  have hgood := goodH he
  have h8 := hgood.days
  have h60 := hgood.len
  have hv := fun W hW => refvh_any xs la c W (H.below hW) hcap
  have hdays := fun W hW => refdays_any xs la c W (H.below hW) hcap
  rw [he] at hv
  clear he hcap
  have HSZ := Go.Lib.hid hgood.size
  have HT0 := Go.Lib.hid (fun k => (show aliveL xs (k + 1) = aliveL xs k ++ [cntB (aliveB (daysH xs) k) xs] from map_range_succ _ k))
  have HL := Go.Lib.hid (fun k => (show (aliveL xs k).length = k by simp [aliveL]))
  clear hgood
  generalize daysH xs = n at *
  go_enter Tryd.func16, Tryd.ntmps16
  go_wp2_with (first | (go_at_call 13; refine (hv _ ?_).mono ?_; ((repeat (first | exact Below.refl _ _ | refine blw_alloc ?_ _ | refine blw_drew ?_ | refine blw_rg ?_ _ | refine blw_call (by assumption) ?_))); rintro e w' ⟨rfl, hb1⟩))
  have HW := asd (show Below w.heap.size w w' by (repeat (first | exact Below.refl _ _ | refine blw_alloc ?_ _ | refine blw_drew ?_ | refine blw_rg ?_ _ | refine blw_call (by assumption) ?_)))
  clear hb1 hv
  go_loopg [5, 6] n (fun gg s5 s6 wr => ∃ k : Nat, k ≤ n ∧ n - k ≤ gg ∧ s6 = .int .i64 k ∧ Aside (wr.ownsRow w'.heap.size 3 1 s5 k ((aliveL xs k).flatMap encInt)) ∧ Aside (Below w'.heap.size w' wr))
  case atStart => exact ⟨0, Nat.zero_le _, by omega, rfl, World.ownsRow_nil _ _ _ _, Below.refl _ _⟩
  case round =>
    obtain ⟨k, hk, hg, rfl, HO, HB⟩ := hrel
    obtain ⟨wo, rfl⟩ : ∃ wo : World, wo = wr := ⟨_, rfl⟩
    have hd1 := fun W hW => hdays W (blw_call hW (blw_call HB.out HW.out))
    by_cases hlt : k < n
    · have hltz : (k : Int) < (n : Int) := by omega
      go_wp2_with (go_at_call 34; refine (hd1 _ (Below.refl _ _)).mono ?_; rintro e w2 ⟨rfl, hb2⟩)
      have HO0 := asd (own_blw HO.out hb2)
      have HB0 := asd (blw_call hb2 HB.out)
      clear hb2 hd1
      go_loopg [7, 8] xs.length (fun gg s7 s8 wr => ∃ m : Nat, m ≤ xs.length ∧ xs.length - m ≤ gg ∧ s8 = .int .i64 m ∧ s7 = .int .i64 (cntB (aliveB n k) (xs.take m)) ∧ Aside (wr.ownsRow w'.heap.size 3 1 u5 k ((aliveL xs k).flatMap encInt)) ∧ Aside (Below w'.heap.size w' wr))
      case atStart => exact ⟨0, Nat.zero_le _, by omega, rfl, rfl, HO0, HB0⟩
      case round =>
        obtain ⟨m, hm, hgm, rfl, rfl, HO1, HB1⟩ := hrel
        clear HO0 HB0 HO HB
        by_cases hmlt : m < xs.length
        · have hmz : (m : Int) < (xs.length : Int) := by omega
          obtain ⟨b0, off, rfl, hb0, hc⟩ := (H.below (blw_call HB1.out HW.out)).at_ m hmlt
          have q0 := rg_cell (hc 0 _ rfl)
          simp only [Nat.mul_one, Nat.add_zero] at q0
          have hsx := HSZ.out _ (List.getElem_mem hmlt)
          have T1 := Go.Lib.hid (cntB_take (aliveB n k) xs m hmlt)
          have l60 : ((xs.take m).length : Int) ≤ 60 := by simp; omega
          have bd1 := cntB_bd (aliveB n k) (xs.take m)
          have hdW := fun W hW => hdays W (blw_call hW (blw_call HB1.out HW.out))
          generalize xs[m] = x at *
          generalize cntB (aliveB n k) (xs.take m) = y1 at *
          have hc1 := fun W => refcaught_any x 0 (k + 1) (by omega) (by omega) W
          have hc2 := fun W => refcaught_any x k n (by omega) (by omega) W
          have ek : ((k + 1 : Nat) : Int) = (k : Int) + 1 := by omega
          rw [ek] at hc1
          have w1 : IntKind.i64.wrap ((k : Int) + 1) = (k : Int) + 1 := by simp [IntKind.wrap, IntKind.bits, IntKind.signed]; omega
          have e1 : aliveB n k x = (caughtB x 0 (k + 1) && caughtB x k n) := rfl
          clear hc ek H hdays
          generalize caughtB x 0 (k + 1) = r1 at *
          generalize caughtB x k n = r2 at *
          rw [e1] at T1
          clear e1
          have hdR := fun p => hdW (rg wr p) (rg_below wr p)
          clear hdW
          cases r1 <;> cases r2
          all_goals
            go_wp2_with fail
            ((with_reducible refine wp_region_rg (by kernel_rfl) (by kernel_rfl) ?_); (repeat (first | go_big_quiet_step ((first | (go_at_call 35; first | with_reducible exact rg_of (hc1 _) | with_reducible exact rg_of (hc2 _)) | (go_at_call 34; with_reducible exact rg_of (hdR _)))) | quiet_step ((first | (go_at_call 35; first | with_reducible exact rg_of (hc1 _) | with_reducible exact rg_of (hc2 _)) | (go_at_call 34; with_reducible exact rg_of (hdR _)))))); refine wpQuiet_nil ?_; intro _ hw'; obtain ⟨prg, hw''⟩ := hw'; subst hw'')
            have hbr := rg_below wr prg
            generalize rg wr prg = wr2 at hbr
            clear q0 hc1 hc2 hdR
            go_wp2
            go_roundg (xs.length - (m + 1))
            case measure => omega
            case rel => exact ⟨m + 1, by omega, by omega, by go_num, (by rw [T1.out]; simp), own_blw HO1.out hbr, blw_call hbr HB1.out⟩
        · have hmz : ¬ (m : Int) < (xs.length : Int) := by omega
          have e0 : xs.take m = xs := List.take_of_length_le (by omega)
          rw [e0]
          have HT := Go.Lib.hid (HT0.out k)
          have bd1 := cntB_bd (aliveB n k) xs
          have hsz := HB1.out.size
          clear H e0
          generalize cntB (aliveB n k) xs = y1 at *
          go_wp2_with (at_builtin; (refine app_own (w0 := w') w'.heap.size rfl _ _ 29 3 (.int .i64 0) 1 8 rfl Tryd.underlying29 (by kernel_rfl) rfl (by decide) (by decide) u5 _ _ [.int .i64 y1] rfl rfl rfl (by simp [Value.oneCell']) HO1.out HB1.out (by omega) (by omega) ?_); intro v1 w5 ho1 hb6 _ _)
          go_roundg (n - (k + 1))
          case measure => omega
          case rel =>
            refine ⟨k + 1, by omega, by omega, by go_num, ?_, hb6⟩
            rw [HT.out, List.flatMap_append]
            exact ho1
    · have hltz : ¬ (k : Int) < (n : Int) := by omega
      obtain rfl : k = n := by omega
      have hlen := HL.out k
      have HO2 : wo.ownsRow w'.heap.size 3 1 u5 (aliveL xs k).length ((aliveL xs k).flatMap encInt) := by rw [hlen]; exact HO.out
      obtain ⟨A, cc, rfl, hc, hr⟩ := own_rdc (enc := encInt) (fun _ => rfl) (by omega) HO2
      have HR := asd hr
      have HCC := asd hc
      clear hr HO2 hc H
      go_wp2_with (go_at_call 34; refine (hd1 _ (Below.refl _ _)).mono ?_; rintro e w2 ⟨rfl, hb2⟩)
      go_ret2
      exact ⟨A, cc, HCC.out, (by rw [hlen]; rfl), HR.out.below hb2, blw_call hb2 (blw_call HB.out HW.out)⟩
end Go.Proofs.YtdpdchghafopfaaDoor
