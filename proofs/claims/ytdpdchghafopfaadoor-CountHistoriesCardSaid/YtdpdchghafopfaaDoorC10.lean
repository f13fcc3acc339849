/- CountHistories: the walk of the law. -/
import Derived.Test.YtdpdchghafopfaaDoorC9
set_option linter.unusedVariables false
set_option linter.unusedSimpArgs false
namespace Go.Proofs.YtdpdchghafopfaaDoor
open Go.RowKit Go.Proofs.YtdpdchghafopfaaDoorW.PrintWords
@[go_sem high] theorem eqCt (d : Nat) (w : World) (x0 x1 x2 y0 y1 y2 : Int) :
    (Op.equalIn (d + 2) 35 (.agg #[.int .i64 x0, .int .i64 x1, .int .i64 x2]) (.agg #[.int .i64 y0, .int .i64 y1, .int .i64 y2])).run Tryd.prog w = .ok (x0 == y0 && (x1 == y1 && (x2 == y2))) w := by
  refine seq_of Tryd.underlying35 (by kernel_rfl) ?_
  refine seq_cons (by rfl) (by go_simp; rfl) (by go_simp; rfl) (by go_simp) ?_
  refine seq_cons (by rfl) (by go_simp; rfl) (by go_simp; rfl) (by go_simp) ?_
  exact seq_last (by rfl) (by go_simp; rfl) (by go_simp; rfl) (by go_simp)
structure HistF (L : List C3) (F : List Int) : Prop where
  len : F.length = L.length
  n8 : L.length ≤ 8
  sum : ∀ i (h : i < L.length), (L[i]).1 = (F.take i).sum
  bd : ∀ i, i ≤ L.length → 0 ≤ (F.take i).sum ∧ (F.take i).sum ≤ 60
  bf : ∀ i (h : i < F.length), 0 ≤ F[i] ∧ F[i] ≤ 60
theorem fresh_sum (xs : List ByteArray) : ∀ d, (freshL xs d).sum = cntB (markB d) xs := by
  intro d
  induction d with
  | zero =>
    have : ∀ s ∈ xs, markB 0 s = false := fun s _ => caughtB_none (Nat.le_refl _)
    unfold cntB
    rw [List.countP_eq_zero.2 (fun s hs => by rw [this s hs]; decide)]
    rfl
  | succ d ih =>
    have e : freshL xs (d + 1) = freshL xs d ++ [cntB (freshB d) xs] := map_range_succ _ d
    rw [e, List.sum_append, ih, mark_succ]; simp
theorem fresh_take (xs : List ByteArray) (n i : Nat) (h : i ≤ n) : (freshL xs n).take i = freshL xs i := by
  unfold freshL
  rw [← List.map_take, List.take_range, Nat.min_eq_left h]
theorem histF (xs : List ByteArray) (hg : GoodH xs) : HistF (catchL xs (daysH xs)) (freshL xs (daysH xs)) := by
  have hl : (catchL xs (daysH xs)).length = daysH xs := by simp [catchL]
  have hl2 : (freshL xs (daysH xs)).length = daysH xs := by simp [freshL]
  have h8 := hg.days
  have h60 := hg.len
  refine ⟨by rw [hl, hl2], by omega, fun i h => ?_, fun i h => ?_, fun i h => ?_⟩
  · rw [hl] at h
    rw [fresh_take xs _ i (by omega), fresh_sum]
    simp [catchL]
  · rw [hl] at h
    rw [fresh_take xs _ i (by omega), fresh_sum]
    have := cntB_bd (markB i) xs
    omega
  · have := cntB_bd (freshB i) xs
    simp only [freshL, List.getElem_map, List.getElem_range]
    omega
theorem histF_nil : HistF [] [] := ⟨rfl, by simp, fun i h => by simp at h, fun i h => by simp, fun i h => by simp at h⟩
/-- What both texts answer, in whatever world. -/
structure BothH (xs : List ByteArray) (la : Option Addr) (c : Nat) (w : World) (L : List C3) (F : List Int) (e0 : Int) : Prop where
  pc : ∀ W, Below w.heap.size w W → Calls Tryd.prog 8 #[.slice la xs.length c] W (ListPost encC 3 L e0 W)
  rc : ∀ W, Below w.heap.size w W → Calls Tryd.prog 9 #[.slice la xs.length c] W (ListPost encC 3 L e0 W)
  pf : ∀ W, Below w.heap.size w W → Calls Tryd.prog 10 #[.slice la xs.length c] W (ListPost encInt 1 F e0 W)
  rf : ∀ W, Below w.heap.size w W → Calls Tryd.prog 11 #[.slice la xs.length c] W (ListPost encInt 1 F e0 W)
  pv : ∀ W, Below w.heap.size w W → Calls Tryd.prog 12 #[.slice la xs.length c] W fun e w' => e = .returned (.int .i64 e0) ∧ Below W.heap.size W w'
  rv : ∀ W, Below w.heap.size w W → Calls Tryd.prog 13 #[.slice la xs.length c] W fun e w' => e = .returned (.int .i64 e0) ∧ Below W.heap.size W w'
  fact : HistF L F
theorem bothH (xs : List ByteArray) (la : Option Addr) (c : Nat) (w : World) (H : Rd w encStr 1 la xs) (hcap : xs.length ≤ c) (h9 : ∀ s ∈ xs, s.size ≤ 1000) : ∃ L F e0, BothH xs la c w L F e0 := by
  by_cases h : valH xs = 0
  · have hf := fun W (hW : Below w.heap.size w W) => reffirst_any xs la c W (H.below hW) hcap
    rw [if_pos h] at hf
    refine ⟨catchL xs (daysH xs), freshL xs (daysH xs), valH xs, ?_, ?_, ?_, hf, ?_, ?_, histF xs (goodH h)⟩
    · intro W hW; rw [h]; exact catches_ok xs la c W (H.below hW) h
    · intro W hW; rw [h]; exact refcatches_ok xs la c W (H.below hW) hcap h
    · intro W hW; rw [h]; exact first_ok xs la c W (H.below hW) h
    · intro W hW; exact vh_any xs la c W (H.below hW) h9
    · intro W hW; exact refvh_any xs la c W (H.below hW) hcap
  · have hf := fun W (hW : Below w.heap.size w W) => reffirst_any xs la c W (H.below hW) hcap
    rw [if_neg h] at hf
    refine ⟨[], [], valH xs, ?_, ?_, ?_, hf, ?_, ?_, histF_nil⟩
    · intro W hW; exact catches_err xs la c W (H.below hW) h9 h
    · intro W hW; exact refcatches_err xs la c W (H.below hW) hcap h
    · intro W hW; exact first_err xs la c W (H.below hW) h9 h
    · intro W hW; exact vh_any xs la c W (H.below hW) h9
    · intro W hW; exact refvh_any xs la c W (H.below hW) hcap
theorem many_any (xs : List ByteArray) (la : Option Addr) (c : Nat) (w : World) (H : Kd.C Kd.string w la xs.length xs) (hcap : xs.length ≤ c) (hL : xs.length ≤ 17592186044416) :
    Calls Tryd.prog 6 #[.slice la xs.length c] w fun e w' => e = .returned (.bool (PMany.manyB xs)) ∧ Below w.heap.size w w' := by
  obtain ⟨k, hk⟩ := (PMany.many_ev xs hL).rounds
  exact (PMany.wigeonlaw06_Many.calls k la c xs _ w H hcap hk).mono fun _ _ ⟨h1, h2⟩ => ⟨h1, h2.below⟩
set_option maxRecDepth 20000 in
set_option maxHeartbeats 1000000 in
theorem hlaw_many (xs : List ByteArray) (la : Option Addr) (c : Nat) (w : World) (hm : ∀ W, Below w.heap.size w W → Calls Tryd.prog 6 #[.slice la xs.length c] W fun e w' => e = .returned (.bool true) ∧ Below W.heap.size W w') :
    Calls Tryd.prog 3 #[.slice la xs.length c] w fun e w' => e = .returned (.bool true) ∧ Below w.heap.size w w' := by
  go_enter Tryd.func3, Tryd.ntmps3
  go_wp2_with (first | (go_at_call 6; refine (hm _ (Below.refl _ _)).mono ?_; rintro e w' ⟨rfl, hb1⟩) | (go_at_call 7; refine (known_any _).mono ?_; rintro e w' ⟨rfl, hb2⟩))
  go_ret
  exact ⟨rfl, by (repeat (first | exact Below.refl _ _ | refine blw_alloc ?_ _ | refine blw_drew ?_ | refine blw_rg ?_ _ | refine blw_call (by assumption) ?_))⟩
set_option maxRecDepth 20000 in
set_option maxHeartbeats 2000000 in
theorem hlaw_few (xs : List ByteArray) (la : Option Addr) (c : Nat) (w : World) (L : List C3) (F : List Int) (e0 : Int) (HB : BothH xs la c w L F e0) (hm : ∀ W, Below w.heap.size w W → Calls Tryd.prog 6 #[.slice la xs.length c] W fun e w' => e = .returned (.bool false) ∧ Below W.heap.size W w') :
    Calls Tryd.prog 3 #[.slice la xs.length c] w fun e w' => e = .returned (.bool true) ∧ Below w.heap.size w w' := by
  obtain ⟨h1, h2, h3, h4, h5, h6, hfact⟩ := HB
  have HF := Go.Lib.hid hfact
  have hn8 := hfact.n8
  clear hfact
  go_enter Tryd.func3, Tryd.ntmps3
  go_wp2_with (first | (go_at_call 6; refine (hm _ (Below.refl _ _)).mono ?_; rintro e w0 ⟨rfl, hb0⟩) | (go_at_call 8; refine (h1 _ ?_).mono ?_; ((repeat (first | exact Below.refl _ _ | refine blw_alloc ?_ _ | refine blw_drew ?_ | refine blw_rg ?_ _ | refine blw_call (by assumption) ?_))); rintro e w1 ⟨A1, c1, hc1, rfl, hr1, hb1⟩) | (go_at_call 9; refine (h2 _ ?_).mono ?_; ((repeat (first | exact Below.refl _ _ | refine blw_alloc ?_ _ | refine blw_drew ?_ | refine blw_rg ?_ _ | refine blw_call (by assumption) ?_))); rintro e w2 ⟨A2, c2, hc2, rfl, hr2, hb2⟩) | (go_at_call 10; refine (h3 _ ?_).mono ?_; ((repeat (first | exact Below.refl _ _ | refine blw_alloc ?_ _ | refine blw_drew ?_ | refine blw_rg ?_ _ | refine blw_call (by assumption) ?_))); rintro e w3 ⟨A3, c3, hc3, rfl, hr3, hb3⟩) | (go_at_call 11; refine (h4 _ ?_).mono ?_; ((repeat (first | exact Below.refl _ _ | refine blw_alloc ?_ _ | refine blw_drew ?_ | refine blw_rg ?_ _ | refine blw_call (by assumption) ?_))); rintro e w4 ⟨A4, c4, hc4, rfl, hr4, hb4⟩) | (go_at_call 12; refine (h5 _ ?_).mono ?_; ((repeat (first | exact Below.refl _ _ | refine blw_alloc ?_ _ | refine blw_drew ?_ | refine blw_rg ?_ _ | refine blw_call (by assumption) ?_))); rintro e w5 ⟨rfl, hb5⟩) | (go_at_call 13; refine (h6 _ ?_).mono ?_; ((repeat (first | exact Below.refl _ _ | refine blw_alloc ?_ _ | refine blw_drew ?_ | refine blw_rg ?_ _ | refine blw_call (by assumption) ?_))); rintro e w6 ⟨rfl, hb6⟩) | (go_at_call 14; refine (same_any F F _ _ _ _ _ (hr3.below ?_) (hr4.below ?_) hc3 hc4).mono ?_; ((repeat (first | exact Below.refl _ _ | refine blw_alloc ?_ _ | refine blw_drew ?_ | refine blw_rg ?_ _ | refine blw_call (by assumption) ?_))); ((repeat (first | exact Below.refl _ _ | refine blw_alloc ?_ _ | refine blw_drew ?_ | refine blw_rg ?_ _ | refine blw_call (by assumption) ?_))); rintro e w7 ⟨he7, hb7⟩; rw [show decide (F = F) = true by simp] at he7; subst he7))
  have R1 := asd (hr1.below (show Below w1.heap.size w1 w7 by (repeat (first | exact Below.refl _ _ | refine blw_alloc ?_ _ | refine blw_drew ?_ | refine blw_rg ?_ _ | refine blw_call (by assumption) ?_))))
  have R2 := asd (hr2.below (show Below w2.heap.size w2 w7 by (repeat (first | exact Below.refl _ _ | refine blw_alloc ?_ _ | refine blw_drew ?_ | refine blw_rg ?_ _ | refine blw_call (by assumption) ?_))))
  have R3 := asd (hr3.below (show Below w3.heap.size w3 w7 by (repeat (first | exact Below.refl _ _ | refine blw_alloc ?_ _ | refine blw_drew ?_ | refine blw_rg ?_ _ | refine blw_call (by assumption) ?_))))
  have HW := asd (show Below w.heap.size w w7 by (repeat (first | exact Below.refl _ _ | refine blw_alloc ?_ _ | refine blw_drew ?_ | refine blw_rg ?_ _ | refine blw_call (by assumption) ?_)))
  clear hr1 hr2 hr3 hr4 hb0 hb1 hb2 hb3 hb4 hb5 hb6 hb7 h1 h2 h3 h4 h5 h6 hm hc1 hc2 hc3 hc4
  go_loopg [11, 12] L.length (fun gg s11 s12 wr => ∃ k : Nat, k ≤ L.length ∧ L.length - k ≤ gg ∧ s12 = .int .i64 k ∧ s11 = .int .i64 (F.take k).sum ∧ Aside (Below w7.heap.size w7 wr))
  case atStart => exact ⟨0, Nat.zero_le _, by omega, rfl, rfl, Below.refl _ _⟩
  case round =>
    obtain ⟨k, hk, hg, rfl, rfl, HB⟩ := hrel
    by_cases hlt : k < L.length
    · have hltz : (k : Int) < (L.length : Int) := by omega
      have hltf : k < F.length := by have := HF.out.len; omega
      have hltfz : (k : Int) < (F.length : Int) := by omega
      obtain ⟨b1, o1, rfl, hb1, hc1⟩ := (R1.out.below HB.out).at_ k hlt
      obtain ⟨b2, o2, rfl, hb2, hc2⟩ := (R2.out.below HB.out).at_ k hlt
      obtain ⟨b3, o3, rfl, hb3, hc3⟩ := (R3.out.below HB.out).at_ k hltf
      have q0 := rg_cell (hc1 0 _ rfl)
      have q1 := rg_cell (hc1 1 _ rfl)
      have q2 := rg_cell (hc1 2 _ rfl)
      have p0 := rg_cell (hc2 0 _ rfl)
      have p1 := rg_cell (hc2 1 _ rfl)
      have p2 := rg_cell (hc2 2 _ rfl)
      have r0 := rg_cell (hc3 0 _ rfl)
      change ∀ p, (rg wr p).cell? ⟨b1, o1 + k * 3, none⟩ = _ at q0
      change ∀ p, (rg wr p).cell? ⟨b2, o2 + k * 3, none⟩ = _ at p0
      simp only [Nat.mul_one, Nat.add_zero] at r0
      have HS := HF.out.sum k hlt
      have hbd := HF.out.bd k (by omega)
      have hbf := HF.out.bf k hltf
      have HT := Go.Lib.hid (show (F.take (k + 1)).sum = (F.take k).sum + F[k] by rw [List.take_succ_eq_append_getElem hltf, List.sum_append]; simp)
      have HLn := asd HF.out.len
      generalize L[k] = x at *
      generalize F[k] = y at *
      generalize (F.take k).sum = z at *
      clear hc1 hc2 hc3
      obtain rfl : z = x.1 := HS.symm
      clear HS
      go_wp2_with fail
      ((with_reducible refine wp_region_rg (by kernel_rfl) (by kernel_rfl) ?_); (repeat (first | go_big_quiet_step (fail) | quiet_step (fail))); refine wpQuiet_nil ?_; intro _ hw'; obtain ⟨prg, hw''⟩ := hw'; subst hw'')
      have hbr := rg_below wr prg
      have r1 := r0 prg
      generalize rg wr prg = wr2 at hbr r1
      clear q0 q1 q2 p0 p1 p2 r0
      go_wp2
      go_roundg (L.length - (k + 1))
      case measure => omega
      case rel => exact ⟨k + 1, by omega, by omega, by go_num, (by rw [HT.out]), blw_call hbr HB.out⟩
    · have hltz : ¬ (k : Int) < (L.length : Int) := by omega
      go_wp2_with (go_at_call 7; refine (known_any _).mono ?_; rintro e w' ⟨rfl, hb1⟩)
      go_ret
      have hw0 := blw_call HB.out HW.out
      exact ⟨rfl, by (repeat (first | exact Below.refl _ _ | refine blw_alloc ?_ _ | refine blw_drew ?_ | refine blw_rg ?_ _ | refine blw_call (by assumption) ?_))⟩
end Go.Proofs.YtdpdchghafopfaaDoor
