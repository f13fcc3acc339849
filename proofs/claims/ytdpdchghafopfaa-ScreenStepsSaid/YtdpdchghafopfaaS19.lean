/- ends, Sees of the program; the law's known and Long. -/
import Derived.Test.YtdpdchghafopfaaS18
set_option linter.unusedVariables false
set_option linter.unusedSimpArgs false
namespace Go.Proofs.Ytdpdchghafopfaa
open Go.RowKit
set_option maxRecDepth 20000 in
set_option maxHeartbeats 400000 in
theorem ends_any (l : List Sc) (eyes pts : List Pt) (b : Bx) (la ea pa : Option Addr) (c ce cp : Nat) (w : World) (H : Rd w encS 4 la l) (HE : Rd w encP 2 ea eyes) (HP : Rd w encP 2 pa pts) :
    Calls Try.prog 13 #[.slice la l.length c, .slice ea eyes.length ce, B4 b, .slice pa pts.length cp] w fun e w' => e = .returned (.int .i64 (placeE l eyes pts b)) ∧ Below w.heap.size w w' := by
  have hck := fun W hW => checked_any l eyes pts b la ea pa c ce cp W (H.below hW) (HE.below hW) (HP.below hW)
  cases hv : (boxE l eyes pts b != 0)
  case true =>
    have HX := asd hv
    go_enter Try.func13, Try.ntmps13
    go_wp2_with (go_at_call 22; refine (hck _ ?_).mono ?_; ((repeat (first | exact Below.refl _ _ | refine blw_alloc ?_ _ | refine blw_drew ?_ | refine blw_rg ?_ _ | refine blw_call (by assumption) ?_))); rintro e w' ⟨rfl, hb1⟩; (first | (obtain ⟨pg, rfl⟩ := rg_next hb1) | (obtain ⟨pg, rfl⟩ := rg_mk hb1)))
    go_ret
    refine ⟨ri ?_, (by (repeat (first | exact Below.refl _ _ | refine blw_alloc ?_ _ | refine blw_drew ?_ | refine blw_rg ?_ _ | refine blw_call (by assumption) ?_)))⟩
    have H2 := HX.out; clear HX; go_light; unfold placeE; grind
  have HV := Go.Lib.hid (show placeE l eyes pts b = if pts.all (inB b) then 0 else 4 by unfold placeE; rw [if_pos (by simpa using hv)])
  go_enter Try.func13, Try.ntmps13
  go_wp2_with (go_at_call 22; refine (hck _ ?_).mono ?_; ((repeat (first | exact Below.refl _ _ | refine blw_alloc ?_ _ | refine blw_drew ?_ | refine blw_rg ?_ _ | refine blw_call (by assumption) ?_))); rintro e w' ⟨rfl, hb1⟩; (first | (obtain ⟨pg, rfl⟩ := rg_next hb1) | (obtain ⟨pg, rfl⟩ := rg_mk hb1)))
  go_loopg [22] pts.length (fun gg s22 wr => ∃ k : Nat, k ≤ pts.length ∧ pts.length - k ≤ gg ∧ s22 = .int .i64 k ∧ Aside ((pts.take k).all (inB b) = true) ∧ Aside (Below (w.alloc (bxB b)).heap.size (w.alloc (bxB b)) wr))
  case atStart => exact ⟨0, Nat.zero_le _, by omega, rfl, rfl, rg_below _ _⟩
  case round =>
    obtain ⟨k, hk, hg, rfl, HA, HB⟩ := hrel
    have big := HP.big
    have HB2 : Aside (Below w.heap.size w wr) := blw_call HB.out (blw_alloc (Below.refl _ _) _)
    by_cases hlt : k < pts.length
    · have hltz : (k : Int) < (pts.length : Int) := by omega
      have HR : Rd wr encP 2 pa pts := HP.below HB2.out
      obtain ⟨b0, off, rfl, hb0, hc⟩ := HR.at_ k hlt
      have q0 := hc 0 _ rfl
      have q1 := hc 1 _ rfl
      have HT := Go.Lib.hid (all_take (inB b) pts k hlt)
      have HF := Go.Lib.hid (all_false (inB b) pts k hlt)
      generalize pts[k] = x at q0 q1 HT HF
      change wr.cell? ⟨b0, off + k * 2, none⟩ = _ at q0
      have bx : ∀ i v, (#[Value.int .i64 b.1.1, .int .i64 b.1.2, .int .i64 b.2.1, .int .i64 b.2.2])[i]? = some v → wr.cell? ⟨w.heap.size, i, none⟩ = some v := fun i v hv => by
        rw [HB.out.cell (p := ⟨w.heap.size, i, none⟩) (by simp)]
        simpa using hv
      have c0 := bx 0 _ rfl
      have c1 := bx 1 _ rfl
      have c2 := bx 2 _ rfl
      have c3 := bx 3 _ rfl
      have hws : w.heap.size < wr.heap.size := World.block_lt_of_cell? _ _ c0
      clear bx hc HR H HE HP
      have hcall := fun W => inside_any b x W
      cases hx : inB b x
      all_goals
        rw [hx] at hcall
        go_wp2_with (go_at_call 24; refine (hcall _).mono ?_; rintro e w' ⟨rfl, hb⟩)
      · go_ret
        exact ⟨ri (by rw [HV.out, HF.out hx]; rfl), blw_call hb (blw_alloc HB2.out _)⟩
      · go_roundg (pts.length - (k + 1))
        case measure => omega
        case rel => exact ⟨k + 1, by omega, by omega, by go_num, (by rw [HT.out, HA.out, hx]; rfl), blw_call hb (blw_alloc HB.out _)⟩
    · have hltz : ¬ (k : Int) < (pts.length : Int) := by omega
      have e0 : pts.take k = pts := List.take_of_length_le (by omega)
      rw [e0] at HA
      clear H HE HP
      go_wp2
      go_ret
      exact ⟨ri (by rw [HV.out, if_pos HA.out]), HB2.out⟩

set_option maxRecDepth 20000 in
set_option maxHeartbeats 400000 in
theorem Sees_ok (l : List Sc) (a b : Pt) (la : Option Addr) (c : Nat) (w : World) (H : Rd w encS 4 la l) (h : boxE l [] [a, b] ((0, 0), (0, 0)) = 0) (hl : l.all goodS = true) (ha : inR a = true) (hb : inR b = true) :
    Calls Try.prog 12 #[.slice la l.length c, P2 a, P2 b] w fun e w' => e = .returned (.tuple #[.bool (seesB l a b), .int .i64 0]) ∧ Below w.heap.size w w' := by
  have hck := fun pa W hW hP => checked_any l [] [a, b] ((0, 0), (0, 0)) la none pa c 0 2 W (H.below hW) (rd_nil _ _ _ _) hP
  rw [h] at hck
  have hse := fun W hW => sees_any l a b la c W (H.below hW) hl ha hb
  generalize seesB l a b = r at hse
  clear H h hl ha hb
  go_enter Try.func12, Try.ntmps12
  go_wp2_with (first | (go_at_call 22; refine (hck _ _ ?_ (rd_two' a b _ ?_)).mono ?_; ((repeat (first | exact Below.refl _ _ | refine blw_alloc ?_ _ | refine blw_drew ?_ | refine blw_rg ?_ _ | refine blw_call (by assumption) ?_))); simp; rintro e w' ⟨rfl, hb1⟩; (first | (obtain ⟨pg, rfl⟩ := rg_next hb1) | (obtain ⟨pg, rfl⟩ := rg_mk hb1))) | (go_at_call 23; refine (hse _ ?_).mono ?_; ((repeat (first | exact Below.refl _ _ | refine blw_alloc ?_ _ | refine blw_drew ?_ | refine blw_rg ?_ _ | refine blw_call (by assumption) ?_))); rintro e w' ⟨rfl, hb2⟩))
  go_ret2
  exact ⟨rfl, (by (repeat (first | exact Below.refl _ _ | refine blw_alloc ?_ _ | refine blw_drew ?_ | refine blw_rg ?_ _ | refine blw_call (by assumption) ?_)))⟩

set_option maxRecDepth 20000 in
set_option maxHeartbeats 400000 in
theorem known_any (w : World) :
    Calls Try.prog 6 #[] w fun e w' => e = .returned (.bool true) ∧ Below w.heap.size w w' := by
  have h1 : ∀ la W, Rd W encS 4 la [((0, 0), (0, 5))] → Calls Try.prog 12 #[.slice la 1 1, .agg #[.int .i64 (-1), .int .i64 2], .agg #[.int .i64 1, .int .i64 2]] W fun e w' => e = .returned (.tuple #[.bool false, .int .i64 0]) ∧ Below W.heap.size W w' := fun la W H => Sees_ok [((0, 0), (0, 5))] (-1, 2) (1, 2) la 1 W H (by decide) (by decide) (by decide) (by decide)
  have h2 : ∀ la W, Rd W encS 4 la [((0, 0), (0, 5))] → Calls Try.prog 12 #[.slice la 1 1, .agg #[.int .i64 (-1), .int .i64 6], .agg #[.int .i64 1, .int .i64 6]] W fun e w' => e = .returned (.tuple #[.bool true, .int .i64 0]) ∧ Below W.heap.size W w' := fun la W H => Sees_ok [((0, 0), (0, 5))] (-1, 6) (1, 6) la 1 W H (by decide) (by decide) (by decide) (by decide)
  have h3 : ∀ la W, Rd W encS 4 la [((0, 0), (0, 5))] → Calls Try.prog 12 #[.slice la 1 1, .agg #[.int .i64 (-1), .int .i64 10], .agg #[.int .i64 1, .int .i64 0]] W fun e w' => e = .returned (.tuple #[.bool false, .int .i64 0]) ∧ Below W.heap.size W w' := fun la W H => Sees_ok [((0, 0), (0, 5))] (-1, 10) (1, 0) la 1 W H (by decide) (by decide) (by decide) (by decide)
  have hr : ∀ W, Below (w.alloc (.cells #[.int .i64 0, .int .i64 0, .int .i64 0, .int .i64 5] 42)).heap.size (w.alloc (.cells #[.int .i64 0, .int .i64 0, .int .i64 0, .int .i64 5] 42)) W → Rd W encS 4 (some ⟨w.heap.size, 0, none⟩) [((0, 0), (0, 5))] := by
    intro W hW
    refine Rd.below ?_ hW
    refine ⟨by simp, fun _ => ⟨_, 0, rfl, by simp, fun j hj i v hv => ?_⟩⟩
    obtain rfl : j = 0 := by simp at hj; omega
    simp only [Nat.zero_mul, Nat.zero_add]
    rw [World.cell?_alloc_new]
    simpa [encS] using hv
  go_enter Try.func6, Try.ntmps6
  go_wp2_with (go_at_call 12; (first | (with_reducible refine (h1 _ _ (hr _ ?_)).mono ?_) | (with_reducible refine (h2 _ _ (hr _ ?_)).mono ?_) | (with_reducible refine (h3 _ _ (hr _ ?_)).mono ?_)); ((repeat (first | exact Below.refl _ _ | refine blw_alloc ?_ _ | refine blw_drew ?_ | refine blw_rg ?_ _ | refine blw_call (by assumption) ?_))); rintro e w' ⟨rfl, hb1⟩; (first | (obtain ⟨pg, rfl⟩ := rg_next hb1) | (obtain ⟨pg, rfl⟩ := rg_mk hb1)))
  go_ret
  exact ⟨rfl, (by (repeat (first | exact Below.refl _ _ | refine blw_alloc ?_ _ | refine blw_drew ?_ | refine blw_rg ?_ _ | refine blw_call (by assumption) ?_)))⟩

set_option maxRecDepth 20000 in
set_option maxHeartbeats 400000 in
theorem Long_any (l : List Sc) (eyes : List Pt) (la ea : Option Addr) (c ce : Nat) (w : World) :
    Calls Try.prog 5 #[.slice la l.length c, .slice ea eyes.length ce] w fun e w' => e = .returned (.bool (decide (100 < l.length) || decide (100 < eyes.length))) ∧ w = w' := by
  by_cases h1 : (100 : Int) < l.length
  all_goals
    go_enter Try.func5, Try.ntmps5
    go_wp2
    go_ret
    refine ⟨rb ?_, rfl⟩
    go_light
    grind
end Go.Proofs.Ytdpdchghafopfaa
