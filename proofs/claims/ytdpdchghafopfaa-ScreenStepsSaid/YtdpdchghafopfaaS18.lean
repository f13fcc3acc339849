/- Contracts of functions that the statement reaches; the conditions stand in each theorem. -/
import Derived.Test.YtdpdchghafopfaaS17
set_option linter.unusedVariables false
set_option linter.unusedSimpArgs false
namespace Go.Proofs.Ytdpdchghafopfaa
open Go.RowKit
theorem inR_bd {p : Pt} (h : inR p = true) : -100 ≤ p.1 ∧ p.1 ≤ 100 ∧ -100 ≤ p.2 ∧ p.2 ≤ 100 := by
  simp only [inR, Bool.and_eq_true, decide_eq_true_eq] at h; omega
abbrev bxB (b : Bx) : Obj := .cells #[Value.int IntKind.i64 b.1.1, .int .i64 b.1.2, .int .i64 b.2.1, .int .i64 b.2.2] 27
theorem wp_name {P : Program} {c : Code} {Q : Exit → Act → World → Prop} {a : Act} {w : World} (h : ∀ W, W = w → c.wp P Q a W) : c.wp P Q a w := h w rfl
set_option maxRecDepth 20000 in
set_option maxHeartbeats 1000000 in
theorem checked_any (l : List Sc) (eyes pts : List Pt) (b : Bx) (la ea pa : Option Addr) (c ce cp : Nat) (w : World) (H : Rd w encS 4 la l) (HE : Rd w encP 2 ea eyes) (HP : Rd w encP 2 pa pts) :
    Calls Try.prog 22 #[.slice la l.length c, .slice ea eyes.length ce, .slice pa pts.length cp, B4 b] w fun e w' => e = .returned (.int .i64 (boxE l eyes pts b)) ∧ Below w.heap.size w w' := by
  have hv := fun W hW => validate_any l la c W (H.below hW)
  have h1 := fun W hW => place_any eyes ea ce W (HE.below hW)
  have h2 := fun W hW => place_any pts pa cp W (HP.below hW)
  have h3 := fun pa W hW => place_any [b.1, b.2] pa 2 W hW
  have e12 : ([b.1, b.2] : List Pt).all inR = (inR b.1 && inR b.2) := by simp
  rw [e12] at h3
  clear e12 H HE HP
  have HX := Go.Lib.hid (show boxE l eyes pts b = if lookE l eyes pts = 0 then (if boxB b then 0 else 1) else lookE l eyes pts from rfl)
  have HL := Go.Lib.hid (show lookE l eyes pts = if valS l = 0 then (if 8 < eyes.length ∨ 16 < pts.length then 3 else if eyes.all inR && pts.all inR then 0 else 1) else valS l from rfl)
  have HB := Go.Lib.hid (show boxB b = ((inR b.1 && inR b.2) && (decide (0 ≤ b.2.1 - b.1.1) && decide (b.2.1 - b.1.1 ≤ 20) && (decide (0 ≤ b.2.2 - b.1.2) && decide (b.2.2 - b.1.2 ≤ 20)))) from rfl)
  have W1 := Go.Lib.hid (fun (h : inR b.1 = true) => inR_bd h)
  have W2 := Go.Lib.hid (fun (h : inR b.2 = true) => inR_bd h)
  generalize valS l = v at *
  generalize boxE l eyes pts b = r at *
  generalize lookE l eyes pts = lk at *
  generalize boxB b = bb at *
  generalize eyes.all inR = x1 at *
  generalize pts.all inR = x2 at *
  generalize inR b.1 = y1 at *
  generalize inR b.2 = y2 at *
  have ARGS : ∀ e w', (e = Ending.returned (.int .i64 r) ∧ Below w.heap.size w w') → (e = Ending.returned (.int .i64 r) ∧ Below w.heap.size w w') := fun _ _ h => h
  clear ARGS
  cases hv0 : (v != 0)
  case true =>
    have K1 := asd hv0
    go_enter Try.func22, Try.ntmps22
    go_wp2_with (first | (go_at_call 35; (with_reducible refine (hv _ ?_).mono ?_); ((repeat (first | exact Below.refl _ _ | refine blw_alloc ?_ _ | refine blw_drew ?_ | refine blw_rg ?_ _ | refine blw_call (by assumption) ?_))); rintro e w' ⟨rfl, hb1⟩; (first | (obtain ⟨pg, rfl⟩ := rg_next hb1) | (obtain ⟨pg, rfl⟩ := rg_mk hb1))) | (go_at_call 36; (first | (with_reducible refine (h1 _ ?_).mono ?_) | (with_reducible refine (h2 _ ?_).mono ?_)); ((repeat (first | exact Below.refl _ _ | refine blw_alloc ?_ _ | refine blw_drew ?_ | refine blw_rg ?_ _ | refine blw_call (by assumption) ?_))); rintro e w' ⟨rfl, hb2⟩; (first | (obtain ⟨pg, rfl⟩ := rg_next hb2) | (obtain ⟨pg, rfl⟩ := rg_mk hb2))) | (go_at_call 36; refine (h3 _ _ (rd_two' _ _ _ ?_)).mono ?_; simp; rintro e w' ⟨rfl, hb3⟩; (first | (obtain ⟨pg, rfl⟩ := rg_next hb3) | (obtain ⟨pg, rfl⟩ := rg_mk hb3))))
    all_goals (go_ret; refine ⟨ri ?_, ?_⟩)
    all_goals first | ((repeat (first | exact Below.refl _ _ | refine blw_alloc ?_ _ | refine blw_drew ?_ | refine blw_rg ?_ _ | refine blw_call (by assumption) ?_)); done) | (have H1 := HX.out; have H2 := HL.out; have H3 := HB.out; have H4 := K1.out; clear HX HL HB K1 W1 W2; go_light; grind)
  have K1 := asd hv0
  by_cases h8 : (8 : Int) < eyes.length
  · go_enter Try.func22, Try.ntmps22
    go_wp2_with (first | (go_at_call 35; (with_reducible refine (hv _ ?_).mono ?_); ((repeat (first | exact Below.refl _ _ | refine blw_alloc ?_ _ | refine blw_drew ?_ | refine blw_rg ?_ _ | refine blw_call (by assumption) ?_))); rintro e w' ⟨rfl, hb1⟩; (first | (obtain ⟨pg, rfl⟩ := rg_next hb1) | (obtain ⟨pg, rfl⟩ := rg_mk hb1))) | (go_at_call 36; (first | (with_reducible refine (h1 _ ?_).mono ?_) | (with_reducible refine (h2 _ ?_).mono ?_)); ((repeat (first | exact Below.refl _ _ | refine blw_alloc ?_ _ | refine blw_drew ?_ | refine blw_rg ?_ _ | refine blw_call (by assumption) ?_))); rintro e w' ⟨rfl, hb2⟩; (first | (obtain ⟨pg, rfl⟩ := rg_next hb2) | (obtain ⟨pg, rfl⟩ := rg_mk hb2))) | (go_at_call 36; refine (h3 _ _ (rd_two' _ _ _ ?_)).mono ?_; simp; rintro e w' ⟨rfl, hb3⟩; (first | (obtain ⟨pg, rfl⟩ := rg_next hb3) | (obtain ⟨pg, rfl⟩ := rg_mk hb3))))
    all_goals (go_ret; refine ⟨ri ?_, ?_⟩)
    all_goals first | ((repeat (first | exact Below.refl _ _ | refine blw_alloc ?_ _ | refine blw_drew ?_ | refine blw_rg ?_ _ | refine blw_call (by assumption) ?_)); done) | (have H1 := HX.out; have H2 := HL.out; have H3 := HB.out; have H4 := K1.out; clear HX HL HB K1 W1 W2; go_light; grind)
  by_cases h16 : (16 : Int) < pts.length
  · go_enter Try.func22, Try.ntmps22
    go_wp2_with (first | (go_at_call 35; (with_reducible refine (hv _ ?_).mono ?_); ((repeat (first | exact Below.refl _ _ | refine blw_alloc ?_ _ | refine blw_drew ?_ | refine blw_rg ?_ _ | refine blw_call (by assumption) ?_))); rintro e w' ⟨rfl, hb1⟩; (first | (obtain ⟨pg, rfl⟩ := rg_next hb1) | (obtain ⟨pg, rfl⟩ := rg_mk hb1))) | (go_at_call 36; (first | (with_reducible refine (h1 _ ?_).mono ?_) | (with_reducible refine (h2 _ ?_).mono ?_)); ((repeat (first | exact Below.refl _ _ | refine blw_alloc ?_ _ | refine blw_drew ?_ | refine blw_rg ?_ _ | refine blw_call (by assumption) ?_))); rintro e w' ⟨rfl, hb2⟩; (first | (obtain ⟨pg, rfl⟩ := rg_next hb2) | (obtain ⟨pg, rfl⟩ := rg_mk hb2))) | (go_at_call 36; refine (h3 _ _ (rd_two' _ _ _ ?_)).mono ?_; simp; rintro e w' ⟨rfl, hb3⟩; (first | (obtain ⟨pg, rfl⟩ := rg_next hb3) | (obtain ⟨pg, rfl⟩ := rg_mk hb3))))
    all_goals (go_ret; refine ⟨ri ?_, ?_⟩)
    all_goals first | ((repeat (first | exact Below.refl _ _ | refine blw_alloc ?_ _ | refine blw_drew ?_ | refine blw_rg ?_ _ | refine blw_call (by assumption) ?_)); done) | (have H1 := HX.out; have H2 := HL.out; have H3 := HB.out; have H4 := K1.out; clear HX HL HB K1 W1 W2; go_light; grind)
  by_cases hq : x1 = true ∧ x2 = true ∧ y1 = true ∧ y2 = true
  · obtain ⟨z1, z2, z3, z4⟩ := hq
    subst z1 z2 z3 z4
    obtain ⟨a1, a2, a3, a4⟩ := W1.out rfl
    obtain ⟨a5, a6, a7, a8⟩ := W2.out rfl
    by_cases d1 : b.2.1 - b.1.1 < 0 <;> by_cases d2 : b.2.2 - b.1.2 < 0 <;> by_cases d3 : 21 ≤ b.2.1 - b.1.1 <;> by_cases d4 : 21 ≤ b.2.2 - b.1.2 <;> first | omega | skip
    all_goals
      go_enter Try.func22, Try.ntmps22
      go_wp2_with (first | (go_at_call 35; (with_reducible refine (hv _ ?_).mono ?_); ((repeat (first | exact Below.refl _ _ | refine blw_alloc ?_ _ | refine blw_drew ?_ | refine blw_rg ?_ _ | refine blw_call (by assumption) ?_))); rintro e w' ⟨rfl, hb1⟩; (first | (obtain ⟨pg, rfl⟩ := rg_next hb1) | (obtain ⟨pg, rfl⟩ := rg_mk hb1))) | (go_at_call 36; (first | (with_reducible refine (h1 _ ?_).mono ?_) | (with_reducible refine (h2 _ ?_).mono ?_)); ((repeat (first | exact Below.refl _ _ | refine blw_alloc ?_ _ | refine blw_drew ?_ | refine blw_rg ?_ _ | refine blw_call (by assumption) ?_))); rintro e w' ⟨rfl, hb2⟩; (first | (obtain ⟨pg, rfl⟩ := rg_next hb2) | (obtain ⟨pg, rfl⟩ := rg_mk hb2))) | (go_at_call 36; refine (h3 _ _ (rd_two' _ _ _ ?_)).mono ?_; simp; rintro e w' ⟨rfl, hb3⟩; (first | (obtain ⟨pg, rfl⟩ := rg_next hb3) | (obtain ⟨pg, rfl⟩ := rg_mk hb3))))
    all_goals
      refine wp_name (fun W hW => ?_)
      have hB' : Below (w.alloc (bxB b)).heap.size (w.alloc (bxB b)) W := by rw [hW]; (repeat (first | exact Below.refl _ _ | refine blw_alloc ?_ _ | refine blw_drew ?_ | refine blw_rg ?_ _ | refine blw_call (by assumption) ?_))
      have qq : ∀ i v, (#[Value.int IntKind.i64 b.1.1, .int .i64 b.1.2, .int .i64 b.2.1, .int .i64 b.2.2])[i]? = some v → W.cell? ⟨w.heap.size, i, none⟩ = some v := fun i v hv => (hB'.cell (p := ⟨w.heap.size, i, none⟩) (by simp)).trans ((World.cell?_alloc_new w _ _ i).trans hv)
      have q0 := qq 0 _ rfl
      have q1 := qq 1 _ rfl
      have q2 := qq 2 _ rfl
      have q3 := qq 3 _ rfl
      clear qq
      have hB : Below w.heap.size w W := blw_call hB' (blw_alloc (Below.refl _ _) _)
      clear hB'
      clear hW
      (try clear hb1); (try clear hb2); (try clear hb3)
      have k0 := fun q => rg_cell q0 q
      have k1 := fun q => rg_cell q1 q
      have k2 := fun q => rg_cell q2 q
      have k3 := fun q => rg_cell q3 q
      ((with_reducible refine wp_region_rg (by kernel_rfl) (by kernel_rfl) ?_); (repeat (first | go_big_quiet_step (fail) | quiet_step (fail))); refine wpQuiet_nil ?_; intro _ hw'; obtain ⟨prg, hw''⟩ := hw'; subst hw'')
      go_wp2
    all_goals (go_ret; refine ⟨ri ?_, ?_⟩)
    all_goals first | ((repeat (first | exact Below.refl _ _ | refine blw_alloc ?_ _ | refine blw_drew ?_ | refine blw_rg ?_ _ | refine blw_call (by assumption) ?_)); done) | (have H1 := HX.out; have H2 := HL.out; have H3 := HB.out; clear HX HL HB K1 W1 W2; go_light; grind)
  cases x1 <;> cases x2 <;> cases y1 <;> cases y2 <;> first | (exfalso; exact hq ⟨rfl, rfl, rfl, rfl⟩) | skip
  all_goals
    clear hq
    go_enter Try.func22, Try.ntmps22
    go_wp2_with (first | (go_at_call 35; (with_reducible refine (hv _ ?_).mono ?_); ((repeat (first | exact Below.refl _ _ | refine blw_alloc ?_ _ | refine blw_drew ?_ | refine blw_rg ?_ _ | refine blw_call (by assumption) ?_))); rintro e w' ⟨rfl, hb1⟩; (first | (obtain ⟨pg, rfl⟩ := rg_next hb1) | (obtain ⟨pg, rfl⟩ := rg_mk hb1))) | (go_at_call 36; (first | (with_reducible refine (h1 _ ?_).mono ?_) | (with_reducible refine (h2 _ ?_).mono ?_)); ((repeat (first | exact Below.refl _ _ | refine blw_alloc ?_ _ | refine blw_drew ?_ | refine blw_rg ?_ _ | refine blw_call (by assumption) ?_))); rintro e w' ⟨rfl, hb2⟩; (first | (obtain ⟨pg, rfl⟩ := rg_next hb2) | (obtain ⟨pg, rfl⟩ := rg_mk hb2))) | (go_at_call 36; refine (h3 _ _ (rd_two' _ _ _ ?_)).mono ?_; simp; rintro e w' ⟨rfl, hb3⟩; (first | (obtain ⟨pg, rfl⟩ := rg_next hb3) | (obtain ⟨pg, rfl⟩ := rg_mk hb3))))
  all_goals (go_ret; refine ⟨ri ?_, ?_⟩)
  all_goals first | ((repeat (first | exact Below.refl _ _ | refine blw_alloc ?_ _ | refine blw_drew ?_ | refine blw_rg ?_ _ | refine blw_call (by assumption) ?_)); done) | (have H1 := HX.out; have H2 := HL.out; have H3 := HB.out; have H4 := K1.out; clear HX HL HB K1 W1 W2; go_light; grind)
end Go.Proofs.Ytdpdchghafopfaa
