/- Steps of the reference. -/
import Derived.Test.YtdpdchghafopfaaS12
import Derived.Test.YtdpdchghafopfaaP5
set_option linter.unusedVariables false
set_option linter.unusedSimpArgs false
namespace Go.Proofs.Ytdpdchghafopfaa
open Go.RowKit
/-- What both Steps answer: the number of steps of a shortest way, and whether there is one. -/
def StepsAns (l : List Sc) (V : List Pt) (f t : Pt) (d : Int) (ok : Bool) : Prop :=
  (ok = true ∧ ∃ n : Nat, d = n ∧ Dst l V f n t) ∨ (ok = false ∧ d = 0 ∧ ∀ n, ¬ Wk l V f n t)
theorem StepsAns.uniq {l : List Sc} {V : List Pt} {f t : Pt} {d d' : Int} {ok ok' : Bool} (h : StepsAns l V f t d ok) (h' : StepsAns l V f t d' ok') : d = d' ∧ ok = ok' := by
  rcases h with ⟨rfl, n, rfl, h⟩ | ⟨rfl, rfl, h⟩ <;> rcases h' with ⟨rfl, m, rfl, h'⟩ | ⟨rfl, rfl, h'⟩
  · exact ⟨by rw [h.uniq h'], rfl⟩
  · exact absurd h.1 (h' n)
  · exact absurd h'.1 (h m)
  · exact ⟨rfl, rfl⟩
def StepsPost (d : Int) (ok : Bool) (e0 : Int) (w : World) (e : Ending) (w' : World) : Prop := e = .returned (.tuple #[.int .i64 d, .bool ok, .int .i64 e0]) ∧ Below w.heap.size w w'
def StepsPost2 (l : List Sc) (V : List Pt) (f t : Pt) (w : World) (e : Ending) (w' : World) : Prop := ∃ d ok, StepsAns l V f t d ok ∧ StepsPost d ok 0 w e w'
set_option maxRecDepth 20000 in
set_option maxHeartbeats 1000000 in
theorem refsteps_err (l : List Sc) (eyes : List Pt) (b : Bx) (f t : Pt) (la ea : Option Addr) (c ce : Nat) (w : World) (H : Rd w encS 4 la l) (HE : Rd w encP 2 ea eyes) (he : placeE l eyes [f, t] b ≠ 0) :
    Calls Try.prog 11 #[.slice la l.length c, .slice ea eyes.length ce, B4 b, P2 f, P2 t] w (StepsPost 0 false (placeE l eyes [f, t] b) w) := by
  have he2 : (placeE l eyes [f, t] b != 0) = true := by rw [bne_iff_ne]; exact he
  have hp := fun W pa hW hP => placed_any l eyes [f, t] b la ea pa c ce 2 W (H.below hW) (HE.below hW) hP
  clear H HE he
  generalize placeE l eyes [f, t] b = e0 at hp he2
  go_enter Try.func11, Try.ntmps11
  go_wp2_with (go_at_call 19; refine (hp _ _ ?_ (rd_two' f t _ ?_)).mono ?_; ((repeat (first | exact Below.refl _ _ | refine blw_alloc ?_ _ | refine blw_drew ?_ | refine blw_rg ?_ _ | refine blw_call (by assumption) ?_))); simp; rintro e w' ⟨rfl, hb1⟩; (first | (obtain ⟨pg, rfl⟩ := rg_next hb1) | (obtain ⟨pg, rfl⟩ := rg_mk hb1)))
  go_ret3
  exact ⟨rfl, (by (repeat (first | exact Below.refl _ _ | refine blw_alloc ?_ _ | refine blw_drew ?_ | refine blw_rg ?_ _ | refine blw_call (by assumption) ?_)))⟩
theorem ans_none {l : List Sc} {V : List Pt} {f t : Pt} {r : List Int} (h : Ans l V f r) (hn : ∀ j, j < V.length → V.getD j (0, 0) = t → r.getD j 0 < 0) : ∀ n, ¬ Wk l V f n t := by
  intro n hw
  obtain ⟨k, hk, rfl⟩ := mem_getD hw.mem
  exact h.neg k hk (hn k hk rfl) n hw
theorem eqP_iff (x y : Pt) : (x.1 == y.1 && (x.2 == y.2)) = true ↔ x = y := by
  rw [Bool.and_eq_true, beq_iff_eq, beq_iff_eq]
  exact ⟨fun h => Prod.ext h.1 h.2, fun h => by rw [h]; exact ⟨rfl, rfl⟩⟩
set_option maxRecDepth 20000 in
set_option maxHeartbeats 1000000 in
theorem refsteps_ok (l : List Sc) (eyes : List Pt) (b : Bx) (f t : Pt) (la ea : Option Addr) (c ce : Nat) (w : World) (H : Rd w encS 4 la l) (HE : Rd w encP 2 ea eyes) (he : placeE l eyes [f, t] b = 0) (hl : okS l) (hy : okP eyes) (hb : boxB b = true) :
    Calls Try.prog 11 #[.slice la l.length c, .slice ea eyes.length ce, B4 b, P2 f, P2 t] w (StepsPost2 l (darkL l eyes b) f t w) := by
  have hp := fun W pa hW hP => placed_any l eyes [f, t] b la ea pa c ce 2 W (H.below hW) (HE.below hW) hP
  have hd := fun W hW => distances_any l eyes b f la ea c ce W (H.below hW) (HE.below hW) hl hy hb
  have hlen := dark_len (l := l) (eyes := eyes) hb
  rw [he] at hp
  clear H HE he hl hy hb
  generalize darkL l eyes b = pts at hd hlen
  go_enter Try.func11, Try.ntmps11
  go_wp2_with (first | (go_at_call 19; refine (hp _ _ ?_ (rd_two' f t _ ?_)).mono ?_; ((repeat (first | exact Below.refl _ _ | refine blw_alloc ?_ _ | refine blw_drew ?_ | refine blw_rg ?_ _ | refine blw_call (by assumption) ?_))); simp; rintro e w' ⟨rfl, hb1⟩; (first | (obtain ⟨pg, rfl⟩ := rg_next hb1) | (obtain ⟨pg, rfl⟩ := rg_mk hb1))) | (go_at_call 20; refine (hd _ ?_).mono ?_; ((repeat (first | exact Below.refl _ _ | refine blw_alloc ?_ _ | refine blw_drew ?_ | refine blw_rg ?_ _ | refine blw_call (by assumption) ?_))); rintro e w' ⟨A1, c1, A2, c2, r, rfl, hr1, hr2, hrl, hdt, hb2⟩))
  have hW1 : Below ((((w.alloc (bxB b)).alloc (.cells #[.int .i64 f.1, .int .i64 f.2] 25)).alloc (.cells #[.int .i64 t.1, .int .i64 t.2] 25))).heap.size (((w.alloc (bxB b)).alloc (.cells #[.int .i64 f.1, .int .i64 f.2] 25)).alloc (.cells #[.int .i64 t.1, .int .i64 t.2] 25)) w' := by (repeat (first | exact Below.refl _ _ | refine blw_alloc ?_ _ | refine blw_drew ?_ | refine blw_rg ?_ _ | refine blw_call (by assumption) ?_))
  have hW : Below w.heap.size w w' := by (repeat (first | exact Below.refl _ _ | refine blw_alloc ?_ _ | refine blw_drew ?_ | refine blw_rg ?_ _ | refine blw_call (by assumption) ?_))
  have t0 : w'.cell? ⟨w.heap.size + 1 + 1, 0, none⟩ = some (.int .i64 t.1) := by rw [hW1.cell (p := ⟨w.heap.size + 1 + 1, 0, none⟩) (by simp)]; go_simp
  have t1 : w'.cell? ⟨w.heap.size + 1 + 1, 1, none⟩ = some (.int .i64 t.2) := by rw [hW1.cell (p := ⟨w.heap.size + 1 + 1, 1, none⟩) (by simp)]; go_simp
  have HD := asd (dist_ans hdt (by omega) (inv_init l pts f))
  have hrl1 : pts.length ≤ r.length := by omega
  have HRL := asd hrl
  clear hdt hb2 hb1 hp hd hW1 hrl
  go_loopg [16] pts.length (fun gg s16 wr => ∃ k : Nat, k ≤ pts.length ∧ pts.length - k ≤ gg ∧ s16 = .int .i64 k ∧ Aside (∀ j, j < k → pts.getD j (0, 0) = t → r.getD j 0 < 0) ∧ Aside (Below w'.heap.size w' wr))
  case atStart => exact ⟨0, Nat.zero_le _, by omega, rfl, fun j hj => absurd hj (by omega), Below.refl _ _⟩
  case round =>
    obtain ⟨k, hk, hg, rfl, HN, HB⟩ := hrel
    by_cases hlt : k < pts.length
    · have hltz : (k : Int) < (pts.length : Int) := by omega
      have hltz2 : (k : Int) < (r.length : Int) := by omega
      obtain ⟨b0, off, rfl, hb0, hc⟩ := hr1.at_ k hlt
      obtain ⟨b1, off1, rfl, hb1, hc1⟩ := hr2.at_ k (by omega)
      have q0 := rg_cell ((HB.out.cell (p := ⟨b0, off + k * 2 + 0, none⟩) hb0).trans (hc 0 _ rfl))
      have q1 := rg_cell ((HB.out.cell (p := ⟨b0, off + k * 2 + 1, none⟩) hb0).trans (hc 1 _ rfl))
      have r0 := rg_cell ((HB.out.cell (p := ⟨b1, off1 + k * 1 + 0, none⟩) hb1).trans (hc1 0 _ rfl))
      have u0 := rg_cell ((HB.out.cell (p := ⟨w.heap.size + 1 + 1, 0, none⟩) (World.block_lt_of_cell? _ _ t0)).trans t0)
      have u1 := rg_cell ((HB.out.cell (p := ⟨w.heap.size + 1 + 1, 1, none⟩) (World.block_lt_of_cell? _ _ t1)).trans t1)
      change ∀ p, (rg wr p).cell? ⟨b0, off + k * 2, none⟩ = _ at q0
      simp only [Nat.mul_one, Nat.add_zero] at r0
      have hgx : pts.getD k (0, 0) = pts[k] := getD_of _ _ _ hlt
      have hgy : r.getD k 0 = r[k]'(by omega) := getD_of _ _ _ (by omega)
      have HX := Go.Lib.hid (fun (e1 : pts[k] = t) (e2 : 0 ≤ r[k]'(by omega)) => (by have := ans_dst HD.out hlt (by rw [hgy]; exact e2); rw [hgx, hgy, e1] at this; exact this : Dst l pts f (r[k]'(by omega)).toNat t))
      have HN2 := Go.Lib.hid (fun (e1 : ¬ (pts[k] = t ∧ 0 ≤ r[k]'(by omega))) => (fun j hj ht => by
        rcases Nat.lt_or_ge j k with a | a
        · exact HN.out j a ht
        · obtain rfl : j = k := by omega
          rw [hgx] at ht
          rw [hgy]
          rcases Int.lt_or_le (r[j]'(by omega)) 0 with a2 | a2
          · exact a2
          · exact absurd ⟨ht, a2⟩ e1 : ∀ j, j < k + 1 → pts.getD j (0, 0) = t → r.getD j 0 < 0))
      clear hgx hgy
      generalize pts[k] = x at q0 q1 HX HN2
      generalize r[k]'(by omega) = y at r0 HX HN2
      clear hc hc1 hr1 hr2 t0 t1
      have hsz := HB.out.size
      cases hx : (x.1 == t.1 && (x.2 == t.2))
      · have HE := Go.Lib.hid (HN2.out (fun h => by rw [(eqP_iff x t).2 h.1] at hx; cases hx))
        clear HN2 HX
        go_wp2_with fail
        ((with_reducible refine wp_region_rg (by kernel_rfl) (by kernel_rfl) ?_); (repeat (first | go_big_quiet_step (fail) | quiet_step (fail))); refine wpQuiet_nil ?_; intro _ hw'; obtain ⟨prg, hw''⟩ := hw'; subst hw'')
        have hbr := rg_below wr prg
        generalize rg wr prg = wr2 at hbr
        clear q0 q1 r0 u0 u1
        go_wp2
        go_roundg (pts.length - (k + 1))
        case measure => omega
        case rel => exact ⟨k + 1, by omega, by omega, by go_num, HE.out, blw_call hbr HB.out⟩
      · have ex := (eqP_iff x t).1 hx
        subst ex
        by_cases hy : 0 ≤ y
        · have hyd : decide (0 ≤ y) = true := by simpa using hy
          have hA := Go.Lib.hid (HX.out rfl hy)
          clear HN2 HX
          go_wp2_with fail
          ((with_reducible refine wp_region_rg (by kernel_rfl) (by kernel_rfl) ?_); (repeat (first | go_big_quiet_step (fail) | quiet_step (fail))); refine wpQuiet_nil ?_; intro _ hw'; obtain ⟨prg, hw''⟩ := hw'; subst hw'')
          have hbr := rg_below wr prg
          have r1 := r0 prg
          generalize rg wr prg = wr2 at hbr r1
          clear q0 q1 r0 u0 u1
          go_wp2
          go_ret3
          exact ⟨y, true, .inl ⟨rfl, _, (by omega), hA.out⟩, rfl, blw_call hbr (blw_call HB.out hW)⟩
        · have hyd : decide (0 ≤ y) = false := by simpa using hy
          have hyn : y < 0 := by omega
          have HE := Go.Lib.hid (HN2.out (fun h => hy h.2))
          clear HN2 HX
          go_wp2_with fail
          ((with_reducible refine wp_region_rg (by kernel_rfl) (by kernel_rfl) ?_); (repeat (first | go_big_quiet_step (fail) | quiet_step (fail))); refine wpQuiet_nil ?_; intro _ hw'; obtain ⟨prg, hw''⟩ := hw'; subst hw'')
          have hbr := rg_below wr prg
          generalize rg wr prg = wr2 at hbr
          clear q0 q1 r0 u0 u1
          go_wp2
          go_roundg (pts.length - (k + 1))
          case measure => omega
          case rel => exact ⟨k + 1, by omega, by omega, by go_num, HE.out, blw_call hbr HB.out⟩
    · have hltz : ¬ (k : Int) < (pts.length : Int) := by omega
      obtain rfl : k = pts.length := by omega
      clear hr1 hr2 t0 t1
      have HA := Go.Lib.hid (ans_none HD.out HN.out)
      go_wp2
      go_ret3
      exact ⟨0, false, .inr ⟨rfl, rfl, HA.out⟩, rfl, blw_call HB.out hW⟩
end Go.Proofs.Ytdpdchghafopfaa
