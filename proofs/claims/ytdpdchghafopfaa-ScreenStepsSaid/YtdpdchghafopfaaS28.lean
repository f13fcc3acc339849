/- Steps of the program; both Steps. -/
import Derived.Test.YtdpdchghafopfaaS27
import Derived.Test.YtdpdchghafopfaaS24
set_option linter.unusedVariables false
set_option linter.unusedSimpArgs false
namespace Go.Proofs.Ytdpdchghafopfaa
open Go.RowKit
set_option maxRecDepth 20000 in
set_option maxHeartbeats 1000000 in
theorem steps_of (n : Nat) (ok : Bool) (e0 : Int) (l : List Sc) (eyes : List Pt) (b : Bx) (f t : Pt) (la ea : Option Addr) (c ce : Nat) (w : World) (hn : n ≤ 442)
    (hw : ∀ W, Below w.heap.size w W → Calls Try.prog 21 #[.slice la l.length c, .slice ea eyes.length ce, B4 b, P2 f, P2 t] W (WayP n ok e0 W)) :
    Calls Try.prog 10 #[.slice la l.length c, .slice ea eyes.length ce, B4 b, P2 f, P2 t] w (StepsPost (max 0 ((n : Int) - 1)) ok e0 w) := by
  go_enter Try.func10, Try.ntmps10
  go_wp2_with (go_at_call 21; refine (hw _ ?_).mono ?_; ((repeat (first | exact Below.refl _ _ | refine blw_alloc ?_ _ | refine blw_drew ?_ | refine blw_rg ?_ _ | refine blw_call (by assumption) ?_))); rintro e w' ⟨A, c1, rfl, hb1⟩)
  go_ret3
  exact ⟨rfl, (by (repeat (first | exact Below.refl _ _ | refine blw_alloc ?_ _ | refine blw_drew ?_ | refine blw_rg ?_ _ | refine blw_call (by assumption) ?_)))⟩
theorem steps_err (l : List Sc) (eyes : List Pt) (b : Bx) (f t : Pt) (la ea : Option Addr) (c ce : Nat) (w : World) (H : Rd w encS 4 la l) (HE : Rd w encP 2 ea eyes) (he : placeE l eyes [f, t] b ≠ 0) :
    Calls Try.prog 10 #[.slice la l.length c, .slice ea eyes.length ce, B4 b, P2 f, P2 t] w (StepsPost 0 false (placeE l eyes [f, t] b) w) :=
  steps_of 0 false _ l eyes b f t la ea c ce w (by omega) fun W hW => way_err l eyes b f t la ea c ce W (H.below hW) (HE.below hW) he
theorem place2_facts {l : List Sc} {eyes : List Pt} {b : Bx} {f t : Pt} (h : placeE l eyes [f, t] b = 0) : placeE l eyes [f] b = 0 ∧ inR t = true ∧ inB b t = true := by
  unfold placeE boxE lookE at *
  simp only [List.all_cons, List.all_nil, List.length_cons, List.length_nil] at *
  grind
theorem steps_ok (l : List Sc) (eyes : List Pt) (b : Bx) (f t : Pt) (la ea : Option Addr) (c ce : Nat) (w : World) (H : Rd w encS 4 la l) (HE : Rd w encP 2 ea eyes) (he : placeE l eyes [f, t] b = 0) (d : Int) (ok : Bool) (hd : StepsAns l (darkL l eyes b) f t d ok) :
    Calls Try.prog 10 #[.slice la l.length c, .slice ea eyes.length ce, B4 b, P2 f, P2 t] w (StepsPost d ok 0 w) := by
  obtain ⟨hp, ht, hit⟩ := place2_facts he
  obtain ⟨h1, h2, h3, h4, h5⟩ := place_facts hp
  cases hh : hidB l eyes f
  · have hno : StepsAns l (darkL l eyes b) f t 0 false := .inr ⟨rfl, rfl, fun n hw => by
      have := ((mem_dark f).1 hw.start).2
      rw [hh] at this
      cases this⟩
    obtain ⟨rfl, rfl⟩ := hd.uniq hno
    exact steps_of 0 false 0 l eyes b f t la ea c ce w (by omega) fun W hW => way_hid l eyes b f t la ea c ce W (H.below hW) (HE.below hW) he h1 h2 h3 ht hh
  · have hway := fun W hW => way_dark l eyes b f t la ea c ce W (H.below hW) (HE.below hW) he h1 h2 h3 ht h4 h5 hh
    rcases hd with ⟨rfl, n, rfl, hd⟩ | ⟨rfl, rfl, hd⟩
    · have hlt : n ≤ 441 := by
        by_cases hx : n ≤ 441
        · exact hx
        · exfalso
          have := dst_len h4 hd
          omega
      have := steps_of (n + 1) true 0 l eyes b f t la ea c ce w (by omega) fun W hW => (hway W hW).mono fun e w' h => by
        rcases h with ⟨m, hm, hdm, hq⟩ | ⟨hno, _⟩
        · rw [hd.uniq hdm]; exact hq
        · exact absurd hd.1 (hno n)
      have e : (max 0 (((n + 1 : Nat) : Int) - 1)) = n := by omega
      rw [e] at this
      exact this
    · exact steps_of 0 false 0 l eyes b f t la ea c ce w (by omega) fun W hW => (hway W hW).mono fun e w' h => by
        rcases h with ⟨m, hm, hdm, hq⟩ | ⟨_, hq⟩
        · exact absurd hdm.1 (hd m)
        · exact hq
theorem refsteps_ans (l : List Sc) (eyes : List Pt) (b : Bx) (f t : Pt) (la ea : Option Addr) (c ce : Nat) (w : World) (H : Rd w encS 4 la l) (HE : Rd w encP 2 ea eyes) (he : placeE l eyes [f, t] b = 0) (d : Int) (ok : Bool) (hd : StepsAns l (darkL l eyes b) f t d ok) :
    Calls Try.prog 11 #[.slice la l.length c, .slice ea eyes.length ce, B4 b, P2 f, P2 t] w (StepsPost d ok 0 w) := by
  obtain ⟨hp, ht, hit⟩ := place2_facts he
  obtain ⟨h1, h2, h3, h4, h5⟩ := place_facts hp
  have hls : okS l := fun s hs => by
    have := all_mem h1 hs
    simp only [goodS, Bool.and_eq_true] at this
    exact ⟨this.1.1, this.1.2⟩
  have hlp : okP eyes := fun p hp => all_mem h2 hp
  exact (refsteps_ok l eyes b f t la ea c ce w H HE he hls hlp h4).mono fun e w' ⟨d', ok', ha, hq⟩ => by
    obtain ⟨rfl, rfl⟩ := hd.uniq ha
    exact hq
theorem ans_ex (l : List Sc) (V : List Pt) (f t : Pt) : ∃ d ok, StepsAns l V f t d ok := by
  by_cases h : ∃ n, Wk l V f n t
  · obtain ⟨n, hn⟩ := h
    obtain ⟨m, _, hm⟩ := wk_dst n hn
    exact ⟨m, true, .inl ⟨rfl, m, rfl, hm⟩⟩
  · exact ⟨0, false, .inr ⟨rfl, rfl, fun n hn => h ⟨n, hn⟩⟩⟩
/-- What both Steps and Reach answer, in whatever world. -/
structure BothS (l : List Sc) (eyes : List Pt) (b : Bx) (f t : Pt) (la ea : Option Addr) (c ce : Nat) (w : World) (d : Int) (ok : Bool) (e0 : Int) (pts : List Pt) : Prop where
  prog : ∀ W, Below w.heap.size w W → Calls Try.prog 10 #[.slice la l.length c, .slice ea eyes.length ce, B4 b, P2 f, P2 t] W (StepsPost d ok e0 W)
  ref : ∀ W, Below w.heap.size w W → Calls Try.prog 11 #[.slice la l.length c, .slice ea eyes.length ce, B4 b, P2 f, P2 t] W (StepsPost d ok e0 W)
  reach : e0 = 0 → ∀ W, Below w.heap.size w W → Calls Try.prog 7 #[.slice la l.length c, .slice ea eyes.length ce, B4 b, P2 f] W (ReachPost pts 0 W)
  same : e0 = 0 → ok = pts.any fun q => q.1 == t.1 && (q.2 == t.2)
  len : pts.length ≤ 441
theorem bothS (l : List Sc) (eyes : List Pt) (b : Bx) (f t : Pt) (la ea : Option Addr) (c ce : Nat) (w : World) (H : Rd w encS 4 la l) (HE : Rd w encP 2 ea eyes) : ∃ d ok e0 pts, BothS l eyes b f t la ea c ce w d ok e0 pts := by
  by_cases he : placeE l eyes [f, t] b = 0
  · obtain ⟨d, ok, hans⟩ := ans_ex l (darkL l eyes b) f t
    obtain ⟨hp, ht, hit⟩ := place2_facts he
    obtain ⟨h1, h2, h3, h4, h5⟩ := place_facts hp
    refine ⟨d, ok, 0, reachL l (darkL l eyes b) f, fun W hW => steps_ok l eyes b f t la ea c ce W (H.below hW) (HE.below hW) he d ok hans, fun W hW => refsteps_ans l eyes b f t la ea c ce W (H.below hW) (HE.below hW) he d ok hans, fun _ W hW => ?_, fun _ => ?_, Nat.le_trans (List.length_filter_le _ _) (dark_len h4)⟩
    · cases hh : hidB l eyes f
      · rw [reach_no hh]
        exact reach_hid l eyes b f la ea c ce W (H.below hW) (HE.below hW) hp h1 h2 h3 hh
      · exact reach_dark l eyes b f la ea c ce W (H.below hW) (HE.below hW) hp h1 h2 h3 h4 h5 hh
    · have hmem : (reachL l (darkL l eyes b) f).any (fun q => q.1 == t.1 && (q.2 == t.2)) = true ↔ ∃ n, Wk l (darkL l eyes b) f n t := by
        rw [List.any_eq_true]
        constructor
        · rintro ⟨q, hq, e⟩
          have := (eqP_iff q t).1 e
          subst this
          have := (List.mem_filter.1 hq).2
          simpa using this
        · rintro ⟨n, hn⟩
          exact ⟨t, List.mem_filter.2 ⟨hn.mem, by simpa using ⟨n, hn⟩⟩, (eqP_iff t t).2 rfl⟩
      rcases hans with ⟨rfl, n, rfl, hd⟩ | ⟨rfl, rfl, hd⟩
      · exact (hmem.2 ⟨n, hd.1⟩).symm
      · cases hx : (reachL l (darkL l eyes b) f).any (fun q => q.1 == t.1 && (q.2 == t.2))
        · rfl
        · obtain ⟨n, hn⟩ := hmem.1 hx
          exact absurd hn (hd n)
  · exact ⟨0, false, placeE l eyes [f, t] b, [], fun W hW => steps_err l eyes b f t la ea c ce W (H.below hW) (HE.below hW) he, fun W hW => refsteps_err l eyes b f t la ea c ce W (H.below hW) (HE.below hW) he, fun h => absurd h he, fun h => absurd h he, by simp⟩
end Go.Proofs.Ytdpdchghafopfaa
