/- ScreenReaches: the walk of the law. -/
import Derived.Test.YtdpdchghafopfaaS23
import Derived.Deep.RegionHeld3
set_option linter.unusedVariables false
set_option linter.unusedSimpArgs false
namespace Go.Proofs.Ytdpdchghafopfaa
open Go.RowKit
abbrev ArgV (la : Option Addr) (n c : Nat) : Value := .slice la n c
/-- What both Reaches answer, in whatever world. -/
structure Both (l : List Sc) (eyes : List Pt) (b : Bx) (f : Pt) (la ea : Option Addr) (c ce : Nat) (w : World) (pts : List Pt) (e0 : Int) : Prop where
  prog : ∀ W, Below w.heap.size w W → Calls Try.prog 7 #[.slice la l.length c, .slice ea eyes.length ce, B4 b, P2 f] W (ReachPost pts e0 W)
  ref : ∀ W, Below w.heap.size w W → Calls Try.prog 8 #[.slice la l.length c, .slice ea eyes.length ce, B4 b, P2 f] W (ReachPost pts e0 W)
  again : ∀ W, Below w.heap.size w W → ∀ k (hk : k < pts.length), Calls Try.prog 7 #[.slice la l.length c, .slice ea eyes.length ce, B4 b, P2 pts[k]] W (ReachPost pts 0 W)
  zero : e0 ≠ 0 → pts = []
  len : pts.length ≤ 441
theorem place_facts {l : List Sc} {eyes : List Pt} {b : Bx} {f : Pt} (h : placeE l eyes [f] b = 0) : l.all goodS = true ∧ eyes.all inR = true ∧ inR f = true ∧ boxB b = true ∧ inB b f = true := by
  unfold placeE at h
  split at h
  · rename_i h1
    unfold boxE at h1
    split at h1
    · rename_i h2
      unfold lookE at h2
      split at h2
      · rename_i h3
        unfold valS at h3
        have e1 : l.all goodS = true := by
          split at h3
          · omega
          · split at h3
            · assumption
            · omega
        split at h2
        · omega
        · split at h2
          · rename_i h4
            rw [Bool.and_eq_true] at h4
            split at h1
            · rename_i h5
              split at h
              · rename_i h6
                exact ⟨e1, h4.1, by simpa using h4.2, h5, by simpa using h6⟩
              · omega
            · omega
          · omega
      · rename_i h3; exact absurd h2 h3
    · rename_i h2; exact absurd h1 h2
  · rename_i h1; exact absurd h h1
theorem place_again {l : List Sc} {eyes : List Pt} {b : Bx} {f g : Pt} (h : placeE l eyes [f] b = 0) (hg : inB b g = true) (hr : inR g = true) : placeE l eyes [g] b = 0 := by
  have hf := place_facts h
  have e1 : boxE l eyes [g] b = boxE l eyes [f] b := by
    have e3 : [g].all inR = [f].all inR := by simp only [List.all_cons, List.all_nil, hr, hf.2.2.1]
    unfold boxE lookE
    rw [e3]
    rfl
  have e2 : boxE l eyes [f] b = 0 := by
    unfold placeE at h
    split at h
    · assumption
    · exact h
  unfold placeE
  rw [e1, e2]
  simp [hg]
theorem both (l : List Sc) (eyes : List Pt) (b : Bx) (f : Pt) (la ea : Option Addr) (c ce : Nat) (w : World) (H : Rd w encS 4 la l) (HE : Rd w encP 2 ea eyes) : ∃ pts e0, Both l eyes b f la ea c ce w pts e0 := by
  by_cases he : placeE l eyes [f] b = 0
  · obtain ⟨h1, h2, h3, h4, h5⟩ := place_facts he
    have hls : okS l := fun s hs => by
      have := all_mem h1 hs
      simp only [goodS, Bool.and_eq_true] at this
      exact ⟨this.1.1, this.1.2⟩
    have hlp : okP eyes := fun p hp => all_mem h2 hp
    have href : ∀ W, Below w.heap.size w W → Calls Try.prog 8 #[.slice la l.length c, .slice ea eyes.length ce, B4 b, P2 f] W (ReachPost (reachL l (darkL l eyes b) f) 0 W) := fun W hW =>
      (refreach_ok l eyes b f la ea c ce W (H.below hW) (HE.below hW) he hls hlp h4).mono fun e w' ⟨r, hr1, hr2, hr3⟩ => by rw [← ref_reach hr2]; exact hr3
    cases hh : hidB l eyes f
    · have e := reach_no (b := b) hh
      refine ⟨[], 0, ?_, ?_, ?_, fun _ => rfl, by simp⟩
      · intro W hW; exact reach_hid l eyes b f la ea c ce W (H.below hW) (HE.below hW) he h1 h2 h3 hh
      · intro W hW; rw [← e]; exact href W hW
      · intro W hW k hk; simp at hk
    · refine ⟨reachL l (darkL l eyes b) f, 0, ?_, href, ?_, fun h => absurd rfl h, Nat.le_trans (List.length_filter_le _ _) (dark_len h4)⟩
      · intro W hW; exact reach_dark l eyes b f la ea c ce W (H.below hW) (HE.below hW) he h1 h2 h3 h4 h5 hh
      · intro W hW k hk
        have hm := List.getElem_mem hk
        generalize (reachL l (darkL l eyes b) f)[k] = g at hm
        have hd := (mem_dark g).1 (List.mem_filter.1 hm).1
        have hgR := in_inR h4 hd.1
        have := reach_dark l eyes b g la ea c ce W (H.below hW) (HE.below hW) (place_again he hd.1 hgR) h1 h2 hgR h4 hd.1 hd.2
        rwa [reachL_same hm] at this
  · refine ⟨[], placeE l eyes [f] b, ?_, ?_, ?_, fun _ => rfl, by simp⟩
    · intro W hW; exact reach_err l eyes b f la ea c ce W (H.below hW) (HE.below hW) he
    · intro W hW; exact refreach_err l eyes b f la ea c ce W (H.below hW) (HE.below hW) he
    · intro W hW k hk; simp at hk

theorem idx_at (x : Int) (n : Nat) (hn : 0 < n) : ∃ K : Nat, (IntKind.u64.wrap x).tmod n = K ∧ K < n := by
  have h0 : 0 ≤ IntKind.u64.wrap x := by simp [IntKind.wrap, IntKind.bits, IntKind.signed]; omega
  have h1 : (IntKind.u64.wrap x).tmod n = (IntKind.u64.wrap x) % (n : Int) := Int.tmod_eq_emod_of_nonneg h0
  have h2 := Int.emod_nonneg (IntKind.u64.wrap x) (show (n : Int) ≠ 0 by omega)
  have h3 := Int.emod_lt_of_pos (IntKind.u64.wrap x) (show (0 : Int) < n by omega)
  exact ⟨((IntKind.u64.wrap x) % (n : Int)).toNat, by rw [h1]; omega, by omega⟩
theorem drew_below {w0 W : World} (h : Below w0.heap.size w0 W) : Below w0.heap.size w0 W.drew := h.drew
theorem held_below {W w' : World} {b1 b2 b3 b4 b5 b6 b7 : Addr} {v1 v2 v3 v4 v5 v6 v7 : Value} (hb : Below W.drew.heap.size W.drew w') (h1 : W.cell? b1 = some v1) (h2 : W.cell? b2 = some v2) (h3 : W.cell? b3 = some v3) (h4 : W.cell? b4 = some v4) (h5 : W.cell? b5 = some v5) (h6 : W.cell? b6 = some v6) (h7 : W.cell? b7 = some v7) :
    w'.cell? b1 = some v1 ∧ w'.cell? b2 = some v2 ∧ w'.cell? b3 = some v3 ∧ w'.cell? b4 = some v4 ∧ w'.cell? b5 = some v5 ∧ w'.cell? b6 = some v6 ∧ w'.cell? b7 = some v7 := by
  have k : ∀ (a : Addr) (v : Value), W.cell? a = some v → w'.cell? a = some v := fun a v h => (hb.cell (World.block_lt_of_cell? W a h)).trans h
  exact ⟨k _ _ h1, k _ _ h2, k _ _ h3, k _ _ h4, k _ _ h5, k _ _ h6, k _ _ h7⟩
abbrev tripC (ea : Option Addr) (n ce : Nat) (b : Bx) (f t : Pt) : Array Value := #[.slice ea n ce, .int .i64 b.1.1, .int .i64 b.1.2, .int .i64 b.2.1, .int .i64 b.2.2, .int .i64 f.1, .int .i64 f.2, .int .i64 t.1, .int .i64 t.2]
theorem trip_at {ea : Option Addr} {n ce : Nat} {b : Bx} {f t : Pt} {w w' : World} (h : Below (w.alloc (.cells (tripC ea n ce b f t) 29)).heap.size (w.alloc (.cells (tripC ea n ce b f t) 29)) w') (i : Nat) (v : Value) (hv : (tripC ea n ce b f t)[i]? = some v) : w'.cell? ⟨w.heap.size, i, none⟩ = some v :=
  (h.cell (p := ⟨w.heap.size, i, none⟩) (by simp)).trans ((World.cell?_alloc_new w _ _ i).trans hv)
abbrev TripV (ea : Option Addr) (n ce : Nat) (b : Bx) (f t : Pt) : Value := .agg #[.slice ea n ce, .int .i64 b.1.1, .int .i64 b.1.2, .int .i64 b.2.1, .int .i64 b.2.2, .int .i64 f.1, .int .i64 f.2, .int .i64 t.1, .int .i64 t.2]
set_option maxRecDepth 20000 in
set_option maxHeartbeats 1000000 in
theorem law_long (l : List Sc) (eyes : List Pt) (b : Bx) (f t : Pt) (at_ : Int) (la ea : Option Addr) (c ce : Nat) (w : World) (hL : 100 < l.length ∨ 100 < eyes.length) :
    Calls Try.prog 3 #[.slice la l.length c, TripV ea eyes.length ce b f t, .int .i64 at_] w fun e w' => e = .returned (.bool true) ∧ Below w.heap.size w w' := by
  have hlo := fun W => Long_any l eyes la ea c ce W
  have e : (decide (100 < l.length) || decide (100 < eyes.length)) = true := by simpa using hL
  rw [e] at hlo
  clear hL e
  go_enter Try.func3, Try.ntmps3
  go_wp2_with (first | (go_at_call 5; refine (hlo _).mono ?_; rintro e w' ⟨rfl, rfl⟩) | (go_at_call 6; refine (known_any _).mono ?_; rintro e w' ⟨rfl, hb1⟩))
  go_ret
  exact ⟨rfl, by (repeat (first | exact Below.refl _ _ | refine blw_alloc ?_ _ | refine blw_drew ?_ | refine blw_rg ?_ _ | refine blw_call (by assumption) ?_))⟩

set_option maxRecDepth 20000 in
set_option maxHeartbeats 1000000 in
theorem law_nil (l : List Sc) (eyes : List Pt) (b : Bx) (f t : Pt) (at_ : Int) (la ea : Option Addr) (c ce : Nat) (w : World) (hL : ¬ (100 < l.length ∨ 100 < eyes.length)) (e0 : Int) (HB : Both l eyes b f la ea c ce (w.alloc (.cells #[.slice ea eyes.length ce, .int .i64 b.1.1, .int .i64 b.1.2, .int .i64 b.2.1, .int .i64 b.2.2, .int .i64 f.1, .int .i64 f.2, .int .i64 t.1, .int .i64 t.2] 29)) [] e0) :
    Calls Try.prog 3 #[.slice la l.length c, TripV ea eyes.length ce b f t, .int .i64 at_] w fun e w' => e = .returned (.bool true) ∧ Below w.heap.size w w' := by
  have hlo := fun W => Long_any l eyes la ea c ce W
  have e : (decide (100 < l.length) || decide (100 < eyes.length)) = false := by simpa using hL
  rw [e] at hlo
  clear hL e
  obtain ⟨h1, h2, h3, h4, h5⟩ := HB
  clear h3 h4 h5
  go_enter Try.func3, Try.ntmps3
  go_wp2_with (first | (go_at_call 5; refine (hlo _).mono ?_; rintro e w' ⟨rfl, rfl⟩) | (go_at_call 6; refine (known_any _).mono ?_; rintro e w' ⟨rfl, hb1⟩) | (go_at_call 7; refine (h1 _ ?_).mono ?_; ((repeat (first | exact Below.refl _ _ | refine blw_alloc ?_ _ | refine blw_drew ?_ | refine blw_rg ?_ _ | refine blw_call (by assumption) ?_))); rintro e w' ⟨A1, c1, rfl, hr1, hb1⟩; have g0 := trip_at hb1 0 _ rfl; have g1 := trip_at hb1 1 _ rfl; have g2 := trip_at hb1 2 _ rfl; have g3 := trip_at hb1 3 _ rfl; have g4 := trip_at hb1 4 _ rfl; have g5 := trip_at hb1 5 _ rfl; have g6 := trip_at hb1 6 _ rfl) | (go_at_call 9; refine (samePoints_any [] [] _ _ _ _ _ (rd_nil _ _ _ _) (rd_nil _ _ _ _)).mono ?_; rintro e w' ⟨rfl, hb3⟩) | (go_at_call 8; refine (h2 _ ?_).mono ?_; ((repeat (first | exact Below.refl _ _ | refine blw_alloc ?_ _ | refine blw_drew ?_ | refine blw_rg ?_ _ | refine blw_call (by assumption) ?_))); rintro e w' ⟨A2, c2, rfl, hr2, hb2⟩))
  go_ret
  exact ⟨rfl, by (repeat (first | exact Below.refl _ _ | refine blw_alloc ?_ _ | refine blw_drew ?_ | refine blw_rg ?_ _ | refine blw_call (by assumption) ?_))⟩

set_option maxRecDepth 20000 in
set_option maxHeartbeats 1000000 in
theorem law_some (l : List Sc) (eyes : List Pt) (b : Bx) (f t : Pt) (at_ : Int) (la ea : Option Addr) (c ce : Nat) (w : World) (hL : ¬ (100 < l.length ∨ 100 < eyes.length)) (pts : List Pt) (HB : Both l eyes b f la ea c ce (w.alloc (.cells #[.slice ea eyes.length ce, .int .i64 b.1.1, .int .i64 b.1.2, .int .i64 b.2.1, .int .i64 b.2.2, .int .i64 f.1, .int .i64 f.2, .int .i64 t.1, .int .i64 t.2] 29)) pts 0) (hpos : 0 < pts.length) (hat : -9223372036854775808 ≤ at_ ∧ at_ ≤ 9223372036854775807) :
    Calls Try.prog 3 #[.slice la l.length c, TripV ea eyes.length ce b f t, .int .i64 at_] w fun e w' => e = .returned (.bool true) ∧ Below w.heap.size w w' := by
  have hlo := fun W => Long_any l eyes la ea c ce W
  have e : (decide (100 < l.length) || decide (100 < eyes.length)) = false := by simpa using hL
  rw [e] at hlo
  clear hL e
  obtain ⟨h1, h2, h3, h4, h5⟩ := HB
  have hlen := h5
  clear h4 h5
  go_enter Try.func3, Try.ntmps3
  go_wp2_with (first | (go_at_call 5; refine (hlo _).mono ?_; rintro e w' ⟨rfl, rfl⟩) | (go_at_call 6; refine (known_any _).mono ?_; rintro e w' ⟨rfl, hb1⟩) | (go_at_call 7; refine (h1 _ ?_).mono ?_; ((repeat (first | exact Below.refl _ _ | refine blw_alloc ?_ _ | refine blw_drew ?_ | refine blw_rg ?_ _ | refine blw_call (by assumption) ?_))); rintro e w' ⟨A1, c1, rfl, hr1, hb1⟩; have g0 := trip_at hb1 0 _ rfl; have g1 := trip_at hb1 1 _ rfl; have g2 := trip_at hb1 2 _ rfl; have g3 := trip_at hb1 3 _ rfl; have g4 := trip_at hb1 4 _ rfl; have g5 := trip_at hb1 5 _ rfl; have g6 := trip_at hb1 6 _ rfl) | (go_at_call 9; refine (samePoints_any pts pts _ _ _ _ _ (hr1.below ?_) hr2).mono ?_; ((repeat (first | exact Below.refl _ _ | refine blw_alloc ?_ _ | refine blw_drew ?_ | refine blw_rg ?_ _ | refine blw_call (by assumption) ?_))); rintro e w' ⟨he3, hb3⟩; rw [show decide (pts = pts) = true by simp] at he3; subst he3) | (go_at_call 8; refine (h2 _ ?_).mono ?_; ((repeat (first | exact Below.refl _ _ | refine blw_alloc ?_ _ | refine blw_drew ?_ | refine blw_rg ?_ _ | refine blw_call (by assumption) ?_))); rintro e w' ⟨A2, c2, rfl, hr2, hb2⟩))
  have hrW : Rd w' encP 2 A1 pts := hr1.below (by (repeat (first | exact Below.refl _ _ | refine blw_alloc ?_ _ | refine blw_drew ?_ | refine blw_rg ?_ _ | refine blw_call (by assumption) ?_)))
  have hbW : Below (w.alloc (.cells (tripC ea eyes.length ce b f t) 29)).heap.size (w.alloc (.cells (tripC ea eyes.length ce b f t) 29)) w' := by (repeat (first | exact Below.refl _ _ | refine blw_alloc ?_ _ | refine blw_drew ?_ | refine blw_rg ?_ _ | refine blw_call (by assumption) ?_))
  clear hr1 hr2
  have g0' := trip_at hbW 0 _ rfl
  have g1' := trip_at hbW 1 _ rfl
  have g2' := trip_at hbW 2 _ rfl
  have g3' := trip_at hbW 3 _ rfl
  have g4' := trip_at hbW 4 _ rfl
  obtain ⟨K, hK, hKlt⟩ := idx_at at_ pts.length hpos
  have hw1 : IntKind.u64.wrap (pts.length : Int) = pts.length := by simp [IntKind.wrap, IntKind.bits, IntKind.signed]; omega
  have hw2 : IntKind.i64.wrap (K : Int) = K := by simp [IntKind.wrap, IntKind.bits, IntKind.signed]; omega
  have hne : ¬ ((pts.length : Int) = 0) := by omega
  have hne2 : ¬ pts = [] := by intro e; subst e; simp at hpos
  have hKz : (K : Int) < (pts.length : Int) := by omega
  obtain ⟨b0, off, rfl, hb0, hc⟩ := hrW.at_ K hKlt
  have q0 := hc 0 _ rfl
  have q1 := hc 1 _ rfl
  have h3' := fun W hW => h3 W hW K hKlt
  generalize pts[K] = g at q0 q1 h3'
  change w'.cell? ⟨b0, off + K * 2, none⟩ = _ at q0
  have HRW := asd hrW
  have HBW := asd hbW
  clear hc h3 h1 h2 hlo hat hb1 hb2 hb3 hrW hbW g0 g1 g2 g3 g4 g5 g6
  generalize w' = W at *
  go_region_held3 (fun v => v.cell? ⟨w.heap.size, 0, none⟩ = some (.slice ea eyes.length ce) ∧ v.cell? ⟨w.heap.size, 1, none⟩ = some (.int .i64 b.1.1) ∧ v.cell? ⟨w.heap.size, 2, none⟩ = some (.int .i64 b.1.2) ∧ v.cell? ⟨w.heap.size, 3, none⟩ = some (.int .i64 b.2.1) ∧ v.cell? ⟨w.heap.size, 4, none⟩ = some (.int .i64 b.2.2) ∧ v.cell? ⟨b0, off + K * 2, none⟩ = some (.int .i64 g.1) ∧ v.cell? ⟨b0, off + K * 2 + 1, none⟩ = some (.int .i64 g.2)) (first | exact ⟨g0', g1', g2', g3', g4', q0, q1⟩ | exact ⟨x0, x1, x2, x3, x4, x5, x6⟩) (first | (go_at_call 7; refine (h3' _ (drew_below HBW.out)).mono ?_; rintro e w' ⟨A3, c3, rfl, hr3, hb4⟩; obtain ⟨x0, x1, x2, x3, x4, x5, x6⟩ := held_below hb4 g0' g1' g2' g3' g4' q0 q1))
  have hb4' : Below W.heap.size W w' := (drew_below (Below.refl W.heap.size W)).trans hb4
  clear x0 x1 x2 x3 x4 x5 x6 g0' g1' g2' g3' g4' q0 q1 hb4
  go_wp2_with (first | (go_at_call 9; refine (samePoints_any pts pts _ _ _ _ _ hr3 (HRW.out.below hb4')).mono ?_; rintro e w' ⟨he5, hb5⟩; rw [show decide (pts = pts) = true by simp] at he5; subst he5) | (go_at_call 6; refine (known_any _).mono ?_; rintro e w' ⟨rfl, hb6⟩))
  go_ret
  have hw0 : Below w.heap.size w W := blw_call HBW.out (by (repeat (first | exact Below.refl _ _ | refine blw_alloc ?_ _ | refine blw_drew ?_ | refine blw_rg ?_ _ | refine blw_call (by assumption) ?_)))
  exact ⟨rfl, by (repeat (first | exact Below.refl _ _ | refine blw_alloc ?_ _ | refine blw_drew ?_ | refine blw_rg ?_ _ | refine blw_call (by assumption) ?_))⟩

theorem law_any (l : List Sc) (eyes : List Pt) (b : Bx) (f t : Pt) (at_ : Int) (la ea : Option Addr) (c ce : Nat) (w : World) (H : l.length ≤ 100 → Rd w encS 4 la l) (HE : eyes.length ≤ 100 → Rd w encP 2 ea eyes) (hat : -9223372036854775808 ≤ at_ ∧ at_ ≤ 9223372036854775807) :
    Calls Try.prog 3 #[.slice la l.length c, TripV ea eyes.length ce b f t, .int .i64 at_] w fun e w' => e = .returned (.bool true) ∧ Below w.heap.size w w' := by
  by_cases hL : 100 < l.length ∨ 100 < eyes.length
  · exact law_long l eyes b f t at_ la ea c ce w hL
  · have hb : Below w.heap.size w (w.alloc (.cells (tripC ea eyes.length ce b f t) 29)) := by (repeat (first | exact Below.refl _ _ | refine blw_alloc ?_ _ | refine blw_drew ?_ | refine blw_rg ?_ _ | refine blw_call (by assumption) ?_))
    obtain ⟨pts, e0, HB⟩ := both l eyes b f la ea c ce (w.alloc (.cells (tripC ea eyes.length ce b f t) 29)) ((H (by omega)).below hb) ((HE (by omega)).below hb)
    by_cases hp : pts = []
    · subst hp
      exact law_nil l eyes b f t at_ la ea c ce w hL e0 HB
    · have e : e0 = 0 := by
        rcases Decidable.em (e0 = 0) with h | h
        · exact h
        · exact absurd (HB.zero h) hp
      subst e
      exact law_some l eyes b f t at_ la ea c ce w hL pts HB (List.length_pos_iff.2 hp) hat
end Go.Proofs.Ytdpdchghafopfaa
