/- The head of a book, walked. -/
import Derived.Test.YthfdlfdbjiofhaaDoorB6
import Derived.Deep.RegionHeld3
import Derived.Handy
set_option linter.unusedVariables false
set_option linter.unusedSimpArgs false
namespace Go.Proofs.YthfdlfdbjiofhaaDoor
open Go.RowKit
set_option maxRecDepth 20000
set_option maxHeartbeats 1000000
theorem pg_eq (x : ByteArray) : (x.toList == ([112, 97, 103, 101, 115] : List UInt8)) = decide (by_ x = pagesW) := by
  rw [Lib.toList_data]
  rw [Bool.eq_iff_iff, beq_iff_eq, decide_eq_true_eq]; rfl
theorem new_cell (w : World) (cs : Array Value) (t : TypeId) (i : Nat) (v : Value) (h : cs[i]? = some v) : (w.alloc (.cells cs t)).cell? ⟨w.heap.size, i, none⟩ = some v := by
  rw [World.cell?_alloc_at _ _ _ _ rfl]; exact h
theorem new_lt (w : World) (o : Obj) : w.heap.size < (w.alloc o).heap.size := by
  show w.heap.size < (w.heap.push o).size; rw [Array.size_push]; omega
theorem head_a (s : ByteArray) (hs : s.size ≤ 1000000) (w : World) (hE : EnvB w) (h : cutL (by_ s) = none) : Calls Tryd.prog 51 #[.string s] w fun e w' => e = .returned (headV (headL (by_ s))) ∧ Below w.heap.size w w' := by
  obtain ⟨ws, hws, hsp⟩ := split_w s hs
  have hcut := cut_no s hs h w hE
  have HN := Go.Lib.hid (show headL (by_ s) = none by unfold headL; rw [h])
  clear h hws
  go_enter Tryd.func51, Tryd.ntmps51
  go_wp2_with (go_at_call 80; refine hcut.mono ?_; rintro e w1 ⟨rfl, hb1⟩)
  go_wp2_with (go_at_call 41; refine (hsp _ (hE.below hb1)).mono ?_; rintro e w2 ⟨rfl, rfl⟩)
  go_returns
  exact ⟨head_none HN.out, by (repeat (first | exact Below.refl _ _ | refine blw_alloc ?_ _ | refine blw_drew ?_ | refine blw_rg ?_ _ | refine blw_call (by assumption) ?_))⟩
theorem head_b (s : ByteArray) (hs : s.size ≤ 1000000) (w : World) (hE : EnvB w) (a b : List UInt8) (hA : (⟨a.toArray⟩ : ByteArray).size ≤ 1000000) (h : cutL (by_ s) = some (a, b)) (h3 : (splitW a).length ≠ 3) : Calls Tryd.prog 51 #[.string s] w fun e w' => e = .returned (headV (headL (by_ s))) ∧ Below w.heap.size w w' := by
  obtain ⟨ws, hws, hsp⟩ := split_w ⟨a.toArray⟩ hA
  have hcut := cut_yes s hs a b h w hE
  have HN := Go.Lib.hid (show headL (by_ s) = none by rw [headL_cut h, lineD_ne h3])
  have hl : ¬ (ws.length : Int) = 3 := fun e => h3 (by rw [show splitW a = _ from hws.symm, List.length_map]; omega)
  clear h hws h3 hA
  go_enter Tryd.func51, Tryd.ntmps51
  go_wp2_with (go_at_call 80; refine hcut.mono ?_; rintro e w1 ⟨rfl, hb1⟩)
  go_wp2_with (go_at_call 41; refine (hsp _ (hE.below hb1)).mono ?_; rintro e w2 ⟨rfl, rfl⟩)
  go_returns
  exact ⟨head_none HN.out, by (repeat (first | exact Below.refl _ _ | refine blw_alloc ?_ _ | refine blw_drew ?_ | refine blw_rg ?_ _ | refine blw_call (by assumption) ?_))⟩
theorem three (s : ByteArray) (hs : s.size ≤ 1000000) (w : World) (hE : EnvB w) (a b : List UInt8) (hA : (⟨a.toArray⟩ : ByteArray).size ≤ 1000000) (h : cutL (by_ s) = some (a, b)) (h3 : (splitW a).length = 3) :
    ∃ x0 x1 x2 : ByteArray, x0.size ≤ 1000000 ∧ x1.size ≤ 1000000 ∧ x2.size ≤ 1000000 ∧ headL (by_ s) = (match (if by_ x0 = pagesW then numsD (by_ x1) (by_ x2) else none) with | none => none | some (n, s) => some (n, s, b)) ∧
      (∀ w, EnvB w → Calls Tryd.prog 41 #[.string ⟨a.toArray⟩, .string spS] w fun e w' => e = .returned (.slice (some ⟨w.heap.size, 0, none⟩) 3 3) ∧ w' = w.alloc (.cells #[.string x0, .string x1, .string x2] 9)) := by
  obtain ⟨ws, hws, hsp⟩ := split_w ⟨a.toArray⟩ hA
  have hws : ws.map by_ = splitW a := hws
  have hl : ws.length = 3 := by rw [← h3, ← hws]; simp
  match ws, hl, hws, hsp with
  | [x0, x1, x2], _, hws, hsp =>
    have hj := (splitW_join a).1
    rw [← hws] at hj
    have hlen : a.length = x0.size + 1 + x1.size + 1 + x2.size := by rw [← hj]; simp [List.intersperse]; omega
    have hA' : a.length ≤ 1000000 := by have : a.toArray.size ≤ 1000000 := hA; simpa using this
    refine ⟨x0, x1, x2, by omega, by omega, by omega, ?_, hsp⟩
    rw [headL_cut h, lineD_three hws.symm]; rfl
theorem head_c (s : ByteArray) (a b : List UInt8) (x0 x1 x2 : ByteArray) (w : World) (hE : EnvB w)
    (hcut : Calls Tryd.prog 80 #[.string s, .string nlS] w fun e w' => e = .returned (.tuple #[.string ⟨a.toArray⟩, .string ⟨b.toArray⟩, .bool true]) ∧ Below w.heap.size w w')
    (hsp : ∀ w, EnvB w → Calls Tryd.prog 41 #[.string ⟨a.toArray⟩, .string spS] w fun e w' => e = .returned (.slice (some ⟨w.heap.size, 0, none⟩) 3 3) ∧ w' = w.alloc (.cells #[.string x0, .string x1, .string x2] 9))
    (hpg : ¬ by_ x0 = pagesW) (HN : Hid (headL (by_ s) = none)) : Calls Tryd.prog 51 #[.string s] w fun e w' => e = .returned (headV (headL (by_ s))) ∧ Below w.heap.size w w' := by
  have hp := pg_eq x0
  rw [decide_eq_false hpg] at hp
  clear hpg
  go_enter Tryd.func51, Tryd.ntmps51
  go_wp2_with (go_at_call 80; refine hcut.mono ?_; rintro e w1 ⟨rfl, hb1⟩)
  go_wp2_with (go_at_call 41; refine (hsp _ (hE.below hb1)).mono ?_; rintro e w2 ⟨rfl, rfl⟩)
  go_returns
  exact ⟨head_none HN.out, by (repeat (first | exact Below.refl _ _ | refine blw_alloc ?_ _ | refine blw_drew ?_ | refine blw_rg ?_ _ | refine blw_call (by assumption) ?_))⟩
theorem head_d (s : ByteArray) (a b : List UInt8) (x0 x1 x2 : ByteArray) (h2 : x2.size ≤ 1000000) (w : World) (hE : EnvB w)
    (hcut : Calls Tryd.prog 80 #[.string s, .string nlS] w fun e w' => e = .returned (.tuple #[.string ⟨a.toArray⟩, .string ⟨b.toArray⟩, .bool true]) ∧ Below w.heap.size w w')
    (hsp : ∀ w, EnvB w → Calls Tryd.prog 41 #[.string ⟨a.toArray⟩, .string spS] w fun e w' => e = .returned (.slice (some ⟨w.heap.size, 0, none⟩) 3 3) ∧ w' = w.alloc (.cells #[.string x0, .string x1, .string x2] 9))
    (hp : (x0.toList == ([112, 97, 103, 101, 115] : List UInt8)) = true)
    (hat : ∀ w, EnvB w → Calls Tryd.prog 43 #[.string x1] w (AtoiBad w)) (HN : Hid (headL (by_ s) = none)) : Calls Tryd.prog 51 #[.string s] w fun e w' => e = .returned (headV (headL (by_ s))) ∧ Below w.heap.size w w' := by
  go_enter Tryd.func51, Tryd.ntmps51
  go_wp2_with (go_at_call 80; refine hcut.mono ?_; rintro e w1 ⟨rfl, hb1⟩)
  go_wp2_with (go_at_call 41; refine (hsp _ (hE.below hb1)).mono ?_; rintro e w2 ⟨rfl, rfl⟩)
  have hb2 : Below w.heap.size w (w1.alloc (.cells #[.string x0, .string x1, .string x2] 9)) := by (repeat (first | exact Below.refl _ _ | refine blw_alloc ?_ _ | refine blw_drew ?_ | refine blw_rg ?_ _ | refine blw_call (by assumption) ?_))
  have q0 := asd (new_cell w1 #[.string x0, .string x1, .string x2] 9 1 _ rfl)
  have q1 := asd (new_cell w1 #[.string x0, .string x1, .string x2] 9 2 _ rfl)
  have hlt := asd (new_lt w1 (.cells #[.string x0, .string x1, .string x2] 9))
  go_wp2_with (go_at_call 43; (first | ((with_reducible (refine (hat _ (hE.below hb2)).mono ?_)); rintro e w3 ⟨v1, N1, rfl, hb3⟩; have q2 := ((bcell hb3).1 w1.heap.size 2 hlt.out).trans q1.out) | ((with_reducible (refine (atoi_w x2 h2 _ (hE.below (blw_call hb3 hb2))).mono ?_)); rintro e w4 ⟨v2, ev2, rfl, hb5⟩)))
  have hb4 : Below w.heap.size w w3 := blw_call hb3 hb2
  have hb6 : Below w.heap.size w w4 := blw_call hb5 hb4
  clear q2 q1 q0
  ((with_reducible refine wp_region_rg (by kernel_rfl) (by kernel_rfl) ?_); (repeat (first | go_big_quiet_step (fail) | quiet_step (fail))); refine wpQuiet_nil ?_; intro _ hw'; obtain ⟨prg, hw''⟩ := hw'; subst hw'')
  go_wp2
  go_returns
  exact ⟨head_none HN.out, by (repeat (first | exact Below.refl _ _ | refine blw_alloc ?_ _ | refine blw_drew ?_ | refine blw_rg ?_ _ | refine blw_call (by assumption) ?_))⟩
theorem head_e (s : ByteArray) (a b : List UInt8) (x0 x1 x2 : ByteArray) (h2 : x2.size ≤ 1000000) (w : World) (hE : EnvB w)
    (hcut : Calls Tryd.prog 80 #[.string s, .string nlS] w fun e w' => e = .returned (.tuple #[.string ⟨a.toArray⟩, .string ⟨b.toArray⟩, .bool true]) ∧ Below w.heap.size w w')
    (hsp : ∀ w, EnvB w → Calls Tryd.prog 41 #[.string ⟨a.toArray⟩, .string spS] w fun e w' => e = .returned (.slice (some ⟨w.heap.size, 0, none⟩) 3 3) ∧ w' = w.alloc (.cells #[.string x0, .string x1, .string x2] 9))
    (hp : (x0.toList == ([112, 97, 103, 101, 115] : List UInt8)) = true) (n : Int)
    (hat : ∀ w, Calls Tryd.prog 43 #[.string x1] w fun e w' => e = .returned (.tuple #[.int .i64 n, .nilIface]) ∧ Below w.heap.size w w')
    (hbt : ∀ w, EnvB w → Calls Tryd.prog 43 #[.string x2] w (AtoiBad w)) (HN : Hid (headL (by_ s) = none)) : Calls Tryd.prog 51 #[.string s] w fun e w' => e = .returned (headV (headL (by_ s))) ∧ Below w.heap.size w w' := by
  go_enter Tryd.func51, Tryd.ntmps51
  go_wp2_with (go_at_call 80; refine hcut.mono ?_; rintro e w1 ⟨rfl, hb1⟩)
  go_wp2_with (go_at_call 41; refine (hsp _ (hE.below hb1)).mono ?_; rintro e w2 ⟨rfl, rfl⟩)
  have hb2 : Below w.heap.size w (w1.alloc (.cells #[.string x0, .string x1, .string x2] 9)) := by (repeat (first | exact Below.refl _ _ | refine blw_alloc ?_ _ | refine blw_drew ?_ | refine blw_rg ?_ _ | refine blw_call (by assumption) ?_))
  have q0 := asd (new_cell w1 #[.string x0, .string x1, .string x2] 9 1 _ rfl)
  have q1 := asd (new_cell w1 #[.string x0, .string x1, .string x2] 9 2 _ rfl)
  have hlt := asd (new_lt w1 (.cells #[.string x0, .string x1, .string x2] 9))
  go_wp2_with (go_at_call 43; (first | ((with_reducible (refine (hat _).mono ?_)); rintro e w3 ⟨rfl, hb3⟩; have q2 := ((bcell hb3).1 w1.heap.size 2 hlt.out).trans q1.out) | ((with_reducible (refine (hbt _ (hE.below (blw_call hb3 hb2))).mono ?_)); rintro e w4 ⟨v2, N2, rfl, hb5⟩)))
  have hb4 : Below w.heap.size w w3 := blw_call hb3 hb2
  have hb6 : Below w.heap.size w w4 := blw_call hb5 hb4
  clear q2 q1 q0
  ((with_reducible refine wp_region_rg (by kernel_rfl) (by kernel_rfl) ?_); (repeat (first | go_big_quiet_step (fail) | quiet_step (fail))); refine wpQuiet_nil ?_; intro _ hw'; obtain ⟨prg, hw''⟩ := hw'; subst hw'')
  go_wp2
  go_returns
  exact ⟨head_none HN.out, by (repeat (first | exact Below.refl _ _ | refine blw_alloc ?_ _ | refine blw_drew ?_ | refine blw_rg ?_ _ | refine blw_call (by assumption) ?_))⟩
theorem head_f (s : ByteArray) (a b : List UInt8) (x0 x1 x2 : ByteArray) (h2 : x2.size ≤ 1000000) (w : World) (hE : EnvB w)
    (hcut : Calls Tryd.prog 80 #[.string s, .string nlS] w fun e w' => e = .returned (.tuple #[.string ⟨a.toArray⟩, .string ⟨b.toArray⟩, .bool true]) ∧ Below w.heap.size w w')
    (hsp : ∀ w, EnvB w → Calls Tryd.prog 41 #[.string ⟨a.toArray⟩, .string spS] w fun e w' => e = .returned (.slice (some ⟨w.heap.size, 0, none⟩) 3 3) ∧ w' = w.alloc (.cells #[.string x0, .string x1, .string x2] 9))
    (hp : (x0.toList == ([112, 97, 103, 101, 115] : List UInt8)) = true)
    (n t : Int) (y1 y2 : ByteArray)
    (hat : ∀ w, Calls Tryd.prog 43 #[.string x1] w fun e w' => e = .returned (.tuple #[.int .i64 n, .nilIface]) ∧ Below w.heap.size w w')
    (hbt : ∀ w, Calls Tryd.prog 43 #[.string x2] w fun e w' => e = .returned (.tuple #[.int .i64 t, .nilIface]) ∧ Below w.heap.size w w')
    (hit : ∀ w, EnvB w → Calls Tryd.prog 40 #[.int .i64 n] w fun e w' => e = .returned (.string y1) ∧ Below w.heap.size w w')
    (hjt : ∀ w, EnvB w → Calls Tryd.prog 40 #[.int .i64 t] w fun e w' => e = .returned (.string y2) ∧ Below w.heap.size w w') (g1 : (y1.toList == x1.toList) = false) (HN : Hid (headL (by_ s) = none)) : Calls Tryd.prog 51 #[.string s] w fun e w' => e = .returned (headV (headL (by_ s))) ∧ Below w.heap.size w w' := by
  go_enter Tryd.func51, Tryd.ntmps51
  go_wp2_with (go_at_call 80; refine hcut.mono ?_; rintro e w1 ⟨rfl, hb1⟩)
  go_wp2_with (go_at_call 41; refine (hsp _ (hE.below hb1)).mono ?_; rintro e w2 ⟨rfl, rfl⟩)
  have hb2 : Below w.heap.size w (w1.alloc (.cells #[.string x0, .string x1, .string x2] 9)) := by (repeat (first | exact Below.refl _ _ | refine blw_alloc ?_ _ | refine blw_drew ?_ | refine blw_rg ?_ _ | refine blw_call (by assumption) ?_))
  have q0 := asd (new_cell w1 #[.string x0, .string x1, .string x2] 9 1 _ rfl)
  have q1 := asd (new_cell w1 #[.string x0, .string x1, .string x2] 9 2 _ rfl)
  have hlt := asd (new_lt w1 (.cells #[.string x0, .string x1, .string x2] 9))
  go_wp2_with (go_at_call 43; (first | ((with_reducible (refine (hat _).mono ?_)); rintro e w3 ⟨rfl, hb3⟩; have q2 := ((bcell hb3).1 w1.heap.size 2 hlt.out).trans q1.out) | ((with_reducible (refine (hbt _).mono ?_)); rintro e w4 ⟨rfl, hb5⟩)))
  have hb4 : Below w.heap.size w w3 := blw_call hb3 hb2
  have hb6 : Below w.heap.size w w4 := blw_call hb5 hb4
  have r1 := (((bcell hb5).1 w1.heap.size 1 (Nat.lt_of_lt_of_le hlt.out hb3.size)).trans ((bcell hb3).1 w1.heap.size 1 hlt.out)).trans q0.out
  have r2 := ((bcell hb5).1 w1.heap.size 2 (Nat.lt_of_lt_of_le hlt.out hb3.size)).trans q2
  clear q2 q1 q0 hlt
  have s1 := rg_cell r1
  have s2 := rg_cell r2
  clear r1 r2
  ((with_reducible refine wp_region_rg (by kernel_rfl) (by kernel_rfl) ?_); (repeat (first | go_big_quiet_step ((first | (go_at_call 40; with_reducible exact rg_of (hit _ ((hE.below hb6).below (rg_below _ _)))) | (go_at_call 40; with_reducible exact rg_of (hjt _ ((hE.below hb6).below (rg_below _ _)))))) | quiet_step ((first | (go_at_call 40; with_reducible exact rg_of (hit _ ((hE.below hb6).below (rg_below _ _)))) | (go_at_call 40; with_reducible exact rg_of (hjt _ ((hE.below hb6).below (rg_below _ _)))))))); refine wpQuiet_nil ?_; intro _ hw'; obtain ⟨prg, hw''⟩ := hw'; subst hw'')
  clear s1 s2
  go_wp2
  go_returns
  exact ⟨head_none HN.out, by (repeat (first | exact Below.refl _ _ | refine blw_alloc ?_ _ | refine blw_drew ?_ | refine blw_rg ?_ _ | refine blw_call (by assumption) ?_))⟩
theorem head_g (s : ByteArray) (a b : List UInt8) (x0 x1 x2 : ByteArray) (h2 : x2.size ≤ 1000000) (w : World) (hE : EnvB w)
    (hcut : Calls Tryd.prog 80 #[.string s, .string nlS] w fun e w' => e = .returned (.tuple #[.string ⟨a.toArray⟩, .string ⟨b.toArray⟩, .bool true]) ∧ Below w.heap.size w w')
    (hsp : ∀ w, EnvB w → Calls Tryd.prog 41 #[.string ⟨a.toArray⟩, .string spS] w fun e w' => e = .returned (.slice (some ⟨w.heap.size, 0, none⟩) 3 3) ∧ w' = w.alloc (.cells #[.string x0, .string x1, .string x2] 9))
    (hp : (x0.toList == ([112, 97, 103, 101, 115] : List UInt8)) = true)
    (n t : Int) (y1 y2 : ByteArray)
    (hat : ∀ w, Calls Tryd.prog 43 #[.string x1] w fun e w' => e = .returned (.tuple #[.int .i64 n, .nilIface]) ∧ Below w.heap.size w w')
    (hbt : ∀ w, Calls Tryd.prog 43 #[.string x2] w fun e w' => e = .returned (.tuple #[.int .i64 t, .nilIface]) ∧ Below w.heap.size w w')
    (hit : ∀ w, EnvB w → Calls Tryd.prog 40 #[.int .i64 n] w fun e w' => e = .returned (.string y1) ∧ Below w.heap.size w w')
    (hjt : ∀ w, EnvB w → Calls Tryd.prog 40 #[.int .i64 t] w fun e w' => e = .returned (.string y2) ∧ Below w.heap.size w w') (g1 : (y1.toList == x1.toList) = true) (g2 : (y2.toList == x2.toList) = false) (HN : Hid (headL (by_ s) = none)) : Calls Tryd.prog 51 #[.string s] w fun e w' => e = .returned (headV (headL (by_ s))) ∧ Below w.heap.size w w' := by
  go_enter Tryd.func51, Tryd.ntmps51
  go_wp2_with (go_at_call 80; refine hcut.mono ?_; rintro e w1 ⟨rfl, hb1⟩)
  go_wp2_with (go_at_call 41; refine (hsp _ (hE.below hb1)).mono ?_; rintro e w2 ⟨rfl, rfl⟩)
  have hb2 : Below w.heap.size w (w1.alloc (.cells #[.string x0, .string x1, .string x2] 9)) := by (repeat (first | exact Below.refl _ _ | refine blw_alloc ?_ _ | refine blw_drew ?_ | refine blw_rg ?_ _ | refine blw_call (by assumption) ?_))
  have q0 := asd (new_cell w1 #[.string x0, .string x1, .string x2] 9 1 _ rfl)
  have q1 := asd (new_cell w1 #[.string x0, .string x1, .string x2] 9 2 _ rfl)
  have hlt := asd (new_lt w1 (.cells #[.string x0, .string x1, .string x2] 9))
  go_wp2_with (go_at_call 43; (first | ((with_reducible (refine (hat _).mono ?_)); rintro e w3 ⟨rfl, hb3⟩; have q2 := ((bcell hb3).1 w1.heap.size 2 hlt.out).trans q1.out) | ((with_reducible (refine (hbt _).mono ?_)); rintro e w4 ⟨rfl, hb5⟩)))
  have hb4 : Below w.heap.size w w3 := blw_call hb3 hb2
  have hb6 : Below w.heap.size w w4 := blw_call hb5 hb4
  have r1 := (((bcell hb5).1 w1.heap.size 1 (Nat.lt_of_lt_of_le hlt.out hb3.size)).trans ((bcell hb3).1 w1.heap.size 1 hlt.out)).trans q0.out
  have r2 := ((bcell hb5).1 w1.heap.size 2 (Nat.lt_of_lt_of_le hlt.out hb3.size)).trans q2
  clear q2 q1 q0 hlt
  have s1 := rg_cell r1
  have s2 := rg_cell r2
  clear r1 r2
  ((with_reducible refine wp_region_rg (by kernel_rfl) (by kernel_rfl) ?_); (repeat (first | go_big_quiet_step ((first | (go_at_call 40; with_reducible exact rg_of (hit _ ((hE.below hb6).below (rg_below _ _)))) | (go_at_call 40; with_reducible exact rg_of (hjt _ ((hE.below hb6).below (rg_below _ _)))))) | quiet_step ((first | (go_at_call 40; with_reducible exact rg_of (hit _ ((hE.below hb6).below (rg_below _ _)))) | (go_at_call 40; with_reducible exact rg_of (hjt _ ((hE.below hb6).below (rg_below _ _)))))))); refine wpQuiet_nil ?_; intro _ hw'; obtain ⟨prg, hw''⟩ := hw'; subst hw'')
  clear s1 s2
  go_wp2
  go_returns
  exact ⟨head_none HN.out, by (repeat (first | exact Below.refl _ _ | refine blw_alloc ?_ _ | refine blw_drew ?_ | refine blw_rg ?_ _ | refine blw_call (by assumption) ?_))⟩
theorem head_h (s : ByteArray) (a b : List UInt8) (x0 x1 x2 : ByteArray) (h2 : x2.size ≤ 1000000) (w : World) (hE : EnvB w)
    (hcut : Calls Tryd.prog 80 #[.string s, .string nlS] w fun e w' => e = .returned (.tuple #[.string ⟨a.toArray⟩, .string ⟨b.toArray⟩, .bool true]) ∧ Below w.heap.size w w')
    (hsp : ∀ w, EnvB w → Calls Tryd.prog 41 #[.string ⟨a.toArray⟩, .string spS] w fun e w' => e = .returned (.slice (some ⟨w.heap.size, 0, none⟩) 3 3) ∧ w' = w.alloc (.cells #[.string x0, .string x1, .string x2] 9))
    (hp : (x0.toList == ([112, 97, 103, 101, 115] : List UInt8)) = true)
    (n t : Int) (y1 y2 : ByteArray)
    (hat : ∀ w, Calls Tryd.prog 43 #[.string x1] w fun e w' => e = .returned (.tuple #[.int .i64 n, .nilIface]) ∧ Below w.heap.size w w')
    (hbt : ∀ w, Calls Tryd.prog 43 #[.string x2] w fun e w' => e = .returned (.tuple #[.int .i64 t, .nilIface]) ∧ Below w.heap.size w w')
    (hit : ∀ w, EnvB w → Calls Tryd.prog 40 #[.int .i64 n] w fun e w' => e = .returned (.string y1) ∧ Below w.heap.size w w')
    (hjt : ∀ w, EnvB w → Calls Tryd.prog 40 #[.int .i64 t] w fun e w' => e = .returned (.string y2) ∧ Below w.heap.size w w') (g1 : (y1.toList == x1.toList) = true) (g2 : (y2.toList == x2.toList) = true) (g3 : decide (n < 0) = true) (HN : Hid (headL (by_ s) = none)) : Calls Tryd.prog 51 #[.string s] w fun e w' => e = .returned (headV (headL (by_ s))) ∧ Below w.heap.size w w' := by
  go_enter Tryd.func51, Tryd.ntmps51
  go_wp2_with (go_at_call 80; refine hcut.mono ?_; rintro e w1 ⟨rfl, hb1⟩)
  go_wp2_with (go_at_call 41; refine (hsp _ (hE.below hb1)).mono ?_; rintro e w2 ⟨rfl, rfl⟩)
  have hb2 : Below w.heap.size w (w1.alloc (.cells #[.string x0, .string x1, .string x2] 9)) := by (repeat (first | exact Below.refl _ _ | refine blw_alloc ?_ _ | refine blw_drew ?_ | refine blw_rg ?_ _ | refine blw_call (by assumption) ?_))
  have q0 := asd (new_cell w1 #[.string x0, .string x1, .string x2] 9 1 _ rfl)
  have q1 := asd (new_cell w1 #[.string x0, .string x1, .string x2] 9 2 _ rfl)
  have hlt := asd (new_lt w1 (.cells #[.string x0, .string x1, .string x2] 9))
  go_wp2_with (go_at_call 43; (first | ((with_reducible (refine (hat _).mono ?_)); rintro e w3 ⟨rfl, hb3⟩; have q2 := ((bcell hb3).1 w1.heap.size 2 hlt.out).trans q1.out) | ((with_reducible (refine (hbt _).mono ?_)); rintro e w4 ⟨rfl, hb5⟩)))
  have hb4 : Below w.heap.size w w3 := blw_call hb3 hb2
  have hb6 : Below w.heap.size w w4 := blw_call hb5 hb4
  have r1 := (((bcell hb5).1 w1.heap.size 1 (Nat.lt_of_lt_of_le hlt.out hb3.size)).trans ((bcell hb3).1 w1.heap.size 1 hlt.out)).trans q0.out
  have r2 := ((bcell hb5).1 w1.heap.size 2 (Nat.lt_of_lt_of_le hlt.out hb3.size)).trans q2
  clear q2 q1 q0 hlt
  have s1 := rg_cell r1
  have s2 := rg_cell r2
  clear r1 r2
  ((with_reducible refine wp_region_rg (by kernel_rfl) (by kernel_rfl) ?_); (repeat (first | go_big_quiet_step ((first | (go_at_call 40; with_reducible exact rg_of (hit _ ((hE.below hb6).below (rg_below _ _)))) | (go_at_call 40; with_reducible exact rg_of (hjt _ ((hE.below hb6).below (rg_below _ _)))))) | quiet_step ((first | (go_at_call 40; with_reducible exact rg_of (hit _ ((hE.below hb6).below (rg_below _ _)))) | (go_at_call 40; with_reducible exact rg_of (hjt _ ((hE.below hb6).below (rg_below _ _)))))))); refine wpQuiet_nil ?_; intro _ hw'; obtain ⟨prg, hw''⟩ := hw'; subst hw'')
  clear s1 s2
  go_wp2
  go_returns
  exact ⟨head_none HN.out, by (repeat (first | exact Below.refl _ _ | refine blw_alloc ?_ _ | refine blw_drew ?_ | refine blw_rg ?_ _ | refine blw_call (by assumption) ?_))⟩
theorem head_i (s : ByteArray) (a b : List UInt8) (x0 x1 x2 : ByteArray) (h2 : x2.size ≤ 1000000) (w : World) (hE : EnvB w)
    (hcut : Calls Tryd.prog 80 #[.string s, .string nlS] w fun e w' => e = .returned (.tuple #[.string ⟨a.toArray⟩, .string ⟨b.toArray⟩, .bool true]) ∧ Below w.heap.size w w')
    (hsp : ∀ w, EnvB w → Calls Tryd.prog 41 #[.string ⟨a.toArray⟩, .string spS] w fun e w' => e = .returned (.slice (some ⟨w.heap.size, 0, none⟩) 3 3) ∧ w' = w.alloc (.cells #[.string x0, .string x1, .string x2] 9))
    (hp : (x0.toList == ([112, 97, 103, 101, 115] : List UInt8)) = true)
    (n t : Int) (y1 y2 : ByteArray)
    (hat : ∀ w, Calls Tryd.prog 43 #[.string x1] w fun e w' => e = .returned (.tuple #[.int .i64 n, .nilIface]) ∧ Below w.heap.size w w')
    (hbt : ∀ w, Calls Tryd.prog 43 #[.string x2] w fun e w' => e = .returned (.tuple #[.int .i64 t, .nilIface]) ∧ Below w.heap.size w w')
    (hit : ∀ w, EnvB w → Calls Tryd.prog 40 #[.int .i64 n] w fun e w' => e = .returned (.string y1) ∧ Below w.heap.size w w')
    (hjt : ∀ w, EnvB w → Calls Tryd.prog 40 #[.int .i64 t] w fun e w' => e = .returned (.string y2) ∧ Below w.heap.size w w') (g1 : (y1.toList == x1.toList) = true) (g2 : (y2.toList == x2.toList) = true) (g3 : decide (n < 0) = false) (g4 : decide (64 < n) = true) (HN : Hid (headL (by_ s) = none)) : Calls Tryd.prog 51 #[.string s] w fun e w' => e = .returned (headV (headL (by_ s))) ∧ Below w.heap.size w w' := by
  go_enter Tryd.func51, Tryd.ntmps51
  go_wp2_with (go_at_call 80; refine hcut.mono ?_; rintro e w1 ⟨rfl, hb1⟩)
  go_wp2_with (go_at_call 41; refine (hsp _ (hE.below hb1)).mono ?_; rintro e w2 ⟨rfl, rfl⟩)
  have hb2 : Below w.heap.size w (w1.alloc (.cells #[.string x0, .string x1, .string x2] 9)) := by (repeat (first | exact Below.refl _ _ | refine blw_alloc ?_ _ | refine blw_drew ?_ | refine blw_rg ?_ _ | refine blw_call (by assumption) ?_))
  have q0 := asd (new_cell w1 #[.string x0, .string x1, .string x2] 9 1 _ rfl)
  have q1 := asd (new_cell w1 #[.string x0, .string x1, .string x2] 9 2 _ rfl)
  have hlt := asd (new_lt w1 (.cells #[.string x0, .string x1, .string x2] 9))
  go_wp2_with (go_at_call 43; (first | ((with_reducible (refine (hat _).mono ?_)); rintro e w3 ⟨rfl, hb3⟩; have q2 := ((bcell hb3).1 w1.heap.size 2 hlt.out).trans q1.out) | ((with_reducible (refine (hbt _).mono ?_)); rintro e w4 ⟨rfl, hb5⟩)))
  have hb4 : Below w.heap.size w w3 := blw_call hb3 hb2
  have hb6 : Below w.heap.size w w4 := blw_call hb5 hb4
  have r1 := (((bcell hb5).1 w1.heap.size 1 (Nat.lt_of_lt_of_le hlt.out hb3.size)).trans ((bcell hb3).1 w1.heap.size 1 hlt.out)).trans q0.out
  have r2 := ((bcell hb5).1 w1.heap.size 2 (Nat.lt_of_lt_of_le hlt.out hb3.size)).trans q2
  clear q2 q1 q0 hlt
  have s1 := rg_cell r1
  have s2 := rg_cell r2
  clear r1 r2
  ((with_reducible refine wp_region_rg (by kernel_rfl) (by kernel_rfl) ?_); (repeat (first | go_big_quiet_step ((first | (go_at_call 40; with_reducible exact rg_of (hit _ ((hE.below hb6).below (rg_below _ _)))) | (go_at_call 40; with_reducible exact rg_of (hjt _ ((hE.below hb6).below (rg_below _ _)))))) | quiet_step ((first | (go_at_call 40; with_reducible exact rg_of (hit _ ((hE.below hb6).below (rg_below _ _)))) | (go_at_call 40; with_reducible exact rg_of (hjt _ ((hE.below hb6).below (rg_below _ _)))))))); refine wpQuiet_nil ?_; intro _ hw'; obtain ⟨prg, hw''⟩ := hw'; subst hw'')
  clear s1 s2
  go_wp2
  go_returns
  exact ⟨head_none HN.out, by (repeat (first | exact Below.refl _ _ | refine blw_alloc ?_ _ | refine blw_drew ?_ | refine blw_rg ?_ _ | refine blw_call (by assumption) ?_))⟩
end Go.Proofs.YthfdlfdbjiofhaaDoor
