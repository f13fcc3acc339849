/- The head of a book, walked: the good lines. -/
import Derived.Test.YthfdlfdbjiofhaaDoorB7
set_option linter.unusedVariables false
set_option linter.unusedSimpArgs false
namespace Go.Proofs.YthfdlfdbjiofhaaDoor
open Go.RowKit
set_option maxRecDepth 20000
set_option maxHeartbeats 4000000
theorem rd_one (W : World) (x : Int) (e : TypeId) : Rd (W.alloc (.cells #[.int .i64 x] e)) encInt 1 (some ⟨W.heap.size, 0, none⟩) [x] := by
  refine ⟨by simp, fun _ => ⟨_, 0, rfl, by simp, fun j hj i u hu => ?_⟩⟩
  rw [World.cell?_alloc_new]
  simp at hj
  subst hj
  rcases i with _ | i
  · exact hu
  · cases hu
def HeldE (b : Nat) (x1 x2 : ByteArray) (v : World) : Prop := v.cell? ⟨b, 1, none⟩ = some (.string x1) ∧ v.cell? ⟨b, 2, none⟩ = some (.string x2) ∧ EnvB v ∧ b < v.heap.size
theorem heldE {b : Nat} {x1 x2 : ByteArray} {v v' : World} (hb : Below v.heap.size v v') (h : HeldE b x1 x2 v) : HeldE b x1 x2 v' :=
  ⟨((bcell hb).1 _ _ h.2.2.2).trans h.1, ((bcell hb).1 _ _ h.2.2.2).trans h.2.1, h.2.2.1.below hb, Nat.lt_of_lt_of_le h.2.2.2 hb.size⟩
theorem head_j (s : ByteArray) (a b : List UInt8) (x0 x1 x2 : ByteArray) (h2 : x2.size ≤ 1000000) (w : World) (hE : EnvB w)
    (hcut : Calls Tryd.prog 80 #[.string s, .string nlS] w fun e w' => e = .returned (.tuple #[.string ⟨a.toArray⟩, .string ⟨b.toArray⟩, .bool true]) ∧ Below w.heap.size w w')
    (hsp : ∀ w, EnvB w → Calls Tryd.prog 41 #[.string ⟨a.toArray⟩, .string spS] w fun e w' => e = .returned (.slice (some ⟨w.heap.size, 0, none⟩) 3 3) ∧ w' = w.alloc (.cells #[.string x0, .string x1, .string x2] 9))
    (hp : (x0.toList == ([112, 97, 103, 101, 115] : List UInt8)) = true)
    (n t : Int) (y1 y2 : ByteArray)
    (hat : ∀ w, Calls Tryd.prog 43 #[.string x1] w fun e w' => e = .returned (.tuple #[.int .i64 n, .nilIface]) ∧ Below w.heap.size w w')
    (hbt : ∀ w, Calls Tryd.prog 43 #[.string x2] w fun e w' => e = .returned (.tuple #[.int .i64 t, .nilIface]) ∧ Below w.heap.size w w')
    (hit : ∀ w, EnvB w → Calls Tryd.prog 40 #[.int .i64 n] w fun e w' => e = .returned (.string y1) ∧ Below w.heap.size w w')
    (hjt : ∀ w, EnvB w → Calls Tryd.prog 40 #[.int .i64 t] w fun e w' => e = .returned (.string y2) ∧ Below w.heap.size w w') (g1 : (y1.toList == x1.toList) = true) (g2 : (y2.toList == x2.toList) = true) (g3 : decide (n < 0) = false) (g4 : decide (64 < n) = false) (hr : [t].all sumB = false) (HN : Hid (headL (by_ s) = none)) : Calls Tryd.prog 51 #[.string s] w fun e w' => e = .returned (headV (headL (by_ s))) ∧ Below w.heap.size w w' := by
  go_enter Tryd.func51, Tryd.ntmps51
  go_wp2_with (go_at_call 80; refine hcut.mono ?_; rintro e w1 ⟨rfl, hb1⟩)
  go_wp2_with (go_at_call 41; refine (hsp _ (hE.below hb1)).mono ?_; rintro e w2 ⟨rfl, rfl⟩)
  have hb2 : Below w.heap.size w (w1.alloc (.cells #[.string x0, .string x1, .string x2] 9)) := by (repeat (first | exact Below.refl _ _ | refine blw_alloc ?_ _ | refine blw_drew ?_ | refine blw_rg ?_ _ | refine blw_call (by assumption) ?_))
  have q0 := asd (new_cell w1 #[.string x0, .string x1, .string x2] 9 1 _ rfl)
  have q1 := asd (new_cell w1 #[.string x0, .string x1, .string x2] 9 2 _ rfl)
  have hlt := asd (new_lt w1 (.cells #[.string x0, .string x1, .string x2] 9))
  go_wp2_with (go_at_call 43; (first | ((with_reducible (refine (hat _).mono ?_)); rintro e w3 ⟨rfl, hb3⟩; have q2 := ((bcell hb3).1 w1.heap.size 2 hlt.out).trans q1.out) | ((with_reducible (refine (hbt _).mono ?_)); rintro e w4 ⟨rfl, hb5⟩)))
  have hb4 : Below w.heap.size w w3 := blw_call hb3 hb2
  have hb6 : Below w.heap.size w w4 := blw_call hb5 hb4
  have r1 := (((bcell hb5).1 w1.heap.size 1 (Nat.lt_of_lt_of_le hlt.out hb3.size)).trans ((bcell hb3).1 w1.heap.size 1 hlt.out)).trans q0.out
  have r2 := ((bcell hb5).1 w1.heap.size 2 (Nat.lt_of_lt_of_le hlt.out hb3.size)).trans q2
  clear q2 q1 q0
  have h3 := fun W => isSum_any [t] (some ⟨W.heap.size, 0, none⟩) 1 (W.alloc (.cells #[.int .i64 t] 3)) (rd_one W t _)
  rw [hr] at h3
  obtain ⟨v1, v2, v3, v4⟩ : HeldE w1.heap.size x1 x2 w4.drew := ⟨r1, r2, (hE.below hb6).below (blw_drew (Below.refl _ _)), Nat.lt_of_lt_of_le hlt.out (hb5.mono hb3.size |> fun h => Nat.le_trans hb3.size hb5.size)⟩
  clear r1 r2 hlt hr hat hbt hsp hcut
  go_region_held3 (fun v => v.cell? ⟨w1.heap.size, 1, none⟩ = some (.string x1) ∧ v.cell? ⟨w1.heap.size, 2, none⟩ = some (.string x2) ∧ EnvB v ∧ w1.heap.size < v.heap.size) (first | exact ⟨v1, v2, v3, v4⟩ | exact ⟨u1, u2, u3, u4⟩ | exact ⟨z1, z2, z3, z4⟩ | exact heldE (by (repeat (first | exact Below.refl _ _ | refine blw_alloc ?_ _ | refine blw_drew ?_ | refine blw_rg ?_ _ | refine blw_call (by assumption) ?_))) ⟨z1, z2, z3, z4⟩) (first | (go_at_call 40; first | ((with_reducible (refine (hit _ v3).mono ?_)); rintro e w5 ⟨rfl, hb7⟩; obtain ⟨u1, u2, u3, u4⟩ := heldE hb7 ⟨v1, v2, v3, v4⟩) | ((with_reducible (refine (hjt _ u3).mono ?_)); rintro e w6 ⟨rfl, hb8⟩; obtain ⟨z1, z2, z3, z4⟩ := heldE hb8 ⟨u1, u2, u3, u4⟩)) | (go_at_call 47; refine (h3 _).mono ?_; rintro e w7 ⟨rfl, rfl⟩))
  have hb9 : Below w.heap.size w w5 := blw_call hb7 (by (repeat (first | exact Below.refl _ _ | refine blw_alloc ?_ _ | refine blw_drew ?_ | refine blw_rg ?_ _ | refine blw_call (by assumption) ?_)))
  have hb10 : Below w.heap.size w w6 := blw_call hb8 hb9
  go_wp2
  go_returns
  exact ⟨head_none HN.out, by (repeat (first | exact Below.refl _ _ | refine blw_alloc ?_ _ | refine blw_drew ?_ | refine blw_rg ?_ _ | refine blw_call (by assumption) ?_))⟩
theorem head_k (s : ByteArray) (a b : List UInt8) (x0 x1 x2 : ByteArray) (h2 : x2.size ≤ 1000000) (w : World) (hE : EnvB w)
    (hcut : Calls Tryd.prog 80 #[.string s, .string nlS] w fun e w' => e = .returned (.tuple #[.string ⟨a.toArray⟩, .string ⟨b.toArray⟩, .bool true]) ∧ Below w.heap.size w w')
    (hsp : ∀ w, EnvB w → Calls Tryd.prog 41 #[.string ⟨a.toArray⟩, .string spS] w fun e w' => e = .returned (.slice (some ⟨w.heap.size, 0, none⟩) 3 3) ∧ w' = w.alloc (.cells #[.string x0, .string x1, .string x2] 9))
    (hp : (x0.toList == ([112, 97, 103, 101, 115] : List UInt8)) = true)
    (n t : Int) (y1 y2 : ByteArray)
    (hat : ∀ w, Calls Tryd.prog 43 #[.string x1] w fun e w' => e = .returned (.tuple #[.int .i64 n, .nilIface]) ∧ Below w.heap.size w w')
    (hbt : ∀ w, Calls Tryd.prog 43 #[.string x2] w fun e w' => e = .returned (.tuple #[.int .i64 t, .nilIface]) ∧ Below w.heap.size w w')
    (hit : ∀ w, EnvB w → Calls Tryd.prog 40 #[.int .i64 n] w fun e w' => e = .returned (.string y1) ∧ Below w.heap.size w w')
    (hjt : ∀ w, EnvB w → Calls Tryd.prog 40 #[.int .i64 t] w fun e w' => e = .returned (.string y2) ∧ Below w.heap.size w w') (g1 : (y1.toList == x1.toList) = true) (g2 : (y2.toList == x2.toList) = true) (g3 : decide (n < 0) = false) (g4 : decide (64 < n) = false) (hr : [t].all sumB = true) (HN : Hid (headV (headL (by_ s)) = .tuple #[.int .i64 n, .int .i64 t, .string ⟨b.toArray⟩, .bool true])) : Calls Tryd.prog 51 #[.string s] w fun e w' => e = .returned (headV (headL (by_ s))) ∧ Below w.heap.size w w' := by
  go_enter Tryd.func51, Tryd.ntmps51
  go_wp2_with (go_at_call 80; refine hcut.mono ?_; rintro e w1 ⟨rfl, hb1⟩)
  go_wp2_with (go_at_call 41; refine (hsp _ (hE.below hb1)).mono ?_; rintro e w2 ⟨rfl, rfl⟩)
  have hb2 : Below w.heap.size w (w1.alloc (.cells #[.string x0, .string x1, .string x2] 9)) := by (repeat (first | exact Below.refl _ _ | refine blw_alloc ?_ _ | refine blw_drew ?_ | refine blw_rg ?_ _ | refine blw_call (by assumption) ?_))
  have q0 := asd (new_cell w1 #[.string x0, .string x1, .string x2] 9 1 _ rfl)
  have q1 := asd (new_cell w1 #[.string x0, .string x1, .string x2] 9 2 _ rfl)
  have hlt := asd (new_lt w1 (.cells #[.string x0, .string x1, .string x2] 9))
  go_wp2_with (go_at_call 43; (first | ((with_reducible (refine (hat _).mono ?_)); rintro e w3 ⟨rfl, hb3⟩; have q2 := ((bcell hb3).1 w1.heap.size 2 hlt.out).trans q1.out) | ((with_reducible (refine (hbt _).mono ?_)); rintro e w4 ⟨rfl, hb5⟩)))
  have hb4 : Below w.heap.size w w3 := blw_call hb3 hb2
  have hb6 : Below w.heap.size w w4 := blw_call hb5 hb4
  have r1 := (((bcell hb5).1 w1.heap.size 1 (Nat.lt_of_lt_of_le hlt.out hb3.size)).trans ((bcell hb3).1 w1.heap.size 1 hlt.out)).trans q0.out
  have r2 := ((bcell hb5).1 w1.heap.size 2 (Nat.lt_of_lt_of_le hlt.out hb3.size)).trans q2
  clear q2 q1 q0
  have h3 := fun W => isSum_any [t] (some ⟨W.heap.size, 0, none⟩) 1 (W.alloc (.cells #[.int .i64 t] 3)) (rd_one W t _)
  rw [hr] at h3
  obtain ⟨v1, v2, v3, v4⟩ : HeldE w1.heap.size x1 x2 w4.drew := ⟨r1, r2, (hE.below hb6).below (blw_drew (Below.refl _ _)), Nat.lt_of_lt_of_le hlt.out (hb5.mono hb3.size |> fun h => Nat.le_trans hb3.size hb5.size)⟩
  clear r1 r2 hlt hr hat hbt hsp hcut
  go_region_held3 (fun v => v.cell? ⟨w1.heap.size, 1, none⟩ = some (.string x1) ∧ v.cell? ⟨w1.heap.size, 2, none⟩ = some (.string x2) ∧ EnvB v ∧ w1.heap.size < v.heap.size) (first | exact ⟨v1, v2, v3, v4⟩ | exact ⟨u1, u2, u3, u4⟩ | exact ⟨z1, z2, z3, z4⟩ | exact heldE (by (repeat (first | exact Below.refl _ _ | refine blw_alloc ?_ _ | refine blw_drew ?_ | refine blw_rg ?_ _ | refine blw_call (by assumption) ?_))) ⟨z1, z2, z3, z4⟩) (first | (go_at_call 40; first | ((with_reducible (refine (hit _ v3).mono ?_)); rintro e w5 ⟨rfl, hb7⟩; obtain ⟨u1, u2, u3, u4⟩ := heldE hb7 ⟨v1, v2, v3, v4⟩) | ((with_reducible (refine (hjt _ u3).mono ?_)); rintro e w6 ⟨rfl, hb8⟩; obtain ⟨z1, z2, z3, z4⟩ := heldE hb8 ⟨u1, u2, u3, u4⟩)) | (go_at_call 47; refine (h3 _).mono ?_; rintro e w7 ⟨rfl, rfl⟩))
  have hb9 : Below w.heap.size w w5 := blw_call hb7 (by (repeat (first | exact Below.refl _ _ | refine blw_alloc ?_ _ | refine blw_drew ?_ | refine blw_rg ?_ _ | refine blw_call (by assumption) ?_)))
  have hb10 : Below w.heap.size w w6 := blw_call hb8 hb9
  go_wp2
  go_returns
  exact ⟨by rw [HN.out], by (repeat (first | exact Below.refl _ _ | refine blw_alloc ?_ _ | refine blw_drew ?_ | refine blw_rg ?_ _ | refine blw_call (by assumption) ?_))⟩

theorem strl_eq (l : List UInt8) (x : ByteArray) : ((⟨l.toArray⟩ : ByteArray).toList == x.toList) = decide (l = by_ x) := by
  rw [Lib.toList_data, Lib.toList_data, Bool.eq_iff_iff, beq_iff_eq, decide_eq_true_eq]
theorem head_any (s : ByteArray) (hs : s.size ≤ 1000000) (w : World) (hE : EnvB w) : Calls Tryd.prog 51 #[.string s] w fun e w' => e = .returned (headV (headL (by_ s))) ∧ Below w.heap.size w w' := by
  cases h : cutL (by_ s) with
  | none => exact head_a s hs w hE h
  | some x =>
    obtain ⟨a, b⟩ := x
    have hA : (⟨a.toArray⟩ : ByteArray).size ≤ 1000000 := by
      have h0 : (by_ s).length ≤ 1000000 := by simpa using hs
      rw [(cutL_some h).1] at h0
      show a.toArray.size ≤ _
      simp at h0 ⊢; omega
    by_cases h3 : (splitW a).length = 3
    case neg => exact head_b s hs w hE a b hA h h3
    obtain ⟨x0, x1, x2, h0, h1, h2, HH, hsp⟩ := three s hs w hE a b hA h h3
    have hcut := cut_yes s hs a b h w hE
    have hpq := pg_eq x0
    by_cases hpg : by_ x0 = pagesW
    case neg => exact head_c s a b x0 x1 x2 w hE hcut hsp hpg (Go.Lib.hid (by rw [HH, if_neg hpg]))
    rw [decide_eq_true hpg] at hpq
    rw [if_pos hpg] at HH
    by_cases ha1 : ∃ n, Lib.atoiAll (by_ x1) = .ok n
    case neg =>
      have ha1 : ∀ u, Lib.atoiAll (by_ x1) ≠ .ok u := fun u hu => ha1 ⟨u, hu⟩
      exact head_d s a b x0 x1 x2 h2 w hE hcut hsp hpq (atoi_bad x1 h1 ha1) (Go.Lib.hid (by rw [HH, numsD_bad1 ha1]))
    obtain ⟨n, ha1⟩ := ha1
    by_cases ha2 : ∃ n, Lib.atoiAll (by_ x2) = .ok n
    case neg =>
      have ha2 : ∀ u, Lib.atoiAll (by_ x2) ≠ .ok u := fun u hu => ha2 ⟨u, hu⟩
      exact head_e s a b x0 x1 x2 h2 w hE hcut hsp hpq n (atoi_ok x1 h1 n ha1) (atoi_bad x2 h2 ha2) (Go.Lib.hid (by rw [HH, numsD_bad2 ha2]))
    obtain ⟨t, ha2⟩ := ha2
    rw [numsD_ok ha1 ha2] at HH
    obtain ⟨n0, n1⟩ := Lib.atoiAll_bounds ha1
    obtain ⟨t0, t1⟩ := Lib.atoiAll_bounds ha2
    have k1 := atoi_ok x1 h1 n ha1
    have k2 := atoi_ok x2 h2 t ha2
    have k3 := itoa_w n n0 n1
    have k4 := itoa_w t t0 t1
    have e1 := strl_eq (Lib.itoa n) x1
    have e2 := strl_eq (Lib.itoa t) x2
    by_cases c1 : Lib.itoa n = by_ x1
    case neg =>
      rw [decide_eq_false c1] at e1
      exact head_f s a b x0 x1 x2 h2 w hE hcut hsp hpq n t _ _ k1 k2 k3 k4 e1 (Go.Lib.hid (by rw [HH, if_neg (fun h => c1 h.1)]))
    rw [decide_eq_true c1] at e1
    by_cases c2 : Lib.itoa t = by_ x2
    case neg =>
      rw [decide_eq_false c2] at e2
      exact head_g s a b x0 x1 x2 h2 w hE hcut hsp hpq n t _ _ k1 k2 k3 k4 e1 e2 (Go.Lib.hid (by rw [HH, if_neg (fun h => c2 h.2.1)]))
    rw [decide_eq_true c2] at e2
    by_cases c3 : n < 0
    · exact head_h s a b x0 x1 x2 h2 w hE hcut hsp hpq n t _ _ k1 k2 k3 k4 e1 e2 (decide_eq_true c3) (Go.Lib.hid (by rw [HH, if_neg (fun h => by omega)]))
    by_cases c4 : 64 < n
    · exact head_i s a b x0 x1 x2 h2 w hE hcut hsp hpq n t _ _ k1 k2 k3 k4 e1 e2 (decide_eq_false c3) (decide_eq_true c4) (Go.Lib.hid (by rw [HH, if_neg (fun h => by omega)]))
    by_cases c5 : sumB t = true
    case neg =>
      exact head_j s a b x0 x1 x2 h2 w hE hcut hsp hpq n t _ _ k1 k2 k3 k4 e1 e2 (decide_eq_false c3) (decide_eq_false c4) (by simpa using c5) (Go.Lib.hid (by rw [HH, if_neg (fun h => c5 h.2.2.2.2)]))
    have c6 := sumB_iff.1 c5
    exact head_k s a b x0 x1 x2 h2 w hE hcut hsp hpq n t _ _ k1 k2 k3 k4 e1 e2 (decide_eq_false c3) (decide_eq_false c4) (by simpa using c5) (Go.Lib.hid (by
      rw [HH, if_pos ⟨c1, c2, by omega, by omega, c5⟩]
      show Value.tuple #[.int .i64 (n.toNat : Nat), .int .i64 (t.toNat : Nat), .string ⟨b.toArray⟩, .bool true] = _
      rw [Int.toNat_of_nonneg (by omega), Int.toNat_of_nonneg c6.1]))
end Go.Proofs.YthfdlfdbjiofhaaDoor
