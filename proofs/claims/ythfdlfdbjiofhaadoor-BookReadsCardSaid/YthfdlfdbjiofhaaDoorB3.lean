/- Leaf, Join, Root, common of the program; known; what the library's variables hold; next. -/
import Derived.Test.YthfdlfdbjiofhaaDoorB2
set_option linter.unusedVariables false
set_option linter.unusedSimpArgs false
namespace Go.Proofs.YthfdlfdbjiofhaaDoor
open Go.RowKit
theorem Leaf_ok (s : ByteArray) (h : pageL (by_ s) = true) (hs : s.size ≤ 1000000) (w : World) : Calls Tryd.prog 23 #[.string s] w fun e w' => e = .returned (.tuple #[.int .i64 (leafL (by_ s)), .int .i64 0]) ∧ Below w.heap.size w w' := by
  have h1 := fun W => page_any s W
  rw [show pageL s.data.toList = true from h] at h1
  have h2 := fun W => leaf_any s hs W
  clear h
  generalize leafL s.data.toList = y at *
  go_enter Tryd.func23, Tryd.ntmps23
  go_wp2_with (first | (go_at_call 45; refine (h1 _).mono ?_; rintro e w' ⟨rfl, hb1⟩) | (go_at_call 46; refine (h2 _).mono ?_; rintro e w' ⟨rfl, hb2⟩))
  go_ret2
  exact ⟨rfl, by (repeat (first | exact Below.refl _ _ | refine blw_alloc ?_ _ | refine blw_drew ?_ | refine blw_rg ?_ _ | refine blw_call (by assumption) ?_))⟩
theorem rd_two (W : World) (x y : Int) (e : TypeId) : Rd (W.alloc (.cells #[.int .i64 x, .int .i64 y] e)) encInt 1 (some ⟨W.heap.size, 0, none⟩) [x, y] := by
  refine ⟨by simp, fun _ => ⟨_, 0, rfl, by simp, fun j hj i u hu => ?_⟩⟩
  rw [World.cell?_alloc_new]
  simp at hj
  rcases (by omega : j = 0 ∨ j = 1) with rfl | rfl
  all_goals
    rcases i with _ | i
    · exact hu
    · exact absurd hu (by simp [encInt])
theorem Join_ok (x y : Int) (hx : sumB x = true) (hy : sumB y = true) (w : World) : Calls Tryd.prog 24 #[.int .i64 x, .int .i64 y] w fun e w' => e = .returned (.tuple #[.int .i64 (joinZ x y), .int .i64 0]) ∧ Below w.heap.size w w' := by
  have h1 := isSum_any [x, y] (some ⟨w.heap.size, 0, none⟩) 2 (w.alloc (.cells #[.int .i64 x, .int .i64 y] 3)) (rd_two w x y _)
  rw [show [x, y].all sumB = true by simp [hx, hy]] at h1
  have h2 := fun W => join_any x y hx hy W
  clear hx hy
  generalize joinZ x y = z at *
  go_enter Tryd.func24, Tryd.ntmps24
  go_wp2_with (first | (go_at_call 47; refine h1.mono ?_; rintro e w' ⟨rfl, rfl⟩) | (go_at_call 48; refine (h2 _).mono ?_; rintro e w' ⟨rfl, rfl⟩))
  go_ret2
  exact ⟨rfl, by (repeat (first | exact Below.refl _ _ | refine blw_alloc ?_ _ | refine blw_drew ?_ | refine blw_rg ?_ _ | refine blw_call (by assumption) ?_))⟩
theorem Root_err (xs : List ByteArray) (la : Option Addr) (c : Nat) (w : World) (H : Rd w encStr 1 la xs) (he : validP (xs.map by_) ≠ 0) :
    Calls Tryd.prog 25 #[.slice la xs.length c] w fun e w' => e = .returned (.tuple #[.int .i64 0, .int .i64 (validP (xs.map by_))]) ∧ Below w.heap.size w w' := by
  have hv := vp_any xs la c w H
  have he2 : (validP (xs.map by_) != 0) = true := by rw [bne_iff_ne]; exact he
  clear H he
  generalize validP (xs.map by_) = e0 at *
  go_enter Tryd.func25, Tryd.ntmps25
  go_wp2_with (go_at_call 30; refine hv.mono ?_; rintro e w' ⟨rfl, hb1⟩)
  go_ret2
  exact ⟨rfl, by (repeat (first | exact Below.refl _ _ | refine blw_alloc ?_ _ | refine blw_drew ?_ | refine blw_rg ?_ _ | refine blw_call (by assumption) ?_))⟩
theorem valid_facts {xs : List ByteArray} (h : validP (xs.map by_) = 0) : xs.length ≤ 64 ∧ ∀ s ∈ xs, pageL (by_ s) = true := by
  unfold validP at h
  split at h
  · contradiction
  · split at h
    · rename_i h1 h2
      rw [List.all_map, List.all_eq_true] at h2
      exact ⟨by simpa using h1, h2⟩
    · contradiction
theorem page_size {s : ByteArray} (h : pageL (by_ s) = true) : 1 ≤ s.size ∧ s.size ≤ 60 := by
  unfold pageL at h
  simp only [Bool.and_eq_true, decide_eq_true_eq] at h
  have : (by_ s).length = s.size := by simp
  omega
theorem Root_ok (xs : List ByteArray) (la : Option Addr) (c : Nat) (w : World) (H : Rd w encStr 1 la xs) (he : validP (xs.map by_) = 0) :
    Calls Tryd.prog 25 #[.slice la xs.length c] w fun e w' => e = .returned (.tuple #[.int .i64 (rootL (leavesL xs)), .int .i64 0]) ∧ Below w.heap.size w w' := by
  obtain ⟨h64, hpg⟩ := valid_facts he
  have hv := vp_any xs la c w H
  rw [he] at hv
  have hl := fun W hW => leaves_any xs la c W (H.below hW) (fun s hs => by have := page_size (hpg s hs); omega)
  have hr := fun A cc W h1 h2 => root_any _ (leavesL xs) A cc W rfl (by simpa using h64) h1 h2 (leaves_bd xs)
  clear H he h64 hpg
  generalize leavesL xs = L at *
  generalize rootL L = z at *
  go_enter Tryd.func25, Tryd.ntmps25
  go_wp2_with (first | (go_at_call 30; refine hv.mono ?_; rintro e w' ⟨rfl, hb1⟩) | (go_at_call 50; refine (hl _ ?_).mono ?_; ((repeat (first | exact Below.refl _ _ | refine blw_alloc ?_ _ | refine blw_drew ?_ | refine blw_rg ?_ _ | refine blw_call (by assumption) ?_))); rintro e w2 ⟨A, cc, hcc, rfl, hrd, hb2⟩) | (go_at_call 49; refine (hr _ _ _ hcc hrd).mono ?_; rintro e w3 ⟨rfl, hb3⟩))
  go_ret2
  exact ⟨rfl, by (repeat (first | exact Below.refl _ _ | refine blw_alloc ?_ _ | refine blw_drew ?_ | refine blw_rg ?_ _ | refine blw_call (by assumption) ?_))⟩
theorem rd_a (W : World) (s : ByteArray) (e : TypeId) : Rd (W.alloc (.cells #[.string s] e)) encStr 1 (some ⟨W.heap.size, 0, none⟩) [s] := by
  refine ⟨by simp, fun _ => ⟨_, 0, rfl, by simp, fun j hj i u hu => ?_⟩⟩
  rw [World.cell?_alloc_new]
  simp at hj
  subst hj
  rcases i with _ | i
  · exact hu
  · exact absurd hu (by simp [encStr])
set_option maxRecDepth 20000 in
theorem known_any (w : World) : Calls Tryd.prog 7 #[] w fun e w' => e = .returned (.bool true) ∧ Below w.heap.size w w' := by
  have h1 := fun W => Leaf_ok ⟨#[97]⟩ (by decide) (by decide) W
  rw [show leafL (by_ ⟨#[97]⟩) = 355 by decide] at h1
  have h2 := fun W => Join_ok 1 2 (by decide) (by decide) W
  rw [show joinZ 1 2 = 81886 by decide] at h2
  have h3 := fun W => Root_ok [⟨#[97]⟩] (some ⟨W.heap.size, 0, none⟩) 1 (W.alloc (.cells #[.string ⟨#[97]⟩] 9)) (rd_a W _ _) (by decide)
  rw [show rootL (leavesL [⟨#[97]⟩]) = 355 by decide] at h3
  go_enter Tryd.func7, Tryd.ntmps7
  go_wp2_with (first | (go_at_call 23; refine (h1 _).mono ?_; rintro e w1 ⟨rfl, hb1⟩) | (go_at_call 24; refine (h2 _).mono ?_; rintro e w2 ⟨rfl, hb2⟩) | (go_at_call 25; refine (h3 _).mono ?_; rintro e w3 ⟨rfl, hb3⟩))
  go_ret
  exact ⟨rfl, by (repeat (first | exact Below.refl _ _ | refine blw_alloc ?_ _ | refine blw_drew ?_ | refine blw_rg ?_ _ | refine blw_call (by assumption) ?_))⟩
/-- How many elements two lists have in common at their beginnings. -/
def comN : List ByteArray → List ByteArray → Nat
  | x :: s, y :: t => if x = y then comN s t + 1 else 0
  | _, _ => 0
theorem comN_le (xs ys : List ByteArray) : comN xs ys ≤ xs.length ∧ comN xs ys ≤ ys.length := by
  induction xs generalizing ys with
  | nil => simp [comN]
  | cons x s ih =>
    cases ys with
    | nil => simp [comN]
    | cons y t =>
      unfold comN
      split
      · have := ih t; simp; omega
      · simp
theorem comN_step (xs ys : List ByteArray) (k : Nat) (hx : k < xs.length) (hy : k < ys.length) : comN (xs.drop k) (ys.drop k) = if xs[k] = ys[k] then comN (xs.drop (k + 1)) (ys.drop (k + 1)) + 1 else 0 := by
  rw [List.drop_eq_getElem_cons hx, List.drop_eq_getElem_cons hy]; rfl
theorem comN_end (xs ys : List ByteArray) (k : Nat) (h : xs.length ≤ k ∨ ys.length ≤ k) : comN (xs.drop k) (ys.drop k) = 0 := by
  rcases h with h | h
  · rw [List.drop_eq_nil_of_le h]; simp [comN]
  · rw [List.drop_eq_nil_of_le h]; cases xs.drop k <;> simp [comN]
theorem str_eq (x y : ByteArray) : (x.toList == y.toList) = decide (x = y) := by
  rw [Bool.eq_iff_iff, beq_iff_eq, decide_eq_true_eq, Lib.toList_data, Lib.toList_data]
  constructor
  · intro h
    have : x.data = y.data := Array.toList_inj.1 h
    cases x; cases y; simp at this; rw [this]
  · intro h; rw [h]
end Go.Proofs.YthfdlfdbjiofhaaDoor
