/- Contracts of functions that the statement reaches; the conditions stand in each theorem. -/
import Derived.Test.YtdpdchghafopfaaS15
import Derived.Test.YtdpdchghafopfaaS4
import Derived.Test.YtdpdchghafopfaaG
set_option linter.unusedVariables false
set_option linter.unusedSimpArgs false
namespace Go.Proofs.Ytdpdchghafopfaa
open Go.RowKit
theorem cmp0 (x : Int) : ((cmpI x 0 == 0) = true ↔ x = 0) := by unfold cmpI; grind
theorem cmpI_cases (x : Int) : (x < 0 ∧ cmpI x 0 = -1) ∨ (x = 0 ∧ cmpI x 0 = 0) ∨ (0 < x ∧ cmpI x 0 = 1) := by unfold cmpI; grind
theorem cmp_mul (x y : Int) : wrap64 (cmpI x 0 * cmpI y 0) < 0 ↔ x * y < 0 := by
  have hx := cmpI_cases x
  have hy := cmpI_cases y
  constructor
  · intro h
    rcases hx with ⟨h1, e1⟩ | ⟨h1, e1⟩ | ⟨h1, e1⟩ <;> rcases hy with ⟨h2, e2⟩ | ⟨h2, e2⟩ | ⟨h2, e2⟩ <;> rw [e1, e2] at h <;> first
      | (exfalso; unfold wrap64 at h; omega)
      | exact Int.mul_neg_of_neg_of_pos h1 h2
      | exact Int.mul_neg_of_pos_of_neg h1 h2
  · intro h
    rcases g_signs h with ⟨h1, h2⟩ | ⟨h1, h2⟩
    · rcases hx with ⟨h3, e1⟩ | ⟨h3, e1⟩ | ⟨h3, e1⟩ <;> rcases hy with ⟨h4, e2⟩ | ⟨h4, e2⟩ | ⟨h4, e2⟩ <;> first | omega | (rw [e1, e2]; unfold wrap64; omega)
    · rcases hx with ⟨h3, e1⟩ | ⟨h3, e1⟩ | ⟨h3, e1⟩ <;> rcases hy with ⟨h4, e2⟩ | ⟨h4, e2⟩ | ⟨h4, e2⟩ <;> first | omega | (rw [e1, e2]; unfold wrap64; omega)
theorem btw_iff (a b p : Pt) : btwB a b p = true ↔ Btw a b p := by unfold btwB Btw; grind
theorem touchB_iff (a b c d : Pt) : touchB a b c d = true ↔ Tch a b c d := by
  unfold touchB Tch partedB Parted
  grind
theorem touchG_eq {a b c d : Pt} (ha : inR a = true) (hb : inR b = true) (hc : inR c = true) (hd : inR d = true) (hn : ¬ (c.1 = d.1 ∧ c.2 = d.2)) :
    touchG (cmpI (sideW a b c) 0) (cmpI (sideW a b d) 0) (cmpI (sideW c d a) 0) (cmpI (sideW c d b) 0) (btwB a b c) (btwB a b d) (btwB c d a) (btwB c d b) = touchB a b c d := by
  rw [sideW_eq ha hb hc, sideW_eq ha hb hd, sideW_eq hc hd ha, sideW_eq hc hd hb]
  rw [Bool.eq_iff_iff, touchB_iff, ← g_iff hn]
  unfold touchG Ends
  simp only [Bool.or_eq_true, Bool.and_eq_true, cmp0, btw_iff, decide_eq_true_eq, cmp_mul]

theorem touchp_any (a b c d : Pt) (w : World) (ha : inR a = true) (hb : inR b = true) (hc : inR c = true) (hd : inR d = true) (hn : ¬ (c.1 = d.1 ∧ c.2 = d.2)) :
    Calls Try.prog 39 #[P2 a, P2 b, P2 c, P2 d] w fun e w' => e = .returned (.bool (touchB a b c d)) ∧ Below w.heap.size w w' := by
  rw [← touchG_eq ha hb hc hd hn]
  exact touch_gen a b c d w _ _ _ _ _ _ _ _ (fun W => side_any _ _ _ W) (fun W => side_any _ _ _ W) (fun W => side_any _ _ _ W) (fun W => side_any _ _ _ W) (fun W => between_any _ _ _ W) (fun W => between_any _ _ _ W) (fun W => between_any _ _ _ W) (fun W => between_any _ _ _ W)

theorem good_parts {s : Sc} (h : goodS s = true) : inR s.1 = true ∧ inR s.2 = true ∧ ¬ (s.1.1 = s.2.1 ∧ s.1.2 = s.2.2) := by
  unfold goodS at h
  simp only [Bool.and_eq_true, Bool.not_eq_true', Bool.and_eq_false_iff, beq_eq_false_iff_ne] at h
  exact ⟨h.1.1, h.1.2, fun ⟨h1, h2⟩ => h.2.elim (fun h3 => h3 h1) (fun h3 => h3 h2)⟩

set_option maxRecDepth 20000 in
set_option maxHeartbeats 400000 in
theorem sees1_any (a b : Pt) (s : Sc) (B1 B2 : Nat) (w : World) (ha : inR a = true) (hb : inR b = true) (hs : goodS s = true)
    (c0 : w.cell? ⟨B1, 0, none⟩ = some (.int .i64 a.1)) (c1 : w.cell? ⟨B1, 1, none⟩ = some (.int .i64 a.2)) (c2 : w.cell? ⟨B2, 0, none⟩ = some (.int .i64 b.1)) (c3 : w.cell? ⟨B2, 1, none⟩ = some (.int .i64 b.2)) :
    Calls Try.prog 38 #[S4 s, .pointer (some ⟨B1, 0, none⟩), .pointer (some ⟨B2, 0, none⟩)] w fun e w' => e = .returned (.bool (touchB a b s.1 s.2)) ∧ Below w.heap.size w w' := by
  obtain ⟨h1, h2, h3⟩ := good_parts hs
  have ht := fun W => touchp_any a b s.1 s.2 W ha hb h1 h2 h3
  have l0 : B1 < w.heap.size := World.block_lt_of_cell? _ _ c0
  have l2 : B2 < w.heap.size := World.block_lt_of_cell? _ _ c2
  clear h1 h2 h3 ha hb hs
  have n1 : B1 ≠ w.heap.size := by omega
  have n2 : B2 ≠ w.heap.size := by omega
  go_enter Try.func38, Try.ntmps38
  go_wp2_with (go_at_call 39; (with_reducible refine (ht _).mono ?_); rintro e w' ⟨rfl, hbw⟩)
  go_ret
  exact ⟨rfl, (by (repeat (first | exact Below.refl _ _ | refine blw_alloc ?_ _ | refine blw_drew ?_ | refine blw_rg ?_ _ | refine blw_call (by assumption) ?_)))⟩

theorem all_mem {α : Type} {p : α → Bool} {xs : List α} (h : xs.all p = true) {x : α} (hx : x ∈ xs) : p x = true := List.all_eq_true.1 h x hx

set_option maxRecDepth 20000 in
set_option maxHeartbeats 400000 in
theorem sees_any (l : List Sc) (a b : Pt) (la : Option Addr) (c : Nat) (w : World) (H : Rd w encS 4 la l) (hl : l.all goodS = true) (ha : inR a = true) (hb : inR b = true) :
    Calls Try.prog 23 #[.slice la l.length c, P2 a, P2 b] w fun e w' => e = .returned (.bool (seesB l a b)) ∧ Below w.heap.size w w' := by
  have hc := containsFuncS 38 #[.pointer (some ⟨w.heap.size, 0, none⟩), .pointer (some ⟨w.heap.size + 1, 0, none⟩)] (enters_of Try.func38 (by kernel_rfl) rfl) (fun s => touchB a b s.1 s.2) l la c (bxP (bxP w a) b) (H.below (by (repeat (first | exact Below.refl _ _ | refine blw_alloc ?_ _ | refine blw_drew ?_ | refine blw_rg ?_ _ | refine blw_call (by assumption) ?_))))
    (fun W x hx hB => by
      have hsz : (bxP (bxP w a) b).heap.size = w.heap.size + 2 := by simp
      refine sees1_any a b x _ _ W ha hb (all_mem hl hx) ?_ ?_ ?_ ?_
      · exact (hB.cell (p := ⟨w.heap.size, 0, none⟩) (by rw [hsz]; simp)).trans (by simp)
      · exact (hB.cell (p := ⟨w.heap.size, 1, none⟩) (by rw [hsz]; simp)).trans (by simp)
      · exact (hB.cell (p := ⟨w.heap.size + 1, 0, none⟩) (by rw [hsz]; simp)).trans (by simp)
      · exact (hB.cell (p := ⟨w.heap.size + 1, 1, none⟩) (by rw [hsz]; simp)).trans (by simp))
  have hs := Go.Lib.hid (show seesB l a b = !(l.any fun s => touchB a b s.1 s.2) from rfl)
  clear H hl ha hb
  generalize (l.any fun s => touchB a b s.1 s.2) = bb at hc hs
  go_enter Try.func23, Try.ntmps23
  go_wp2_with (go_at_call 37; refine hc.mono ?_; rintro e w' ⟨rfl, hbw⟩; clear hc)
  go_ret
  exact ⟨rb hs.out.symm, (by (repeat (first | exact Below.refl _ _ | refine blw_alloc ?_ _ | refine blw_drew ?_ | refine blw_rg ?_ _ | refine blw_call (by assumption) ?_)))⟩

set_option maxRecDepth 20000 in
set_option maxHeartbeats 400000 in
theorem hidden1_any (l : List Sc) (e p : Pt) (la : Option Addr) (c : Nat) (B1 B2 : Nat) (w : World) (H : Rd w encS 4 la l) (hl : l.all goodS = true) (he : inR e = true) (hp : inR p = true)
    (c0 : w.cell? ⟨B1, 0, none⟩ = some (.slice la l.length c)) (c2 : w.cell? ⟨B2, 0, none⟩ = some (.int .i64 p.1)) (c3 : w.cell? ⟨B2, 1, none⟩ = some (.int .i64 p.2)) :
    Calls Try.prog 41 #[P2 e, .pointer (some ⟨B1, 0, none⟩), .pointer (some ⟨B2, 0, none⟩)] w fun r w' => r = .returned (.bool (seesB l e p)) ∧ Below w.heap.size w w' := by
  have ht := fun W hW => sees_any l e p la c W (H.below hW) hl he hp
  have l0 : B1 < w.heap.size := World.block_lt_of_cell? _ _ c0
  have l2 : B2 < w.heap.size := World.block_lt_of_cell? _ _ c2
  clear H hl he hp
  have n1 : B1 ≠ w.heap.size := by omega
  have n2 : B2 ≠ w.heap.size := by omega
  go_enter Try.func41, Try.ntmps41
  go_wp2_with (go_at_call 23; (with_reducible refine (ht _ ?_).mono ?_); ((repeat (first | exact Below.refl _ _ | refine blw_alloc ?_ _ | refine blw_drew ?_ | refine blw_rg ?_ _ | refine blw_call (by assumption) ?_))); rintro e w' ⟨rfl, hbw⟩)
  go_ret
  exact ⟨rfl, (by (repeat (first | exact Below.refl _ _ | refine blw_alloc ?_ _ | refine blw_drew ?_ | refine blw_rg ?_ _ | refine blw_call (by assumption) ?_)))⟩

set_option maxRecDepth 20000 in
set_option maxHeartbeats 400000 in
theorem hidden_any (l : List Sc) (eyes : List Pt) (p : Pt) (la ea : Option Addr) (c ce : Nat) (w : World) (H : Rd w encS 4 la l) (HE : Rd w encP 2 ea eyes) (hl : l.all goodS = true) (he : eyes.all inR = true) (hp : inR p = true) :
    Calls Try.prog 25 #[.slice la l.length c, .slice ea eyes.length ce, P2 p] w fun r w' => r = .returned (.bool (hidB l eyes p)) ∧ Below w.heap.size w w' := by
  have hc := containsFuncP 41 #[.pointer (some ⟨w.heap.size, 0, none⟩), .pointer (some ⟨w.heap.size + 1, 0, none⟩)] (enters_of Try.func41 (by kernel_rfl) rfl) (fun e => seesB l e p) eyes ea ce (bxP (w.alloc (.cells #[.slice la l.length c] 22)) p) (HE.below (by (repeat (first | exact Below.refl _ _ | refine blw_alloc ?_ _ | refine blw_drew ?_ | refine blw_rg ?_ _ | refine blw_call (by assumption) ?_))))
    (fun W x hx hB => by
      have hsz : (bxP (w.alloc (.cells #[.slice la l.length c] 22)) p).heap.size = w.heap.size + 2 := by simp
      refine hidden1_any l x p la c _ _ W (H.below (blw_call hB (by (repeat (first | exact Below.refl _ _ | refine blw_alloc ?_ _ | refine blw_drew ?_ | refine blw_rg ?_ _ | refine blw_call (by assumption) ?_))))) hl (all_mem he hx) hp ?_ ?_ ?_
      · exact (hB.cell (p := ⟨w.heap.size, 0, none⟩) (by rw [hsz]; simp)).trans (by simp)
      · exact (hB.cell (p := ⟨w.heap.size + 1, 0, none⟩) (by rw [hsz]; simp)).trans (by simp)
      · exact (hB.cell (p := ⟨w.heap.size + 1, 1, none⟩) (by rw [hsz]; simp)).trans (by simp))
  have hs := Go.Lib.hid (show hidB l eyes p = !(eyes.any fun e => seesB l e p) from rfl)
  clear H HE hl he hp
  generalize (eyes.any fun e => seesB l e p) = bb at hc hs
  go_enter Try.func25, Try.ntmps25
  go_wp2_with (go_at_call 40; refine hc.mono ?_; rintro e w' ⟨rfl, hbw⟩; clear hc)
  go_ret
  exact ⟨rb hs.out.symm, (by (repeat (first | exact Below.refl _ _ | refine blw_alloc ?_ _ | refine blw_drew ?_ | refine blw_rg ?_ _ | refine blw_call (by assumption) ?_)))⟩
end Go.Proofs.Ytdpdchghafopfaa
