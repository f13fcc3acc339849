/- Contracts of functions that the statement reaches; the conditions stand in each theorem. -/
import Derived.Test.YtdpdchghafopfaaS11
set_option linter.unusedVariables false
set_option linter.unusedSimpArgs false
namespace Go.Proofs.Ytdpdchghafopfaa
open Go.RowKit
theorem rd_one (w W : World) (p : Pt) (B : Nat) (hB : W.heap[B]? = some (.cells #[.int .i64 p.1, .int .i64 p.2] 25)) : Rd W encP 2 (some ⟨B, 0, none⟩) [p] :=
  ⟨by simp, fun _ => ⟨B, 0, rfl, (Array.getElem?_eq_some_iff.1 hB).1, fun j hj i v hv => by
    obtain rfl : j = 0 := by simp at hj; omega
    show W.cell? ⟨B, 0 + 0 * 2 + i, none⟩ = _
    simp only [Nat.zero_mul, Nat.zero_add]
    unfold World.cell?
    simp only [hB, Option.isSome_none, Bool.false_eq_true, if_false]
    simpa [encP] using hv⟩⟩
theorem rd_one' {W0 : World} (p : Pt) (B : Nat) (hB : B = W0.heap.size) : Rd (W0.alloc (.cells #[.int .i64 p.1, .int .i64 p.2] 25)) encP 2 (some ⟨B, 0, none⟩) [p] := by
  subst hB
  exact rd_one W0 _ p _ (heap_alloc_new _ _)
def ReachPost (pts : List Pt) (e0 : Int) (w : World) (e : Ending) (w' : World) : Prop := ∃ A c, e = .returned (.tuple #[.slice A pts.length c, .int .i64 e0]) ∧ Rd w' encP 2 A pts ∧ Below w.heap.size w w'
theorem rd_nil {α : Type} (w : World) (enc : α → List Value) (k : Nat) (a : Option Addr) : Rd w enc k a [] := ⟨by simp, fun h => absurd h (by simp)⟩
def selP (pts : List Pt) (r : List Int) : List Pt := ((pts.zip r).filter fun x => decide (0 ≤ x.2)).map (·.1)
theorem selP_succ (pts : List Pt) (r : List Int) (k : Nat) (h1 : k < pts.length) (h2 : k < r.length) : selP (pts.take (k + 1)) (r.take (k + 1)) = if 0 ≤ r[k] then selP (pts.take k) (r.take k) ++ [pts[k]] else selP (pts.take k) (r.take k) := by
  unfold selP
  rw [List.take_succ_eq_append_getElem h1, List.take_succ_eq_append_getElem h2, List.zip_append (by simp; omega), List.filter_append, List.map_append]
  simp only [List.zip_cons_cons, List.zip_nil_right, List.filter_cons, List.filter_nil, decide_eq_true_eq]
  split <;> simp
theorem selP_len (pts : List Pt) (r : List Int) : (selP pts r).length ≤ pts.length := by
  unfold selP
  rw [List.length_map]
  exact Nat.le_trans (List.length_filter_le _ _) (by rw [List.length_zip]; omega)

set_option maxRecDepth 20000 in
set_option maxHeartbeats 1000000 in
theorem refreach_err (l : List Sc) (eyes : List Pt) (b : Bx) (f : Pt) (la ea : Option Addr) (c ce : Nat) (w : World) (H : Rd w encS 4 la l) (HE : Rd w encP 2 ea eyes) (he : placeE l eyes [f] b ≠ 0) :
    Calls Try.prog 8 #[.slice la l.length c, .slice ea eyes.length ce, B4 b, P2 f] w (ReachPost [] (placeE l eyes [f] b) w) := by
  have he2 : (placeE l eyes [f] b != 0) = true := by rw [bne_iff_ne]; exact he
  have hp := fun W pa hW hP => placed_any l eyes [f] b la ea pa c ce 1 W (H.below hW) (HE.below hW) hP
  clear H HE he
  generalize placeE l eyes [f] b = e0 at hp he2
  go_enter Try.func8, Try.ntmps8
  go_wp2_with (go_at_call 19; refine (hp _ _ ?_ (rd_one' f _ ?_)).mono ?_; ((repeat (first | exact Below.refl _ _ | refine blw_alloc ?_ _ | refine blw_drew ?_ | refine blw_rg ?_ _ | refine blw_call (by assumption) ?_))); simp; rintro e w' ⟨rfl, hb1⟩; (first | (obtain ⟨pg, rfl⟩ := rg_next hb1) | (obtain ⟨pg, rfl⟩ := rg_mk hb1)))
  go_ret2
  exact ⟨_, _, rfl, rd_nil _ _ _ _, (by (repeat (first | exact Below.refl _ _ | refine blw_alloc ?_ _ | refine blw_drew ?_ | refine blw_rg ?_ _ | refine blw_call (by assumption) ?_)))⟩

def RRPost (l : List Sc) (pts : List Pt) (f : Pt) (w : World) (e : Ending) (w' : World) : Prop := ∃ r, r.length = pts.length ∧ DistTo l pts 0 (pts.map (initV f)) r ∧ ReachPost (selP pts r) 0 w e w'

set_option maxRecDepth 20000 in
set_option maxHeartbeats 1000000 in
theorem refreach_ok (l : List Sc) (eyes : List Pt) (b : Bx) (f : Pt) (la ea : Option Addr) (c ce : Nat) (w : World) (H : Rd w encS 4 la l) (HE : Rd w encP 2 ea eyes) (he : placeE l eyes [f] b = 0) (hl : okS l) (hy : okP eyes) (hb : boxB b = true) :
    Calls Try.prog 8 #[.slice la l.length c, .slice ea eyes.length ce, B4 b, P2 f] w (RRPost l (darkL l eyes b) f w) := by
  have hp := fun W pa hW hP => placed_any l eyes [f] b la ea pa c ce 1 W (H.below hW) (HE.below hW) hP
  have hd := fun W hW => distances_any l eyes b f la ea c ce W (H.below hW) (HE.below hW) hl hy hb
  have hlen := dark_len (l := l) (eyes := eyes) hb
  rw [he] at hp
  clear H HE he hl hy hb
  generalize darkL l eyes b = pts at hd hlen
  go_enter Try.func8, Try.ntmps8
  go_wp2_with (first | (go_at_call 19; refine (hp _ _ ?_ (rd_one' f _ ?_)).mono ?_; ((repeat (first | exact Below.refl _ _ | refine blw_alloc ?_ _ | refine blw_drew ?_ | refine blw_rg ?_ _ | refine blw_call (by assumption) ?_))); simp; rintro e w' ⟨rfl, hb1⟩; (first | (obtain ⟨pg, rfl⟩ := rg_next hb1) | (obtain ⟨pg, rfl⟩ := rg_mk hb1))) | (go_at_call 20; refine (hd _ ?_).mono ?_; ((repeat (first | exact Below.refl _ _ | refine blw_alloc ?_ _ | refine blw_drew ?_ | refine blw_rg ?_ _ | refine blw_call (by assumption) ?_))); rintro e w' ⟨A1, c1, A2, c2, r, rfl, hr1, hr2, hrl, hdt, hb2⟩))
  have hW : Below w.heap.size w w' := by (repeat (first | exact Below.refl _ _ | refine blw_alloc ?_ _ | refine blw_drew ?_ | refine blw_rg ?_ _ | refine blw_call (by assumption) ?_))
  clear hb2 hb1 hp hd
  have HDT := asd hdt
  have HRL := asd hrl
  have hrl1 : pts.length ≤ r.length := by omega
  clear hdt hrl
  go_loopg [13, 14] pts.length (fun gg s13 s14 wr => ∃ k : Nat, k ≤ pts.length ∧ pts.length - k ≤ gg ∧ s14 = .int .i64 k ∧ Aside (wr.ownsRow w'.heap.size 25 2 s13 (selP (pts.take k) (r.take k)).length ((selP (pts.take k) (r.take k)).flatMap encP)) ∧ Aside (Below w'.heap.size w' wr))
  case atStart => exact ⟨0, Nat.zero_le _, by omega, rfl, World.ownsRow_nil _ _ _ _, Below.refl _ _⟩
  case round =>
    obtain ⟨k, hk, hg, rfl, HO, HB⟩ := hrel
    by_cases hlt : k < pts.length
    · have hltz : (k : Int) < (pts.length : Int) := by omega
      have hltz2 : (k : Int) < (r.length : Int) := by omega
      obtain ⟨b0, off, rfl, hb0, hc⟩ := hr1.at_ k hlt
      obtain ⟨b1, off1, rfl, hb1, hc1⟩ := hr2.at_ k (by omega)
      have q0 := (HB.out.cell (p := ⟨b0, off + k * 2 + 0, none⟩) hb0).trans (hc 0 _ rfl)
      have q1 := (HB.out.cell (p := ⟨b0, off + k * 2 + 1, none⟩) hb0).trans (hc 1 _ rfl)
      have r0 := (HB.out.cell (p := ⟨b1, off1 + k * 1 + 0, none⟩) hb1).trans (hc1 0 _ rfl)
      change wr.cell? ⟨b0, off + k * 2, none⟩ = _ at q0
      rw [Nat.mul_one, Nat.add_zero] at r0
      have HT := Go.Lib.hid (selP_succ pts r k hlt (by omega))
      have hlen2 := selP_len (pts.take k) (r.take k)
      have hlen3 : (pts.take k).length ≤ pts.length := by simp; omega
      generalize pts[k] = x at q0 q1 HT
      generalize r[k]'(by omega) = y at r0 HT
      clear hc hc1 hr1 hr2
      have hsz := HB.out.size
      by_cases hy : 0 ≤ y
      · have HT2 := HT.out
        rw [if_pos hy] at HT2
        have HT3 := Go.Lib.hid HT2
        clear HT HT2
        go_wp2_with (at_builtin; (refine app_own (w0 := w') w'.heap.size rfl _ _ 23 25 (.agg #[.int .i64 0, .int .i64 0]) 2 16 rfl Try.underlying23 (by kernel_rfl) rfl (by decide) (by decide) u13 _ _ [.int .i64 x.1, .int .i64 x.2] rfl rfl rfl (by simp [Value.oneCell']) HO.out HB.out hsz (by omega) ?_); intro v1 w1 ho1 hb1 _ _)
        go_roundg (pts.length - (k + 1))
        case measure => omega
        case rel =>
          refine ⟨k + 1, by omega, by omega, by go_num, ?_, hb1⟩
          rw [HT3.out, List.flatMap_append, List.length_append]
          exact ho1
      · have HT2 := HT.out
        rw [if_neg hy] at HT2
        have HT3 := Go.Lib.hid HT2
        clear HT HT2
        go_wp2
        go_roundg (pts.length - (k + 1))
        case measure => omega
        case rel =>
          refine ⟨k + 1, by omega, by omega, by go_num, ?_, HB⟩
          rw [HT3.out]; exact HO
    · have hltz : ¬ (k : Int) < (pts.length : Int) := by omega
      have e0 : pts.take k = pts := List.take_of_length_le (by omega)
      have e1 : r.take k = r := List.take_of_length_le (by have := HRL.out; omega)
      rw [e0, e1] at HO
      have hlen2 := selP_len pts r
      clear hr1 hr2
      obtain ⟨A3, c3, rfl, hr3⟩ := own_rd (enc := encP) (fun _ => rfl) (by omega) HO.out
      go_wp2
      go_ret2
      exact ⟨r, HRL.out, HDT.out, _, _, rfl, hr3, blw_call HB.out hW⟩
end Go.Proofs.Ytdpdchghafopfaa
