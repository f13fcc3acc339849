/- Reach of the program. -/
import Derived.Test.YtdpdchghafopfaaP4
set_option linter.unusedVariables false
set_option linter.unusedSimpArgs false
namespace Go.Proofs.Ytdpdchghafopfaa
open Go.RowKit
theorem spread_start {l : List Sc} {eyes : List Pt} {b : Bx} {f : Pt} {r : St} (h : SpTo l eyes b 0 (initS f) r) (hi : inB b f = true) (hh : hidB l eyes f = true) : f ∈ r.1 :=
  (spread_inv l eyes b h ⟨gd_init b f hi, by simp [initS], fun q hq => by simp [initS] at hq; subst hq; exact ⟨0, .zero ((mem_dark _).2 ⟨hi, hh⟩)⟩, fun j hj hji => absurd hji (by omega)⟩).start
theorem sort_none (cap : Nat) (fv : Value) (w : World) : Calls Try.prog 15 #[.slice none 0 cap, fv] w fun e w' => e = .returned (.tuple #[]) ∧ w' = w := by
  have h := AnyF.slices_SortFunc_none { Try.sortPt with } none cap fv w
  exact h
def SortPost (g : Nat) (xs : List Pt) (w : World) (e : Ending) (w' : World) : Prop := e = .returned (.tuple #[]) ∧ Rd w' encP 2 (some ⟨g, 0, none⟩) (sortP xs) ∧ ∀ base, base ≤ g → Below base w w'
theorem sort_some {w : World} {base g n cap : Nat} {e : TypeId} {xs : List Pt} (h : w.ownsRow base e 2 (.slice (some ⟨g, 0, none⟩) n cap) n (xs.flatMap encP)) (hn : xs.length = n) (hbig : n ≤ 441) :
    Calls Try.prog 15 #[.slice (some ⟨g, 0, none⟩) n cap, .func (.func 16) #[] #[]] w (SortPost g xs w) := by
  have hg := (h.lt g rfl).2
  have hH := holds_own h hn
  have eg := enters_of Try.func16 (by kernel_rfl) rfl
  have hcon := AnyQ.slices_SortFunc_total Try.sortPt 2 Try.isAgg25 Try.sizeOf25 encP (fun _ => rfl) (fun x v hv => by simp [encP] at hv; rcases hv with rfl | rfl <;> rfl) cfP swoP 16 #[] g 0 cap xs.toArray w eg (cmpLaysP g 0 _ w) hH hg (by simp; omega) totP
  rw [show xs.toArray.size = n by simpa using hn] at hcon
  refine Calls.mono hcon ?_
  rintro e' w' ⟨rfl, m, os, rfl⟩
  have hl : (sortP xs).toArray.size = xs.toArray.size := by simp [sortP_len]
  have h1 := fun base hb => sorted_world w g m xs.toArray (sortP xs).toArray os hH hl hg base hb (by simp [sortP_len]; omega)
  exact ⟨rfl, (h1 0 (by omega)).1, fun base hb => (h1 base hb).2⟩

set_option maxRecDepth 20000 in
set_option maxHeartbeats 1000000 in
theorem reach_err (l : List Sc) (eyes : List Pt) (b : Bx) (f : Pt) (la ea : Option Addr) (c ce : Nat) (w : World) (H : Rd w encS 4 la l) (HE : Rd w encP 2 ea eyes) (he : placeE l eyes [f] b ≠ 0) :
    Calls Try.prog 7 #[.slice la l.length c, .slice ea eyes.length ce, B4 b, P2 f] w (ReachPost [] (placeE l eyes [f] b) w) := by
  have he2 : (placeE l eyes [f] b != 0) = true := by rw [bne_iff_ne]; exact he
  have hp := fun W pa hW hP => ends_any l eyes [f] b la ea pa c ce 1 W (H.below hW) (HE.below hW) hP
  clear H HE he
  generalize placeE l eyes [f] b = e0 at hp he2
  go_enter Try.func7, Try.ntmps7
  go_wp2_with (go_at_call 13; refine (hp _ _ ?_ (rd_one' f _ ?_)).mono ?_; ((repeat (first | exact Below.refl _ _ | refine blw_alloc ?_ _ | refine blw_drew ?_ | refine blw_rg ?_ _ | refine blw_call (by assumption) ?_))); simp; rintro e w' ⟨rfl, hb1⟩; (first | (obtain ⟨pg, rfl⟩ := rg_next hb1) | (obtain ⟨pg, rfl⟩ := rg_mk hb1)))
  go_ret2
  exact ⟨_, _, rfl, rd_nil _ _ _ _, (by (repeat (first | exact Below.refl _ _ | refine blw_alloc ?_ _ | refine blw_drew ?_ | refine blw_rg ?_ _ | refine blw_call (by assumption) ?_)))⟩

set_option maxRecDepth 20000 in
set_option maxHeartbeats 1000000 in
theorem reach_hid (l : List Sc) (eyes : List Pt) (b : Bx) (f : Pt) (la ea : Option Addr) (c ce : Nat) (w : World) (H : Rd w encS 4 la l) (HE : Rd w encP 2 ea eyes) (he : placeE l eyes [f] b = 0) (hl : l.all goodS = true) (hy : eyes.all inR = true) (hf : inR f = true) (hh : hidB l eyes f = false) :
    Calls Try.prog 7 #[.slice la l.length c, .slice ea eyes.length ce, B4 b, P2 f] w (ReachPost [] 0 w) := by
  have hp := fun W pa hW hP => ends_any l eyes [f] b la ea pa c ce 1 W (H.below hW) (HE.below hW) hP
  have hs := fun W hW => spread_no l eyes b f la ea c ce W (H.below hW) (HE.below hW) hl hy hf hh
  rw [he] at hp
  clear H HE he hl hy hf hh
  go_enter Try.func7, Try.ntmps7
  go_wp2_with (first | (go_at_call 13; refine (hp _ _ ?_ (rd_one' f _ ?_)).mono ?_; ((repeat (first | exact Below.refl _ _ | refine blw_alloc ?_ _ | refine blw_drew ?_ | refine blw_rg ?_ _ | refine blw_call (by assumption) ?_))); simp; rintro e w' ⟨rfl, hb1⟩; (first | (obtain ⟨pg, rfl⟩ := rg_next hb1) | (obtain ⟨pg, rfl⟩ := rg_mk hb1))) | (go_at_call 14; refine (hs _ ?_).mono ?_; ((repeat (first | exact Below.refl _ _ | refine blw_alloc ?_ _ | refine blw_drew ?_ | refine blw_rg ?_ _ | refine blw_call (by assumption) ?_))); rintro e w' ⟨⟨B, rfl, _⟩, hb2⟩) | (go_at_call 15; refine (sort_none _ _ _).mono ?_; rintro e w' ⟨rfl, rfl⟩))
  go_ret2
  exact ⟨_, _, rfl, rd_nil _ _ _ _, (by (repeat (first | exact Below.refl _ _ | refine blw_alloc ?_ _ | refine blw_drew ?_ | refine blw_rg ?_ _ | refine blw_call (by assumption) ?_)))⟩

set_option maxRecDepth 20000 in
set_option maxHeartbeats 1000000 in
theorem reach_dark (l : List Sc) (eyes : List Pt) (b : Bx) (f : Pt) (la ea : Option Addr) (c ce : Nat) (w : World) (H : Rd w encS 4 la l) (HE : Rd w encP 2 ea eyes) (he : placeE l eyes [f] b = 0) (hl : l.all goodS = true) (hy : eyes.all inR = true) (hf : inR f = true) (hb : boxB b = true) (hi : inB b f = true) (hh : hidB l eyes f = true) :
    Calls Try.prog 7 #[.slice la l.length c, .slice ea eyes.length ce, B4 b, P2 f] w (ReachPost (reachL l (darkL l eyes b) f) 0 w) := by
  have hp := fun W pa hW hP => ends_any l eyes [f] b la ea pa c ce 1 W (H.below hW) (HE.below hW) hP
  have hs := fun W hW => spread_ok l eyes b f la ea c ce W (H.below hW) (HE.below hW) hl hy hf hb hi hh
  rw [he] at hp
  have HS := Go.Lib.hid (fun r h => sort_reach (l := l) (eyes := eyes) (b := b) (f := f) (r := r) h hi hh)
  have HN := Go.Lib.hid (fun r h => spread_start (l := l) (eyes := eyes) (b := b) (f := f) (r := r) h hi hh)
  clear H HE he hl hy hf hb hi hh
  go_enter Try.func7, Try.ntmps7
  go_wp2_with (first | (go_at_call 13; refine (hp _ _ ?_ (rd_one' f _ ?_)).mono ?_; ((repeat (first | exact Below.refl _ _ | refine blw_alloc ?_ _ | refine blw_drew ?_ | refine blw_rg ?_ _ | refine blw_call (by assumption) ?_))); simp; rintro e w' ⟨rfl, hb1⟩; (first | (obtain ⟨pg, rfl⟩ := rg_next hb1) | (obtain ⟨pg, rfl⟩ := rg_mk hb1))) | (go_at_call 14; refine (hs _ ?_).mono ?_; ((repeat (first | exact Below.refl _ _ | refine blw_alloc ?_ _ | refine blw_drew ?_ | refine blw_rg ?_ _ | refine blw_call (by assumption) ?_))); rintro e w' ⟨st, v, B, hsp, rfl, hrow, _, h441, hb2⟩; have hin := HN.out _ hsp; have hpos : 0 < st.1.length := List.length_pos_of_mem hin; obtain ⟨g, cap, rfl, hg1, hg2⟩ := hrow.form hpos; have hso := sort_some hrow rfl h441) | (go_at_call 15; refine hso.mono ?_; rintro e w' ⟨rfl, hrd, hbl⟩))
  go_ret2
  have e := HS.out _ hsp
  have hW : Below w.heap.size w (rg ((((w.alloc (bxB b)).alloc (.cells #[.int .i64 f.1, .int .i64 f.2] 25)).alloc (.cells #[.int .i64 f.1, .int .i64 f.2] 25))) pg) := by (repeat (first | exact Below.refl _ _ | refine blw_alloc ?_ _ | refine blw_drew ?_ | refine blw_rg ?_ _ | refine blw_call (by assumption) ?_))
  have hW2 := blw_call hb2 hW
  rw [← e]
  refine ⟨some ⟨g, 0, none⟩, cap, ?_, hrd, hW2.trans (hbl _ (Nat.le_trans hW.size hg1))⟩
  (try rw [sortP_len])
  rfl
end Go.Proofs.Ytdpdchghafopfaa
