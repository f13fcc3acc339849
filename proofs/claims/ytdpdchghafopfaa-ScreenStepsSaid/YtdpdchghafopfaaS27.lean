/- Way of the program, where the ends are right. -/
import Derived.Test.YtdpdchghafopfaaS26
import Derived.Deep.Cut
set_option linter.unusedVariables false
set_option linter.unusedSimpArgs false
namespace Go.Proofs.Ytdpdchghafopfaa
open Go.RowKit
abbrev W3 (w : World) (b : Bx) (f t : Pt) : World := bxP (bxP (w.alloc (bxB b)) f) t
theorem w3_cell (w : World) (b : Bx) (f t : Pt) (W : World) (h : Below (W3 w b f t).heap.size (W3 w b f t) W) :
    W.cell? ⟨w.heap.size + 1, 0, none⟩ = some (.int .i64 f.1) ∧ W.cell? ⟨w.heap.size + 1, 1, none⟩ = some (.int .i64 f.2) ∧ W.cell? ⟨w.heap.size + 1 + 1, 0, none⟩ = some (.int .i64 t.1) ∧ W.cell? ⟨w.heap.size + 1 + 1, 1, none⟩ = some (.int .i64 t.2) := by
  refine ⟨?_, ?_, ?_, ?_⟩
  · rw [h.cell (p := ⟨w.heap.size + 1, 0, none⟩) (by simp; try omega)]; go_simp
  · rw [h.cell (p := ⟨w.heap.size + 1, 1, none⟩) (by simp; try omega)]; go_simp
  · rw [h.cell (p := ⟨w.heap.size + 1 + 1, 0, none⟩) (by simp; try omega)]; go_simp
  · rw [h.cell (p := ⟨w.heap.size + 1 + 1, 1, none⟩) (by simp; try omega)]; go_simp
set_option maxRecDepth 20000 in
set_option maxHeartbeats 1000000 in
theorem way_hid (l : List Sc) (eyes : List Pt) (b : Bx) (f t : Pt) (la ea : Option Addr) (c ce : Nat) (w : World) (H : Rd w encS 4 la l) (HE : Rd w encP 2 ea eyes) (he : placeE l eyes [f, t] b = 0) (hl : l.all goodS = true) (hy : eyes.all inR = true) (hf : inR f = true) (ht : inR t = true) (hh : hidB l eyes f = false) :
    Calls Try.prog 21 #[.slice la l.length c, .slice ea eyes.length ce, B4 b, P2 f, P2 t] w (WayP 0 false 0 w) := by
  have hp := fun W pa hW hP => ends_any l eyes [f, t] b la ea pa c ce 2 W (H.below hW) (HE.below hW) hP
  have hs := fun W hW => spread_no l eyes b f la ea c ce W (H.below hW) (HE.below hW) hl hy hf hh
  rw [he] at hp
  have bt := inR_bd ht
  have bt1 : bigI t.1 := bigI_of (by omega) (by omega)
  have bt2 : bigI t.2 := bigI_of (by omega) (by omega)
  have HC := Go.Lib.hid (w3_cell w b f t)
  clear H HE he hl hy hf hh ht bt
  go_enter Try.func21, Try.ntmps21
  go_wp2_with (first | (go_at_call 13; refine (hp _ _ ?_ (rd_two' f t _ ?_)).mono ?_; ((repeat (first | exact Below.refl _ _ | refine blw_alloc ?_ _ | refine blw_drew ?_ | refine blw_rg ?_ _ | refine blw_call (by assumption) ?_))); simp; rintro e w' ⟨rfl, hb1⟩; (first | (obtain ⟨pg, rfl⟩ := rg_next hb1) | (obtain ⟨pg, rfl⟩ := rg_mk hb1))) | (go_at_call 14; refine (hs _ ?_).mono ?_; ((repeat (first | exact Below.refl _ _ | refine blw_alloc ?_ _ | refine blw_drew ?_ | refine blw_rg ?_ _ | refine blw_call (by assumption) ?_))); rintro e w' ⟨⟨B, rfl, hM⟩, hb2⟩; have hHM := asd hM; clear hM; obtain ⟨f0, f1, t0, t1⟩ := HC.out w' (by (repeat (first | exact Below.refl _ _ | refine blw_alloc ?_ _ | refine blw_drew ?_ | refine blw_rg ?_ _ | refine blw_call (by assumption) ?_)))) | (at_lookup; refine wpList_look2_pm _ rfl _ _ rfl B 0 (fun _ => none) rfl hHM.out t rfl bt1 bt2 (0, 0) false rfl rfl ?_))
  go_ret3
  exact ⟨_, _, rfl, (by (repeat (first | exact Below.refl _ _ | refine blw_alloc ?_ _ | refine blw_drew ?_ | refine blw_rg ?_ _ | refine blw_call (by assumption) ?_)))⟩
set_option maxRecDepth 20000 in
set_option maxHeartbeats 1000000 in
theorem way_dark (l : List Sc) (eyes : List Pt) (b : Bx) (f t : Pt) (la ea : Option Addr) (c ce : Nat) (w : World) (H : Rd w encS 4 la l) (HE : Rd w encP 2 ea eyes) (he : placeE l eyes [f, t] b = 0) (hl : l.all goodS = true) (hy : eyes.all inR = true) (hf : inR f = true) (ht : inR t = true) (hb : boxB b = true) (hi : inB b f = true) (hh : hidB l eyes f = true) :
    Calls Try.prog 21 #[.slice la l.length c, .slice ea eyes.length ce, B4 b, P2 f, P2 t] w (WayPost l (darkL l eyes b) f t w) := by
  have hp := fun W pa hW hP => ends_any l eyes [f, t] b la ea pa c ce 2 W (H.below hW) (HE.below hW) hP
  have hs := fun W hW => spread_ok l eyes b f la ea c ce W (H.below hW) (HE.below hW) hl hy hf hb hi hh
  rw [he] at hp
  have bt := inR_bd ht
  have bt1 : bigI t.1 := bigI_of (by omega) (by omega)
  have bt2 : bigI t.2 := bigI_of (by omega) (by omega)
  have HC := Go.Lib.hid (w3_cell w b f t)
  have HS := Go.Lib.hid (fun r h => spread_back l eyes b (f := f) (r := r) h hi hh)
  have HBX := Go.Lib.hid hb
  clear H HE he hl hy hf hi hh ht bt hb
  go_enter Try.func21, Try.ntmps21
  go_upto_region 5 with (first | (go_at_call 13; refine (hp _ _ ?_ (rd_two' f t _ ?_)).mono ?_; ((repeat (first | exact Below.refl _ _ | refine blw_alloc ?_ _ | refine blw_drew ?_ | refine blw_rg ?_ _ | refine blw_call (by assumption) ?_))); simp; rintro e w' ⟨rfl, hb1⟩; (first | (obtain ⟨pg, rfl⟩ := rg_next hb1) | (obtain ⟨pg, rfl⟩ := rg_mk hb1))) | (go_at_call 14; refine (hs _ ?_).mono ?_; ((repeat (first | exact Below.refl _ _ | refine blw_alloc ?_ _ | refine blw_drew ?_ | refine blw_rg ?_ _ | refine blw_call (by assumption) ?_))); rintro e w' ⟨st, v, B, hsp, rfl, hrow, hM, h441, hb2⟩; have hHM := asd hM; clear hM hrow; obtain ⟨f0, f1, t0, t1⟩ := HC.out w' (by (repeat (first | exact Below.refl _ _ | refine blw_alloc ?_ _ | refine blw_drew ?_ | refine blw_rg ?_ _ | refine blw_call (by assumption) ?_))); have HBK := Go.Lib.hid (HS.out st hsp); clear hsp hb1))
  have hW : Below w.heap.size w w' := by (repeat (first | exact Below.refl _ _ | refine blw_alloc ?_ _ | refine blw_drew ?_ | refine blw_rg ?_ _ | refine blw_call (by assumption) ?_))
  clear hb2 hp hs HS HC
  obtain ⟨x, hx⟩ : ∃ x, (st.2 t).getD (0, 0) = x := ⟨_, rfl⟩
  have HX := asd hx
  clear hx
  have hdom := HBK.out.dom t
  by_cases hm : t ∈ st.1
  case neg =>
    have hk : (st.2 t).isSome = false := by rw [hdom]; simpa using hm
    have HK := asd hk
    have HNO := Go.Lib.hid (fun n (h : Wk l (darkL l eyes b) f n t) => hm (HBK.out.all t n h))
    clear hk hdom hm
    go_wp2_with (at_lookup; (refine wpList_look2_pm _ rfl _ _ rfl B _ st.2 rfl hHM.out t rfl bt1 bt2 x false HX.out HK.out ?_))
    go_ret3
    exact .inr ⟨HNO.out, _, _, rfl, (by (repeat (first | exact Below.refl _ _ | refine blw_alloc ?_ _ | refine blw_drew ?_ | refine blw_rg ?_ _ | refine blw_call (by assumption) ?_)))⟩
  case pos =>
    have hk : (st.2 t).isSome = true := by rw [hdom]; simpa using hm
    have HK := asd hk
    obtain ⟨d, hd⟩ := HBK.out.lvl t hm
    have hd441 := dst_len HBX.out hd
    have HD := Go.Lib.hid hd
    have HI := asd (wyI_init (t := t) (x := x) hHM.out)
    have z1 := World.block_lt_of_cell? _ _ f0
    have z2 := World.block_lt_of_cell? _ _ t0
    change w.heap.size + 1 < w'.heap.size at z1
    change w.heap.size + 1 + 1 < w'.heap.size at z2
    clear hk hdom hm hd
    go_wp2_with (at_lookup; (refine wpList_look2_pm _ rfl _ _ rfl B _ st.2 rfl hHM.out t rfl bt1 bt2 x true HX.out HK.out ?_))
    have HM2 := asd HI.out.map
    generalize hv0 : (Value.slice (some ⟨w'.heap.size + 1, 0, none⟩) 1 1) = v0 at HI
    go_loopg [18, 19] d (fun gg s18 s19 wr => ∃ (p : Pt) (n m Bp : Nat), n ≤ gg ∧ m + n = d + 1 ∧ s19 = .pointer (some ⟨Bp, 0, none⟩) ∧ Aside (Dst l (darkL l eyes b) f n p) ∧ Aside (WyI w' B st.1.length st p s18 m Bp wr))
    case atStart => exact ⟨t, d, 1, _, Nat.le_refl _, by omega, rfl, HD.out, HI⟩
    case round =>
      obtain ⟨p, n, m, Bp, hn, hmn, rfl, HDp, HIp⟩ := hrel
      have hO := HIp.out.old
      have c0 := (hO.cell (p := ⟨w.heap.size + 1, 0, none⟩) z1).trans f0
      have c1 := (hO.cell (p := ⟨w.heap.size + 1, 1, none⟩) z1).trans f1
      have pc0 := HIp.out.c0
      have pc1 := HIp.out.c1
      have pf0 := HIp.out.f0
      have pf1 := HIp.out.f1
      have hB := HIp.out.hB
      have hBl : Bp < wr.heap.size := World.block_lt_of_cell? _ _ pc0
      have hsz := hO.size
      clear hO
      cases hx : (p.1 == f.1 && (p.2 == f.2))
      case true =>
        have ex := (eqP_iff p f).1 hx
        have hn0 : n = 0 := by
          have h1 := HDp.out
          rw [ex] at h1
          exact h1.uniq (dst_start h1.1.start)
        obtain ⟨g, cap, rfl, hg1, ps, hps, hrow⟩ := wyI_form HIp.out (by omega)
        have hrv := rev_own hrow hps (by omega)
        have HO := asd HIp.out.old
        clear hrow hps
        go_wp2_with (go_at_call 34; refine hrv.mono ?_; rintro e w2 ⟨rfl, hbl⟩)
        go_ret3
        obtain rfl : m = d + 1 := by omega
        exact .inl ⟨d, by omega, HD.out, _, _, rfl, (hW.trans (HO.out.mono hW.size)).trans (hbl _ (Nat.le_trans hW.size hg1))⟩
      case false =>
        have hpm := HBK.out.all p n HDp.out.1
        have bp := inR_bd (in_inR HBX.out (HBK.out.inb p hpm))
        have bp1 : bigI p.1 := bigI_of (by omega) (by omega)
        have bp2 : bigI p.2 := bigI_of (by omega) (by omega)
        obtain ⟨n', rfl⟩ : ∃ n', n = n' + 1 := by
          rcases Nat.eq_zero_or_pos n with e | e
          · subst e
            have := HDp.out.zero
            rw [(eqP_iff p f).2 this] at hx
            cases hx
          · exact ⟨n - 1, by omega⟩
        obtain ⟨q, hq, hdq⟩ := HBK.out.step HDp.out
        have HQ := asd (show (st.2 p).getD (0, 0) = q by rw [hq]; rfl)
        have HDq := asd hdq
        obtain ⟨ps, hps, hown⟩ := wyI_own (q := q) HIp.out
        have HPS := asd hps
        have HOW := asd hown
        have HBW := asd (wyI_blw (q := q) HIp.out)
        obtain ⟨s0, s1⟩ := stP_cell wr Bp q _ _ pc0 pc1
        have HS0 := asd s0
        have HS1 := asd s1
        have HMp := asd HIp.out.map
        have hssz : w'.heap.size ≤ (stP wr Bp q).heap.size := HBW.out.size
        have HSZ := asd hssz
        clear hpm bp hq hdq hps hown s0 s1 hssz
        go_wp2_with (first | (at_lookup; refine wpList_look_pm _ rfl _ _ rfl B _ st.2 rfl HMp.out p rfl bp1 bp2 q HQ.out ?_) | (at_builtin; go_loud (refine app_own' (w0 := w') w'.heap.size wr.heap.size (stP_size wr Bp q) rfl _ _ 23 25 (.agg #[.int .i64 0, .int .i64 0]) 2 16 rfl Try.underlying23 (by kernel_rfl) rfl (by decide) (by decide) u18 _ _ [.int .i64 q.1, .int .i64 q.2] rfl rfl rfl (by simp [Value.oneCell']) HOW.out HBW.out HSZ.out (by omega) ?_); intro v1 w2 ho1 hb1 hg1 _; have y0 := hg1.cell HS0.out (fun e => HIp.out.far e.symm); have y1 := hg1.cell HS1.out (fun e => HIp.out.far e.symm); have HI2 := asd (wyI_next HIp.out HPS.out ho1 hb1 hg1); clear ho1 hb1 hg1))
        go_roundg n'
        case measure => omega
        case rel => exact ⟨q, n', m + 1, _, Nat.le_refl _, by omega, rfl, HDq.out, HI2.out⟩
end Go.Proofs.Ytdpdchghafopfaa
