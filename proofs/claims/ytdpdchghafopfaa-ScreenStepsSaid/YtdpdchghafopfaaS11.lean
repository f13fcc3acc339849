/- Contracts of functions that the statement reaches; the conditions stand in each theorem. -/
import Derived.Test.YtdpdchghafopfaaS10
import Derived.Test.YtdpdchghafopfaaK2
set_option linter.unusedVariables false
set_option linter.unusedSimpArgs false
namespace Go.Proofs.Ytdpdchghafopfaa
open Go.RowKit
def initV (f p : Pt) : Int := if (p.1 == f.1 && (p.2 == f.2)) then 0 else -1
def initTo (f : Pt) (pts : List Pt) (i : Nat) : List Int := (pts.take i).map (initV f) ++ List.replicate (pts.length - i) 0
theorem set_mid (A : List Int) (m : Nat) (v : Int) : (A ++ List.replicate (m + 1) 0).set A.length v = A ++ [v] ++ List.replicate m 0 := by
  rw [List.set_append_right _ _ (Nat.le_refl _), Nat.sub_self, List.replicate_succ]; simp
theorem initTo_set (f : Pt) (pts : List Pt) (i : Nat) (h : i < pts.length) : (initTo f pts i).set i (initV f pts[i]) = initTo f pts (i + 1) := by
  unfold initTo
  have e1 : pts.length - i = (pts.length - (i + 1)) + 1 := by omega
  have e2 : ((pts.take i).map (initV f)).length = i := by simp; omega
  have := set_mid ((pts.take i).map (initV f)) (pts.length - (i + 1)) (initV f pts[i])
  rw [e2] at this
  rw [e1, this, List.take_succ_eq_append_getElem h, List.map_append]
  rfl
theorem initTo_len (f : Pt) (pts : List Pt) (i : Nat) (h : i ≤ pts.length) : (initTo f pts i).length = pts.length := by
  unfold initTo; simp; omega
theorem mem_col {f : Pt → Bool} {x y0 : Int} {j : Nat} {p : Pt} (h : p ∈ colTo f x y0 j) : p.1 = x ∧ y0 ≤ p.2 ∧ p.2 < y0 + j ∧ f p = true := by
  unfold colTo at h
  rw [List.mem_filter, List.mem_map] at h
  obtain ⟨⟨k, hk, rfl⟩, hf⟩ := h
  rw [List.mem_range] at hk
  exact ⟨rfl, by show y0 ≤ y0 + (k : Int); omega, by show y0 + (k : Int) < y0 + j; omega, hf⟩
theorem mem_grid {f : Pt → Bool} {x0 y0 : Int} {m i : Nat} {p : Pt} (h : p ∈ gridTo f x0 y0 m i) : x0 ≤ p.1 ∧ p.1 < x0 + i ∧ y0 ≤ p.2 ∧ p.2 < y0 + m ∧ f p = true := by
  unfold gridTo at h
  rw [List.mem_flatMap] at h
  obtain ⟨a, ha, h⟩ := h
  rw [List.mem_range] at ha
  obtain ⟨e, h1, h2, h3⟩ := mem_col h
  exact ⟨by omega, by omega, h1, h2, h3⟩
theorem dark_ok {l : List Sc} {eyes : List Pt} {b : Bx} (hb : boxB b = true) : okP (darkL l eyes b) := by
  intro p hp
  unfold darkL at hp
  have := mem_grid hp
  simp only [boxB, inR, Bool.and_eq_true, decide_eq_true_eq] at hb ⊢
  have h1 : (wid b : Int) = b.2.1 - b.1.1 + 1 := by unfold wid; omega
  have h2 : (hei b : Int) = b.2.2 - b.1.2 + 1 := by unfold hei; omega
  omega
theorem dark_len {l : List Sc} {eyes : List Pt} {b : Bx} (hb : boxB b = true) : (darkL l eyes b).length ≤ 441 := by
  simp only [boxB, inR, Bool.and_eq_true, decide_eq_true_eq] at hb
  have h1 : wid b ≤ 21 := by unfold wid; omega
  have h2 : hei b ≤ 21 := by unfold hei; omega
  exact Nat.le_trans (gridTo_len _ _ _ _ _) (Nat.le_trans (Nat.mul_le_mul h1 h2) (by decide))
def nbr (l : List Sc) (p q : Pt) : Bool := decide (apartZ p q = 1) && seesB l p q
def relaxK (l : List Sc) (pts : List Pt) (rd : Int) (i : Nat) (st : List Int × Bool) (k : Nat) : List Int × Bool :=
  if decide (st.1.getD k 0 < 0) && nbr l (pts.getD i (0, 0)) (pts.getD k (0, 0)) then (st.1.set k (rd + 1), true) else st
def rowI (l : List Sc) (pts : List Pt) (rd : Int) (st : List Int × Bool) (i : Nat) : List Int × Bool :=
  if st.1.getD i 0 = rd then (List.range pts.length).foldl (relaxK l pts rd i) st else st
def roundL (l : List Sc) (pts : List Pt) (rd : Int) (s : List Int) : List Int × Bool := (List.range pts.length).foldl (rowI l pts rd) (s, false)
inductive DistTo (l : List Sc) (pts : List Pt) : Int → List Int → List Int → Prop where
  | done (rd : Int) (s : List Int) (h : (roundL l pts rd s).2 = false) : DistTo l pts rd s (roundL l pts rd s).1
  | go (rd : Int) (s r : List Int) (h : (roundL l pts rd s).2 = true) (t : DistTo l pts (rd + 1) (roundL l pts rd s).1 r) : DistTo l pts rd s r
def negs (s : List Int) : Nat := s.countP fun x => decide (x < 0)

theorem relaxK_len (l : List Sc) (pts : List Pt) (rd : Int) (i : Nat) (st : List Int × Bool) (k : Nat) : (relaxK l pts rd i st k).1.length = st.1.length := by
  unfold relaxK; split <;> simp
theorem relaxF_len (l : List Sc) (pts : List Pt) (rd : Int) (i : Nat) (st : List Int × Bool) (ks : List Nat) : (ks.foldl (relaxK l pts rd i) st).1.length = st.1.length := by
  induction ks generalizing st with
  | nil => rfl
  | cons k t ih => rw [List.foldl_cons, ih, relaxK_len]
theorem rowI_len (l : List Sc) (pts : List Pt) (rd : Int) (st : List Int × Bool) (i : Nat) : (rowI l pts rd st i).1.length = st.1.length := by
  unfold rowI; split
  · exact relaxF_len ..
  · rfl
theorem rowF_len (l : List Sc) (pts : List Pt) (rd : Int) (st : List Int × Bool) (ks : List Nat) : (ks.foldl (rowI l pts rd) st).1.length = st.1.length := by
  induction ks generalizing st with
  | nil => rfl
  | cons k t ih => rw [List.foldl_cons, ih, rowI_len]
theorem relaxK_keep (l : List Sc) (pts : List Pt) (rd : Int) (h0 : 0 ≤ rd) (i : Nat) (st : List Int × Bool) (k j : Nat) (h : 0 ≤ st.1.getD j 0) : (relaxK l pts rd i st k).1.getD j 0 = st.1.getD j 0 := by
  unfold relaxK
  split
  · rename_i hc
    rw [Bool.and_eq_true, decide_eq_true_eq] at hc
    have hne : k ≠ j := by intro e; subst e; omega
    simp [List.getD_eq_getElem?_getD, List.getElem?_set_ne hne]
  · rfl
theorem relaxF_keep (l : List Sc) (pts : List Pt) (rd : Int) (h0 : 0 ≤ rd) (i : Nat) (st : List Int × Bool) (ks : List Nat) (j : Nat) (h : 0 ≤ st.1.getD j 0) : (ks.foldl (relaxK l pts rd i) st).1.getD j 0 = st.1.getD j 0 := by
  induction ks generalizing st with
  | nil => rfl
  | cons k t ih => rw [List.foldl_cons, ih _ (by rw [relaxK_keep l pts rd h0 i st k j h]; exact h), relaxK_keep l pts rd h0 i st k j h]
theorem negs_set (s : List Int) (k : Nat) (v : Int) (hv : 0 ≤ v) (h : s.getD k 0 < 0) : negs (s.set k v) + 1 = negs s := by
  have hk : k < s.length := by
    rcases Nat.lt_or_ge k s.length with h1 | h1
    · exact h1
    · rw [List.getD_eq_getElem?_getD, List.getElem?_eq_none h1] at h; simp at h
  unfold negs
  have hg : s[k] < 0 := by rw [List.getD_eq_getElem?_getD, List.getElem?_eq_getElem hk] at h; simpa using h
  rw [List.countP_set hk]
  have hp : 0 < s.countP fun x => decide (x < 0) := List.countP_pos_iff.2 ⟨s[k], List.getElem_mem hk, by simpa using hg⟩
  simp [hg, show ¬ v < 0 by omega]
  omega
theorem relaxK_negs (l : List Sc) (pts : List Pt) (rd : Int) (h0 : 0 ≤ rd) (i : Nat) (st : List Int × Bool) (k : Nat) :
    negs (relaxK l pts rd i st k).1 ≤ negs st.1 ∧ ((relaxK l pts rd i st k).2 = true → st.2 = true ∨ negs (relaxK l pts rd i st k).1 < negs st.1) := by
  unfold relaxK
  split
  · rename_i hc
    rw [Bool.and_eq_true, decide_eq_true_eq] at hc
    have := negs_set st.1 k (rd + 1) (by omega) hc.1
    simp only
    omega
  · exact ⟨Nat.le_refl _, fun h => .inl h⟩
theorem relaxF_negs (l : List Sc) (pts : List Pt) (rd : Int) (h0 : 0 ≤ rd) (i : Nat) (st : List Int × Bool) (ks : List Nat) :
    negs (ks.foldl (relaxK l pts rd i) st).1 ≤ negs st.1 ∧ ((ks.foldl (relaxK l pts rd i) st).2 = true → st.2 = true ∨ negs (ks.foldl (relaxK l pts rd i) st).1 < negs st.1) := by
  induction ks generalizing st with
  | nil => exact ⟨Nat.le_refl _, fun h => .inl h⟩
  | cons k t ih =>
    rw [List.foldl_cons]
    have h1 := relaxK_negs l pts rd h0 i st k
    have h2 := ih (relaxK l pts rd i st k)
    refine ⟨Nat.le_trans h2.1 h1.1, fun h => ?_⟩
    rcases h2.2 h with h3 | h3
    · rcases h1.2 h3 with h4 | h4
      · exact .inl h4
      · right; omega
    · right; omega
theorem rowF_negs (l : List Sc) (pts : List Pt) (rd : Int) (h0 : 0 ≤ rd) (st : List Int × Bool) (ks : List Nat) :
    negs (ks.foldl (rowI l pts rd) st).1 ≤ negs st.1 ∧ ((ks.foldl (rowI l pts rd) st).2 = true → st.2 = true ∨ negs (ks.foldl (rowI l pts rd) st).1 < negs st.1) := by
  induction ks generalizing st with
  | nil => exact ⟨Nat.le_refl _, fun h => .inl h⟩
  | cons k t ih =>
    rw [List.foldl_cons]
    have h1 : negs (rowI l pts rd st k).1 ≤ negs st.1 ∧ ((rowI l pts rd st k).2 = true → st.2 = true ∨ negs (rowI l pts rd st k).1 < negs st.1) := by
      unfold rowI
      split
      · exact relaxF_negs l pts rd h0 k st _
      · exact ⟨Nat.le_refl _, fun h => .inl h⟩
    have h2 := ih (rowI l pts rd st k)
    refine ⟨Nat.le_trans h2.1 h1.1, fun h => ?_⟩
    rcases h2.2 h with h3 | h3
    · rcases h1.2 h3 with h4 | h4
      · exact .inl h4
      · right; omega
    · right; omega
theorem round_negs (l : List Sc) (pts : List Pt) (rd : Int) (h0 : 0 ≤ rd) (s : List Int) (h : (roundL l pts rd s).2 = true) : negs (roundL l pts rd s).1 < negs s := by
  rcases (rowF_negs l pts rd h0 (s, false) (List.range pts.length)).2 h with h1 | h1
  · cases h1
  · exact h1
theorem foldl_range_succ {α : Type} (f : α → Nat → α) (a : α) (n : Nat) : (List.range (n + 1)).foldl f a = f ((List.range n).foldl f a) n := by
  rw [List.range_succ, List.foldl_append]; rfl
theorem getD_of {α : Type} (xs : List α) (d : α) (k : Nat) (h : k < xs.length) : xs.getD k d = xs[k] := by
  rw [List.getD_eq_getElem?_getD, List.getElem?_eq_getElem h]; rfl
theorem own_nums {w : World} {base g n : Nat} {e : TypeId} {xs : List Int} (h : w.ownsRow base e 1 (.slice (some ⟨g, 0, none⟩) n n) n (xs.flatMap encI)) (i : Nat) (hi : i < xs.length) :
    w.cell? ⟨g, i, none⟩ = some (.int .i64 (xs.getD i 0)) ∧ w.frozen? ⟨g, i, none⟩ = false := by
  have hl : xs.length = n := by have := h.1; rw [flat_len encI 1 (fun _ => rfl)] at this; omega
  refine ⟨?_, h.frozenAt i⟩
  rw [h.cellAt i (by omega)]
  have := flat_at encI 1 (fun _ => rfl) xs i hi 0 (.int .i64 xs[i]) rfl
  rw [Nat.mul_one, Nat.add_zero] at this
  rw [this, List.getD_eq_getElem?_getD, List.getElem?_eq_getElem hi]; rfl
theorem flatI (xs : List Int) : xs.flatMap encI = xs.map (Value.int .i64) := by
  induction xs with
  | nil => rfl
  | cons x t ih => simp [List.flatMap_cons, encI, ih]
theorem own_num_set {w : World} {base g n : Nat} {e : TypeId} {xs : List Int} (h : w.ownsRow base e 1 (.slice (some ⟨g, 0, none⟩) n n) n (xs.flatMap encI)) (i : Nat) (v : Int) :
    (w.setCell ⟨g, i, none⟩ (.int .i64 v)).ownsRow base e 1 (.slice (some ⟨g, 0, none⟩) n n) n ((xs.set i v).flatMap encI) := by
  have := (h.stored i (.int .i64 v)).1
  rw [flatI] at this ⊢
  rwa [← List.map_set] at this

def DistPost (l : List Sc) (pts : List Pt) (f : Pt) (w : World) (e : Ending) (w' : World) : Prop := ∃ A1 c1 A2 c2 r, e = .returned (.tuple #[.slice A1 pts.length c1, .slice A2 pts.length c2]) ∧ Rd w' encP 2 A1 pts ∧ Rd w' encI 1 A2 r ∧ r.length = pts.length ∧ DistTo l pts 0 (pts.map (initV f)) r ∧ Below w.heap.size w w'

set_option maxRecDepth 20000 in
set_option maxHeartbeats 1000000 in
theorem distances_any (l : List Sc) (eyes : List Pt) (b : Bx) (f : Pt) (la ea : Option Addr) (c ce : Nat) (w : World) (H : Rd w encS 4 la l) (HE : Rd w encP 2 ea eyes) (hl : okS l) (he : okP eyes) (hb : boxB b = true) :
    Calls Try.prog 20 #[.slice la l.length c, .slice ea eyes.length ce, B4 b, P2 f] w (DistPost l (darkL l eyes b) f w) := by
  have hlen := dark_len (l := l) (eyes := eyes) hb
  have hok := dark_ok (l := l) (eyes := eyes) hb
  have kmk := mk_slice (P := Try.prog) 54 3 (.int .i64 0) 8 Try.underlying54 (by kernel_rfl) rfl (by decide) (darkL l eyes b).length (by omega)
  have hdark := fun W hW => dark_any l eyes b la ea c ce W (H.below hW) (HE.below hW) hl he hb
  have HL := fun W (hW : Below w.heap.size w W) => H.below hW
  clear H HE he hb
  generalize darkL l eyes b = pts at hlen hok kmk hdark
  go_enter Try.func20, Try.ntmps20
  go_wp2_with (go_at_call 31; refine (hdark _ ?_).mono ?_; ((repeat (first | exact Below.refl _ _ | refine blw_alloc ?_ _ | refine blw_drew ?_ | refine blw_rg ?_ _ | refine blw_call (by assumption) ?_))); rintro e w' ⟨v, rfl, ho, hbw⟩; obtain ⟨A, cc, rfl, hrd⟩ := own_rd (enc := encP) (fun _ => rfl) (by omega) ho; clear ho; (first | (obtain ⟨pg, rfl⟩ := rg_next hbw) | (obtain ⟨pg, rfl⟩ := rg_mk hbw)))
  have hW1 : Below w.heap.size w (rg ((w.alloc (.cells #[.int .i64 b.1.1, .int .i64 b.1.2, .int .i64 b.2.1, .int .i64 b.2.2] 27)).alloc (.cells #[.int .i64 f.1, .int .i64 f.2] 25)) pg) := by (repeat (first | exact Below.refl _ _ | refine blw_alloc ?_ _ | refine blw_drew ?_ | refine blw_rg ?_ _ | refine blw_call (by assumption) ?_))
  have f0 : (rg ((w.alloc (.cells #[.int .i64 b.1.1, .int .i64 b.1.2, .int .i64 b.2.1, .int .i64 b.2.2] 27)).alloc (.cells #[.int .i64 f.1, .int .i64 f.2] 25)) pg).cell? ⟨w.heap.size + 1, 0, none⟩ = some (.int .i64 f.1) := by go_simp
  have f1 : (rg ((w.alloc (.cells #[.int .i64 b.1.1, .int .i64 b.1.2, .int .i64 b.2.1, .int .i64 b.2.2] 27)).alloc (.cells #[.int .i64 f.1, .int .i64 f.2] 25)) pg).cell? ⟨w.heap.size + 1, 1, none⟩ = some (.int .i64 f.2) := by go_simp
  generalize rg ((w.alloc (.cells #[.int .i64 b.1.1, .int .i64 b.1.2, .int .i64 b.2.1, .int .i64 b.2.2] 27)).alloc (.cells #[.int .i64 f.1, .int .i64 f.2] 25)) pg = W1 at hW1 f0 f1 hrd ⊢
  have hown := own_made W1 W1.heap.size 3 (.int .i64 0) pts.length (Nat.le_refl _) (by omega)
  clear kmk hdark
  go_loopg [12] pts.length (fun gg s12 wr => ∃ i : Nat, i ≤ pts.length ∧ pts.length - i ≤ gg ∧ s12 = .int .i64 i ∧ Aside (wr.ownsRow W1.heap.size 3 1 (.slice (some ⟨W1.heap.size, 0, none⟩) pts.length pts.length) pts.length ((initTo f pts i).flatMap encI)) ∧ Aside (Below W1.heap.size W1 wr))
  case atStart => exact ⟨0, Nat.zero_le _, by omega, rfl, (by show Aside _; rw [show initTo f pts 0 = List.replicate pts.length 0 from by simp [initTo], flatI, List.map_replicate]; exact hown), blw_alloc (Below.refl _ _) _⟩
  case round =>
    clear hown
    obtain ⟨i, hi, hg, rfl, HO, HB⟩ := hrel
    by_cases hlt : i < pts.length
    · have hltz : (i : Int) < (pts.length : Int) := by omega
      obtain ⟨b0, off, rfl, hb0, hc⟩ := hrd.at_ i hlt
      have hil : i < (initTo f pts i).length := by rw [initTo_len _ _ _ (by omega)]; exact hlt
      obtain ⟨o0, o1⟩ := own_nums HO.out i hil
      have HO2 := own_num_set HO.out i (-1)
      have HB2 := HB.out.setCell (p := ⟨W1.heap.size, i, none⟩) (Nat.le_refl _) (.int .i64 (-1))
      have hcx0 := hc 0 _ rfl
      have hcx1 := hc 1 _ rfl
      have HT := Go.Lib.hid (initTo_set f pts i hlt)
      generalize pts[i] = x at hcx0 hcx1 HT
      clear hc HO HB
      go_wp2_with fail
      have hsz := HB2.size
      generalize wr.setCell ⟨W1.heap.size, i, none⟩ (.int .i64 (-1)) = wr2 at HO2 HB2 hsz ⊢
      clear o0 o1
      have q0 := fun q => rg_cell ((HB2.cell (p := ⟨b0, off + i * 2 + 0, none⟩) hb0).trans hcx0) q
      have q1 := fun q => rg_cell ((HB2.cell (p := ⟨b0, off + i * 2 + 1, none⟩) hb0).trans hcx1) q
      change ∀ p, (rg wr2 p).cell? ⟨b0, off + i * 2, none⟩ = _ at q0
      have r0 := fun q => rg_cell ((HB2.cell (p := ⟨w.heap.size + 1, 0, none⟩) (World.block_lt_of_cell? _ _ f0)).trans f0) q
      have r1 := fun q => rg_cell ((HB2.cell (p := ⟨w.heap.size + 1, 1, none⟩) (World.block_lt_of_cell? _ _ f1)).trans f1) q
      clear hcx0 hcx1
      have A2 := asd HO2
      have B2 := asd HB2
      clear HO2 HB2
      cases hx : (x.1 == f.1 && (x.2 == f.2))
      all_goals
        have hv := Go.Lib.hid (show initV f x = _ by unfold initV; rw [hx])
        ((with_reducible refine wp_region_rg (by kernel_rfl) (by kernel_rfl) ?_); (repeat (first | go_big_quiet_step (fail) | quiet_step (fail))); refine wpQuiet_nil ?_; intro _ hw'; obtain ⟨prg, hw''⟩ := hw'; subst hw'')
        have hbr := rg_below wr2 prg
        generalize rg wr2 prg = wr3 at hbr
        clear q0 q1 r0 r1
        have A3 := asd (own_blw A2.out hbr)
        have B3 : Aside (Below W1.heap.size W1 wr3) := B2.out.trans (hbr.mono hsz)
        clear A2 B2 hbr
        have hil2 : i < ((initTo f pts i).set i (-1)).length := by rw [List.length_set]; exact hil
        obtain ⟨o0, o1⟩ := own_nums A3.out i hil2
        go_wp2
        go_roundg (pts.length - (i + 1))
        case measure => omega
      · refine ⟨i + 1, by omega, by omega, by go_num, ?_, B3⟩
        rw [← HT.out, hv.out]; exact A3
      · refine ⟨i + 1, by omega, by omega, by go_num, ?_, B3.out.setCell (p := ⟨W1.heap.size, i, none⟩) (Nat.le_refl _) _⟩
        rw [← HT.out, hv.out]
        have := own_num_set A3.out i 0
        rw [List.set_set] at this
        exact this
    · have hltz : ¬ (i : Int) < (pts.length : Int) := by omega
      have ei : Hid (i = pts.length) := by show i = pts.length; omega
      have HO2 : Aside (wr.ownsRow W1.heap.size 3 1 (.slice (some ⟨W1.heap.size, 0, none⟩) pts.length pts.length) pts.length ((pts.map (initV f)).flatMap encI)) := by
        have := HO.out
        rw [ei.out] at this
        unfold initTo at this
        rw [List.take_length, Nat.sub_self, List.replicate_zero, List.append_nil] at this
        exact this
      clear HO
      go_wp2
      have hn0 : negs (pts.map (initV f)) ≤ 441 := Nat.le_trans List.countP_le_length (by simp; omega)
      have hl0 : (pts.map (initV f)).length = pts.length := by simp
      go_loopg [13, 14, 15, 16] 441 (fun gg s13 _ _ _ wr => ∃ (rd : Nat) (s : List Int), negs s ≤ gg ∧ rd + negs s ≤ 441 ∧ s13 = .int .i64 rd ∧ Aside (s.length = pts.length) ∧ Aside (∀ r, DistTo l pts rd s r → DistTo l pts 0 (pts.map (initV f)) r) ∧ Aside (wr.ownsRow W1.heap.size 3 1 (.slice (some ⟨W1.heap.size, 0, none⟩) pts.length pts.length) pts.length ((s).flatMap encI)) ∧ Aside (Below W1.heap.size W1 wr))
      case atStart => exact ⟨0, _, hn0, by omega, rfl, hl0, fun r h => h, HO2, HB⟩
      case round =>
        clear HO2 HB hn0 hl0
        obtain ⟨rd, s, hg2, hrd2, rfl, HLs, HD, HO, HB⟩ := hrel
        go_wp2_with fail
        obtain ⟨wo, rfl⟩ : ∃ wo : World, wo = wr := ⟨_, rfl⟩
        go_loopg [14, 15, 16] pts.length (fun gg s14 s15 _ wr => ∃ i : Nat, i ≤ pts.length ∧ pts.length - i ≤ gg ∧ s15 = .int .i64 i ∧ s14 = .bool ((List.range i).foldl (rowI l pts rd) (s, false)).2 ∧ Aside (wr.ownsRow W1.heap.size 3 1 (.slice (some ⟨W1.heap.size, 0, none⟩) pts.length pts.length) pts.length ((((List.range i).foldl (rowI l pts rd) (s, false)).1).flatMap encI)) ∧ Aside (Below W1.heap.size W1 wr))
        case atStart => exact ⟨0, Nat.zero_le _, by omega, rfl, rfl, HO, HB⟩
        case round =>
          clear HO HB
          obtain ⟨i, hi2, hg3, rfl, rfl, HO, HB⟩ := hrel
          have HLi := asd ((rowF_len l pts rd (s, false) (List.range i)).trans HLs.out)
          have HTI := Go.Lib.hid (foldl_range_succ (rowI l pts rd) (s, false) i)
          generalize hst0 : (List.range i).foldl (rowI l pts rd) (s, false) = st at HO HLi HTI ⊢
          have HST := Go.Lib.hid hst0
          clear hst0
          by_cases hlt2 : i < pts.length
          · have hltz2 : (i : Int) < (pts.length : Int) := by omega
            go_wp2_with fail
            obtain ⟨wq, rfl⟩ : ∃ wq : World, wq = wr := ⟨_, rfl⟩
            go_loopg [14, 16] pts.length (fun gg s14 s16 wr => ∃ k : Nat, k ≤ pts.length ∧ pts.length - k ≤ gg ∧ s16 = .int .i64 k ∧ s14 = .bool ((List.range k).foldl (relaxK l pts rd i) st).2 ∧ Aside (k = 0 ∨ st.1.getD i 0 = rd) ∧ Aside (wr.ownsRow W1.heap.size 3 1 (.slice (some ⟨W1.heap.size, 0, none⟩) pts.length pts.length) pts.length ((((List.range k).foldl (relaxK l pts rd i) st).1).flatMap encI)) ∧ Aside (Below W1.heap.size W1 wr))
            case atStart => exact ⟨0, Nat.zero_le _, by omega, rfl, rfl, Or.inl rfl, HO, HB⟩
            case round =>
              clear HO HB
              obtain ⟨k, hk, hg4, rfl, rfl, HK, HO, HB⟩ := hrel
              have HLk := asd ((relaxF_len l pts rd i st (List.range k)).trans HLi.out)
              have HTK := Go.Lib.hid (foldl_range_succ (relaxK l pts rd i) st k)
              have HKeep := asd (fun (h : st.1.getD i 0 = (rd : Int)) => (relaxF_keep l pts rd (by omega) i st (List.range k) i (by omega)).trans h)
              by_cases hlt3 : k < pts.length
              · have hltz3 : (k : Int) < (pts.length : Int) := by omega
                by_cases hsi : ((List.range k).foldl (relaxK l pts rd i) st).1.getD i 0 = (rd : Int)
                · have HSi : Aside (st.1.getD i 0 = (rd : Int)) := by
                    rcases HK.out with h | h
                    · subst h; exact hsi
                    · exact h
                  generalize (List.range k).foldl (relaxK l pts rd i) st = sk at HO HLk HTK HKeep hsi ⊢
                  have hbi : i < sk.1.length := by have := HLk.out; omega
                  have hbk : k < sk.1.length := by have := HLk.out; omega
                  obtain ⟨oi, _⟩ := own_nums HO.out i hbi
                  obtain ⟨ok, _⟩ := own_nums HO.out k hbk
                  have HR := Go.Lib.hid (show relaxK l pts rd i sk k = if decide (sk.1.getD k 0 < 0) && (decide (apartZ pts[i] pts[k] = 1) && seesB l pts[i] pts[k]) then (sk.1.set k (rd + 1), true) else sk by unfold relaxK nbr; rw [getD_of pts _ i hlt2, getD_of pts _ k hlt3])
                  obtain ⟨b0, off, rfl, hb0, hc⟩ := hrd.row (by omega)
                  have hxin := hok pts[i] (List.getElem_mem hlt2)
                  have hyin := hok pts[k] (List.getElem_mem hlt3)
                  have q0 := fun q => rg_cell ((HB.out.cell (p := ⟨b0, off + i * 2 + 0, none⟩) hb0).trans (hc i hlt2 0 _ rfl)) q
                  have q1 := fun q => rg_cell ((HB.out.cell (p := ⟨b0, off + i * 2 + 1, none⟩) hb0).trans (hc i hlt2 1 _ rfl)) q
                  have r0 := fun q => rg_cell ((HB.out.cell (p := ⟨b0, off + k * 2 + 0, none⟩) hb0).trans (hc k hlt3 0 _ rfl)) q
                  have r1 := fun q => rg_cell ((HB.out.cell (p := ⟨b0, off + k * 2 + 1, none⟩) hb0).trans (hc k hlt3 1 _ rfl)) q
                  change ∀ p, (rg wr p).cell? ⟨b0, off + i * 2, none⟩ = _ at q0
                  change ∀ p, (rg wr p).cell? ⟨b0, off + k * 2, none⟩ = _ at r0
                  generalize pts[i] = x at q0 q1 hxin HR
                  generalize pts[k] = y at r0 r1 hyin HR
                  rw [hsi] at oi
                  have HVk := Go.Lib.hid (show sk.1.getD k 0 = sk.1.getD k 0 from rfl)
                  generalize hvk : sk.1.getD k 0 = vk at ok HR
                  have HVk2 := Go.Lib.hid hvk
                  have ok2 := rg_cell ok
                  have hap := fun q => apart_any x y (rg wr q) hxin hyin
                  have hse := fun q => refsees_any l x y la c (rg wr q) (HL _ (blw_rg (blw_call HB.out hW1) q)) hl hxin hyin
                  clear hvk HVk hc hxin hyin HKeep
                  have hsz : W1.heap.size ≤ wr.heap.size := HB.out.size
                  have hnx : Aside ((decide (vk < 0) && (decide (apartZ x y = 1) && seesB l x y)) = false → (List.range (k + 1)).foldl (relaxK l pts rd i) st = sk) := fun h => by rw [HTK.out, HR.out, h]; rfl
                  have hst : Aside ((decide (vk < 0) && (decide (apartZ x y = 1) && seesB l x y)) = true → (List.range (k + 1)).foldl (relaxK l pts rd i) st = (sk.1.set k ((rd : Int) + 1), true)) := fun h => by rw [HTK.out, HR.out, h]; rfl
                  clear HTK HR
                  have fin : ∀ wr3, Below wr.heap.size wr wr3 → Aside (wr3.ownsRow W1.heap.size 3 1 (.slice (some ⟨W1.heap.size, 0, none⟩) pts.length pts.length) pts.length (sk.1.flatMap encI)) ∧ Aside (Below W1.heap.size W1 wr3) := fun wr3 h => ⟨own_blw HO.out h, HB.out.trans (h.mono hsz)⟩
                  have FIN := asd fin
                  clear fin
                  cases h1 : decide (vk < 0)
                  · have hN := asd (hnx.out (by rw [h1]; rfl))
                    clear hnx hst
                    go_wp2_with fail
                    ((with_reducible refine wp_region_rg (by kernel_rfl) (by kernel_rfl) ?_); (repeat (first | go_big_quiet_step (fail) | quiet_step (fail))); refine wpQuiet_nil ?_; intro _ hw'; obtain ⟨prg, hw''⟩ := hw'; subst hw'')
                    have hbr := rg_below wr prg
                    obtain ⟨A3, B3⟩ := FIN.out _ hbr
                    generalize rg wr prg = wr3 at hbr A3 B3
                    clear q0 q1 r0 r1 ok2 oi ok hap hse
                    go_wp2
                    go_roundg (pts.length - (k + 1))
                    case measure => omega
                    case rel => exact ⟨k + 1, by omega, by omega, by go_num, by rw [hN.out], Or.inr HSi.out, by rw [hN.out]; exact A3, B3⟩
                  · have hv1 : vk < 0 := by simpa using h1
                    cases h2 : (apartZ x y == 1)
                    · have hN := asd (hnx.out (by rw [h1]; have : decide (apartZ x y = 1) = false := by simpa using h2
                                                  rw [this]; rfl))
                      clear hnx hst h1
                      go_wp2_with fail
                      ((with_reducible refine wp_region_rg (by kernel_rfl) (by kernel_rfl) ?_); (repeat (first | go_big_quiet_step ((go_at_call 32; with_reducible exact rg_of (hap _))) | quiet_step ((go_at_call 32; with_reducible exact rg_of (hap _))))); refine wpQuiet_nil ?_; intro _ hw'; obtain ⟨prg, hw''⟩ := hw'; subst hw'')
                      have hbr := rg_below wr prg
                      obtain ⟨A3, B3⟩ := FIN.out _ hbr
                      generalize rg wr prg = wr3 at hbr A3 B3
                      clear q0 q1 r0 r1 ok2 oi ok hap hse
                      go_wp2
                      go_roundg (pts.length - (k + 1))
                      case measure => omega
                      case rel => exact ⟨k + 1, by omega, by omega, by go_num, by rw [hN.out], Or.inr HSi.out, by rw [hN.out]; exact A3, B3⟩
                    · cases h3 : seesB l x y
                      · have hN := asd (hnx.out (by rw [h3]; simp))
                        rw [h3] at hse
                        clear hnx hst h1
                        go_wp2_with fail
                        ((with_reducible refine wp_region_rg (by kernel_rfl) (by kernel_rfl) ?_); (repeat (first | go_big_quiet_step ((first | (go_at_call 32; with_reducible exact rg_of (hap _)) | (go_at_call 33; with_reducible exact rg_of (hse _)))) | quiet_step ((first | (go_at_call 32; with_reducible exact rg_of (hap _)) | (go_at_call 33; with_reducible exact rg_of (hse _)))))); refine wpQuiet_nil ?_; intro _ hw'; obtain ⟨prg, hw''⟩ := hw'; subst hw'')
                        have hbr := rg_below wr prg
                        obtain ⟨A3, B3⟩ := FIN.out _ hbr
                        generalize rg wr prg = wr3 at hbr A3 B3
                        clear q0 q1 r0 r1 ok2 oi ok hap hse
                        go_wp2
                        go_roundg (pts.length - (k + 1))
                        case measure => omega
                        case rel => exact ⟨k + 1, by omega, by omega, by go_num, by rw [hN.out], Or.inr HSi.out, by rw [hN.out]; exact A3, B3⟩
                      · have hN := asd (hst.out (by rw [h1, h3]; have : decide (apartZ x y = 1) = true := by simpa using h2
                                                    rw [this]; rfl))
                        rw [h3] at hse
                        clear hnx hst h1
                        go_wp2_with fail
                        ((with_reducible refine wp_region_rg (by kernel_rfl) (by kernel_rfl) ?_); (repeat (first | go_big_quiet_step ((first | (go_at_call 32; with_reducible exact rg_of (hap _)) | (go_at_call 33; with_reducible exact rg_of (hse _)))) | quiet_step ((first | (go_at_call 32; with_reducible exact rg_of (hap _)) | (go_at_call 33; with_reducible exact rg_of (hse _)))))); refine wpQuiet_nil ?_; intro _ hw'; obtain ⟨prg, hw''⟩ := hw'; subst hw'')
                        have hbr := rg_below wr prg
                        obtain ⟨A3, B3⟩ := FIN.out _ hbr
                        generalize rg wr prg = wr3 at hbr A3 B3
                        clear q0 q1 r0 r1 ok2 oi ok hap hse
                        obtain ⟨o0, o1⟩ := own_nums A3.out k hbk
                        go_wp2
                        go_roundg (pts.length - (k + 1))
                        case measure => omega
                        case rel =>
                          refine ⟨k + 1, by omega, by omega, by go_num, by rw [hN.out], Or.inr HSi.out, ?_, B3.out.setCell (p := ⟨W1.heap.size, k, none⟩) (Nat.le_refl _) _⟩
                          rw [hN.out]
                          exact own_num_set A3.out k ((rd : Int) + 1)
                · have hsi2 := asd hsi
                  have hk0 : Aside (k = 0 ∧ st.1.getD i 0 ≠ (rd : Int)) := by
                    rcases HK.out with h | h
                    · subst h; exact ⟨rfl, hsi⟩
                    · exact absurd (HKeep.out h) hsi
                  have hbi : i < ((List.range k).foldl (relaxK l pts rd i) st).1.length := by have := HLk.out; omega
                  obtain ⟨oi, _⟩ := own_nums HO.out i hbi
                  have hres : Aside (rowI l pts rd st i = (List.range k).foldl (relaxK l pts rd i) st) := by
                    obtain ⟨e, h⟩ := hk0.out
                    show _ = _
                    subst e
                    unfold rowI
                    rw [if_neg h]; rfl
                  clear HKeep HTK HLk hk0 HK
                  generalize (List.range k).foldl (relaxK l pts rd i) st = sk at *
                  have hsi3 : (sk.1.getD i 0 == (rd : Int)) = false := by rw [beq_eq_false_iff_ne]; exact hsi
                  generalize sk.1.getD i 0 = vi at oi hsi3
                  clear hsi hsi2 hbi
                  go_wp2
                  go_roundg (pts.length - (i + 1))
                  case measure => omega
                  case rel => exact ⟨i + 1, by omega, by omega, by go_num, by rw [HTI.out, hres.out], by rw [HTI.out, hres.out]; exact HO, HB⟩
              · have hltz3 : ¬ (k : Int) < (pts.length : Int) := by omega
                have ek : Hid (k = pts.length) := by show k = pts.length; omega
                have hres : Aside (rowI l pts rd st i = (List.range k).foldl (relaxK l pts rd i) st) := by
                  show _ = _
                  rw [ek.out]
                  unfold rowI
                  rcases HK.out with h | h
                  · omega
                  · rw [if_pos h]
                clear HKeep HTK HLk HK
                generalize (List.range k).foldl (relaxK l pts rd i) st = sk at *
                go_wp2
                go_roundg (pts.length - (i + 1))
                case measure => omega
                case rel => exact ⟨i + 1, by omega, by omega, by go_num, by rw [HTI.out, hres.out], by rw [HTI.out, hres.out]; exact HO, HB⟩
          · have hltz2 : ¬ (i : Int) < (pts.length : Int) := by omega
            have ei2 : Hid (i = pts.length) := by show i = pts.length; omega
            have hre : Hid (roundL l pts rd s = st) := by
              show _ = _
              have : (List.range i).foldl (rowI l pts rd) (s, false) = st := HST.out
              unfold roundL
              rw [← ei2.out]; exact this
            cases hf : st.2
            · have hD := asd (show DistTo l pts rd s st.1 by
                have := DistTo.done (l := l) (pts := pts) (rd : Int) s (by rw [hre.out]; exact hf)
                rwa [hre.out] at this)
              have hD2 := asd (HD.out _ hD.out)
              clear hD HD HTI
              go_wp2
              go_ret2
              obtain ⟨A2, c2, e2, hr2⟩ := own_rd (enc := encI) (xs := st.1) (fun _ => rfl) (by have := HLi.out; omega) (by have := HLi.out; rw [this]; exact HO.out)
              injection e2 with e2 e3 e4
              subst e2
              exact ⟨_, _, _, _, st.1, rfl, hrd.below HB.out, hr2, HLi.out, hD2.out, blw_call HB.out hW1⟩
            · have hneg := round_negs l pts (rd : Int) (by omega) s (by rw [hre.out]; exact hf)
              rw [hre.out] at hneg
              have HD2 := asd (fun r (h : DistTo l pts ((rd : Int) + 1) st.1 r) => HD.out r (DistTo.go (rd : Int) s r (by rw [hre.out]; exact hf) (by rw [hre.out]; exact h)))
              clear HD HTI
              go_wp2
              go_roundg (negs st.1)
              case measure => omega
              case rel => exact ⟨rd + 1, st.1, Nat.le_refl _, by omega, by go_num, HLi, HD2, HO, HB⟩
end Go.Proofs.Ytdpdchghafopfaa
