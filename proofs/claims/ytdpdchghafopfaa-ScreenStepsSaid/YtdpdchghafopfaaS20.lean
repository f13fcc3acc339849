/- spread of the program. -/
import Derived.Test.YtdpdchghafopfaaS19
import Derived.Test.YtdpdchghafopfaaM
import Derived.WalkMore
set_option linter.unusedVariables false
set_option linter.unusedSimpArgs false
namespace Go.Proofs.Ytdpdchghafopfaa
open Go.RowKit
abbrev St := List Pt × (Pt → Option Pt)
def dirs : List Pt := [(1, 0), (-1, 0), (0, 1), (0, -1)]
def free (l : List Sc) (eyes : List Pt) (b : Bx) (p q : Pt) : Bool := inB b q && seesB l p q && hidB l eyes q
def stepS (l : List Sc) (eyes : List Pt) (b : Bx) (p : Pt) (st : St) (q : Pt) : St :=
  if (st.2 q).isSome || !(free l eyes b p q) then st else (st.1 ++ [q], fun q' => if q' = q then some p else st.2 q')
def stepD (l : List Sc) (eyes : List Pt) (b : Bx) (p : Pt) (st : St) (d : Pt) : St := stepS l eyes b p st (p.1 + d.1, p.2 + d.2)
def roundS (l : List Sc) (eyes : List Pt) (b : Bx) (p : Pt) (st : St) : St := dirs.foldl (stepD l eyes b p) st
inductive SpTo (l : List Sc) (eyes : List Pt) (b : Bx) : Nat → St → St → Prop
  | done {i st} : st.1.length ≤ i → SpTo l eyes b i st st
  | next {i st r} (h : i < st.1.length) : SpTo l eyes b (i + 1) (roundS l eyes b (st.1[i]'h) st) r → SpTo l eyes b i st r
def initS (f : Pt) : St := ([f], fun q => if q = f then some f else none)
def SpPost (l : List Sc) (eyes : List Pt) (b : Bx) (f : Pt) (w : World) (e : Ending) (w' : World) : Prop :=
  ∃ st v B, SpTo l eyes b 0 (initS f) st ∧ e = .returned (.tuple #[v, .map (some B)]) ∧ w'.ownsRow w.heap.size 25 2 v st.1.length (st.1.flatMap encP) ∧ OwnsPM w' B st.1.length st.2 ∧ st.1.length ≤ 441 ∧ Below w.heap.size w w'

theorem pig : ∀ (n : Nat) (xs : List Nat), xs.Nodup → (∀ x ∈ xs, x < n) → xs.length ≤ n := by
  intro n
  induction n with
  | zero => intro xs _ h; cases xs with | nil => simp | cons x t => exact absurd (h x (by simp)) (by omega)
  | succ n ih =>
    intro xs hn h
    have h1 := ih (xs.erase n) (hn.erase n) (fun x hx => by
      obtain ⟨h2, h3⟩ := (hn.mem_erase_iff).1 hx
      have := h x h3
      omega)
    by_cases hm : n ∈ xs
    · rw [List.length_erase_of_mem hm] at h1; omega
    · rw [List.erase_of_not_mem hm] at h1; omega
theorem box_pig (b : Bx) (hb : boxB b = true) (xs : List Pt) (hn : xs.Nodup) (h : ∀ q ∈ xs, inB b q = true) : xs.length ≤ 441 := by
  have hbb : b.2.1 - b.1.1 ≤ 20 ∧ b.2.2 - b.1.2 ≤ 20 := by simp [boxB] at hb; omega
  have := pig 441 (xs.map fun q => ((q.1 - b.1.1) * 21 + (q.2 - b.1.2)).toNat) ?_ ?_
  · simpa using this
  · have hp : xs.Pairwise fun q r => ((q.1 - b.1.1) * 21 + (q.2 - b.1.2)).toNat ≠ ((r.1 - b.1.1) * 21 + (r.2 - b.1.2)).toNat := by
      refine List.Pairwise.imp_of_mem ?_ hn
      intro q r hq hr hne e
      have h1 := h q hq
      have h2 := h r hr
      simp [inB] at h1 h2
      exact hne (Prod.ext (by omega) (by omega))
    exact List.pairwise_map.2 hp
  · intro x hx
    obtain ⟨q, hq, rfl⟩ := List.mem_map.1 hx
    have h1 := h q hq
    simp [inB] at h1
    omega
structure Gd (b : Bx) (st : St) : Prop where
  nodup : st.1.Nodup
  inb : ∀ q ∈ st.1, inB b q = true
  dom : ∀ q, (st.2 q).isSome = decide (q ∈ st.1)
theorem gd_init (b : Bx) (f : Pt) (h : inB b f = true) : Gd b (initS f) := by
  refine ⟨by simp [initS], by simpa [initS] using h, fun q => ?_⟩
  by_cases e : q = f <;> simp [initS, e]
theorem gd_step (l : List Sc) (eyes : List Pt) (b : Bx) (p q : Pt) (st : St) (h : Gd b st) : Gd b (stepS l eyes b p st q) := by
  unfold stepS
  split
  · exact h
  · rename_i hc
    simp only [Bool.or_eq_true, Bool.not_eq_true', not_or, Bool.not_eq_true, Bool.not_eq_false] at hc
    obtain ⟨h1, h2⟩ := hc
    have hnm : q ∉ st.1 := by
      have := h.dom q
      rw [h1] at this
      simpa using this.symm
    refine ⟨?_, ?_, fun q' => ?_⟩
    · exact List.nodup_append.2 ⟨h.nodup, by simp, by intro a ha b hb; simp at hb; subst hb; intro e; subst e; exact hnm ha⟩
    · intro r hr
      rcases List.mem_append.1 hr with hr | hr
      · exact h.inb r hr
      · simp at hr; subst hr; simp [free] at h2; exact h2.1.1
    · have := h.dom q'
      by_cases e : q' = q
      · subst e; simp
      · simp [e, this]
theorem gd_len {b : Bx} {st : St} (hb : boxB b = true) (h : Gd b st) : st.1.length ≤ 441 := box_pig b hb _ h.nodup h.inb
theorem sp_world (w w' : World) (b : Bx) (f : Pt) (hb1 : Below (((w.alloc (bxB b)).alloc (.cells #[.int .i64 f.1, .int .i64 f.2] 25)).alloc (.map #[] 0)).heap.size (((w.alloc (bxB b)).alloc (.cells #[.int .i64 f.1, .int .i64 f.2] 25)).alloc (.map #[] 0)) w') :
    OwnsPM w' (w.heap.size + 1 + 1) 0 (fun _ => none) ∧ Below (w.heap.size + 2) (bxP (w.alloc (bxB b)) f) w' ∧ w.heap.size + 3 ≤ w'.heap.size := by
  refine ⟨?_, ?_, ?_⟩
  · have := (opm_made ((w.alloc (bxB b)).alloc (.cells #[.int .i64 f.1, .int .i64 f.2] 25))).below hb1
    simpa using this
  · have h2 := ((Below.refl (w.heap.size + 2) (bxP (w.alloc (bxB b)) f)).alloc (by simp) (.map #[] 0))
    exact h2.trans (hb1.mono (by simp))
  · have := hb1.size
    simpa using this
set_option maxRecDepth 20000 in
set_option maxHeartbeats 1000000 in
theorem spread_no (l : List Sc) (eyes : List Pt) (b : Bx) (f : Pt) (la ea : Option Addr) (c ce : Nat) (w : World) (H : Rd w encS 4 la l) (HE : Rd w encP 2 ea eyes) (hl : l.all goodS = true) (he : eyes.all inR = true) (hf : inR f = true) (hh : hidB l eyes f = false) :
    Calls Try.prog 14 #[.slice la l.length c, .slice ea eyes.length ce, B4 b, P2 f] w fun e w' => (∃ B, e = .returned (.tuple #[.slice none 0 0, .map (some B)]) ∧ OwnsPM w' B 0 fun _ => none) ∧ Below w.heap.size w w' := by
  have hhd := fun W hW => hidden_any l eyes f la ea c ce W (H.below hW) (HE.below hW) hl he hf
  rw [hh] at hhd
  clear H HE hl he hf hh
  have hmm := @run_makeMap Try.prog
  go_enter Try.func14, Try.ntmps14
  go_wp2_with (go_at_call 25; refine (hhd _ ?_).mono ?_; ((repeat (first | exact Below.refl _ _ | refine blw_alloc ?_ _ | refine blw_drew ?_ | refine blw_rg ?_ _ | refine blw_call (by assumption) ?_))); rintro e w' ⟨rfl, hb1⟩)
  go_ret2
  refine ⟨⟨_, rfl, ?_⟩, (by (repeat (first | exact Below.refl _ _ | refine blw_alloc ?_ _ | refine blw_drew ?_ | refine blw_rg ?_ _ | refine blw_call (by assumption) ?_)))⟩
  exact (sp_world w _ b f hb1).1
structure SpI (w : World) (b : Bx) (f : Pt) (st : St) (v : Value) (W : World) : Prop where
  gd : Gd b st
  row : W.ownsRow (w.heap.size + 3) 25 2 v st.1.length (st.1.flatMap encP)
  map : OwnsPM W (w.heap.size + 1 + 1) st.1.length st.2
  old : Below (w.heap.size + 2) (bxP (w.alloc (bxB b)) f) W
theorem SpI.below {w : World} {b : Bx} {f : Pt} {st : St} {v : Value} {W W' : World} (h : SpI w b f st v W) (hb : Below W.heap.size W W') : SpI w b f st v W' :=
  ⟨h.gd, own_blw h.row hb, h.map.below hb, h.old.trans (hb.mono (by have := h.old.size; simpa using this))⟩
theorem SpI.blw {w : World} {b : Bx} {f : Pt} {st : St} {v : Value} {W : World} (h : SpI w b f st v W) : Below w.heap.size w W :=
  (by (repeat (first | exact Below.refl _ _ | refine blw_alloc ?_ _ | refine blw_drew ?_ | refine blw_rg ?_ _ | refine blw_call (by assumption) ?_)) : Below w.heap.size w (bxP (w.alloc (bxB b)) f)).trans (h.old.mono (by omega))
structure SpJ (wo : World) (p : Pt) (v : Value) (W : World) : Prop where
  pb : ∀ i u, (encP p)[i]? = some u → W.cell? ⟨wo.heap.size, i, none⟩ = some u
  db : Rd W encP 2 (some ⟨wo.heap.size + 1, 0, none⟩) dirs
  far : ∀ g, v.ownBlock = some g → g < wo.heap.size ∨ wo.heap.size + 2 ≤ g
  sz : wo.heap.size + 2 ≤ W.heap.size
theorem SpJ.below {wo : World} {p : Pt} {v : Value} {W W' : World} (h : SpJ wo p v W) (hb : Below W.heap.size W W') : SpJ wo p v W' :=
  ⟨fun i u hu => (hb.cell (p := ⟨wo.heap.size, i, none⟩) (by have := h.sz; show wo.heap.size < W.heap.size; omega)).trans (h.pb i u hu), h.db.below hb, h.far, by have := h.sz; have := hb.size; omega⟩
theorem rd_grown {α : Type} {w W : World} {enc : α → List Value} {k : Nat} {B : Nat} {off : Nat} {xs : List α} {row : Option Nat} (h : Rd w enc k (some ⟨B, off, none⟩) xs) (hg : w.grownBy W row) (hne : some B ≠ row) : Rd W enc k (some ⟨B, off, none⟩) xs :=
  ⟨h.big, fun h0 => by
    obtain ⟨b, o, e, hlt, hc⟩ := h.row h0
    simp only [Option.some.injEq, Addr.mk.injEq, and_true] at e
    obtain ⟨rfl, rfl⟩ := e
    exact ⟨B, off, rfl, Nat.lt_of_lt_of_le hlt hg.size, fun j hj i v hv => hg.cell (hc j hj i v hv) hne⟩⟩
theorem SpJ.grown {wo : World} {p : Pt} {v v' : Value} {W W' : World} {row : Option Nat} (h : SpJ wo p v W) (hg : W.grownBy W' row) (h0 : some wo.heap.size ≠ row) (h1 : some (wo.heap.size + 1) ≠ row) (hf : ∀ g, v'.ownBlock = some g → g < wo.heap.size ∨ wo.heap.size + 2 ≤ g) : SpJ wo p v' W' :=
  ⟨fun i u hu => hg.cell (h.pb i u hu) h0, rd_grown h.db hg h1, hf, Nat.le_trans h.sz hg.size⟩
/-- back[q] = p; found = append(found, q). -/
theorem sp_put {w wo : World} {b : Bx} {f p q : Pt} {st : St} {v v1 : Value} {W w1 w2 : World} (hI : SpI w b f st v W) (hJ : SpJ wo p v W) (hwo : w.heap.size + 3 ≤ wo.heap.size)
    (hM1 : OwnsPM w1 (w.heap.size + 1 + 1) (st.1.length + 1) (fun q' => if q' = q then some p else st.2 q')) (hg1 : W.grownBy w1 (some (w.heap.size + 1 + 1)))
    (ho2 : w2.ownsRow (w.heap.size + 3) 25 2 v1 (st.1.length + 1) (st.1.flatMap encP ++ [.int .i64 q.1, .int .i64 q.2])) (hb2 : Below (w.heap.size + 3) w1 w2) (hg2 : w1.grownBy w2 v.ownBlock)
    (hat : v1.ownBlock = v.ownBlock ∨ ∃ k, v1.ownBlock = some k ∧ w1.heap.size ≤ k) (hgd : Gd b (st.1 ++ [q], fun q' => if q' = q then some p else st.2 q')) :
    SpI w b f (st.1 ++ [q], fun q' => if q' = q then some p else st.2 q') v1 w2 ∧ SpJ wo p v1 w2 := by
  have hown : ∀ k, v.ownBlock = some k → w.heap.size + 3 ≤ k := fun k hk => (hI.row.lt k hk).1
  have hsz := hI.old.size
  have hsz' : w.heap.size + 2 ≤ W.heap.size := by simpa using hsz
  have h10 := hJ.sz
  have h11 := hg1.size
  refine ⟨⟨hgd, ?_, ?_, ?_⟩, ?_⟩
  · simpa [encP] using ho2
  · have := hM1.kept hg2 (by intro e; have := hown _ e.symm; omega)
    simpa using this
  · refine (hI.old.grown hg1 (by omega) (fun k hk => by simp at hk; omega)).trans (hb2.mono (by omega))
  · have hJ1 : SpJ wo p v w1 := hJ.grown hg1 (by simp; omega) (by simp; omega) hJ.far
    refine hJ1.grown hg2 ?_ ?_ ?_
    · intro e; have := hJ.far _ e.symm; omega
    · intro e; have := hJ.far _ e.symm; omega
    · intro g hg
      rcases hat with hat | ⟨k, hk, hlt⟩
      · exact hJ.far g (by rw [← hat]; exact hg)
      · rw [hk] at hg; simp at hg; subst hg; right; omega
theorem lit_rd (W : World) (e : TypeId) : Rd (W.alloc (.cells #[.int .i64 1, .int .i64 0, .int .i64 (-1), .int .i64 0, .int .i64 0, .int .i64 1, .int .i64 0, .int .i64 (-1)] e)) encP 2 (some ⟨W.heap.size, 0, none⟩) dirs := by
  refine ⟨by simp [dirs], fun _ => ⟨_, 0, rfl, by simp, fun j hj i u hu => ?_⟩⟩
  rw [World.cell?_alloc_new]
  simp [dirs] at hj
  rcases (by omega : j = 0 ∨ j = 1 ∨ j = 2 ∨ j = 3) with rfl | rfl | rfl | rfl
  all_goals
    rcases i with _ | _ | i
    · exact hu
    · exact hu
    · exact absurd hu (by simp [dirs, encP])
theorem spJ_init (wo : World) (p : Pt) (v : Value) (hg : ∀ g, v.ownBlock = some g → g < wo.heap.size) : SpJ wo p v ((wo.alloc (.cells #[.int .i64 p.1, .int .i64 p.2] 25)).alloc (.cells #[.int .i64 1, .int .i64 0, .int .i64 (-1), .int .i64 0, .int .i64 0, .int .i64 1, .int .i64 0, .int .i64 (-1)] 25)) := by
  refine ⟨?_, ?_, fun g h => .inl (hg g h), by simp⟩
  · intro i u hu
    rw [World.cell?_alloc_lt _ _ _ (by simp), World.cell?_alloc_new]
    simpa [encP] using hu
  · have := lit_rd (wo.alloc (.cells #[.int .i64 p.1, .int .i64 p.2] 25)) 25
    simpa using this
theorem dirs_take (l : List Sc) (eyes : List Pt) (b : Bx) (p : Pt) (st : St) (k : Nat) (hk : k < dirs.length) : (dirs.take (k + 1)).foldl (stepD l eyes b p) st = stepD l eyes b p ((dirs.take k).foldl (stepD l eyes b p) st) dirs[k] := by
  rw [List.take_succ_eq_append_getElem hk, List.foldl_append]; rfl
theorem dirs_bd (k : Nat) (hk : k < dirs.length) : -1 ≤ dirs[k].1 ∧ dirs[k].1 ≤ 1 ∧ -1 ≤ dirs[k].2 ∧ dirs[k].2 ≤ 1 := by
  have hm : dirs[k] ∈ dirs := List.getElem_mem hk
  generalize dirs[k] = d at hm
  simp [dirs] at hm
  rcases hm with rfl | rfl | rfl | rfl <;> decide
theorem in_inR {b : Bx} {q : Pt} (hb : boxB b = true) (h : inB b q = true) : inR q = true := by
  simp [boxB, inR] at hb
  simp [inB] at h
  simp [inR]
  omega
theorem step_some (l : List Sc) (eyes : List Pt) (b : Bx) (p q : Pt) (st : St) (h : (st.2 q).isSome = true) : stepS l eyes b p st q = st := by simp [stepS, h]
theorem step_no (l : List Sc) (eyes : List Pt) (b : Bx) (p q : Pt) (st : St) (h : free l eyes b p q = false) : stepS l eyes b p st q = st := by simp [stepS, h]
theorem step_yes (l : List Sc) (eyes : List Pt) (b : Bx) (p q : Pt) (st : St) (h0 : (st.2 q).isSome = false) (h : free l eyes b p q = true) : stepS l eyes b p st q = (st.1 ++ [q], fun q' => if q' = q then some p else st.2 q') := by simp [stepS, h0, h]
structure SpK (wr wo : World) (p q : Pt) (W : World) : Prop where
  pb : ∀ i u, (encP p)[i]? = some u → W.cell? ⟨wo.heap.size, i, none⟩ = some u
  qb : ∀ i u, (encP q)[i]? = some u → W.cell? ⟨wr.heap.size + 1, i, none⟩ = some u
  bl : Below wr.heap.size wr W
theorem SpK.below {wr wo : World} {p q : Pt} {W W' : World} (h : SpK wr wo p q W) (hb : Below W.heap.size W W') : SpK wr wo p q W' :=
  ⟨fun i u hu => (hb.cell (World.block_lt_of_cell? W _ (h.pb i u hu))).trans (h.pb i u hu), fun i u hu => (hb.cell (World.block_lt_of_cell? W _ (h.qb i u hu))).trans (h.qb i u hu), blw_call hb h.bl⟩
theorem spK_init {wr wo : World} {p : Pt} {v : Value} (h : SpJ wo p v wr) (d q r : Pt) : SpK wr wo p q (bxP (bxP (bxP wr d) q) r) := by
  refine ⟨fun i u hu => ?_, fun i u hu => ?_, by (repeat (first | exact Below.refl _ _ | refine blw_alloc ?_ _ | refine blw_drew ?_ | refine blw_rg ?_ _ | refine blw_call (by assumption) ?_))⟩
  · have hb : Below wr.heap.size wr (bxP (bxP (bxP wr d) q) r) := by (repeat (first | exact Below.refl _ _ | refine blw_alloc ?_ _ | refine blw_drew ?_ | refine blw_rg ?_ _ | refine blw_call (by assumption) ?_))
    exact (hb.cell (World.block_lt_of_cell? wr _ (h.pb i u hu))).trans (h.pb i u hu)
  · rw [World.cell?_alloc_lt _ _ _ (by simp)]
    have hsz : wr.heap.size + 1 = (bxP wr d).heap.size := by simp
    rw [hsz, World.cell?_alloc_new]
    simpa [encP] using hu
theorem step_len (l : List Sc) (eyes : List Pt) (b : Bx) (p q : Pt) (st : St) : st.1.length ≤ (stepS l eyes b p st q).1.length := by
  unfold stepS; split <;> simp
theorem fold_len (l : List Sc) (eyes : List Pt) (b : Bx) (p : Pt) (ds : List Pt) : ∀ st : St, st.1.length ≤ (ds.foldl (stepD l eyes b p) st).1.length := by
  induction ds with
  | nil => intro st; exact Nat.le_refl _
  | cons d t ih => intro st; exact Nat.le_trans (step_len l eyes b p _ st) (ih _)
theorem roundS_len (l : List Sc) (eyes : List Pt) (b : Bx) (p : Pt) (st : St) : st.1.length ≤ (roundS l eyes b p st).1.length := fold_len l eyes b p dirs st
theorem sp_f0 {w wr : World} {b : Bx} {f : Pt} (h : Below (w.heap.size + 2) (bxP (w.alloc (bxB b)) f) wr) : wr.cell? ⟨w.heap.size + 1, 0, none⟩ = some (.int .i64 f.1) := by
  rw [h.cell (p := ⟨w.heap.size + 1, 0, none⟩) (by simp)]; simp
theorem sp_f1 {w wr : World} {b : Bx} {f : Pt} (h : Below (w.heap.size + 2) (bxP (w.alloc (bxB b)) f) wr) : wr.cell? ⟨w.heap.size + 1, 1, none⟩ = some (.int .i64 f.2) := by
  rw [h.cell (p := ⟨w.heap.size + 1, 1, none⟩) (by simp)]; simp
theorem sp_b {w wr : World} {b : Bx} {f : Pt} (h : Below (w.heap.size + 2) (bxP (w.alloc (bxB b)) f) wr) (i : Nat) (v : Value) (hv : (#[Value.int .i64 b.1.1, .int .i64 b.1.2, .int .i64 b.2.1, .int .i64 b.2.2])[i]? = some v) : wr.cell? ⟨w.heap.size, i, none⟩ = some v := by
  rw [h.cell (p := ⟨w.heap.size, i, none⟩) (by simp), World.cell?_alloc_lt _ _ _ (by simp), World.cell?_alloc_new]
  exact hv
set_option maxRecDepth 20000 in
set_option maxHeartbeats 1000000 in
theorem spread_ok (l : List Sc) (eyes : List Pt) (b : Bx) (f : Pt) (la ea : Option Addr) (c ce : Nat) (w : World) (H : Rd w encS 4 la l) (HE : Rd w encP 2 ea eyes) (hl : l.all goodS = true) (he : eyes.all inR = true) (hf : inR f = true) (hb : boxB b = true) (hi : inB b f = true) (hh : hidB l eyes f = true) :
    Calls Try.prog 14 #[.slice la l.length c, .slice ea eyes.length ce, B4 b, P2 f] w (SpPost l eyes b f w) := by
  have hhd := fun W hW => hidden_any l eyes f la ea c ce W (H.below hW) (HE.below hW) hl he hf
  rw [hh] at hhd
  have bf := inR_bd hf
  have bf1 : bigI f.1 := bigI_of (by omega) (by omega)
  have bf2 : bigI f.2 := bigI_of (by omega) (by omega)
  have hmm := @run_makeMap Try.prog
  go_enter Try.func14, Try.ntmps14
  go_wp2_with (first | (go_at_call 25; go_loud (refine (hhd _ ?_).mono ?_; ((repeat (first | exact Below.refl _ _ | refine blw_alloc ?_ _ | refine blw_drew ?_ | refine blw_rg ?_ _ | refine blw_call (by assumption) ?_))); rintro e w' ⟨rfl, hb1⟩; obtain ⟨hM, hW, hS⟩ := sp_world w _ b f hb1; have hS0 : w.heap.size < w'.heap.size := (by omega); have hS1 : w.heap.size + 1 < w'.heap.size := (by omega); have cf0 : w'.cell? ⟨w.heap.size + 1, 0, none⟩ = some (.int .i64 f.1) := sp_f0 hW; have cf1 : w'.cell? ⟨w.heap.size + 1, 1, none⟩ = some (.int .i64 f.2) := sp_f1 hW; clear hb1)) | (at_mapUpdate; refine wpList_put_pm _ rfl _ _ _ rfl (w.heap.size + 1 + 1) 0 (fun _ => none) rfl (hM.below (by (repeat (first | exact Below.refl _ _ | refine blw_alloc ?_ _ | refine blw_drew ?_ | refine blw_rg ?_ _ | refine blw_call (by assumption) ?_)))) (by decide) f f rfl rfl bf1 bf2 ?_; intro w1 hM1 hg1; clear hM))
  have HI : SpI w b f (initS f) (.slice (some ⟨w'.heap.size, 0, none⟩) 1 1) w1 := by
    refine ⟨gd_init b f hi, ?_, hM1, ?_⟩
    · have h := World.ownsRow_lit (base := w.heap.size + 3) (e := 25) (size := 2) w' #[.int .i64 f.1, .int .i64 f.2] 1 hS (by decide) rfl
      exact h.kept hg1 (by right; simp [Value.ownBlock]; omega)
    · exact (hW.alloc (by omega) _).grown hg1 (by simp; omega) (fun k hk => by simp at hk; omega)
  clear hM1 hg1 hW hS hS0 hS1 cf0 cf1
  go_loopg [11, 12] 441 (fun gg s11 s12 wr => ∃ (st : St) (i : Nat), i ≤ st.1.length ∧ st.1.length ≤ 441 ∧ 441 - i ≤ gg ∧ s12 = .int .i64 i ∧ Aside (∀ r, SpTo l eyes b i st r → SpTo l eyes b 0 (initS f) r) ∧ Aside (SpI w b f st s11 wr))
  case atStart => exact ⟨initS f, 0, Nat.zero_le _, by simp [initS], by omega, rfl, fun r h => h, HI⟩
  case round =>
    obtain ⟨st, i, hi0, h441, hg, rfl, HT, HI2⟩ := hrel
    by_cases hlt : i < st.1.length
    · have hltz : (i : Int) < (st.1.length : Int) := by omega
      obtain ⟨A, cc, rfl, HR⟩ := own_rd (enc := encP) (fun _ => rfl) (by omega) HI2.out.row
      obtain ⟨b0, off, rfl, hb0, hc⟩ := HR.at_ i hlt
      have q0 := hc 0 _ rfl
      have q1 := hc 1 _ rfl
      have hpi := HI2.out.gd.inb _ (List.getElem_mem hlt)
      have hnx := Go.Lib.hid (fun r => SpTo.next (l := l) (eyes := eyes) (b := b) (r := r) hlt)
      generalize st.1[i] = p at q0 q1 hpi hnx
      change wr.cell? ⟨b0, off + i * 2, none⟩ = _ at q0
      clear hc HR
      obtain ⟨wo, rfl⟩ : ∃ wo : World, wo = wr := ⟨_, rfl⟩
      have hwo : w.heap.size + 3 ≤ wo.heap.size := by
        have h1 := HI2.out.old.size
        have h2 := HI2.out.map.lt
        omega
      have HJ0 := spJ_init wo p (.slice (some ⟨b0, off, none⟩) st.1.length cc) (fun g hg => (HI2.out.row.lt g hg).2)
      go_wp2
      go_step3
      go_wp2
      go_step3
      go_wp2
      go_loopg [11, 49] 4 (fun gg s11 s49 wr => ∃ k : Nat, k ≤ 4 ∧ 4 - k ≤ gg ∧ s49 = .int .i64 k ∧ Aside (SpI w b f ((dirs.take k).foldl (stepD l eyes b p) st) s11 wr) ∧ Aside (SpJ wo p s11 wr))
      case atStart => exact ⟨0, by omega, by omega, rfl, HI2.out.below (by (repeat (first | exact Below.refl _ _ | refine blw_alloc ?_ _ | refine blw_drew ?_ | refine blw_rg ?_ _ | refine blw_call (by assumption) ?_))), HJ0⟩
      case round =>
        obtain ⟨k, hk, hgk, rfl, HI3, HJ3⟩ := hrel
        obtain ⟨wi, rfl⟩ : ∃ wi : World, wi = wr := ⟨_, rfl⟩
        by_cases hk4 : k < 4
        · have hkz : (k : Int) < 4 := by omega
          have hk4' : k < dirs.length := hk4
          have HT2 := Go.Lib.hid (dirs_take l eyes b p st k hk4')
          generalize (dirs.take k).foldl (stepD l eyes b p) st = st2 at HI3 HT2
          have hbd := dirs_bd k hk4'
          obtain ⟨B2, off2, e2, hlt2, hc⟩ := HJ3.out.db.at_ k hk4'
          simp only [Option.some.injEq, Addr.mk.injEq, and_true] at e2
          obtain ⟨rfl, rfl⟩ := e2
          have d0 := hc 0 _ rfl
          have d1 := hc 1 _ rfl
          generalize dirs[k] = d at hbd d0 d1 HT2
          rw [Nat.zero_add] at d0 d1
          change wi.cell? ⟨wo.heap.size + 1, k * 2, none⟩ = _ at d0
          have p0 := HJ3.out.pb 0 _ rfl
          have p1 := HJ3.out.pb 1 _ rfl
          have z0 : wo.heap.size < wi.heap.size := by have := HJ3.out.sz; omega
          have z1 : w.heap.size < wi.heap.size := by omega
          have z2 : w.heap.size < wi.heap.size + 1 := by omega
          have z3 : w.heap.size < wi.heap.size + 1 + 1 := by omega
          have c0 := sp_b HI3.out.old 0 _ rfl
          have c1 := sp_b HI3.out.old 1 _ rfl
          have c2 := sp_b HI3.out.old 2 _ rfl
          have c3 := sp_b HI3.out.old 3 _ rfl
          clear hc
          have hpR := in_inR hb hpi
          have bp := inR_bd hpR
          have bq1 : bigI (p.1 + d.1) := bigI_of (by omega) (by omega)
          have bq2 : bigI (p.2 + d.2) := bigI_of (by omega) (by omega)
          have hin := fun W => inside_any b (p.1 + d.1, p.2 + d.2) W
          have HM := asd HI3.out.map
          obtain ⟨r, hr⟩ : ∃ r, (st2.2 (p.1 + d.1, p.2 + d.2)).getD (0, 0) = r := ⟨_, rfl⟩
          have HR := asd hr
          clear hr
          cases hkn : (st2.2 (p.1 + d.1, p.2 + d.2)).isSome
          case true =>
            have HK := asd hkn
            clear hkn
            go_wp2_with (first | (at_lookup; refine wpList_look2_pm _ rfl _ _ rfl (w.heap.size + 1 + 1) _ st2.2 rfl (HM.out.below (by (repeat (first | exact Below.refl _ _ | refine blw_alloc ?_ _ | refine blw_drew ?_ | refine blw_rg ?_ _ | refine blw_call (by assumption) ?_)))) (p.1 + d.1, p.2 + d.2) rfl bq1 bq2 r true HR.out HK.out ?_))
            go_roundg (4 - (k + 1))
            case measure => omega
            case rel => exact ⟨k + 1, by omega, by omega, by go_num, (by rw [HT2.out, stepD, step_some _ _ _ _ _ _ HK.out]; exact HI3.out.below (by (repeat (first | exact Below.refl _ _ | refine blw_alloc ?_ _ | refine blw_drew ?_ | refine blw_rg ?_ _ | refine blw_call (by assumption) ?_)))), HJ3.out.below (by (repeat (first | exact Below.refl _ _ | refine blw_alloc ?_ _ | refine blw_drew ?_ | refine blw_rg ?_ _ | refine blw_call (by assumption) ?_)))⟩
          have HK := asd hkn
          clear hkn
          cases hib : inB b (p.1 + d.1, p.2 + d.2)
          case false =>
            rw [hib] at hin
            have HF := asd (show free l eyes b p (p.1 + d.1, p.2 + d.2) = false by simp [free, hib])
            go_wp2_with (first | (at_lookup; refine wpList_look2_pm _ rfl _ _ rfl (w.heap.size + 1 + 1) _ st2.2 rfl (HM.out.below (by (repeat (first | exact Below.refl _ _ | refine blw_alloc ?_ _ | refine blw_drew ?_ | refine blw_rg ?_ _ | refine blw_call (by assumption) ?_)))) (p.1 + d.1, p.2 + d.2) rfl bq1 bq2 r false HR.out HK.out ?_) | (go_at_call 24; (with_reducible refine (hin _).mono ?_); rintro e w' ⟨rfl, hb1⟩))
            go_roundg (4 - (k + 1))
            case measure => omega
            case rel => exact ⟨k + 1, by omega, by omega, by go_num, (by rw [HT2.out, stepD, step_no _ _ _ _ _ _ HF.out]; exact HI3.out.below (by (repeat (first | exact Below.refl _ _ | refine blw_alloc ?_ _ | refine blw_drew ?_ | refine blw_rg ?_ _ | refine blw_call (by assumption) ?_)))), HJ3.out.below (by (repeat (first | exact Below.refl _ _ | refine blw_alloc ?_ _ | refine blw_drew ?_ | refine blw_rg ?_ _ | refine blw_call (by assumption) ?_)))⟩
          rw [hib] at hin
          have hqR := in_inR hb hib
          have hse := fun W (hW : Below wi.heap.size wi W) => sees_any l p (p.1 + d.1, p.2 + d.2) la c W (H.below (blw_call hW HI3.out.blw)) hl hpR hqR
          have HK0 := asd (spK_init HJ3.out d (p.1 + d.1, p.2 + d.2) r)
          cases hsb : seesB l p (p.1 + d.1, p.2 + d.2)
          case false =>
            rw [hsb] at hse
            have HF := asd (show free l eyes b p (p.1 + d.1, p.2 + d.2) = false by simp [free, hsb])
            go_wp2_with (first | (at_lookup; refine wpList_look2_pm _ rfl _ _ rfl (w.heap.size + 1 + 1) _ st2.2 rfl (HM.out.below (by (repeat (first | exact Below.refl _ _ | refine blw_alloc ?_ _ | refine blw_drew ?_ | refine blw_rg ?_ _ | refine blw_call (by assumption) ?_)))) (p.1 + d.1, p.2 + d.2) rfl bq1 bq2 r false HR.out HK.out ?_) | (go_at_call 24; (with_reducible refine (hin _).mono ?_); rintro e w' ⟨rfl, hb1⟩; have HK1 := HK0.out.below hb1; have p0' := HK1.pb 0 _ rfl; have p1' := HK1.pb 1 _ rfl; have q0' := HK1.qb 0 _ rfl; have q1' := HK1.qb 1 _ rfl; replace HK1 := asd HK1) | (go_at_call 23; (with_reducible refine (hse _ HK1.out.bl).mono ?_); rintro e w' ⟨rfl, hb2⟩))
            go_roundg (4 - (k + 1))
            case measure => omega
            case rel => exact ⟨k + 1, by omega, by omega, by go_num, (by rw [HT2.out, stepD, step_no _ _ _ _ _ _ HF.out]; exact HI3.out.below (blw_call hb2 HK1.out.bl)), HJ3.out.below (blw_call hb2 HK1.out.bl)⟩
          rw [hsb] at hse
          go_wp2_with (first | (at_lookup; refine wpList_look2_pm _ rfl _ _ rfl (w.heap.size + 1 + 1) _ st2.2 rfl (HM.out.below (by (repeat (first | exact Below.refl _ _ | refine blw_alloc ?_ _ | refine blw_drew ?_ | refine blw_rg ?_ _ | refine blw_call (by assumption) ?_)))) (p.1 + d.1, p.2 + d.2) rfl bq1 bq2 r false HR.out HK.out ?_) | (go_at_call 24; (with_reducible refine (hin _).mono ?_); rintro e w' ⟨rfl, hb1⟩; have HK1 := HK0.out.below hb1; have p0' := HK1.pb 0 _ rfl; have p1' := HK1.pb 1 _ rfl; have q0' := HK1.qb 0 _ rfl; have q1' := HK1.qb 1 _ rfl; replace HK1 := asd HK1) | (go_at_call 23; (with_reducible refine (hse _ HK1.out.bl).mono ?_); rintro e w' ⟨rfl, hb2⟩))
          have HK2 := asd (HK1.out.below hb2)
          clear hb2 HK1 p0' p1' q0' q1' hb1 hse hin c0 c1 c2 c3 p0 p1 d0 d1
          clear HM HK0
          go_loopg [86] eyes.length (fun gg s86 wr => ∃ m : Nat, m ≤ eyes.length ∧ eyes.length - m ≤ gg ∧ s86 = .int .i64 m ∧ Aside ((eyes.take m).any (fun e => seesB l e (p.1 + d.1, p.2 + d.2)) = false) ∧ Aside (SpK wi wo p (p.1 + d.1, p.2 + d.2) wr))
          case atStart => exact ⟨0, Nat.zero_le _, by omega, rfl, rfl, HK2⟩
          case round =>
            obtain ⟨m, hm, hgm, rfl, HA, HK3⟩ := hrel
            have bigE := HE.big
            by_cases hmlt : m < eyes.length
            · have hmz : (m : Int) < (eyes.length : Int) := by omega
              have hBW : Below w.heap.size w wr := blw_call HK3.out.bl HI3.out.blw
              obtain ⟨b4, off4, e4, hb4, hc4⟩ := (HE.below hBW).at_ m hmlt
              subst e4
              have y0 := hc4 0 _ rfl
              have y1 := hc4 1 _ rfl
              have hxR : inR eyes[m] = true := all_mem he (List.getElem_mem hmlt)
              have HT3 := Go.Lib.hid (any_take (fun e => seesB l e (p.1 + d.1, p.2 + d.2)) eyes m hmlt)
              have HF3 := Go.Lib.hid (any_true (fun e => seesB l e (p.1 + d.1, p.2 + d.2)) eyes m hmlt)
              generalize eyes[m] = x at y0 y1 hxR HT3 HF3
              change wr.cell? ⟨b4, off4 + m * 2, none⟩ = _ at y0
              have q0 := HK3.out.qb 0 _ rfl
              have q1 := HK3.out.qb 1 _ rfl
              have z4 : wi.heap.size + 1 < wr.heap.size := World.block_lt_of_cell? _ _ q0
              clear hc4
              have hse := fun W (hW : Below wr.heap.size wr W) => sees_any l x (p.1 + d.1, p.2 + d.2) la c W (H.below (blw_call hW hBW)) hl hxR hqR
              cases hsx : seesB l x (p.1 + d.1, p.2 + d.2)
              all_goals
                rw [hsx] at hse
                go_wp2_with (first | (go_at_call 23; (with_reducible refine (hse _ (by (repeat (first | exact Below.refl _ _ | refine blw_alloc ?_ _ | refine blw_drew ?_ | refine blw_rg ?_ _ | refine blw_call (by assumption) ?_)))).mono ?_); rintro e w' ⟨rfl, hb2⟩))
              · go_roundg (eyes.length - (m + 1))
                case measure => omega
                case rel => exact ⟨m + 1, by omega, by omega, by go_num, (asd (by rw [HT3.out, HA.out]; simpa using hsx)), HK3.out.below (blw_call hb2 (by (repeat (first | exact Below.refl _ _ | refine blw_alloc ?_ _ | refine blw_drew ?_ | refine blw_rg ?_ _ | refine blw_call (by assumption) ?_))))⟩
              · have HF := asd (show free l eyes b p (p.1 + d.1, p.2 + d.2) = false by simp only [free, hidB]; rw [HF3.out hsx]; simp)
                have hB5 : Below wi.heap.size wi w' := blw_call hb2 (blw_call (by (repeat (first | exact Below.refl _ _ | refine blw_alloc ?_ _ | refine blw_drew ?_ | refine blw_rg ?_ _ | refine blw_call (by assumption) ?_)) : Below wr.heap.size wr _) HK3.out.bl)
                go_roundg (4 - (k + 1))
                case measure => omega
                case rel => exact ⟨k + 1, by omega, by omega, by go_num, (by rw [HT2.out, stepD, step_no _ _ _ _ _ _ HF.out]; exact HI3.out.below hB5), HJ3.out.below hB5⟩
            · have hmz : ¬ (m : Int) < (eyes.length : Int) := by omega
              have e0 : eyes.take m = eyes := List.take_of_length_le (by omega)
              rw [e0] at HA
              have HF := asd (show free l eyes b p (p.1 + d.1, p.2 + d.2) = true by simp only [free, hidB, hib, hsb]; rw [HA.out]; rfl)
              have HI4 := asd (HI3.out.below HK3.out.bl)
              have HJ4 := asd (HJ3.out.below HK3.out.bl)
              have hln := gd_len hb HI3.out.gd
              have q0 := HK3.out.qb 0 _ rfl
              have q1 := HK3.out.qb 1 _ rfl
              have p0 := HK3.out.pb 0 _ rfl
              have p1 := HK3.out.pb 1 _ rfl
              have hne : ∀ g, u11.ownBlock = some g → w.heap.size + 3 ≤ g := fun g hg => (HI4.out.row.lt g hg).1
              have z5 : w.heap.size + 3 ≤ wr.heap.size := by have := HK3.out.bl.size; omega
              have z6 : w.heap.size + 3 ≤ wi.heap.size := by omega
              have HNE := asd hne
              clear hne
              go_wp2_with (first | (at_mapUpdate; refine wpList_put_pm _ rfl _ _ _ rfl (w.heap.size + 1 + 1) _ st2.2 rfl HI4.out.map (by simp only [maxLen]; omega) (p.1 + d.1, p.2 + d.2) p rfl rfl bq1 bq2 ?_; intro w1 hM1 hg1; have q0' := hg1.cell q0 (by simp; omega); have q1' := hg1.cell q1 (by simp; omega); have HG1 := asd hg1; have HM1 := asd hM1; have z7 := hg1.size; clear hM1 hg1) | (at_builtin; (refine app_own (w0 := w1) (w.heap.size + 3) rfl _ _ 23 25 (.agg #[.int .i64 0, .int .i64 0]) 2 16 rfl Try.underlying23 (by kernel_rfl) rfl (by decide) (by decide) u11 _ _ [.int .i64 (p.1 + d.1), .int .i64 (p.2 + d.2)] rfl rfl rfl (by simp [Value.oneCell']) (HI4.out.row.kept HG1.out (.inr (fun e => by have := HNE.out _ e; omega))) (Below.refl _ _) (by omega) (by omega) ?_); intro v1 w2 ho2 hb2 hg2 hat))
              have hGD : Gd b (st2.1 ++ [(p.1 + d.1, p.2 + d.2)], fun q' => if q' = (p.1 + d.1, p.2 + d.2) then some p else st2.2 q') := by
                have := gd_step l eyes b p (p.1 + d.1, p.2 + d.2) st2 HI3.out.gd
                rwa [step_yes _ _ _ _ _ _ HK.out HF.out] at this
              have HP := asd (sp_put HI4.out HJ4.out hwo HM1.out HG1.out ho2 hb2 hg2 hat hGD)
              clear hGD ho2 hb2 hg2 hat
              go_roundg (4 - (k + 1))
              case measure => omega
              case rel => exact ⟨k + 1, by omega, by omega, by go_num, (by rw [HT2.out, stepD, step_yes _ _ _ _ _ _ HK.out HF.out]; exact HP.out.1), HP.out.2⟩
        · have hkz : ¬ (k : Int) < 4 := by omega
          obtain rfl : k = 4 := by omega
          have HI4 := asd (show SpI w b f (roundS l eyes b p st) u11 wi from HI3.out)
          have hgd := gd_len hb HI4.out.gd
          clear HI3 HJ3
          have hle := Go.Lib.hid (roundS_len l eyes b p st)
          go_wp2
          go_roundg (441 - (i + 1))
          case measure => omega
          case rel => exact ⟨roundS l eyes b p st, i + 1, by have := hle.out; omega, hgd, by omega, by go_num, fun r h => HT.out r (hnx.out r h), HI4⟩
    · have hltz : ¬ (i : Int) < (st.1.length : Int) := by omega
      obtain ⟨A, cc, rfl, HR⟩ := own_rd (enc := encP) (fun _ => rfl) (by omega) HI2.out.row
      clear HR
      go_wp2
      go_ret2
      exact ⟨st, _, _, HT.out _ (SpTo.done (by omega)), rfl, own_mono HI2.out.row (by omega), HI2.out.map, h441, HI2.out.blw⟩
end Go.Proofs.Ytdpdchghafopfaa
