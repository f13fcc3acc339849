/- slices.Reverse at points; Way of the program. -/
import Derived.Test.YtdpdchghafopfaaS25
import Derived.Test.YtdpdchghafopfaaS23
import Derived.Test.YtdpdchghafopfaaLay2
import Derived.OneCell
import Derived.Lib.BufferWrite
set_option linter.unusedVariables false
set_option linter.unusedSimpArgs false
namespace Go.Proofs.Ytdpdchghafopfaa
open Go.RowKit
/-- As app_own, the variadic's place by an equation. -/
theorem app_own' {P : Program} {ops : Array Oper} {rest : List Oper} {o : Oper} {a : Act} {Q : Exit → Act → World → Prop} {w0 W : World} (base B : Nat) (hB : B = W.heap.size) (hgd : o.guard = none) (s x : Operand) (t e : TypeId) (z : Value) (size bytes : Nat)
    (ho : o.op = .call { callee := .builtin .append, args := #[s, x], argTypes := #[t, t] })
    (ht : P.underlying t = some (.slice e)) (hinfo : (P.info? e).map (fun i => (i.zero, i.size, i.bytes)) = some (some z, size, bytes)) (hz : z.cells.size = size) (hs0 : 0 < size) (hb0 : 0 < bytes)
    (v : Value) (n : Nat) (xs ys : List Value) (hs : a.eval s = v) (hx : a.eval x = .slice (some ⟨B, 0, none⟩) 1 1) (hys : ys.length = size) (h1 : ∀ y ∈ ys, y.oneCell' = true)
    (HO : W.ownsRow base e size v n xs) (HB : Below base w0 W) (hbase : base ≤ W.heap.size) (hl : (n + 1) * bytes ≤ 140737488355328)
    (h : ∀ v1 w1, w1.ownsRow base e size v1 (n + 1) (xs ++ ys) → Below base w0 w1 → W.grownBy w1 v.ownBlock → (v1.ownBlock = v.ownBlock ∨ ∃ b, v1.ownBlock = some b ∧ W.heap.size ≤ b) → wpList P ops Q rest (a.put o.dst v1) w1) :
    wpList P ops Q (o :: rest) a (W.alloc (.cells ys.toArray e)) := by
  subst hB
  exact app_own base hgd s x t e z size bytes ho ht hinfo hz hs0 hb0 v n xs ys hs hx hys h1 HO HB hbase hl h
theorem stP_size (W : World) (B : Nat) (q : Pt) : W.heap.size = ((W.setCell ⟨B, 0, none⟩ (.int .i64 q.1)).setCell ⟨B, 1, none⟩ (.int .i64 q.2)).heap.size := by simp
theorem rev_own {w : World} {base g n cap : Nat} {e : TypeId} {xs : List Pt} (h : w.ownsRow base e 2 (.slice (some ⟨g, 0, none⟩) n cap) n (xs.flatMap encP)) (hn : xs.length = n) (hbig : n ≤ 1000) :
    Calls Try.prog 34 #[.slice (some ⟨g, 0, none⟩) n cap] w fun e w' => e = .returned (.tuple #[]) ∧ ∀ base', base' ≤ g → Below base' w w' := by
  have hH := holds_own h hn
  have hcon := AnyQ.slices_Reverse Try.reversePt 2 Try.isAgg25 Try.sizeOf25 encP (fun _ => rfl) (fun x v hv => by simp [encP] at hv; rcases hv with rfl | rfl <;> rfl) g 0 cap xs.toArray w hH (by simp; omega)
  rw [show xs.toArray.size = n by simpa using hn] at hcon
  refine Calls.mono hcon ?_
  rintro e' w' ⟨rfl, m, rfl⟩
  refine ⟨rfl, fun base' hb => ⟨rfl, rfl, rfl, by simp [Go.Sort.putRowK, Go.Sort.putRow, Go.Sort.mapBlock, Go.Sort.ahead], fun k hk => ?_⟩⟩
  show (w.heap.modify g _)[k]? = w.heap[k]?
  rw [Array.getElem?_modify, if_neg (by omega)]
def WayP (n : Nat) (ok : Bool) (e0 : Int) (w : World) (e : Ending) (w' : World) : Prop := ∃ A c, e = .returned (.tuple #[.slice A n c, .bool ok, .int .i64 e0]) ∧ Below w.heap.size w w'
def WayPost (l : List Sc) (V : List Pt) (f t : Pt) (w : World) (e : Ending) (w' : World) : Prop :=
  (∃ n, n ≤ 441 ∧ Dst l V f n t ∧ WayP (n + 1) true 0 w e w') ∨ ((∀ n, ¬ Wk l V f n t) ∧ WayP 0 false 0 w e w')
set_option maxRecDepth 20000 in
set_option maxHeartbeats 1000000 in
theorem way_err (l : List Sc) (eyes : List Pt) (b : Bx) (f t : Pt) (la ea : Option Addr) (c ce : Nat) (w : World) (H : Rd w encS 4 la l) (HE : Rd w encP 2 ea eyes) (he : placeE l eyes [f, t] b ≠ 0) :
    Calls Try.prog 21 #[.slice la l.length c, .slice ea eyes.length ce, B4 b, P2 f, P2 t] w (WayP 0 false (placeE l eyes [f, t] b) w) := by
  have he2 : (placeE l eyes [f, t] b != 0) = true := by rw [bne_iff_ne]; exact he
  have hp := fun W pa hW hP => ends_any l eyes [f, t] b la ea pa c ce 2 W (H.below hW) (HE.below hW) hP
  clear H HE he
  generalize placeE l eyes [f, t] b = e0 at hp he2
  go_enter Try.func21, Try.ntmps21
  go_wp2_with (go_at_call 13; refine (hp _ _ ?_ (rd_two' f t _ ?_)).mono ?_; ((repeat (first | exact Below.refl _ _ | refine blw_alloc ?_ _ | refine blw_drew ?_ | refine blw_rg ?_ _ | refine blw_call (by assumption) ?_))); simp; rintro e w' ⟨rfl, hb1⟩; (first | (obtain ⟨pg, rfl⟩ := rg_next hb1) | (obtain ⟨pg, rfl⟩ := rg_mk hb1)))
  go_ret3
  exact ⟨_, _, rfl, (by (repeat (first | exact Below.refl _ _ | refine blw_alloc ?_ _ | refine blw_drew ?_ | refine blw_rg ?_ _ | refine blw_call (by assumption) ?_)))⟩
structure WyI (w1 : World) (mb cnt : Nat) (r : St) (p : Pt) (v : Value) (n B : Nat) (W : World) : Prop where
  c0 : W.cell? ⟨B, 0, none⟩ = some (.int .i64 p.1)
  c1 : W.cell? ⟨B, 1, none⟩ = some (.int .i64 p.2)
  f0 : W.frozen? ⟨B, 0, none⟩ = false
  f1 : W.frozen? ⟨B, 1, none⟩ = false
  row : ∃ ps : List Pt, ps.length = n ∧ W.ownsRow w1.heap.size 25 2 v n (ps.flatMap encP)
  map : OwnsPM W mb cnt r.2
  far : v.ownBlock ≠ some B
  mfar : mb < w1.heap.size
  hB : w1.heap.size ≤ B
  old : Below w1.heap.size w1 W
theorem heap_new_cell (W : World) (x y : Value) (e : TypeId) : (W.alloc (.cells #[x, y] e)).cell? ⟨W.heap.size, 0, none⟩ = some x ∧ (W.alloc (.cells #[x, y] e)).cell? ⟨W.heap.size, 1, none⟩ = some y ∧ (W.alloc (.cells #[x, y] e)).frozen? ⟨W.heap.size, 0, none⟩ = false ∧ (W.alloc (.cells #[x, y] e)).frozen? ⟨W.heap.size, 1, none⟩ = false := by
  refine ⟨?_, ?_, ?_, ?_⟩ <;> go_simp
theorem wyI_init {w1 : World} {mb cnt : Nat} {r : St} {t x : Pt} (hM : OwnsPM w1 mb cnt r.2) :
    WyI w1 mb cnt r t (.slice (some ⟨w1.heap.size + 1, 0, none⟩) 1 1) 1 (w1.heap.size + 1 + 1) (((w1.alloc (.cells #[.int .i64 x.1, .int .i64 x.2] 25)).alloc (.cells #[.int .i64 t.1, .int .i64 t.2] 25)).alloc (.cells #[.int .i64 t.1, .int .i64 t.2] 25)) := by
  obtain ⟨h0, h1, h2, h3⟩ := heap_new_cell ((w1.alloc (.cells #[.int .i64 x.1, .int .i64 x.2] 25)).alloc (.cells #[.int .i64 t.1, .int .i64 t.2] 25)) (.int .i64 t.1) (.int .i64 t.2) 25
  have hs : ((w1.alloc (.cells #[.int .i64 x.1, .int .i64 x.2] 25)).alloc (.cells #[.int .i64 t.1, .int .i64 t.2] 25)).heap.size = w1.heap.size + 1 + 1 := by simp
  rw [hs] at h0 h1 h2 h3
  refine ⟨h0, h1, h2, h3, ⟨[t], rfl, ?_⟩, hM.below (by (repeat (first | exact Below.refl _ _ | refine blw_alloc ?_ _ | refine blw_drew ?_ | refine blw_rg ?_ _ | refine blw_call (by assumption) ?_))), by simp [Value.ownBlock], hM.lt, by omega, by (repeat (first | exact Below.refl _ _ | refine blw_alloc ?_ _ | refine blw_drew ?_ | refine blw_rg ?_ _ | refine blw_call (by assumption) ?_))⟩
  have h := World.ownsRow_lit (base := w1.heap.size) (e := 25) (size := 2) (w1.alloc (.cells #[.int .i64 x.1, .int .i64 x.2] 25)) #[.int .i64 t.1, .int .i64 t.2] 1 (by simp) (by decide) rfl
  have hs2 : (w1.alloc (.cells #[.int .i64 x.1, .int .i64 x.2] 25)).heap.size = w1.heap.size + 1 := by simp
  rw [hs2] at h
  exact h.alloc _
/-- The world in which p has become q. -/
abbrev stP (W : World) (B : Nat) (q : Pt) : World := (W.setCell ⟨B, 0, none⟩ (.int .i64 q.1)).setCell ⟨B, 1, none⟩ (.int .i64 q.2)
theorem stP_grown (W : World) (B : Nat) (q : Pt) : W.grownBy (stP W B q) (some B) :=
  World.grownBy.trans (Go.Lib.grownBy_setCell W B 0 _) (Go.Lib.grownBy_setCell _ B 1 _)
theorem stP_cell (W : World) (B : Nat) (q : Pt) (x y : Value) (h0 : W.cell? ⟨B, 0, none⟩ = some x) (h1 : W.cell? ⟨B, 1, none⟩ = some y) :
    (stP W B q).cell? ⟨B, 0, none⟩ = some (.int .i64 q.1) ∧ (stP W B q).cell? ⟨B, 1, none⟩ = some (.int .i64 q.2) := by
  refine ⟨?_, ?_⟩ <;> go_simp
theorem wyI_own {w1 : World} {mb cnt : Nat} {r : St} {p q : Pt} {v : Value} {n B : Nat} {W : World} (h : WyI w1 mb cnt r p v n B W) : ∃ ps : List Pt, ps.length = n ∧ (stP W B q).ownsRow w1.heap.size 25 2 v n (ps.flatMap encP) := by
  obtain ⟨ps, h1, h2⟩ := h.row
  exact ⟨ps, h1, ownsRow_setCell_other (ownsRow_setCell_other h2 h.far _) h.far _⟩
theorem wyI_blw {w1 : World} {mb cnt : Nat} {r : St} {p q : Pt} {v : Value} {n B : Nat} {W : World} (h : WyI w1 mb cnt r p v n B W) : Below w1.heap.size w1 (stP W B q) := (h.old.setCell (by exact h.hB) _).setCell (by exact h.hB) _
theorem wyI_next {w1 : World} {mb cnt : Nat} {r : St} {p q : Pt} {v v1 : Value} {n B : Nat} {W w2 : World} {ps : List Pt} (h : WyI w1 mb cnt r p v n B W) (hl : ps.length = n)
    (ho : w2.ownsRow w1.heap.size 25 2 v1 (n + 1) (ps.flatMap encP ++ [.int .i64 q.1, .int .i64 q.2])) (hb : Below w1.heap.size w1 w2) (hg : (stP W B q).grownBy w2 v.ownBlock) :
    WyI w1 mb cnt r q v1 (n + 1) w2.heap.size (w2.alloc (.cells #[.int .i64 q.1, .int .i64 q.2] 25)) := by
  obtain ⟨h0, h1, h2, h3⟩ := heap_new_cell w2 (.int .i64 q.1) (.int .i64 q.2) 25
  refine ⟨h0, h1, h2, h3, ⟨ps ++ [q], by simp [hl], ?_⟩, ?_, ?_, h.mfar, hb.size, by (repeat (first | exact Below.refl _ _ | refine blw_alloc ?_ _ | refine blw_drew ?_ | refine blw_rg ?_ _ | refine blw_call (by assumption) ?_))⟩
  · rw [List.flatMap_append]; exact ho.alloc _
  · have hm := h.map.kept (stP_grown W B q) (by have := h.hB; have := h.mfar; simp; omega)
    have hm2 := hm.kept hg (by
      intro e
      obtain ⟨ps', _, hr⟩ := h.row
      have := (hr.lt mb e.symm).1
      have := h.mfar
      omega)
    exact hm2.below (by (repeat (first | exact Below.refl _ _ | refine blw_alloc ?_ _ | refine blw_drew ?_ | refine blw_rg ?_ _ | refine blw_call (by assumption) ?_)))
  · intro e
    have := (ho.lt _ e).2
    omega
theorem wyI_form {w1 : World} {mb cnt : Nat} {r : St} {p : Pt} {v : Value} {n B : Nat} {W : World} (h : WyI w1 mb cnt r p v n B W) (hn : 0 < n) : ∃ g cap, v = .slice (some ⟨g, 0, none⟩) n cap ∧ w1.heap.size ≤ g ∧ ∃ ps : List Pt, ps.length = n ∧ W.ownsRow w1.heap.size 25 2 (.slice (some ⟨g, 0, none⟩) n cap) n (ps.flatMap encP) := by
  obtain ⟨ps, h1, h2⟩ := h.row
  obtain ⟨g, cap, rfl, hg1, hg2⟩ := h2.form hn
  exact ⟨g, cap, rfl, hg1, ps, h1, h2⟩
end Go.Proofs.Ytdpdchghafopfaa
