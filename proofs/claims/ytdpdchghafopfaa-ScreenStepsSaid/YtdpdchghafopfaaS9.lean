/- Contracts of functions that the statement reaches; the conditions stand in each theorem. -/
import Derived.Test.YtdpdchghafopfaaS8
set_option linter.unusedVariables false
set_option linter.unusedSimpArgs false
namespace Go.Proofs.Ytdpdchghafopfaa
open Go.RowKit
def colTo (f : Pt → Bool) (x y0 : Int) (j : Nat) : List Pt := ((List.range j).map fun k : Nat => (x, y0 + (k : Int))).filter f
def gridTo (f : Pt → Bool) (x0 y0 : Int) (m i : Nat) : List Pt := (List.range i).flatMap fun a : Nat => colTo f (x0 + (a : Int)) y0 m
theorem colTo_succ (f : Pt → Bool) (x y0 : Int) (j : Nat) : colTo f x y0 (j + 1) = if f (x, y0 + j) then colTo f x y0 j ++ [(x, y0 + j)] else colTo f x y0 j := by
  unfold colTo
  rw [List.range_succ, List.map_append, List.filter_append]
  simp only [List.map_cons, List.map_nil, List.filter_cons, List.filter_nil]
  split <;> simp
theorem gridTo_succ (f : Pt → Bool) (x0 y0 : Int) (m i : Nat) : gridTo f x0 y0 m (i + 1) = gridTo f x0 y0 m i ++ colTo f (x0 + i) y0 m := by
  unfold gridTo
  rw [List.range_succ, List.flatMap_append]
  simp
theorem colTo_len (f : Pt → Bool) (x y0 : Int) (j : Nat) : (colTo f x y0 j).length ≤ j := by
  unfold colTo
  exact Nat.le_trans (List.length_filter_le _ _) (by simp)
theorem gridTo_len (f : Pt → Bool) (x0 y0 : Int) (m i : Nat) : (gridTo f x0 y0 m i).length ≤ i * m := by
  induction i with
  | zero => simp [gridTo]
  | succ i ih => rw [gridTo_succ, List.length_append, Nat.succ_mul]; have := colTo_len f (x0 + i) y0 m; omega
def wid (b : Bx) : Nat := (b.2.1 - b.1.1 + 1).toNat
def hei (b : Bx) : Nat := (b.2.2 - b.1.2 + 1).toNat
def darkL (l : List Sc) (eyes : List Pt) (b : Bx) : List Pt := gridTo (hidB l eyes) b.1.1 b.1.2 (hei b) (wid b)

set_option maxRecDepth 20000 in
set_option maxHeartbeats 1000000 in
theorem dark_any (l : List Sc) (eyes : List Pt) (b : Bx) (la ea : Option Addr) (c ce : Nat) (w : World) (H : Rd w encS 4 la l) (HE : Rd w encP 2 ea eyes) (hl : okS l) (he : okP eyes) (hb : boxB b = true) :
    Calls Try.prog 31 #[.slice la l.length c, .slice ea eyes.length ce, B4 b] w fun e w' => ∃ v, e = .returned v ∧ w'.ownsRow w.heap.size 25 2 v (darkL l eyes b).length ((darkL l eyes b).flatMap encP) ∧ Below w.heap.size w w' := by
  have B := hb
  simp only [boxB, inR, Bool.and_eq_true, decide_eq_true_eq] at B
  obtain ⟨⟨⟨⟨A1, A2⟩, A3, A4⟩, ⟨A5, A6⟩, A7, A8⟩, ⟨A9, A10⟩, A11, A12⟩ := B
  clear hb
  go_enter Try.func31, Try.ntmps31
  go_wp2_with fail
  go_loopg [7, 8, 9] (wid b) (fun gg s7 s8 _ wr => ∃ i : Nat, i ≤ wid b ∧ wid b - i ≤ gg ∧ s8 = .int .i64 (b.1.1 + i) ∧ Aside (wr.ownsRow (w.heap.size + 1) 25 2 s7 (gridTo (hidB l eyes) b.1.1 b.1.2 (hei b) i).length ((gridTo (hidB l eyes) b.1.1 b.1.2 (hei b) i).flatMap encP)) ∧ Aside (Below (w.heap.size + 1) (w.alloc (.cells #[.int .i64 b.1.1, .int .i64 b.1.2, .int .i64 b.2.1, .int .i64 b.2.2] 27)) wr))
  case atStart => exact ⟨0, Nat.zero_le _, by omega, (by go_num), World.ownsRow_nil _ _ _ _, Below.refl _ _⟩
  case round =>
    obtain ⟨i, hi, hg, rfl, HO, HB⟩ := hrel
    have hwid : (wid b : Int) = b.2.1 - b.1.1 + 1 := by unfold wid; omega
    have hhei : (hei b : Int) = b.2.2 - b.1.2 + 1 := by unfold hei; omega
    have hwH := Go.Lib.hid (And.intro hwid hhei)
    have wb : wid b ≤ 21 := by omega
    have hb21 : hei b ≤ 21 := by omega
    have c0 := (HB.out.cell (p := ⟨w.heap.size, 0, none⟩) (by simp)).trans (by simp; rfl)
    have c1 := (HB.out.cell (p := ⟨w.heap.size, 1, none⟩) (by simp)).trans (by simp; rfl)
    have c2 := (HB.out.cell (p := ⟨w.heap.size, 2, none⟩) (by simp)).trans (by simp; rfl)
    have c3 := (HB.out.cell (p := ⟨w.heap.size, 3, none⟩) (by simp)).trans (by simp; rfl)
    by_cases hlt : i < wid b
    · have hx : b.1.1 + i ≤ b.2.1 := by omega
      clear hwid hhei
      go_wp2_with fail
      clear c0 c1 c2 c3
      obtain ⟨wo, rfl⟩ : ∃ wo : World, wo = wr := ⟨_, rfl⟩
      go_loopg [7, 9] (hei b) (fun gg s7 s9 wr => ∃ j : Nat, j ≤ hei b ∧ hei b - j ≤ gg ∧ s9 = .int .i64 (b.1.2 + j) ∧ Aside (wr.ownsRow (w.heap.size + 1) 25 2 s7 (gridTo (hidB l eyes) b.1.1 b.1.2 (hei b) i ++ colTo (hidB l eyes) (b.1.1 + i) b.1.2 j).length ((gridTo (hidB l eyes) b.1.1 b.1.2 (hei b) i ++ colTo (hidB l eyes) (b.1.1 + i) b.1.2 j).flatMap encP)) ∧ Aside (Below (w.heap.size + 1) (w.alloc (.cells #[.int .i64 b.1.1, .int .i64 b.1.2, .int .i64 b.2.1, .int .i64 b.2.2] 27)) wr))
      case atStart => exact ⟨0, Nat.zero_le _, by omega, (by go_num), (by have := HO.out; show Aside _; rw [show colTo (hidB l eyes) (b.1.1 + i) b.1.2 0 = [] from rfl, List.append_nil]; exact this), HB⟩
      case round =>
        clear HO HB
        obtain ⟨j, hj, hg2, rfl, HO, HB⟩ := hrel
        have c2 := (HB.out.cell (p := ⟨w.heap.size, 2, none⟩) (by simp)).trans (by simp; rfl)
        have c3 := (HB.out.cell (p := ⟨w.heap.size, 3, none⟩) (by simp)).trans (by simp; rfl)
        have hsz : w.heap.size + 1 ≤ wr.heap.size := by have := HB.out.size; simpa using this
        by_cases hlt2 : j < hei b
        · have hy : b.1.2 + j ≤ b.2.2 := by have := hwH.out.2; omega
          have hin : inR (b.1.1 + i, b.1.2 + j) = true := by simp only [inR, Bool.and_eq_true, decide_eq_true_eq]; omega
          have hcall := fun W hW => refseers_any l eyes (b.1.1 + i, b.1.2 + j) la ea c ce W (H.below hW) (HE.below hW) hl he hin
          have HBw : Below w.heap.size w wr := blw_call (w := w) (HB.out.mono (by simp)) (blw_alloc (Below.refl _ _) _)
          have hcall2 := hcall wr HBw
          have hnil := Go.Lib.hid (idxs_nil (fun e => seesB l e (b.1.1 + i, b.1.2 + j)) eyes 0)
          have HT := Go.Lib.hid (colTo_succ (hidB l eyes) (b.1.1 + i) b.1.2 j)
          have hlen := colTo_len (hidB l eyes) (b.1.1 + i) b.1.2 j
          have hlen2 := gridTo_len (hidB l eyes) b.1.1 b.1.2 (hei b) i
          have hlen3 : (gridTo (hidB l eyes) b.1.1 b.1.2 (hei b) i ++ colTo (hidB l eyes) (b.1.1 + i) b.1.2 j).length ≤ 1000000 := by
            rw [List.length_append]
            have : i * hei b ≤ 21 * 21 := Nat.mul_le_mul (by omega) (by omega)
            omega
          clear hcall HBw H HE hl he hin hlen hlen2
          generalize idxs (fun e => seesB l e (b.1.1 + i, b.1.2 + j)) eyes 0 = r at hcall2 hnil
          have hh : Aside ((hidB l eyes (b.1.1 + i, b.1.2 + j) = true) ↔ r.length = 0) := by
            have := hnil.out
            unfold hidB
            show _ ↔ _
            rw [this]
            simp
          clear hnil
          by_cases hr : r.length = 0
          · have hr2 : ((r.length : Int) == 0) = true := by simp [hr]
            have hhid := hh.out.2 hr
            have HT2 := HT.out
            rw [hhid] at HT2
            simp only [if_true] at HT2
            have HT3 := Go.Lib.hid HT2
            clear hh hr hhid HT HT2
            go_wp2_with (first | (go_at_call 55; refine hcall2.mono ?_; rintro e w' ⟨v, rfl, ho, hbw⟩; obtain ⟨A, cc, rfl⟩ := own_slice ho; clear ho) | (at_builtin; (refine app_own (w0 := (w.alloc (.cells #[.int .i64 b.1.1, .int .i64 b.1.2, .int .i64 b.2.1, .int .i64 b.2.2] 27))) (w.heap.size + 1) rfl _ _ 23 25 (.agg #[.int .i64 0, .int .i64 0]) 2 16 rfl Try.underlying23 (by kernel_rfl) rfl (by decide) (by decide) u7 _ _ [.int .i64 (b.1.1 + i), .int .i64 (b.1.2 + j)] rfl rfl rfl (by simp [Value.oneCell']) (own_blw HO.out hbw) (HB.out.trans (hbw.mono hsz)) (Nat.le_trans hsz hbw.size) (by omega) ?_); intro v1 w1 ho1 hb1 _ _))
            go_roundg (hei b - (j + 1))
            case measure => omega
            case rel =>
              refine ⟨j + 1, by omega, by omega, by go_num, ?_, hb1⟩
              rw [HT3.out, ← List.append_assoc, List.flatMap_append, List.length_append]
              exact ho1
          · have hr2 : ((r.length : Int) == 0) = false := by rw [beq_eq_false_iff_ne]; omega
            have hhid : hidB l eyes (b.1.1 + i, b.1.2 + j) = false := by
              rw [Bool.eq_false_iff]; intro h; exact hr (hh.out.1 h)
            have HT2 := HT.out
            rw [hhid] at HT2
            simp only [Bool.false_eq_true, if_false] at HT2
            have HT3 := Go.Lib.hid HT2
            clear hh hr hhid HT HT2
            go_wp2_with (go_at_call 55; refine hcall2.mono ?_; rintro e w' ⟨v, rfl, ho, hbw⟩; obtain ⟨A, cc, rfl⟩ := own_slice ho; clear ho)
            go_roundg (hei b - (j + 1))
            case measure => omega
            case rel =>
              refine ⟨j + 1, by omega, by omega, by go_num, ?_, HB.out.trans (hbw.mono hsz)⟩
              rw [HT3.out]
              exact own_blw HO.out hbw
        · have hy : ¬ b.1.2 + j ≤ b.2.2 := by have := hwH.out.2; omega
          have ej : Hid (j = hei b) := by show j = hei b; omega
          go_wp2
          go_roundg (wid b - (i + 1))
          case measure => omega
          case rel =>
            refine ⟨i + 1, by omega, by omega, by go_num, ?_, HB⟩
            rw [gridTo_succ]
            have := HO.out
            rw [ej.out] at this
            exact this
    · have hx : ¬ b.1.1 + i ≤ b.2.1 := by omega
      have ei : Hid (i = wid b) := by show i = wid b; omega
      go_wp2
      go_ret
      refine ⟨_, rfl, own_mono ?_ (Nat.le_succ _), blw_call (w := w) (HB.out.mono (by simp)) (blw_alloc (Below.refl _ _) _)⟩
      have := HO.out
      rw [ei.out] at this
      exact this
end Go.Proofs.Ytdpdchghafopfaa
