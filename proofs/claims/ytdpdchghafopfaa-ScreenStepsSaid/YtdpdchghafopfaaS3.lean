/- Contracts of functions that the statement reaches; the conditions stand in each theorem. -/
import Derived.Test.YtdpdchghafopfaaS2
set_option linter.unusedVariables false
set_option linter.unusedSimpArgs false
namespace Go.Proofs.Ytdpdchghafopfaa
open Go.RowKit
/-- The numbers of the first k elements for which p holds. -/
def idxs {α : Type} (p : α → Bool) : List α → Nat → List Nat
  | [], _ => []
  | x :: t, n => if p x then n :: idxs p t (n + 1) else idxs p t (n + 1)
theorem idxs_append {α : Type} (p : α → Bool) (xs ys : List α) (n : Nat) : idxs p (xs ++ ys) n = idxs p xs n ++ idxs p ys (n + xs.length) := by
  induction xs generalizing n with
  | nil => simp [idxs]
  | cons x t ih => simp only [List.cons_append, idxs, ih, List.length_cons]; split <;> simp [Nat.add_assoc, Nat.add_comm 1]
theorem idxs_take {α : Type} (p : α → Bool) (xs : List α) (k : Nat) (h : k < xs.length) : idxs p (xs.take (k + 1)) 0 = if p xs[k] then idxs p (xs.take k) 0 ++ [k] else idxs p (xs.take k) 0 := by
  rw [List.take_succ_eq_append_getElem h, idxs_append]
  simp only [idxs, List.length_take]
  rw [show 0 + min k xs.length = k from by omega]
  split <;> simp
theorem idxs_nil {α : Type} (p : α → Bool) (xs : List α) (n : Nat) : (idxs p xs n).length = 0 ↔ xs.any p = false := by
  induction xs generalizing n with
  | nil => simp [idxs]
  | cons x t ih => simp only [idxs, List.any_cons]; split <;> simp_all
theorem idxs_len {α : Type} (p : α → Bool) (xs : List α) (n : Nat) : (idxs p xs n).length ≤ xs.length := by
  induction xs generalizing n with
  | nil => simp [idxs]
  | cons x t ih => simp only [idxs, List.length_cons]; have := ih (n + 1); split <;> (try simp only [List.length_cons]) <;> omega
def natv (xs : List Nat) : List Value := xs.map fun (i : Nat) => .int .i64 (i : Int)

set_option maxRecDepth 20000 in
set_option maxHeartbeats 1000000 in
theorem refcutters_any (l : List Sc) (a b : Pt) (la : Option Addr) (c : Nat) (w : World) (H : Rd w encS 4 la l) (hl : ∀ s ∈ l, inR s.1 = true ∧ inR s.2 = true) (ha : inR a = true) (hb : inR b = true) :
    Calls Try.prog 56 #[.slice la l.length c, P2 a, P2 b] w fun e w' => ∃ v, e = .returned v ∧ w'.ownsRow w.heap.size 3 1 v (idxs (fun s : Sc => touchB a b s.1 s.2) l 0).length (natv (idxs (fun s : Sc => touchB a b s.1 s.2) l 0)) ∧ Below w.heap.size w w' := by
  go_enter Try.func56, Try.ntmps56
  go_wp2_with fail
  go_loopg [7, 8] l.length (fun gg s7 s8 wr => ∃ k : Nat, k ≤ l.length ∧ l.length - k ≤ gg ∧ s8 = .int .i64 k ∧ Aside (wr.ownsRow (w.heap.size + 2) 3 1 s7 (idxs (fun s : Sc => touchB a b s.1 s.2) (l.take k) 0).length (natv (idxs (fun s : Sc => touchB a b s.1 s.2) (l.take k) 0))) ∧ Aside (Below (w.heap.size + 2) (bxP (bxP w a) b) wr))
  case atStart => exact ⟨0, Nat.zero_le _, by omega, rfl, World.ownsRow_nil _ _ _ _, Below.refl _ _⟩
  case round =>
    obtain ⟨k, hk, hg, rfl, HO, HB⟩ := hrel
    have big := H.big
    by_cases hlt : k < l.length
    · have hltz : (k : Int) < (l.length : Int) := by omega
      have HR : Rd wr encS 4 la l := (H.below (blw_alloc (blw_alloc (Below.refl _ _) _) _)).below (HB.out.mono (by simp))
      obtain ⟨b0, off, rfl, hb0, hc⟩ := HR.at_ k hlt
      have q0 := rg_cell (hc 0 _ rfl)
      have q1 := rg_cell (hc 1 _ rfl)
      have q2 := rg_cell (hc 2 _ rfl)
      have q3 := rg_cell (hc 3 _ rfl)
      obtain ⟨hs1, hs2⟩ := hl l[k] (List.getElem_mem hlt)
      have HT := Go.Lib.hid (idxs_take (fun s : Sc => touchB a b s.1 s.2) l k hlt)
      generalize l[k] = x at q0 q1 q2 q3 hs1 hs2 HT
      change ∀ p, (rg wr p).cell? ⟨b0, off + k * 4, none⟩ = _ at q0
      change ∀ p, (rg wr p).cell? ⟨b0, off + k * 4 + 2 + 1, none⟩ = _ at q3
      have c0 := fun p => rg_cell ((HB.out.cell (p := ⟨w.heap.size, 0, none⟩) (by simp)).trans (by simp; rfl)) p
      have c1 := fun p => rg_cell ((HB.out.cell (p := ⟨w.heap.size, 1, none⟩) (by simp)).trans (by simp; rfl)) p
      have c2 := fun p => rg_cell ((HB.out.cell (p := ⟨w.heap.size + 1, 0, none⟩) (by simp)).trans (by simp; rfl)) p
      have c3 := fun p => rg_cell ((HB.out.cell (p := ⟨w.heap.size + 1, 1, none⟩) (by simp)).trans (by simp; rfl)) p
      clear hc HR H hl
      go_wp2_with fail
      ((with_reducible refine wp_region_rg (by kernel_rfl) (by kernel_rfl) ?_); (repeat (first | go_big_quiet_step ((first | (go_at_call 70; exact rg_of (reftouch_any a b x.1 x.2 _ ha hb hs1 hs2)))) | quiet_step ((first | (go_at_call 70; exact rg_of (reftouch_any a b x.1 x.2 _ ha hb hs1 hs2)))))); refine wpQuiet_nil ?_; intro _ hw'; obtain ⟨prg, hw''⟩ := hw'; subst hw'')
      have hbr := rg_below wr prg
      generalize rg wr prg = wr2 at hbr
      clear q0 q1 q2 q3 c0 c1 c2 c3
      have HO2 := own_blw HO.out hbr
      have hsz : w.heap.size + 2 ≤ wr.heap.size := by have := HB.out.size; simpa using this
      have HB2 : Below (w.heap.size + 2) (bxP (bxP w a) b) wr2 := HB.out.trans (hbr.mono hsz)
      have hsz2 : w.heap.size + 2 ≤ wr2.heap.size := Nat.le_trans hsz hbr.size
      have hlen := idxs_len (fun s : Sc => touchB a b s.1 s.2) (l.take k) 0
      have hlen2 : (l.take k).length ≤ l.length := by simp; omega
      clear hbr HO HB hsz
      have HO3 := asd HO2
      have HB3 := asd HB2
      clear HO2 HB2
      cases ht : touchB a b x.1 x.2
      · have HT2 := HT.out
        simp only [ht, if_true, if_false, Bool.false_eq_true] at HT2
        have HT3 := Go.Lib.hid HT2
        clear HT HT2
        go_wp2
        go_roundg (l.length - (k + 1))
        case measure => omega
        case rel =>
          refine ⟨k + 1, by omega, by omega, by go_num, ?_, HB3.out⟩
          rw [HT3.out]; exact HO3.out
      · have HT2 := HT.out
        simp only [ht, if_true, if_false, Bool.false_eq_true] at HT2
        have HT3 := Go.Lib.hid HT2
        clear HT HT2
        go_wp2_with (at_builtin; (refine app_own (w.heap.size + 2) rfl _ _ 54 3 (.int .i64 0) 1 8 rfl Try.underlying54 (by kernel_rfl) rfl (by decide) (by decide) u7 _ _ [.int .i64 k] rfl rfl rfl (by simp [Value.oneCell']) HO3.out HB3.out hsz2 (by omega) ?_); intro v1 w1 ho1 hb1 _ _)
        go_roundg (l.length - (k + 1))
        case measure => omega
        case rel =>
          refine ⟨k + 1, by omega, by omega, by go_num, ?_, hb1⟩
          rw [HT3.out]
          have e1 : (idxs (fun s : Sc => touchB a b s.1 s.2) (l.take k) 0 ++ [k]).length = (idxs (fun s : Sc => touchB a b s.1 s.2) (l.take k) 0).length + 1 := by simp
          have e2 : natv (idxs (fun s : Sc => touchB a b s.1 s.2) (l.take k) 0 ++ [k]) = natv (idxs (fun s : Sc => touchB a b s.1 s.2) (l.take k) 0) ++ [.int .i64 k] := by simp [natv]
          rw [e1, e2]
          exact ho1
    · have hltz : ¬ (k : Int) < (l.length : Int) := by omega
      have e0 : l.take k = l := List.take_of_length_le (by omega)
      rw [e0] at HO
      go_wp2
      go_ret
      exact ⟨_, rfl, own_mono HO.out (by omega), blw_call (w := w) (W := bxP (bxP w a) b) (HB.out.mono (by simp)) (blw_alloc (blw_alloc (Below.refl _ _) _) _)⟩
end Go.Proofs.Ytdpdchghafopfaa
