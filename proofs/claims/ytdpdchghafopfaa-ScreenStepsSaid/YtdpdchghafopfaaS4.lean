/- Contracts of functions that the statement reaches; the conditions stand in each theorem. -/
import Derived.Test.YtdpdchghafopfaaS3
set_option linter.unusedVariables false
set_option linter.unusedSimpArgs false
namespace Go.Proofs.Ytdpdchghafopfaa
open Go.RowKit
def seesB (l : List Sc) (a b : Pt) : Bool := !(l.any fun s => touchB a b s.1 s.2)
def hidB (l : List Sc) (eyes : List Pt) (p : Pt) : Bool := !(eyes.any fun e => seesB l e p)
def okS (l : List Sc) : Prop := ∀ s ∈ l, inR s.1 = true ∧ inR s.2 = true
def okP (l : List Pt) : Prop := ∀ p ∈ l, inR p = true

set_option maxHeartbeats 400000 in
theorem refsees_any (l : List Sc) (a b : Pt) (la : Option Addr) (c : Nat) (w : World) (H : Rd w encS 4 la l) (hl : okS l) (ha : inR a = true) (hb : inR b = true) :
    Calls Try.prog 33 #[.slice la l.length c, P2 a, P2 b] w fun e w' => e = .returned (.bool (seesB l a b)) ∧ Below w.heap.size w w' := by
  have hc := refcutters_any l a b la c (bxP (bxP w a) b) (H.below (blw_alloc (blw_alloc (Below.refl _ _) _) _)) hl ha hb
  have e0 := Go.Lib.hid (idxs_nil (fun s : Sc => touchB a b s.1 s.2) l 0)
  clear H hl ha hb
  generalize idxs (fun s : Sc => touchB a b s.1 s.2) l 0 = r at hc e0
  go_enter Try.func33, Try.ntmps33
  go_wp2_with (go_at_call 56; refine hc.mono ?_; rintro e w' ⟨v, rfl, ho, hbw⟩; obtain ⟨A, cc, rfl⟩ := own_slice ho; clear ho)
  go_ret
  refine ⟨rb ?_, ?_⟩
  · unfold seesB
    have := e0.out
    cases ht : l.any (fun s => touchB a b s.1 s.2) <;> simp_all
  · (repeat (first | exact Below.refl _ _ | refine blw_alloc ?_ _ | refine blw_drew ?_ | refine blw_rg ?_ _ | refine blw_call (by assumption) ?_))

set_option maxRecDepth 20000 in
set_option maxHeartbeats 400000 in
theorem refseers_any (l : List Sc) (eyes : List Pt) (p : Pt) (la ea : Option Addr) (c ce : Nat) (w : World) (H : Rd w encS 4 la l) (HE : Rd w encP 2 ea eyes) (hl : okS l) (he : okP eyes) (hp : inR p = true) :
    Calls Try.prog 55 #[.slice la l.length c, .slice ea eyes.length ce, P2 p] w fun e w' => ∃ v, e = .returned v ∧ w'.ownsRow w.heap.size 3 1 v (idxs (fun e => seesB l e p) eyes 0).length (natv (idxs (fun e => seesB l e p) eyes 0)) ∧ Below w.heap.size w w' := by
  go_enter Try.func55, Try.ntmps55
  go_wp2_with fail
  go_loopg [7, 8] eyes.length (fun gg s7 s8 wr => ∃ k : Nat, k ≤ eyes.length ∧ eyes.length - k ≤ gg ∧ s8 = .int .i64 k ∧ Aside (wr.ownsRow (w.heap.size + 1) 3 1 s7 (idxs (fun e => seesB l e p) (eyes.take k) 0).length (natv (idxs (fun e => seesB l e p) (eyes.take k) 0))) ∧ Aside (Below (w.heap.size + 1) (bxP w p) wr))
  case atStart => exact ⟨0, Nat.zero_le _, by omega, rfl, World.ownsRow_nil _ _ _ _, Below.refl _ _⟩
  case round =>
    obtain ⟨k, hk, hg, rfl, HO, HB⟩ := hrel
    have big := HE.big
    have hsz : w.heap.size + 1 ≤ wr.heap.size := by have := HB.out.size; simpa using this
    by_cases hlt : k < eyes.length
    · have hltz : (k : Int) < (eyes.length : Int) := by omega
      have HL : Rd wr encS 4 la l := (H.below (blw_alloc (Below.refl _ _) _)).below (HB.out.mono (by simp))
      have HR : Rd wr encP 2 ea eyes := (HE.below (blw_alloc (Below.refl _ _) _)).below (HB.out.mono (by simp))
      obtain ⟨b0, off, rfl, hb0, hc⟩ := HR.at_ k hlt
      have q0 := rg_cell (hc 0 _ rfl)
      have q1 := rg_cell (hc 1 _ rfl)
      have hs := he eyes[k] (List.getElem_mem hlt)
      have HT := Go.Lib.hid (idxs_take (fun e => seesB l e p) eyes k hlt)
      generalize eyes[k] = x at q0 q1 hs HT
      change ∀ p, (rg wr p).cell? ⟨b0, off + k * 2, none⟩ = _ at q0
      have c0 := fun q => rg_cell ((HB.out.cell (p := ⟨w.heap.size, 0, none⟩) (by simp)).trans (by simp; rfl)) q
      have c1 := fun q => rg_cell ((HB.out.cell (p := ⟨w.heap.size, 1, none⟩) (by simp)).trans (by simp; rfl)) q
      have hcall := fun q => refsees_any l x p la c (rg wr q) (HL.below (rg_below wr q)) hl hs hp
      clear hc HR HL H HE hl he hs hp
      go_wp2_with fail
      ((with_reducible refine wp_region_rg (by kernel_rfl) (by kernel_rfl) ?_); (repeat (first | go_big_quiet_step ((first | (go_at_call 33; exact rg_of (hcall _)))) | quiet_step ((first | (go_at_call 33; exact rg_of (hcall _)))))); refine wpQuiet_nil ?_; intro _ hw'; obtain ⟨prg, hw''⟩ := hw'; subst hw'')
      have hbr := rg_below wr prg
      generalize rg wr prg = wr2 at hbr
      clear q0 q1 c0 c1 hcall
      have HO3 := asd (own_blw HO.out hbr)
      have HB3 : Aside (Below (w.heap.size + 1) (bxP w p) wr2) := HB.out.trans (hbr.mono hsz)
      have hsz2 : w.heap.size + 1 ≤ wr2.heap.size := Nat.le_trans hsz hbr.size
      have hlen := idxs_len (fun e => seesB l e p) (eyes.take k) 0
      have hlen2 : (eyes.take k).length ≤ eyes.length := by simp; omega
      clear hbr HO HB hsz
      have HT2 := HT.out
      cases ht : seesB l x p
      all_goals
        simp only [ht, if_true, if_false, Bool.false_eq_true] at HT2
        have HT3 := Go.Lib.hid HT2
        clear HT HT2
      · go_wp2
        go_roundg (eyes.length - (k + 1))
        case measure => omega
        case rel =>
          refine ⟨k + 1, by omega, by omega, by go_num, ?_, HB3.out⟩
          rw [HT3.out]; exact HO3.out
      · go_wp2_with (at_builtin; (refine app_own (w.heap.size + 1) rfl _ _ 54 3 (.int .i64 0) 1 8 rfl Try.underlying54 (by kernel_rfl) rfl (by decide) (by decide) u7 _ _ [.int .i64 k] rfl rfl rfl (by simp [Value.oneCell']) HO3.out HB3.out hsz2 (by omega) ?_); intro v1 w1 ho1 hb1 _ _)
        go_roundg (eyes.length - (k + 1))
        case measure => omega
        case rel =>
          refine ⟨k + 1, by omega, by omega, by go_num, ?_, hb1⟩
          rw [HT3.out]
          have e1 : (idxs (fun e => seesB l e p) (eyes.take k) 0 ++ [k]).length = (idxs (fun e => seesB l e p) (eyes.take k) 0).length + 1 := by simp
          have e2 : natv (idxs (fun e => seesB l e p) (eyes.take k) 0 ++ [k]) = natv (idxs (fun e => seesB l e p) (eyes.take k) 0) ++ [.int .i64 k] := by simp [natv]
          rw [e1, e2]
          exact ho1
    · have hltz : ¬ (k : Int) < (eyes.length : Int) := by omega
      have e0 : eyes.take k = eyes := List.take_of_length_le (by omega)
      rw [e0] at HO
      go_wp2
      go_ret
      exact ⟨_, rfl, own_mono HO.out (by omega), blw_call (w := w) (W := bxP w p) (HB.out.mono (by simp)) (blw_alloc (Below.refl _ _) _)⟩
end Go.Proofs.Ytdpdchghafopfaa
