/- The reference's functions, in the walks' words; its Catches. -/
import Derived.Test.YtdpdchghafopfaaDoorC6
import Derived.Test.YtdpdchghafopfaaDoorC2
import Derived.OneCell
set_option linter.unusedVariables false
set_option linter.unusedSimpArgs false
namespace Go.Proofs.YtdpdchghafopfaaDoor
open Go.RowKit Go.Proofs.YtdpdchghafopfaaDoorW.PrintWords Go.Proofs.YtdpdchghafopfaaDoorW.PrintLast Go.Proofs.YtdpdchghafopfaaDoorW.PrintMore
theorem addr_none' (b off n : Nat) : (⟨b, off, none⟩ : Addr).add n = ⟨b, off + n, none⟩ := by unfold Addr.add; split <;> simp_all
theorem kd_str {w : World} {a : Option Addr} {xs : List ByteArray} (H : Rd w encStr 1 a xs) : Kd.C Kd.string w a xs.length xs := by
  refine ⟨rfl, by have := H.big; omega, fun h0 => ?_⟩
  obtain ⟨b, off, rfl, hb, hc⟩ := H.row h0
  refine ⟨_, rfl, fun j p hp => ?_⟩
  obtain ⟨hj, rfl⟩ := List.getElem?_eq_some_iff.1 hp
  refine ⟨[.string xs[j]], rfl, rfl, fun i u hu => ?_⟩
  rw [addr_none']
  have := hc j hj i u hu
  rw [Nat.add_assoc] at this
  exact this
theorem kd_int {w : World} {a : Option Addr} {xs : List Int} (H : Rd w encInt 1 a xs) : Kd.C (Kd.int .i64) w a xs.length xs := by
  refine ⟨rfl, by have := H.big; omega, fun h0 => ?_⟩
  obtain ⟨b, off, rfl, hb, hc⟩ := H.row h0
  refine ⟨_, rfl, fun j p hp => ?_⟩
  obtain ⟨hj, rfl⟩ := List.getElem?_eq_some_iff.1 hp
  refine ⟨[.int .i64 xs[j]], rfl, rfl, fun i u hu => ?_⟩
  rw [addr_none']
  have := hc j hj i u hu
  rw [Nat.add_assoc] at this
  exact this
theorem rd_int {w : World} {a : Option Addr} {xs : List Int} (hbig : xs.length ≤ 1000000) (H : Kd.C (Kd.int .i64) w a xs.length xs) : Rd w encInt 1 a xs := by
  refine ⟨hbig, fun h0 => ?_⟩
  obtain ⟨ad, rfl, hc⟩ := H.2.2 h0
  have cell : ∀ j (hj : j < xs.length), w.cell? (ad.add (j * 1 + 0)) = some (.int .i64 xs[j]) := by
    intro j hj
    obtain ⟨c, _, hk, hcell⟩ := hc j _ (List.getElem?_eq_getElem hj)
    have hk' : c = [.int .i64 xs[j]] := hk
    subst hk'
    exact hcell 0 _ rfl
  have h1 := cell 0 h0
  obtain ⟨b, off, spot⟩ := ad
  have hspot : spot = none := by simpa [Addr.add] using World.cell?_spot h1
  subst hspot
  refine ⟨b, off, rfl, ?_, fun j hj i v hv => ?_⟩
  · rw [addr_none'] at h1; exact World.block_lt_of_cell? w _ h1
  · have := cell j hj
    rw [addr_none'] at this
    cases i with
    | zero => simp [encInt] at hv; subst hv; simpa using this
    | succ i => simp [encInt] at hv
theorem refvh_any (xs : List ByteArray) (la : Option Addr) (c : Nat) (w : World) (H : Rd w encStr 1 la xs) (hc : xs.length ≤ c) :
    Calls Tryd.prog 13 #[.slice la xs.length c] w fun e w' => e = .returned (.int .i64 (valH xs)) ∧ Below w.heap.size w w' := by
  obtain ⟨k, hk⟩ := (PFirst.vh_ev xs).rounds
  exact (PFirst.wigeonref06_ValidateHistories.calls k la c xs _ w (kd_str H) hc hk).mono fun _ _ ⟨h1, h2⟩ => ⟨h1, h2.below⟩
theorem refcaught_any (s : ByteArray) (a b : Nat) (hb : b ≤ s.size) (h9 : b ≤ 1000) (w : World) :
    Calls Tryd.prog 35 #[.string s, .int .i64 a, .int .i64 b] w fun e w' => e = .returned (.bool (caughtB s a b)) ∧ Below w.heap.size w w' := by
  obtain ⟨k, hk⟩ := (PFirst.caught_f s a b hb h9).rounds
  exact (PFirst.wigeonref06_caught.calls k s a b _ w hk).mono fun _ _ ⟨h1, h2⟩ => ⟨h1, h2.below⟩
theorem refdays_any (xs : List ByteArray) (la : Option Addr) (c : Nat) (w : World) (H : Rd w encStr 1 la xs) (hc : xs.length ≤ c) :
    Calls Tryd.prog 34 #[.slice la xs.length c] w fun e w' => e = .returned (.int .i64 (daysH xs : Int)) ∧ Below w.heap.size w w' :=
  (PFirst.wigeonref06_days.calls la c xs _ w (kd_str H) hc (PFirst.days_f xs)).mono fun _ _ ⟨h1, h2⟩ => ⟨h1, h2.below⟩
theorem known_any (w : World) : Calls Tryd.prog 7 #[] w fun e w' => e = .returned (.bool true) ∧ Below w.heap.size w w' := Pknown.wigeonlaw06_known.calls 200 true w known_f
theorem reffirst_any (xs : List ByteArray) (la : Option Addr) (c : Nat) (w : World) (H : Rd w encStr 1 la xs) (hc : xs.length ≤ c) :
    Calls Tryd.prog 11 #[.slice la xs.length c] w (ListPost encInt 1 (if valH xs = 0 then freshL xs (daysH xs) else []) (valH xs) w) := by
  obtain ⟨k, hk⟩ := (PFirst.first_ev xs).rounds
  have hlen : (if valH xs = 0 then freshL xs (daysH xs) else []).length ≤ 1000000 := by
    split
    · rename_i h
      have := (goodH h).days
      simp [freshL]; omega
    · simp
  have hk2 : PFirst.wigeonref06_First.f k xs = some (if valH xs = 0 then freshL xs (daysH xs) else [], valH xs) := by
    rw [hk]
    split
    · rename_i h; rw [h]
    · rfl
  refine (PFirst.wigeonref06_First.calls k la c xs _ _ w (kd_str H) hc hk2).mono ?_
  rintro e w' ⟨v, rfl, hr, hb⟩
  obtain ⟨A, cc, rfl, hcc, hC⟩ := Kd.R_reads hr
  exact ⟨A, cc, hcc, rfl, rd_int hlen hC, hb⟩
theorem same_any (xs ys : List Int) (la lb : Option Addr) (c d : Nat) (w : World) (H : Rd w encInt 1 la xs) (H2 : Rd w encInt 1 lb ys) (hc : xs.length ≤ c) (hd : ys.length ≤ d) :
    Calls Tryd.prog 14 #[.slice la xs.length c, .slice lb ys.length d] w fun e w' => e = .returned (.bool (decide (xs = ys))) ∧ Below w.heap.size w w' := by
  obtain ⟨k, hk⟩ := (PSameInts.same_ev xs ys H.big).rounds
  exact (PSameInts.wigeonref06_SameInts.calls k la c xs lb d ys _ w (kd_int H) hc (kd_int H2) hd hk).mono fun _ _ ⟨h1, h2⟩ => ⟨h1, h2.below⟩
theorem many_any (xs : List ByteArray) (la : Option Addr) (c : Nat) (w : World) (H : Kd.C Kd.string w la xs.length xs) (hcap : xs.length ≤ c) (hL : xs.length ≤ 17592186044416) :
    Calls Tryd.prog 6 #[.slice la xs.length c] w fun e w' => e = .returned (.bool (PMany.manyB xs)) ∧ Below w.heap.size w w' := by
  obtain ⟨k, hk⟩ := (PMany.many_ev xs hL).rounds
  exact (PMany.wigeonlaw06_Many.calls k la c xs _ w H hcap hk).mono fun _ _ ⟨h1, h2⟩ => ⟨h1, h2.below⟩
/-! The reference's Catches. -/
structure Cnt3 (W : World) (B : Nat) (x y z : Int) : Prop where
  c0 : W.cell? ⟨B, 0, none⟩ = some (.int .i64 x)
  c1 : W.cell? ⟨B, 1, none⟩ = some (.int .i64 y)
  c2 : W.cell? ⟨B, 2, none⟩ = some (.int .i64 z)
  f0 : W.frozen? ⟨B, 0, none⟩ = false
  f1 : W.frozen? ⟨B, 1, none⟩ = false
  f2 : W.frozen? ⟨B, 2, none⟩ = false
theorem Cnt3.below {W W' : World} {B : Nat} {x y z : Int} (h : Cnt3 W B x y z) (hb : Below W.heap.size W W') : Cnt3 W' B x y z := by
  have hl : B < W.heap.size := World.block_lt_of_cell? W _ h.c0
  obtain ⟨hc, hf⟩ := bcell hb
  exact ⟨(hc _ _ hl).trans h.c0, (hc _ _ hl).trans h.c1, (hc _ _ hl).trans h.c2, (hf _ _ hl).trans h.f0, (hf _ _ hl).trans h.f1, (hf _ _ hl).trans h.f2⟩
theorem Cnt3.set0 {W : World} {B : Nat} {x y z : Int} (h : Cnt3 W B x y z) (v : Int) : Cnt3 (W.setCell ⟨B, 0, none⟩ (.int .i64 v)) B v y z := by
  obtain ⟨a, b, c, d, e, f⟩ := h
  refine ⟨?_, ?_, ?_, ?_, ?_, ?_⟩ <;> go_simp
theorem Cnt3.set1 {W : World} {B : Nat} {x y z : Int} (h : Cnt3 W B x y z) (v : Int) : Cnt3 (W.setCell ⟨B, 1, none⟩ (.int .i64 v)) B x v z := by
  obtain ⟨a, b, c, d, e, f⟩ := h
  refine ⟨?_, ?_, ?_, ?_, ?_, ?_⟩ <;> go_simp
theorem Cnt3.set2 {W : World} {B : Nat} {x y z : Int} (h : Cnt3 W B x y z) (v : Int) : Cnt3 (W.setCell ⟨B, 2, none⟩ (.int .i64 v)) B x y v := by
  obtain ⟨a, b, c, d, e, f⟩ := h
  refine ⟨?_, ?_, ?_, ?_, ?_, ?_⟩ <;> go_simp
structure RcI (w1 : World) (xs : List ByteArray) (k : Nat) (v : Value) (B : Nat) (W : World) : Prop where
  own : W.ownsRow w1.heap.size 35 3 v k ((catchL xs k).flatMap encC)
  far : v.ownBlock ≠ some B
  hB : w1.heap.size ≤ B
  old : Below w1.heap.size w1 W
theorem RcI.below {w1 : World} {xs : List ByteArray} {k : Nat} {v : Value} {B : Nat} {W W' : World} (h : RcI w1 xs k v B W) (hb : Below W.heap.size W W') : RcI w1 xs k v B W' := ⟨own_blw h.own hb, h.far, h.hB, blw_call hb h.old⟩
theorem RcI.set {w1 : World} {xs : List ByteArray} {k : Nat} {v : Value} {B : Nat} {W : World} (h : RcI w1 xs k v B W) (j : Nat) (u : Value) : RcI w1 xs k v B (W.setCell ⟨B, j, none⟩ u) :=
  ⟨ownsRow_setCell_other h.own h.far _, h.far, h.hB, h.old.setCell (by exact h.hB) _⟩
end Go.Proofs.YtdpdchghafopfaaDoor
