/- daily, First, Alive and Catches of the program. -/
import Derived.Test.YtdpdchghafopfaaDoorC5
set_option linter.unusedVariables false
set_option linter.unusedSimpArgs false
namespace Go.Proofs.YtdpdchghafopfaaDoor
open Go.RowKit
def encInt (x : Int) : List Value := [.int .i64 x]
def encC (x : C3) : List Value := [.int .i64 x.1, .int .i64 x.2.1, .int .i64 x.2.2]
def ListPost {α : Type} (enc : α → List Value) (k : Nat) (L : List α) (e0 : Int) (w : World) (e : Ending) (w' : World) : Prop := ∃ A c, L.length ≤ c ∧ e = .returned (.tuple #[.slice A L.length c, .int .i64 e0]) ∧ Rd w' enc k A L ∧ Below w.heap.size w w'
theorem rd_nilC {α : Type} (w : World) (enc : α → List Value) (k : Nat) (a : Option Addr) : Rd w enc k a [] := ⟨by simp, fun h => absurd h (by simp)⟩
theorem own_rdc {α : Type} {w : World} {base : Nat} {e : TypeId} {k : Nat} {v : Value} {enc : α → List Value} {xs : List α} (hk : ∀ x, (enc x).length = k) (hbig : xs.length ≤ 1000000) (h : w.ownsRow base e k v xs.length (xs.flatMap enc)) :
    ∃ A c, v = .slice A xs.length c ∧ xs.length ≤ c ∧ Rd w enc k A xs := by
  obtain ⟨A, c, rfl, hr⟩ := own_rd hk hbig h
  refine ⟨A, c, rfl, ?_, hr⟩
  rcases h.2 with ⟨hv, hn⟩ | ⟨g, cap, cur, hv, hb, hh, h1, h2, h3, h4⟩
  · injection hv with h5 h6 h7; omega
  · injection hv with h5 h6 h7; omega
def dayL (p : Nat → ByteArray → Bool) (xs : List ByteArray) (n : Nat) : List Int := (List.range n).map fun d => cntB (p d) xs
theorem good9 {xs : List ByteArray} (h : GoodH xs) : ∀ s ∈ xs, s.size ≤ 1000 := fun s hs => by have := h.size s hs; have := h.days; omega
set_option maxRecDepth 20000 in
set_option maxHeartbeats 1000000 in
theorem daily_err (g : Nat) (xs : List ByteArray) (la : Option Addr) (c : Nat) (w : World) (H : Rd w encStr 1 la xs) (h9 : ∀ s ∈ xs, s.size ≤ 1000) (he : valH xs ≠ 0) :
    Calls Tryd.prog 36 #[.slice la xs.length c, FnV g] w (ListPost encInt 1 [] (valH xs) w) := by
  have hv := fun W hW => vh_any xs la c W (H.below hW) h9
  have he2 : (valH xs != 0) = true := by rw [bne_iff_ne]; exact he
  clear H h9 he
  generalize valH xs = e0 at *
  go_enter Tryd.func36, Tryd.ntmps36
  go_wp2_with (go_at_call 12; refine (hv _ ?_).mono ?_; ((repeat (first | exact Below.refl _ _ | refine blw_alloc ?_ _ | refine blw_drew ?_ | refine blw_rg ?_ _ | refine blw_call (by assumption) ?_))); rintro e w' ⟨rfl, hb1⟩)
  go_ret2
  exact ⟨_, _, Nat.zero_le _, rfl, rd_nilC _ _ _ _, by (repeat (first | exact Below.refl _ _ | refine blw_alloc ?_ _ | refine blw_drew ?_ | refine blw_rg ?_ _ | refine blw_call (by assumption) ?_))⟩
set_option maxRecDepth 20000 in
set_option maxHeartbeats 1000000 in
theorem daily_ok (g : Nat) (eg : ∀ args w, (callFunc g args).run Tryd.prog w = .ok (.enter g args) w) (p : Nat → ByteArray → Bool) (xs : List ByteArray) (la : Option Addr) (c : Nat) (w : World) (H : Rd w encStr 1 la xs) (he : valH xs = 0)
    (hp : ∀ d, d < daysH xs → ∀ s ∈ xs, ∀ W, Calls Tryd.prog g #[.string s, .int .i64 d] W fun e w' => e = .returned (.bool (p d s)) ∧ W = w') :
    Calls Tryd.prog 36 #[.slice la xs.length c, FnV g] w (ListPost encInt 1 (dayL p xs (daysH xs)) 0 w) := by
  have hgood := goodH he
  have h8 := hgood.days
  have hv := fun W hW => vh_any xs la c W (H.below hW) (good9 hgood)
  have hdays := fun W hW => days_any xs la c W (H.below hW) (good9 hgood)
  have hnum := fun (d : Nat) hd W hW => number_any g eg (p d) d xs la c W (H.below hW) (hp d hd)
  have hbd := fun d => cntB_bd (p d) xs
  have h60 := hgood.len
  rw [he] at hv
  have HBD := Go.Lib.hid hbd
  clear H he hp hgood hbd
  generalize daysH xs = n at *
  go_enter Tryd.func36, Tryd.ntmps36
  go_wp2_with (first | (go_at_call 12; refine (hv _ ?_).mono ?_; ((repeat (first | exact Below.refl _ _ | refine blw_alloc ?_ _ | refine blw_drew ?_ | refine blw_rg ?_ _ | refine blw_call (by assumption) ?_))); rintro e w' ⟨rfl, hb1⟩) | (go_at_call 29; refine (hdays _ ?_).mono ?_; ((repeat (first | exact Below.refl _ _ | refine blw_alloc ?_ _ | refine blw_drew ?_ | refine blw_rg ?_ _ | refine blw_call (by assumption) ?_))); rintro e w' ⟨rfl, rfl⟩))
  have HW := asd (show Below w.heap.size w w' by (repeat (first | exact Below.refl _ _ | refine blw_alloc ?_ _ | refine blw_drew ?_ | refine blw_rg ?_ _ | refine blw_call (by assumption) ?_)))
  clear hb1 hv hdays
  go_loopg [7, 16] n (fun gg s7 s16 wr => ∃ k : Nat, k ≤ n ∧ n - k ≤ gg ∧ s16 = .int .i64 k ∧ Aside (wr.ownsRow w'.heap.size 3 1 s7 k ((dayL p xs k).flatMap encInt)) ∧ Aside (Below w'.heap.size w' wr))
  case atStart => exact ⟨0, Nat.zero_le _, by omega, rfl, World.ownsRow_nil _ _ _ _, Below.refl _ _⟩
  case round =>
    obtain ⟨k, hk, hg, rfl, HO, HB⟩ := hrel
    by_cases hlt : k < n
    · have hltz : (k : Int) < (n : Int) := by omega
      have hn1 := fun W hW => hnum k hlt W (blw_call hW (blw_call HB.out HW.out))
      have HT := Go.Lib.hid (show dayL p xs (k + 1) = dayL p xs k ++ [cntB (p k) xs] from map_range_succ _ k)
      have hbd := HBD.out k
      have hsz := HB.out.size
      clear hnum
      generalize cntB (p k) xs = x at *
      go_wp2_with (first | (go_at_call 30; refine (hn1 _ (Below.refl _ _)).mono ?_; rintro e w2 ⟨rfl, hb2⟩; have hsz2 := hb2.size) | (at_builtin; (refine app_own (w0 := w') w'.heap.size rfl _ _ 29 3 (.int .i64 0) 1 8 rfl Tryd.underlying29 (by kernel_rfl) rfl (by decide) (by decide) u7 _ _ [.int .i64 x] rfl rfl rfl (by simp [Value.oneCell']) (own_blw HO.out hb2) (blw_call hb2 HB.out) (by omega) (by omega) ?_); intro v1 w3 ho1 hb3 _ _))
      go_roundg (n - (k + 1))
      case measure => omega
      case rel =>
        refine ⟨k + 1, by omega, by omega, by go_num, ?_, hb3⟩
        rw [HT.out, List.flatMap_append]
        exact ho1
    · have hltz : ¬ (k : Int) < (n : Int) := by omega
      obtain rfl : k = n := by omega
      have hlen : (dayL p xs k).length = k := by simp [dayL]
      have HO2 : wr.ownsRow w'.heap.size 3 1 u7 (dayL p xs k).length ((dayL p xs k).flatMap encInt) := by rw [hlen]; exact HO.out
      obtain ⟨A, cc, rfl, hc, hr⟩ := own_rdc (enc := encInt) (fun _ => rfl) (by omega) HO2
      have HR := asd hr
      have HC := asd hc
      clear hr hnum HO2 hc
      go_wp2
      go_ret2
      exact ⟨A, cc, HC.out, (by rw [hlen]; rfl), HR.out, blw_call HB.out HW.out⟩
theorem first_err (xs : List ByteArray) (la : Option Addr) (c : Nat) (w : World) (H : Rd w encStr 1 la xs) (h9 : ∀ s ∈ xs, s.size ≤ 1000) (he : valH xs ≠ 0) :
    Calls Tryd.prog 10 #[.slice la xs.length c] w (ListPost encInt 1 [] (valH xs) w) := by
  have hd := fun W hW => daily_err 37 xs la c W (H.below hW) h9 he
  clear H h9 he
  generalize valH xs = e0 at *
  go_enter Tryd.func10, Tryd.ntmps10
  go_wp2_with (go_at_call 36; refine (hd _ ?_).mono ?_; ((repeat (first | exact Below.refl _ _ | refine blw_alloc ?_ _ | refine blw_drew ?_ | refine blw_rg ?_ _ | refine blw_call (by assumption) ?_))); rintro e w' ⟨A, cc, hc, rfl, hr, hb1⟩)
  go_ret2
  exact ⟨_, _, hc, rfl, hr, by (repeat (first | exact Below.refl _ _ | refine blw_alloc ?_ _ | refine blw_drew ?_ | refine blw_rg ?_ _ | refine blw_call (by assumption) ?_))⟩
theorem first_ok (xs : List ByteArray) (la : Option Addr) (c : Nat) (w : World) (H : Rd w encStr 1 la xs) (he : valH xs = 0) :
    Calls Tryd.prog 10 #[.slice la xs.length c] w (ListPost encInt 1 (freshL xs (daysH xs)) 0 w) := by
  have hgood := goodH he
  have hd := fun W hW => daily_ok 37 (enters_of Tryd.func37 (by kernel_rfl) rfl) freshB xs la c W (H.below hW) he fun d hd s hs W => fresh_any s d (by rw [hgood.size s hs]; exact hd) (good9 hgood s hs) W
  have e : dayL freshB xs (daysH xs) = freshL xs (daysH xs) := rfl
  rw [e] at hd
  clear H he hgood e
  generalize freshL xs (daysH xs) = L at *
  go_enter Tryd.func10, Tryd.ntmps10
  go_wp2_with (go_at_call 36; refine (hd _ ?_).mono ?_; ((repeat (first | exact Below.refl _ _ | refine blw_alloc ?_ _ | refine blw_drew ?_ | refine blw_rg ?_ _ | refine blw_call (by assumption) ?_))); rintro e w' ⟨A, cc, hc, rfl, hr, hb1⟩)
  go_ret2
  exact ⟨_, _, hc, rfl, hr, by (repeat (first | exact Below.refl _ _ | refine blw_alloc ?_ _ | refine blw_drew ?_ | refine blw_rg ?_ _ | refine blw_call (by assumption) ?_))⟩
theorem alive_err (xs : List ByteArray) (la : Option Addr) (c : Nat) (w : World) (H : Rd w encStr 1 la xs) (h9 : ∀ s ∈ xs, s.size ≤ 1000) (he : valH xs ≠ 0) :
    Calls Tryd.prog 15 #[.slice la xs.length c] w (ListPost encInt 1 [] (valH xs) w) := by
  have hd := fun W hW => daily_err 40 xs la c W (H.below hW) h9 he
  clear H h9 he
  generalize valH xs = e0 at *
  go_enter Tryd.func15, Tryd.ntmps15
  go_wp2_with (go_at_call 36; refine (hd _ ?_).mono ?_; ((repeat (first | exact Below.refl _ _ | refine blw_alloc ?_ _ | refine blw_drew ?_ | refine blw_rg ?_ _ | refine blw_call (by assumption) ?_))); rintro e w' ⟨A, cc, hc, rfl, hr, hb1⟩)
  go_ret2
  exact ⟨_, _, hc, rfl, hr, by (repeat (first | exact Below.refl _ _ | refine blw_alloc ?_ _ | refine blw_drew ?_ | refine blw_rg ?_ _ | refine blw_call (by assumption) ?_))⟩
theorem alive_ok (xs : List ByteArray) (la : Option Addr) (c : Nat) (w : World) (H : Rd w encStr 1 la xs) (he : valH xs = 0) :
    Calls Tryd.prog 15 #[.slice la xs.length c] w (ListPost encInt 1 (aliveL xs (daysH xs)) 0 w) := by
  have hgood := goodH he
  have hd := fun W hW => daily_ok 40 (enters_of Tryd.func40 (by kernel_rfl) rfl) (fun d s => aliveB (daysH xs) d s) xs la c W (H.below hW) he fun d hd s hs W => by
    have hs2 := hgood.size s hs
    rw [← hs2]
    exact alive_any s d (by omega) (good9 hgood s hs) W
  have e : dayL (fun d s => aliveB (daysH xs) d s) xs (daysH xs) = aliveL xs (daysH xs) := rfl
  rw [e] at hd
  clear H he hgood e
  generalize aliveL xs (daysH xs) = L at *
  go_enter Tryd.func15, Tryd.ntmps15
  go_wp2_with (go_at_call 36; refine (hd _ ?_).mono ?_; ((repeat (first | exact Below.refl _ _ | refine blw_alloc ?_ _ | refine blw_drew ?_ | refine blw_rg ?_ _ | refine blw_call (by assumption) ?_))); rintro e w' ⟨A, cc, hc, rfl, hr, hb1⟩)
  go_ret2
  exact ⟨_, _, hc, rfl, hr, by (repeat (first | exact Below.refl _ _ | refine blw_alloc ?_ _ | refine blw_drew ?_ | refine blw_rg ?_ _ | refine blw_call (by assumption) ?_))⟩
end Go.Proofs.YtdpdchghafopfaaDoor
