/- ValidateHistories of the program. -/
import Derived.Test.YtdpdchghafopfaaDoorC4
set_option linter.unusedVariables false
set_option linter.unusedSimpArgs false
namespace Go.Proofs.YtdpdchghafopfaaDoor
open Go.RowKit
theorem dw_nil (p : UInt8 → Bool) : ∀ l : List UInt8, l.dropWhile p = [] ↔ ∀ x ∈ l, p x = true := by
  intro l
  induction l with
  | nil => simp
  | cons a t ih =>
    rw [List.dropWhile_cons]
    cases h : p a
    · simp [h]
    · simp only [if_true, ih, List.mem_cons, forall_eq_or_imp, h, true_and]
theorem trimS_nil (l : List UInt8) : (Lib.trimS l [48, 49] = []) ↔ l.all (fun c => c == 48 || c == 49) = true := by
  have hq : ∀ c : UInt8, ([48, 49] : List UInt8).contains c = (c == 48 || c == 49) := by intro c; rw [List.contains_cons, List.contains_cons, List.contains_nil, Bool.or_false]
  unfold Lib.trimS Lib.trimLeftS Lib.trimRightS
  rw [show (fun c : UInt8 => ([48, 49] : List UInt8).contains c) = fun c => c == 48 || c == 49 from funext hq]
  rw [List.all_eq_true]
  constructor
  · intro h
    have h1 : ∀ x ∈ (l.reverse.dropWhile fun c => c == 48 || c == 49).reverse, (x == 48 || x == 49) = true := (dw_nil _ _).1 h
    have h2 : (l.reverse.dropWhile fun c => c == 48 || c == 49) = [] := by
      rcases hd : l.reverse.dropWhile fun c => c == 48 || c == 49 with _ | ⟨x, t⟩
      · rfl
      · exfalso
        have h3 := List.head_dropWhile_not (fun c : UInt8 => c == 48 || c == 49) (l := l.reverse) (by rw [hd]; simp)
        simp only [hd, List.head_cons] at h3
        have := h1 x (by rw [hd]; simp)
        rw [this] at h3; cases h3
    intro x hx
    exact ((dw_nil _ _).1 h2) x (by simpa using hx)
  · intro h
    have h2 : (l.reverse.dropWhile fun c => c == 48 || c == 49) = [] := (dw_nil _ _).2 fun x hx => h x (by simpa using hx)
    rw [h2]; rfl
theorem cont_all (s : ByteArray) : decide (0 ≤ Lib.indexByte s.data.toList 49) = caughtB s 0 s.size := by
  rw [Bool.eq_iff_iff, decide_eq_true_eq, idx_mem, ← mem_caught (Nat.le_refl _)]
  have : s.data.toList.take s.size = s.data.toList := List.take_of_length_le (by simp)
  rw [List.drop_zero, Nat.sub_zero, this]
def TrimP (s : ByteArray) (w : World) (e : Ending) (w' : World) : Prop := ∃ r : ByteArray, e = .returned (.string r) ∧ (digB s = true → r = ⟨#[]⟩) ∧ (digB s = false → r.toList.isEmpty = false) ∧ Below w.heap.size w w'
theorem trim_any (s : ByteArray) (h9 : s.size ≤ 1000) (w : World) : Calls Tryd.prog 38 #[.string s, .string ⟨#[48, 49]⟩] w (TrimP s w) := by
  refine (Any.strings_Trim_laid Tryd.lays160 (by kernel_rfl) s ⟨#[48, 49]⟩ w (by omega) (by decide) (ascii_of_all (by decide))).mono ?_
  rintro e w' ⟨rfl, hb⟩
  refine ⟨_, rfl, fun h => ?_, fun h => ?_, hb⟩
  · have := (trimS_nil s.data.toList).2 h
    show ByteArray.mk (Lib.trimS s.data.toList [48, 49]).toArray = _
    rw [this]
  · have hne : ¬ Lib.trimS s.data.toList [48, 49] = [] := fun e => by
      have := (trimS_nil s.data.toList).1 e
      unfold digB at h
      rw [this] at h; cases h
    rw [Lib.toList_data]
    show (Lib.trimS s.data.toList [48, 49]).isEmpty = false
    cases hx : Lib.trimS s.data.toList [48, 49] with
    | nil => exact absurd hx hne
    | cons a t => rfl
set_option maxRecDepth 20000 in
set_option maxHeartbeats 1000000 in
theorem vh_any (xs : List ByteArray) (la : Option Addr) (c : Nat) (w : World) (H : Rd w encStr 1 la xs) (h9 : ∀ s ∈ xs, s.size ≤ 1000) :
    Calls Tryd.prog 12 #[.slice la xs.length c] w fun e w' => e = .returned (.int .i64 (valH xs)) ∧ Below w.heap.size w w' := by
  by_cases hL : 60 < xs.length
  · have hL2 : (60 : Int) < (xs.length : Int) := by omega
    have hv : valH xs = 3 := by unfold valH; rw [if_pos hL]
    rw [hv]
    clear hv H h9
    go_enter Tryd.func12, Tryd.ntmps12
    go_wp2
    go_ret
    exact ⟨rfl, Below.refl _ _⟩
  have hL2 : ¬ (60 : Int) < (xs.length : Int) := by omega
  have HV := Go.Lib.hid (show valH xs = firstE (xs.map (errH (daysH xs))) by unfold valH; rw [if_neg hL])
  have hdays := fun W hW => days_any xs la c W (H.below hW) h9
  have hds : daysH xs ≤ 1000 := by
    cases xs with
    | nil => simp [daysH]
    | cons s t => exact h9 s (by simp)
  generalize daysH xs = n at HV hdays hds
  go_enter Tryd.func12, Tryd.ntmps12
  go_wp2_with fail
  go_loopg [10] xs.length (fun gg s10 wr => ∃ k : Nat, k ≤ xs.length ∧ xs.length - k ≤ gg ∧ s10 = .int .i64 k ∧ Aside (firstE ((xs.take k).map (errH n)) = 0) ∧ Aside (Below w.heap.size w wr))
  case atStart => exact ⟨0, Nat.zero_le _, by omega, rfl, rfl, Below.refl _ _⟩
  case round =>
    obtain ⟨k, hk, hg, rfl, HA, HB⟩ := hrel
    have big := H.big
    by_cases hlt : k < xs.length
    · have hltz : (k : Int) < (xs.length : Int) := by omega
      obtain ⟨b0, off, rfl, hb0, hc⟩ := (H.below HB.out).at_ k hlt
      have q0 := hc 0 _ rfl
      have hx9 := h9 _ (List.getElem_mem hlt)
      have HT := Go.Lib.hid (show ∀ e : Int, errH n xs[k] = e → (e = 0 → firstE ((xs.take (k + 1)).map (errH n)) = 0) ∧ (e ≠ 0 → firstE (xs.map (errH n)) = e) from fun e he => by
        have hl : k < (xs.map (errH n)).length := by simpa using hlt
        have h := firstE_take (xs.map (errH n)) k hl (by rw [← List.map_take]; exact HA.out)
        rw [List.getElem_map, he, ← List.map_take] at h
        exact h)
      have hdW := fun W hW => hdays W (blw_call hW HB.out)
      generalize xs[k] = x at q0 HT hx9
      rw [Nat.mul_one, Nat.add_zero] at q0
      have htr := fun W => trim_any x hx9 W
      have hco := fun W => Any.strings_Contains_one Tryd.lays144 x 49 W
      rw [cont_all] at hco
      clear hc H h9 hdays
      by_cases h8 : 8 < x.size
      · have h8z : (8 : Int) < (x.size : Int) := by omega
        have HE := Go.Lib.hid ((HT.out 3 (by unfold errH; rw [if_pos h8])).2 (by decide))
        clear HT htr hco hdW
        go_wp2
        go_ret
        exact ⟨ri (by rw [HV.out, HE.out]), HB.out⟩
      have h8z : ¬ (8 : Int) < (x.size : Int) := by omega
      by_cases hn : x.size = n
      case neg =>
        have hnz : ¬ (x.size : Int) = (n : Int) := by omega
        have HE := Go.Lib.hid ((HT.out 1 (by unfold errH; rw [if_neg h8, if_neg hn])).2 (by decide))
        clear HT htr hco
        go_wp2_with (go_at_call 29; refine (hdW _ (Below.refl _ _)).mono ?_; rintro e w' ⟨rfl, rfl⟩)
        go_ret
        exact ⟨ri (by rw [HV.out, HE.out]), HB.out⟩
      case pos =>
        have HN := asd hn
        have hnz : (x.size : Int) = (n : Int) := by omega
        cases hd : digB x
        · have HE := Go.Lib.hid ((HT.out 1 (by unfold errH; rw [if_neg h8, if_pos HN.out, hd]; rfl)).2 (by decide))
          have HD := asd hd
          clear HT hco hd hn
          go_wp2_with (first | (go_at_call 29; refine (hdW _ (Below.refl _ _)).mono ?_; rintro e w' ⟨rfl, rfl⟩) | (go_at_call 38; refine (htr _).mono ?_; rintro e w' ⟨r, rfl, hr1, hr2, hb1⟩; have hre := hr2 HD.out; have hrn : ¬ r.toList = [] := (by intro e; rw [e] at hre; cases hre); clear hr1 hr2))
          go_ret
          exact ⟨ri (by rw [HV.out, HE.out]), blw_call hb1 HB.out⟩
        · have HD := asd hd
          cases hcc : caughtB x 0 x.size
          all_goals
            rw [hcc] at hco
            have HC := asd hcc
            clear hd hn hcc
          · have HE := Go.Lib.hid ((HT.out 8 (by unfold errH; rw [if_neg h8, if_pos HN.out, HD.out, HC.out]; rfl)).2 (by decide))
            clear HT
            go_wp2_with (first | (go_at_call 29; refine (hdW _ (Below.refl _ _)).mono ?_; rintro e w' ⟨rfl, rfl⟩) | (go_at_call 38; refine (htr _).mono ?_; rintro e w' ⟨r, rfl, hr1, hr2, hb1⟩; obtain rfl := hr1 HD.out; clear hr1 hr2) | (go_at_call 39; refine (hco _).mono ?_; rintro e w' ⟨rfl, rfl⟩))
            go_ret
            exact ⟨ri (by rw [HV.out, HE.out]), blw_call hb1 HB.out⟩
          · have HE := Go.Lib.hid ((HT.out 0 (by unfold errH; rw [if_neg h8, if_pos HN.out, HD.out, HC.out]; rfl)).1 rfl)
            clear HT
            go_wp2_with (first | (go_at_call 29; refine (hdW _ (Below.refl _ _)).mono ?_; rintro e w' ⟨rfl, rfl⟩) | (go_at_call 38; refine (htr _).mono ?_; rintro e w' ⟨r, rfl, hr1, hr2, hb1⟩; obtain rfl := hr1 HD.out; clear hr1 hr2) | (go_at_call 39; refine (hco _).mono ?_; rintro e w' ⟨rfl, rfl⟩))
            go_roundg (xs.length - (k + 1))
            case measure => omega
            case rel => exact ⟨k + 1, by omega, by omega, by go_num, HE.out, blw_call hb1 HB.out⟩
    · have hltz : ¬ (k : Int) < (xs.length : Int) := by omega
      have e0 : xs.take k = xs := List.take_of_length_le (by omega)
      rw [e0] at HA
      clear H h9
      go_wp2
      go_ret
      exact ⟨ri (by rw [HV.out, HA.out]), HB.out⟩
end Go.Proofs.YtdpdchghafopfaaDoor
