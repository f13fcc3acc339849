/- The reference's numbers and lines. -/
import Derived.Test.YthfdlfdbjiofhaaDoorB12
set_option linter.unusedVariables false
set_option linter.unusedSimpArgs false
namespace Go.Proofs.YthfdlfdbjiofhaaDoor
open Go.RowKit
set_option maxRecDepth 20000
set_option maxHeartbeats 1000000
theorem digit_tab : ∀ n : Fin 10, (⟨#[48, 49, 50, 51, 52, 53, 54, 55, 56, 57]⟩ : ByteArray).extract n.val (n.val + 1) = bs [UInt8.ofNat (48 + n.val)] := by decide
theorem digit_any (n : Nat) (hn : n < 10) (w : World) : Calls Tryd.prog 87 #[.int .i64 n] w fun e w' => e = .returned (.string (bs (Lib.decDigits n))) ∧ w = w' := by
  have HD := Go.Lib.hid (digit_tab ⟨n, hn⟩)
  have HN := Go.Lib.hid (dec_small hn)
  have h1 : (n : Int) + 1 ≤ 10 := by omega
  go_enter Tryd.func87, Tryd.ntmps87
  go_wp2
  go_ret
  exact ⟨by rw [HN.out, ← HD.out]; rfl, rfl⟩
theorem bs_app (x y : List UInt8) : bs x ++ bs y = bs (x ++ y) := by
  rw [← bs_by (bs x ++ bs y)]
  congr 1
theorem dec_len : ∀ (k n : Nat), n < 10 ^ (k + 1) → (Lib.decDigits n).length ≤ k + 1 := by
  intro k
  induction k with
  | zero => intro n h; rw [dec_small (by omega)]; simp
  | succ k ih =>
    intro n h
    by_cases h1 : n < 10
    · rw [dec_small h1]; simp
    · rw [dec_big h1, List.length_append, List.length_singleton]
      have := ih (n / 10) (by rw [Nat.pow_succ] at h; omega)
      omega
theorem dec_size {n : Nat} (h : n < 10000000000) : (bs (Lib.decDigits n)).size ≤ 10 := by
  show (Lib.decDigits n).toArray.size ≤ 10
  rw [List.size_toArray]
  exact dec_len 9 n h
theorem number_any : ∀ (n : Nat) (w : World), n < 10000000000 → Calls Tryd.prog 62 #[.int .i64 n] w fun e w' => e = .returned (.string (bs (Lib.decDigits n))) ∧ w = w' := by
  intro n
  induction n using Nat.strongRecOn with
  | _ n ih =>
    intro w hn
    by_cases h : n < 10
    · have hz : (n : Int) < 10 := by omega
      have hd := digit_any n h
      go_enter Tryd.func62, Tryd.ntmps62
      go_wp2_with (go_at_call 87; refine (hd _).mono ?_; rintro e w1 ⟨rfl, rfl⟩)
      go_ret
      exact ⟨rfl, rfl⟩
    · have hz : ¬ (n : Int) < 10 := by omega
      have hi := fun W => ih (n / 10) (by omega) W (by omega)
      have hd := digit_any (n % 10) (by omega)
      have q1 : (n : Int).tdiv 10 = ((n / 10 : Nat) : Int) := by rw [Int.tdiv_eq_ediv_of_nonneg (by omega)]; omega
      have q2 : (n : Int).tmod 10 = ((n % 10 : Nat) : Int) := by rw [Int.tmod_eq_emod_of_nonneg (by omega)]; omega
      have HN := Go.Lib.hid (dec_big h)
      have HM := Go.Lib.hid (dec_small (n := n % 10) (by omega))
      have b1 : n / 10 < 10000000000 := by omega
      have b2 := dec_size (n := n / 10) (by omega)
      have b3 := dec_size (n := n % 10) (by omega)
      generalize n / 10 = p at *
      generalize n % 10 = q at *
      have HN := Go.Lib.hid (show bs (Lib.decDigits n) = bs (Lib.decDigits p) ++ bs (Lib.decDigits q) by rw [HN.out, ← HM.out, bs_app])
      generalize bs (Lib.decDigits p) = x at *
      generalize bs (Lib.decDigits q) = y at *
      clear ih
      go_enter Tryd.func62, Tryd.ntmps62
      go_wp2_with (first | (go_at_call 87; refine (hd _).mono ?_; rintro e w1 ⟨rfl, rfl⟩) | (go_at_call 62; with_reducible refine (hi _).mono ?_; rintro e w1 ⟨rfl, rfl⟩))
      go_ret
      exact ⟨by rw [HN.out]; rfl, rfl⟩
theorem first_any (n m : Nat) (hn : n < 10000000000) (hm : m < 10000000000) (w : World) : Calls Tryd.prog 33 #[.int .i64 n, .int .i64 m] w fun e w' => e = .returned (.string (bs (firstL n m))) ∧ w = w' := by
  have h1 := fun W => number_any n W hn
  have h2 := fun W => number_any m W hm
  have HF := Go.Lib.hid (show bs (firstL n m) = bs [112, 97, 103, 101, 115, 32] ++ bs (Lib.decDigits n) ++ bs [32] ++ bs (Lib.decDigits m) ++ bs [10] by
    rw [bs_app, bs_app, bs_app, bs_app]; simp [firstL, pagesW])
  have b1 := dec_size hn
  have b2 := dec_size hm
  generalize bs (Lib.decDigits n) = x at *
  generalize bs (Lib.decDigits m) = y at *
  go_enter Tryd.func33, Tryd.ntmps33
  go_wp2_with (go_at_call 62; first | ((with_reducible (refine (h1 _).mono ?_)); rintro e w1 ⟨rfl, rfl⟩) | ((with_reducible (refine (h2 _).mono ?_)); rintro e w1 ⟨rfl, rfl⟩))
  go_ret
  exact ⟨by rw [HF.out]; rfl, rfl⟩
theorem ext_upto (s : ByteArray) (k : Nat) : s.extract 0 k = bs ((by_ s).take k) := by
  rw [← bs_by (s.extract 0 k)]
  congr 1
  show (s.extract 0 k).data.toList = _
  rw [Lib.extract_data]; simp
/-- What line returns. -/
def lineV (s : ByteArray) : Value :=
  match cutL (by_ s) with
  | some (a, _) => .tuple #[.string (bs (a ++ [10])), .bool true]
  | none => .tuple #[.string s, .bool false]
theorem cutL_at {l : List UInt8} {k : Nat} (hk : k < l.length) (h : l[k] = 10) (hn : ∀ j (hj : j < k), l[j]'(by omega) ≠ 10) : cutL l = some (l.take k, l.drop (k + 1)) := by
  have e : l = l.take k ++ 10 :: l.drop (k + 1) := by rw [← h, ← List.drop_eq_getElem_cons hk, List.take_append_drop]
  conv => lhs; rw [e]
  refine cutL_of fun hx => ?_
  obtain ⟨j, hj, he⟩ := List.mem_iff_getElem.1 hx
  rw [List.length_take] at hj
  rw [List.getElem_take] at he
  exact hn j (by omega) he
theorem cutL_miss {l : List UInt8} (hn : ∀ j (hj : j < l.length), l[j] ≠ 10) : cutL l = none := by
  cases h : cutL l with
  | none => rfl
  | some x =>
    obtain ⟨a, b⟩ := x
    obtain ⟨e, _⟩ := cutL_some h
    have hm : (10 : UInt8) ∈ l := by rw [e]; simp
    obtain ⟨j, hj, he⟩ := List.mem_iff_getElem.1 hm
    exact absurd he (hn j hj)
theorem line_any (s : ByteArray) (hs : s.size ≤ 1000000) (w : World) : Calls Tryd.prog 54 #[.string s] w fun e w' => e = .returned (lineV s) ∧ w = w' := by
  go_enter Tryd.func54, Tryd.ntmps54
  go_wp2_with fail
  go_loopg [4] s.size (fun gg s4 wr => ∃ k : Nat, k ≤ s.size ∧ s.size - k ≤ gg ∧ s4 = .int .i64 k ∧ Aside ((∀ j (hj : j < k) (h : j < (by_ s).length), (by_ s)[j] ≠ 10) ∧ w = wr))
  case atStart => exact ⟨0, Nat.zero_le _, by omega, rfl, fun j hj => by omega, rfl⟩
  case round =>
    obtain ⟨k, hk, hg, rfl, HB⟩ := hrel
    have e := HB.out.2
    subst e
    by_cases hlt : k < s.size
    · have hltz : (k : Int) < (s.size : Int) := by omega
      have hkl : k < (by_ s).length := by simpa using hlt
      have hx := str_at s k hlt
      have HC := Go.Lib.hid (fun h => cutL_at hkl h (fun j hj => HB.out.1 j hj (by omega)))
      by_cases h1 : (by_ s)[k] = 10
      · have HV := Go.Lib.hid (show lineV s = .tuple #[.string (s.extract 0 (k + 1)), .bool true] by
          unfold lineV
          rw [HC.out h1]
          simp only
          rw [ext_upto, List.take_succ_eq_append_getElem hkl, h1])
        rw [h1] at hx
        go_wp2
        go_ret2
        exact ⟨by rw [HV.out]; rfl, rfl⟩
      · have HN := Go.Lib.hid h1
        have h1z : ¬ ((by_ s)[k].toNat : Int) = 10 := fun h => h1 (UInt8.toNat_inj.1 (by have : (10 : UInt8).toNat = 10 := rfl; omega))
        generalize hy : (by_ s)[k] = y at *
        go_wp2
        go_roundg (s.size - (k + 1))
        case measure => omega
        case rel =>
          refine ⟨k + 1, by omega, by omega, by go_num, fun j hj h => ?_, rfl⟩
          rcases Nat.lt_or_ge j k with h2 | h2
          · exact HB.out.1 j h2 h
          · obtain rfl : j = k := by omega
            rw [hy]; exact HN.out
    · have hltz : ¬ (k : Int) < (s.size : Int) := by omega
      have HV := Go.Lib.hid (show lineV s = .tuple #[.string s, .bool false] by
        unfold lineV
        rw [cutL_miss (fun j hj => HB.out.1 j (by simp at hj; omega) hj)])
      go_wp2
      go_ret2
      exact ⟨by rw [HV.out]; rfl, rfl⟩
def valD (l : List UInt8) : Nat := l.foldl (fun a c => 10 * a + (c.toNat - 48)) 0
theorem valD_app (l : List UInt8) (c : UInt8) : valD (l ++ [c]) = 10 * valD l + (c.toNat - 48) := by unfold valD; rw [List.foldl_append]; rfl
theorem valD_dec : ∀ n, valD (Lib.decDigits n) = n := by
  intro n
  induction n using Nat.strongRecOn with
  | _ n ih =>
    by_cases h : n < 10
    · rw [dec_small h]
      show 10 * 0 + ((UInt8.ofNat (48 + n)).toNat - 48) = n
      rw [u8_of (by omega)]; omega
    · rw [dec_big h, valD_app, ih (n / 10) (by omega), u8_of (by omega)]; omega
theorem valD_take (l : List UInt8) (k : Nat) (h : k < l.length) : valD (l.take (k + 1)) = 10 * valD (l.take k) + (l[k].toNat - 48) := by
  rw [List.take_succ_eq_append_getElem h, valD_app]
/-- What number returns: the number that a word spells, or -1. -/
def NumV (l : List UInt8) (v : Int) : Prop := (∃ n : Nat, v = n ∧ n < 10000000000 ∧ l = Lib.decDigits n) ∨ (v = -1 ∧ ∀ n : Nat, n < 10000000000 → l ≠ Lib.decDigits n)
def NumP (l : List UInt8) (w : World) (e : Ending) (w' : World) : Prop := ∃ v : Int, e = .returned (.int .i64 v) ∧ w = w' ∧ NumV l v
theorem num_any (s : ByteArray) (hs : s.size ≤ 1000000) (w : World) : Calls Tryd.prog 81 #[.string s] w (NumP (by_ s) w) := by
  have HL := Go.Lib.hid (show ∀ n : Nat, n < 10000000000 → by_ s = Lib.decDigits n → s.size ≤ 10 ∧ 1 ≤ s.size ∧ (∀ c ∈ by_ s, 48 ≤ c.toNat ∧ c.toNat ≤ 57) ∧ valD (by_ s) = n from fun n hn h => by
    have h1 := dec_size hn
    rw [← h, bs_by] at h1
    refine ⟨h1, ?_, by rw [h]; exact dec_digit n, by rw [h]; exact valD_dec n⟩
    have h2 := List.length_pos_iff.2 (dec_ne n)
    rw [← h] at h2
    have h3 : 0 < s.size := by simpa using h2
    omega)
  go_enter Tryd.func81, Tryd.ntmps81
  go_wp2_with fail
  go_loopg [3, 4] s.size (fun gg s3 s4 wr => ∃ k : Nat, k ≤ s.size ∧ s.size - k ≤ gg ∧ s4 = .int .i64 k ∧ s3 = .int .i64 (valD ((by_ s).take k) : Nat) ∧ k ≤ 10 ∧ valD ((by_ s).take k) < 10 ^ k ∧ Aside (w = wr))
  case atStart => exact ⟨0, Nat.zero_le _, by omega, rfl, rfl, by omega, by simp [valD], rfl⟩
  case round =>
    obtain ⟨k, hk, hg, rfl, rfl, hk10, hv, HB⟩ := hrel
    have e := HB.out
    subst e
    by_cases hlt : k < s.size
    · have hltz : (k : Int) < (s.size : Int) := by omega
      have hkl : k < (by_ s).length := by simpa using hlt
      have hx := str_at s k hlt
      have hm := List.getElem_mem hkl
      have HT := Go.Lib.hid (valD_take (by_ s) k hkl)
      have hv10 : valD ((by_ s).take k) < 10 ^ 10 := Nat.lt_of_lt_of_le hv (Nat.pow_le_pow_right (by decide) hk10)
      have HP := Go.Lib.hid (Nat.pow_succ (n := 10) (m := k))
      have HV := Go.Lib.hid hv
      clear hv
      generalize (by_ s)[k] = x at *
      generalize valD ((by_ s).take k) = v at *
      have HM := Go.Lib.hid hm
      clear hm
      by_cases h1 : x.toNat < 48
      · have h1z : (x.toNat : Int) < 48 := by omega
        go_wp2
        go_ret
        exact ⟨-1, rfl, rfl, .inr ⟨rfl, fun n hn h => by have := ((HL.out n hn h).2.2.1 x HM.out).1; omega⟩⟩
      have h1z : ¬ (x.toNat : Int) < 48 := by omega
      by_cases h2 : 57 < x.toNat
      · have h2z : (57 : Int) < (x.toNat : Int) := by omega
        go_wp2
        go_ret
        exact ⟨-1, rfl, rfl, .inr ⟨rfl, fun n hn h => by have := ((HL.out n hn h).2.2.1 x HM.out).2; omega⟩⟩
      have h2z : ¬ (57 : Int) < (x.toNat : Int) := by omega
      by_cases h3 : k = 10
      · subst h3
        go_wp2
        go_ret
        exact ⟨-1, rfl, rfl, .inr ⟨rfl, fun n hn h => by have := (HL.out n hn h).1; omega⟩⟩
      have h3z : ((k : Int) == 10) = false := by simp; omega
      go_wp2
      go_roundg (s.size - (k + 1))
      case measure => omega
      case rel =>
        refine ⟨k + 1, by omega, by omega, by go_num, ?_, by omega, ?_, rfl⟩
        · rw [HT.out]
          congr 1
          omega
        · rw [HT.out, HP.out]
          have := HV.out
          omega
    · have hltz : ¬ (k : Int) < (s.size : Int) := by omega
      have e0 : (by_ s).take k = by_ s := List.take_of_length_le (by simp; omega)
      have hv10 : valD ((by_ s).take k) < 10 ^ 10 := Nat.lt_of_lt_of_le hv (Nat.pow_le_pow_right (by decide) hk10)
      rw [e0] at hv10 hv ⊢
      have hnum := fun W => number_any (valD (by_ s)) W hv10
      have hq := str_eq (bs (Lib.decDigits (valD (by_ s)))) s
      have hq0 := em_eq (by_ s)
      rw [bs_by] at hq0
      by_cases h0 : by_ s = []
      · rw [decide_eq_true h0] at hq0
        have HZ := Go.Lib.hid (show s.size = 0 by have := congrArg List.length h0; simpa using this)
        clear hq h0
        go_wp2
        go_ret
        exact ⟨-1, rfl, rfl, .inr ⟨rfl, fun n hn h => by have := (HL.out n hn h).2.1; have := HZ.out; omega⟩⟩
      rw [decide_eq_false h0] at hq0
      by_cases h1 : bs (Lib.decDigits (valD (by_ s))) = s
      · rw [decide_eq_true h1] at hq
        have HE := Go.Lib.hid (show by_ s = Lib.decDigits (valD (by_ s)) by conv => lhs; rw [← h1])
        clear h1 h0 hv
        generalize bs (Lib.decDigits (valD (by_ s))) = y at *
        generalize valD (by_ s) = v at *
        go_wp2_with (go_at_call 62; refine (hnum _).mono ?_; rintro e w1 ⟨rfl, rfl⟩)
        go_ret
        exact ⟨v, rfl, rfl, .inl ⟨v, rfl, hv10, HE.out⟩⟩
      · rw [decide_eq_false h1] at hq
        have HE := Go.Lib.hid (show ∀ n : Nat, n < 10000000000 → by_ s ≠ Lib.decDigits n from fun n hn h => h1 (by rw [(HL.out n hn h).2.2.2, ← h, bs_by]))
        clear h1 h0 hv
        generalize bs (Lib.decDigits (valD (by_ s))) = y at *
        generalize valD (by_ s) = v at *
        go_wp2_with (go_at_call 62; refine (hnum _).mono ?_; rintro e w1 ⟨rfl, rfl⟩)
        go_ret
        exact ⟨-1, rfl, rfl, .inr ⟨rfl, HE.out⟩⟩
end Go.Proofs.YthfdlfdbjiofhaaDoor
