/- The reference's sums and roots. -/
import Derived.Test.YthfdlfdbjiofhaaDoorB11
set_option linter.unusedVariables false
set_option linter.unusedSimpArgs false
namespace Go.Proofs.YthfdlfdbjiofhaaDoor
open Go.RowKit
set_option maxRecDepth 20000
set_option maxHeartbeats 1000000
theorem str_at (s : ByteArray) (k : Nat) (h : k < s.size) : s[k]'h = (by_ s)[k]'(by simpa using h) := rfl
theorem rleaf_any (s : ByteArray) (hs : s.size ≤ 1000000) (w : World) : Calls Tryd.prog 85 #[.string s] w fun e w' => e = .returned (.int .i64 (leafL s.data.toList)) ∧ w = w' := by
  go_enter Tryd.func85, Tryd.ntmps85
  go_wp2_with fail
  go_loopg [3, 4] s.size (fun gg s3 s4 wr => ∃ k : Nat, k ≤ s.size ∧ s.size - k ≤ gg ∧ s4 = .int .i64 k ∧ s3 = .int .i64 (leafL (s.data.toList.take k)) ∧ Aside (w = wr))
  case atStart => exact ⟨0, Nat.zero_le _, by omega, rfl, rfl, rfl⟩
  case round =>
    obtain ⟨k, hk, hg, rfl, rfl, HB⟩ := hrel
    have e := HB.out
    subst e
    have hbd := sumB_iff.1 (leafL_bd (s.data.toList.take k))
    by_cases hlt : k < s.size
    · have hltz : (k : Int) < (s.size : Int) := by omega
      have HT := Go.Lib.hid (leaf_take s.data.toList k (by simpa using hlt))
      have hx := str_at s k hlt
      have hn := (s.data.toList[k]'(by simpa using hlt)).toNat_lt
      generalize leafL (s.data.toList.take k) = y at *
      generalize s.data.toList[k]'(by simpa using hlt) = x at *
      unfold leafStep at HT
      unfold Pm at HT hbd
      go_wp2
      go_roundg (s.size - (k + 1))
      case measure => omega
      case rel => exact ⟨k + 1, by omega, by omega, by go_num, (by rw [HT.out]), rfl⟩
    · have hltz : ¬ (k : Int) < (s.size : Int) := by omega
      have e0 : s.data.toList.take k = s.data.toList := List.take_of_length_le (by simp; omega)
      rw [e0]
      go_wp2
      go_ret
      exact ⟨rfl, rfl⟩
theorem risSum_any (x : Int) (w : World) : Calls Tryd.prog 82 #[.int .i64 x] w fun e w' => e = .returned (.bool (sumB x)) ∧ w = w' := by
  have HF := Go.Lib.hid (show sumB x = (decide (0 ≤ x) && decide (x < 2147483647)) from rfl)
  by_cases h1 : 0 ≤ x
  all_goals
    go_enter Tryd.func82, Tryd.ntmps82
    go_wp2
    go_ret
    refine ⟨rb ?_, rfl⟩
    rw [HF.out, Bool.eq_iff_iff]
    first | (simp [h1]; done) | (simp [h1]; intro h; omega)
theorem rjoin_any (x y : Int) (hx : sumB x = true) (hy : sumB y = true) (w : World) : Calls Tryd.prog 84 #[.int .i64 x, .int .i64 y] w fun e w' => e = .returned (.int .i64 (joinZ x y)) ∧ w = w' := by
  obtain ⟨a, b⟩ := sumB_iff.1 hx
  obtain ⟨c, d⟩ := sumB_iff.1 hy
  unfold Pm at b d
  go_enter Tryd.func84, Tryd.ntmps84
  go_wp2
  go_ret
  exact ⟨rfl, rfl⟩
theorem rsplit_any (n : Nat) (h2 : 2 ≤ n) (h64 : n ≤ 64) (w : World) : Calls Tryd.prog 83 #[.int .i64 n] w fun e w' => e = .returned (.int .i64 (splitN n : Nat)) ∧ w = w' := by
  have HS := Go.Lib.hid (show ∀ j, 2 ^ j ≤ n - 1 → n - 1 < 2 * 2 ^ j → splitN n = 2 ^ j from fun j h1 h2 => by
    unfold splitN
    rw [(Nat.log2_eq_iff (by omega)).2 ⟨h1, by rw [Nat.pow_succ]; omega⟩])
  go_enter Tryd.func83, Tryd.ntmps83
  go_wp2_with fail
  go_loopg [3] n (fun gg s3 wr => ∃ m : Nat, 1 ≤ m ∧ m < n ∧ n - m ≤ gg ∧ s3 = .int .i64 m ∧ Aside ((∃ j, m = 2 ^ j) ∧ w = wr))
  case atStart => exact ⟨1, Nat.le_refl _, by omega, by omega, rfl, ⟨0, rfl⟩, rfl⟩
  case round =>
    obtain ⟨m, hm, hlt, hg, rfl, HB⟩ := hrel
    have e := HB.out.2
    subst e
    by_cases h : 2 * m < n
    · have hz : 2 * (m : Int) < (n : Int) := by omega
      go_wp2
      go_roundg (n - 2 * m)
      case measure => omega
      case rel =>
        refine ⟨2 * m, by omega, by omega, by omega, by go_num, ?_, rfl⟩
        obtain ⟨j, rfl⟩ := HB.out.1
        exact ⟨j + 1, by rw [Nat.pow_succ]; omega⟩
    · have hz : ¬ 2 * (m : Int) < (n : Int) := by omega
      go_wp2
      go_ret
      obtain ⟨j, rfl⟩ := HB.out.1
      exact ⟨ri (by rw [HS.out j (by omega) (by omega)]), rfl⟩
theorem rroot_any : ∀ (n : Nat) (l : List Int) (A : Option Addr) (c : Nat) (w : World), l.length = n → n ≤ 64 → l.length ≤ c → Rd w encInt 1 A l → (∀ x ∈ l, sumB x = true) →
    Calls Tryd.prog 57 #[.slice A l.length c] w fun e w' => e = .returned (.int .i64 (rootL l)) ∧ Below w.heap.size w w' := by
  intro n
  induction n using Nat.strongRecOn with
  | _ n ih =>
    intro l A c w hn h64 hc H hb
    rcases Nat.lt_or_ge l.length 2 with h2 | h2
    · rcases Nat.lt_or_ge l.length 1 with h1 | h1
      · have HR := Go.Lib.hid (root_zero l (by omega))
        have h0 : l.length = 0 := by omega
        clear H hb ih
        rw [h0]
        clear hn h64 hc h2 h1 h0
        go_enter Tryd.func57, Tryd.ntmps57
        go_wp2
        go_ret
        exact ⟨ri (by rw [HR.out]), Below.refl _ _⟩
      · have HR := Go.Lib.hid (root_one l (by omega))
        have h0 : l.length = 1 := by omega
        obtain ⟨b0, off, rfl, hb0, hcc⟩ := H.at_ 0 (by omega)
        have q0 := hcc 0 _ rfl
        have HV := Go.Lib.hid (show l[0]'(by omega) = l.headD 0 by
          cases l with
          | nil => simp at h1
          | cons x t => rfl)
        generalize l[0]'(by omega) = x at q0 HV
        simp only [Nat.zero_mul, Nat.add_zero] at q0
        have hc1 : 1 ≤ c := by omega
        rw [h0]
        clear hcc H hb ih hn h64 hc h2 h1 h0
        go_enter Tryd.func57, Tryd.ntmps57
        go_wp2
        go_ret
        exact ⟨ri (by rw [HR.out, ← HV.out]), Below.refl _ _⟩
    · obtain ⟨hs1, hs2⟩ := split_bd l.length h2
      have HR := Go.Lib.hid (root_two l h2)
      obtain ⟨b0, off, rfl, hb0, hcc⟩ := H.at_ 0 (by omega)
      clear hcc
      have hsp := fun W => rsplit_any l.length h2 (by omega) W
      have e1 : (l.take (splitN l.length)).length = splitN l.length := by rw [List.length_take]; omega
      have e2 : (l.drop (splitN l.length)).length = l.length - splitN l.length := List.length_drop
      have r1 := fun W (hW : Below w.heap.size w W) => ih (splitN l.length) (by omega) (l.take (splitN l.length)) (some ⟨b0, off, none⟩) c W e1 (by omega) (by omega) ((H.below hW).take_ _ (by omega)) (all_take' hb _)
      have r2 := fun W (hW : Below w.heap.size w W) => ih (l.length - splitN l.length) (by omega) (l.drop (splitN l.length)) (some ⟨b0, off + splitN l.length, none⟩) (c - splitN l.length) W e2 (by omega) (by omega) ((H.below hW).drop_ _ hs2) (all_drop' hb _)
      have s1 := rootL_bd _ _ rfl (all_take' hb (splitN l.length))
      have s2 := rootL_bd _ _ rfl (all_drop' hb (splitN l.length))
      have hj := fun W => rjoin_any _ _ s1 s2 W
      rw [e1] at r1
      rw [e2] at r2
      clear s1 s2 e1 e2 hb H ih
      generalize splitN l.length = m at *
      generalize rootL (l.take m) = x at *
      generalize rootL (l.drop m) = y at *
      generalize joinZ x y = z at *
      generalize hL : l.length = L at *
      clear hL hn
      have t0 : ¬ ((L : Nat) : Int) = 0 := by omega
      have t1 : ¬ ((L : Nat) : Int) = 1 := by omega
      have t2 : (m : Int) ≤ (c : Int) := by omega
      have t3 : (m : Int) ≤ (L : Int) := by omega
      have t4 : ¬ c = m := by omega
      have r1' := fun p => r1 (rg w p) (rg_below w p)
      have r2' := fun p => r2 (rg w p) (rg_below w p)
      clear r1 r2
      go_enter Tryd.func57, Tryd.ntmps57
      go_wp2_with (go_at_call 83; refine (hsp _).mono ?_; rintro e w' ⟨rfl, rfl⟩)
      ((with_reducible refine wp_region_rg (by kernel_rfl) (by kernel_rfl) ?_); (repeat (first | go_big_quiet_step ((first | (go_at_call 57; first | with_reducible exact rg_of (r1' _) | with_reducible exact rg_of (r2' _)) | (go_at_call 84; with_reducible exact rg_of_same (hj _)))) | quiet_step ((first | (go_at_call 57; first | with_reducible exact rg_of (r1' _) | with_reducible exact rg_of (r2' _)) | (go_at_call 84; with_reducible exact rg_of_same (hj _)))))); refine wpQuiet_nil ?_; intro _ hw'; obtain ⟨prg, hw''⟩ := hw'; subst hw'')
      go_wp2
      go_ret
      exact ⟨ri (by rw [HR.out]), rg_below _ _⟩
theorem rleaves_any (xs : List ByteArray) (la : Option Addr) (c : Nat) (w : World) (H : Rd w encStr 1 la xs) (h9 : ∀ s ∈ xs, s.size ≤ 1000000) :
    Calls Tryd.prog 58 #[.slice la xs.length c] w (OwnInts (leavesL xs) w) := by
  have big := H.big
  go_enter Tryd.func58, Tryd.ntmps58
  go_wp2_with fail
  go_loopg [3, 4] xs.length (fun gg s3 s4 wr => ∃ k : Nat, k ≤ xs.length ∧ xs.length - k ≤ gg ∧ s4 = .int .i64 k ∧ Aside (wr.ownsRow w.heap.size 3 1 s3 k ((leavesL (xs.take k)).flatMap encInt)) ∧ Aside (Below w.heap.size w wr))
  case atStart => exact ⟨0, Nat.zero_le _, by omega, rfl, World.ownsRow_nil _ _ _ _, Below.refl _ _⟩
  case round =>
    obtain ⟨k, hk, hg, rfl, HO, HB⟩ := hrel
    by_cases hlt : k < xs.length
    · have hltz : (k : Int) < (xs.length : Int) := by omega
      obtain ⟨b0, off, rfl, hb0, hc⟩ := (H.below HB.out).at_ k hlt
      have q0 := hc 0 _ rfl
      simp only [Nat.mul_one, Nat.add_zero] at q0
      have HT := Go.Lib.hid (map_take_succ (fun s => leafL (by_ s)) xs k hlt)
      have hlf := fun W => rleaf_any xs[k] (h9 _ (List.getElem_mem hlt)) W
      have hsz := HB.out.size
      generalize xs[k] = x at *
      generalize leafL (by_ x) = y at *
      clear hc H h9
      go_wp2_with (first | (go_at_call 85; refine (hlf _).mono ?_; rintro e w2 ⟨rfl, rfl⟩) | (at_builtin; (refine app_own (w0 := w) w.heap.size rfl _ _ 37 3 (.int .i64 0) 1 8 rfl Tryd.underlying37 (by kernel_rfl) rfl (by decide) (by decide) u3 _ _ [.int .i64 y] rfl rfl rfl (by simp [Value.oneCell']) HO.out HB.out (by omega) (by omega) ?_); intro v1 w3 ho1 hb3 _ _))
      go_roundg (xs.length - (k + 1))
      case measure => omega
      case rel =>
        refine ⟨k + 1, by omega, by omega, by go_num, ?_, hb3⟩
        rw [leavesL, HT.out, List.flatMap_append]
        exact ho1
    · have hltz : ¬ (k : Int) < (xs.length : Int) := by omega
      obtain rfl : k = xs.length := by omega
      have hlen : (leavesL xs).length = xs.length := by simp
      have HO2 : wr.ownsRow w.heap.size 3 1 u3 (leavesL xs).length ((leavesL xs).flatMap encInt) := by
        have := HO.out
        rw [List.take_of_length_le (Nat.le_refl _)] at this
        rw [hlen]; exact this
      obtain ⟨A, cc, rfl, hcc, hr⟩ := own_rdc (enc := encInt) (fun _ => rfl) (by omega) HO2
      have HR := asd hr
      have HC := asd hcc
      clear hr HO2 hcc H
      go_wp2
      go_ret
      exact ⟨A, cc, HC.out, (by rw [hlen]; rfl), HR.out, HB.out⟩
theorem rcommon_any (xs ys : List ByteArray) (la lb : Option Addr) (c d : Nat) (w : World) (H : Rd w encStr 1 la xs) (H2 : Rd w encStr 1 lb ys) :
    Calls Tryd.prog 29 #[.slice la xs.length c, .slice lb ys.length d] w fun e w' => e = .returned (.int .i64 (comN xs ys : Nat)) ∧ Below w.heap.size w w' := by
  have hle := comN_le xs ys
  have big := H.big
  go_enter Tryd.func29, Tryd.ntmps29
  go_wp2_with fail
  go_loopg [5] xs.length (fun gg s5 wr => ∃ k : Nat, k ≤ xs.length ∧ xs.length - k ≤ gg ∧ s5 = .int .i64 k ∧ Aside (k + comN (xs.drop k) (ys.drop k) = comN xs ys) ∧ Aside (Below w.heap.size w wr))
  case atStart => exact ⟨0, Nat.zero_le _, by omega, rfl, asd (by simp), Below.refl _ _⟩
  case round =>
    obtain ⟨k, hk, hg, rfl, HA, HB⟩ := hrel
    by_cases hx : k < xs.length
    case neg =>
      have hxz : decide ((k : Int) < (xs.length : Int)) = false := by simp; omega
      have HE := Go.Lib.hid (show k = comN xs ys by have := HA.out; rw [comN_end xs ys k (by omega)] at this; omega)
      clear H H2
      go_wp2_with fail
      ((with_reducible refine wp_region_rg (by kernel_rfl) (by kernel_rfl) ?_); (repeat (first | go_big_quiet_step (fail) | quiet_step (fail))); refine wpQuiet_nil ?_; intro _ hw'; obtain ⟨prg, hw''⟩ := hw'; subst hw'')
      go_wp2
      go_ret
      exact ⟨ri (by rw [← HE.out]), blw_call (rg_below _ _) HB.out⟩
    case pos =>
      have hxz : decide ((k : Int) < (xs.length : Int)) = true := by simp; omega
      by_cases hy : k < ys.length
      case neg =>
        have hyz : decide ((k : Int) < (ys.length : Int)) = false := by simp; omega
        have HE := Go.Lib.hid (show k = comN xs ys by have := HA.out; rw [comN_end xs ys k (by omega)] at this; omega)
        clear H H2
        go_wp2_with fail
        ((with_reducible refine wp_region_rg (by kernel_rfl) (by kernel_rfl) ?_); (repeat (first | go_big_quiet_step (fail) | quiet_step (fail))); refine wpQuiet_nil ?_; intro _ hw'; obtain ⟨prg, hw''⟩ := hw'; subst hw'')
        go_wp2
        go_ret
        exact ⟨ri (by rw [← HE.out]), blw_call (rg_below _ _) HB.out⟩
      case pos =>
        have hyz : decide ((k : Int) < (ys.length : Int)) = true := by simp; omega
        have hx1 : (k : Int) < (xs.length : Int) := by omega
        have hy1 : (k : Int) < (ys.length : Int) := by omega
        obtain ⟨b0, o0, rfl, hb0, hc0⟩ := (H.below HB.out).at_ k hx
        obtain ⟨b1, o1, rfl, hb1, hc1⟩ := (H2.below HB.out).at_ k hy
        have q0 := rg_cell (hc0 0 _ rfl)
        have q1 := rg_cell (hc1 0 _ rfl)
        simp only [Nat.mul_one, Nat.add_zero] at q0 q1
        have HT := comN_step xs ys k hx hy
        have hq := str_eq xs[k] ys[k]
        generalize xs[k] = x at *
        generalize ys[k] = y at *
        clear hc0 hc1 H H2
        by_cases e : x = y
        · have he : (x.toList == y.toList) = true := by rw [hq]; simpa using e
          rw [if_pos e] at HT
          have HE := Go.Lib.hid (show (k + 1) + comN (xs.drop (k + 1)) (ys.drop (k + 1)) = comN xs ys by have := HA.out; omega)
          clear hq HT e
          go_wp2_with fail
          ((with_reducible refine wp_region_rg (by kernel_rfl) (by kernel_rfl) ?_); (repeat (first | go_big_quiet_step (fail) | quiet_step (fail))); refine wpQuiet_nil ?_; intro _ hw'; obtain ⟨prg, hw''⟩ := hw'; subst hw'')
          have hbr := rg_below wr prg
          generalize rg wr prg = wr2 at hbr
          clear q0 q1
          go_wp2
          go_roundg (xs.length - (k + 1))
          case measure => omega
          case rel => exact ⟨k + 1, by omega, by omega, by go_num, HE.out, blw_call hbr HB.out⟩
        · have he : (x.toList == y.toList) = false := by rw [hq]; simpa using e
          rw [if_neg e] at HT
          have HE := Go.Lib.hid (show k = comN xs ys by have := HA.out; omega)
          clear hq HT e
          go_wp2_with fail
          ((with_reducible refine wp_region_rg (by kernel_rfl) (by kernel_rfl) ?_); (repeat (first | go_big_quiet_step (fail) | quiet_step (fail))); refine wpQuiet_nil ?_; intro _ hw'; obtain ⟨prg, hw''⟩ := hw'; subst hw'')
          have hbr := rg_below wr prg
          generalize rg wr prg = wr2 at hbr
          clear q0 q1
          go_wp2
          go_ret
          exact ⟨ri (by rw [← HE.out]), blw_call hbr HB.out⟩
theorem rpage_any (s : ByteArray) (hs : s.size ≤ 1000000) (w : World) : Calls Tryd.prog 56 #[.string s] w fun e w' => e = .returned (.bool (pageL (by_ s))) ∧ w = w' := by
  have HF := Go.Lib.hid (show pageL (by_ s) = (decide (1 ≤ s.size) && (decide (s.size ≤ 60) && (by_ s).all okC)) by unfold pageL; simp)
  go_enter Tryd.func56, Tryd.ntmps56
  go_wp2_with fail
  go_loopg [3] s.size (fun gg s3 wr => ∃ k : Nat, k ≤ s.size ∧ s.size - k ≤ gg ∧ s3 = .int .i64 k ∧ Aside (((by_ s).take k).all okC = true ∧ w = wr))
  case atStart => exact ⟨0, Nat.zero_le _, by omega, rfl, rfl, rfl⟩
  case round =>
    obtain ⟨k, hk, hg, rfl, HB⟩ := hrel
    have e := HB.out.2
    subst e
    by_cases hlt : k < s.size
    · have hltz : (k : Int) < (s.size : Int) := by omega
      have hkl : k < (by_ s).length := by simpa using hlt
      have hx := str_at s k hlt
      have HT := Go.Lib.hid (all_take_ okC (by_ s) k hkl)
      have HN := Go.Lib.hid (all_false_ okC (by_ s) k hkl)
      have HO := Go.Lib.hid (show okC ((by_ s)[k]) = (decide (32 ≤ (by_ s)[k].toNat) && decide ((by_ s)[k].toNat ≤ 126)) from rfl)
      generalize (by_ s)[k] = x at *
      by_cases h1 : x.toNat < 32
      · go_wp2
        go_ret
        exact ⟨rb (by rw [HF.out, HN.out (by rw [HO.out]; simp; omega)]; simp), rfl⟩
      by_cases h2 : 126 < x.toNat
      · go_wp2
        go_ret
        exact ⟨rb (by rw [HF.out, HN.out (by rw [HO.out]; simp; omega)]; simp), rfl⟩
      go_wp2
      go_roundg (s.size - (k + 1))
      case measure => omega
      case rel => exact ⟨k + 1, by omega, by omega, by go_num, by rw [HT.out, HB.out.1, HO.out]; simp; omega, rfl⟩
    · have hltz : ¬ (k : Int) < (s.size : Int) := by omega
      have HA := Go.Lib.hid (show (by_ s).all okC = true by
        have := HB.out.1
        rwa [List.take_of_length_le (by simp; omega)] at this)
      by_cases h1 : 1 ≤ s.size
      · have h1z : (1 : Int) ≤ (s.size : Int) := by omega
        go_wp2
        go_ret
        exact ⟨rb (by rw [HF.out, HA.out]; simp [h1]; omega), rfl⟩
      · have h1z : ¬ (1 : Int) ≤ (s.size : Int) := by omega
        go_wp2
        go_ret
        exact ⟨rb (by rw [HF.out, HA.out]; simp [h1]), rfl⟩
end Go.Proofs.YthfdlfdbjiofhaaDoor
