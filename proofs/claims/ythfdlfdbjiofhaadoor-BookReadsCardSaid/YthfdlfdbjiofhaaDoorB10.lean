/- read of the program. -/
import Derived.Test.YthfdlfdbjiofhaaDoorB9
set_option linter.unusedVariables false
set_option linter.unusedSimpArgs false
namespace Go.Proofs.YthfdlfdbjiofhaaDoor
open Go.RowKit
theorem readL_stop {m : Nat} {r : List UInt8} (h : nextV r = .iface 85 (.string (bs r))) : readL m r = ([], r) := by
  cases m with
  | zero => rfl
  | succ m =>
    unfold readL
    unfold nextV at h
    cases hc : cutL r with
    | none => rfl
    | some x =>
      obtain ⟨a, b⟩ := x
      rw [hc] at h
      simp only at h ⊢
      cases hp : pageL a with
      | false => simp
      | true => rw [hp] at h; simp at h
theorem readL_go {m : Nat} {r a b : List UInt8} (hc : cutL r = some (a, b)) (hp : pageL a = true) : readL (m + 1) r = (a :: (readL m b).1, (readL m b).2) := by
  conv => lhs; unfold readL
  rw [hc]; simp [hp]
theorem nextV_cases (r : List UInt8) : nextV r = .iface 85 (.string (bs r)) ∨ ∃ a b, cutL r = some (a, b) ∧ pageL a = true ∧ nextV r = .iface 83 (.string (bs a)) := by
  unfold nextV
  cases hc : cutL r with
  | none => exact .inl rfl
  | some x =>
    obtain ⟨a, b⟩ := x
    cases hp : pageL a with
    | false => left; simp [hp]
    | true => right; exact ⟨a, b, rfl, hp, by simp [hp]⟩
theorem root_of (P : List (List UInt8)) : rootL (leavesL (bsl P)) = rootP P := by
  unfold rootP leavesL bsl
  rw [List.map_map]; rfl
theorem own_strs {wr : World} {base : Nat} {v : Value} {P : List (List UInt8)} (h : wr.ownsRow base 9 1 v P.length ((bsl P).flatMap encStr)) (hP : P.length ≤ 1000000) : ∃ A c, v = .slice A P.length c ∧ P.length ≤ c ∧ Rd wr encStr 1 A (bsl P) := by
  obtain ⟨A, c, h1, h2, h3⟩ := own_rdc (enc := encStr) (xs := bsl P) (fun _ => rfl) (by rw [bsl_len]; exact hP) (by rw [bsl_len]; exact h)
  rw [bsl_len] at h1 h2
  exact ⟨A, c, h1, h2, h3⟩
theorem as_pp (s : ByteArray) (w : World) : (Instr.typeAssert (.iface 83 (.string s)) 81 83 true).run Tryd.prog w = .ok (.tuple #[.string s, .bool true]) w := by kernel_rfl
theorem as_tp (s : ByteArray) (w : World) : (Instr.typeAssert (.iface 85 (.string s)) 81 83 true).run Tryd.prog w = .ok (.tuple #[.string ⟨#[]⟩, .bool false]) w := by kernel_rfl
theorem as_tt (s : ByteArray) (w : World) : (Instr.typeAssert (.iface 85 (.string s)) 81 85 true).run Tryd.prog w = .ok (.tuple #[.string s, .bool true]) w := by kernel_rfl
theorem bs_size (r : List UInt8) : (bs r).size = r.length := by show r.toArray.size = _; simp
theorem ex_rest {r a b : List UInt8} (h : r = a ++ 10 :: b) : (bs r).extract (a.length + 1) (a.length + 1 + b.length) = bs b := by
  rw [← bs_by ((bs r).extract _ _)]
  congr 1
  show ((bs r).extract (a.length + 1) (a.length + 1 + b.length)).data.toList = b
  rw [Lib.extract_data]
  subst h
  simp
theorem lv_len (P : List (List UInt8)) : (leavesL (bsl P)).length = P.length := by simp [bsl]
def LvP (P : List (List UInt8)) (w : World) (e : Ending) (w' : World) : Prop := ∃ A2 c2, P.length ≤ c2 ∧ e = .returned (.slice A2 P.length c2) ∧ Rd w' encInt 1 A2 (leavesL (bsl P)) ∧ Below w.heap.size w w'
theorem leaves_P (P : List (List UInt8)) (hP : ∀ p ∈ P, pageL p = true) (A : Option Addr) (c : Nat) (w : World) (H : Rd w encStr 1 A (bsl P)) : Calls Tryd.prog 50 #[.slice A P.length c] w (LvP P w) := by
  have h := leaves_any (bsl P) A c w H (fun x hx => by
    obtain ⟨y, hy, rfl⟩ := List.mem_map.1 hx
    have := page_size (s := bs y) (hP y hy)
    omega)
  rw [bsl_len] at h
  refine h.mono ?_
  rintro e w' ⟨A2, c2, h1, rfl, h2, h3⟩
  rw [lv_len] at h1
  exact ⟨A2, c2, h1, by rw [lv_len], h2, h3⟩
theorem root_P (P : List (List UInt8)) (h64 : P.length ≤ 64) (A : Option Addr) (c : Nat) (w : World) (hc : P.length ≤ c) (H : Rd w encInt 1 A (leavesL (bsl P))) : Calls Tryd.prog 49 #[.slice A P.length c] w fun e w' => e = .returned (.int .i64 (rootP P)) ∧ Below w.heap.size w w' := by
  have h := root_any _ (leavesL (bsl P)) A c w rfl (by rw [lv_len]; exact h64) (by rw [lv_len]; exact hc) H (leaves_bd _)
  rw [root_of, lv_len] at h
  exact h
set_option maxRecDepth 20000
set_option maxHeartbeats 1000000
theorem read_none (s : ByteArray) (hs : s.size ≤ 1000000) (w : World) (hE : EnvB w) (h : headL (by_ s) = none) : Calls Tryd.prog 26 #[.string s] w (ReadP (by_ s) w) := by
  have hh := head_any s hs w hE
  have HD := Go.Lib.hid (show readD (by_ s) = ([], [], false, 2) by unfold readD; rw [h])
  rw [h] at hh
  unfold headV at hh
  simp only at hh
  clear h
  go_enter Tryd.func26, Tryd.ntmps26
  go_wp2_with (go_at_call 51; refine hh.mono ?_; rintro e w1 ⟨rfl, hb1⟩)
  go_returns
  refine ⟨none, 0, ?_⟩
  rw [HD.out]
  exact ⟨by simp, rfl, rd_nilC _ _ _ _, by (repeat (first | exact Below.refl _ _ | refine blw_alloc ?_ _ | refine blw_drew ?_ | refine blw_rg ?_ _ | refine blw_call (by assumption) ?_))⟩
theorem read_some (s : ByteArray) (hs : s.size ≤ 1000000) (w : World) (hE : EnvB w) (N sum : Nat) (r0 : List UInt8) (h : headL (by_ s) = some (N, sum, r0)) : Calls Tryd.prog 26 #[.string s] w (ReadP (by_ s) w) := by
  have hh := head_any s hs w hE
  obtain ⟨h64, hsum, hspl⟩ := (headL_iff _ _ _ _).1 h
  have hr0 : r0.length ≤ 1000000 := by
    have : (by_ s).length ≤ 1000000 := by simpa using hs
    rw [hspl] at this; simp at this; omega
  have HD := Go.Lib.hid (show readD (by_ s) = _ by unfold readD; rw [h])
  rw [h] at hh
  unfold headV at hh
  simp only at hh HD
  clear h hspl
  go_enter Tryd.func26, Tryd.ntmps26
  go_wp2_with (go_at_call 51; refine hh.mono ?_; rintro e w1 ⟨rfl, hb1⟩)
  have HE1 := asd (hE.below hb1)
  have HB1 := asd hb1
  have hsz1 := hb1.size
  clear hh hE hb1
  go_loopg [2, 3, 9] N (fun gg s2 s3 s9 wr => ∃ (P : List (List UInt8)) (r : List UInt8), P.length ≤ N ∧ N - P.length ≤ gg ∧ s3 = .string (bs r) ∧ r.length ≤ 1000000 ∧ Aside ((readL N r0).1 = P ++ (readL (N - P.length) r).1 ∧ (readL N r0).2 = (readL (N - P.length) r).2) ∧ Aside (wr.ownsRow w1.heap.size 9 1 s2 P.length ((bsl P).flatMap encStr)) ∧ Aside (Below w1.heap.size w1 wr))
  case atStart => exact ⟨[], r0, Nat.zero_le _, by omega, rfl, hr0, asd ⟨rfl, rfl⟩, World.ownsRow_nil _ _ _ _, Below.refl _ _⟩
  case round =>
    obtain ⟨P, r, hk, hg, rfl, hr, HR, HO, HB⟩ := hrel
    obtain ⟨wo, rfl⟩ : ∃ wo, wo = wr := ⟨wr, rfl⟩
    obtain ⟨A, cc, rfl, hcc, hrd⟩ := own_strs HO.out (by omega)
    have HC := asd hcc
    have HRD := asd hrd
    clear hcc hrd
    have hwo : Below w.heap.size w wo := blw_call HB.out HB1.out
    have hsz := HB.out.size
    by_cases hlt : P.length < N
    case neg =>
      have hltz : ¬ (P.length : Int) < (N : Int) := by omega
      obtain rfl : P.length = N := by omega
      have hR : readL P.length r0 = (P, r) := by
        have := HR.out
        rw [Nat.sub_self] at this
        simp only [readL, List.append_nil] at this
        exact Prod.ext this.1 this.2
      have hlv := leaves_P P (fun p hp => readL_page P.length r0 p (by rw [hR]; exact hp)) A cc wo HRD.out
      have hrt := root_P P h64
      rw [hR] at HD
      simp only [Nat.lt_irrefl, if_false] at HD
      clear HR hR HO hr
      generalize rootP P = rt at *
      by_cases he : rt = (sum : Int)
      · rw [if_pos he] at HD
        subst he
        go_wp2_with (first | (go_at_call 50; refine hlv.mono ?_; rintro e w2 ⟨A2, c2, hc2, rfl, hr2, hb2⟩) | (go_at_call 49; refine (hrt _ _ _ hc2 hr2).mono ?_; rintro e w3 ⟨rfl, hb3⟩))
        have hb5 : Below wo.heap.size wo w3 := blw_call hb3 hb2
        go_returns
        refine ⟨A, cc, ?_⟩
        rw [HD.out]
        exact ⟨HC.out, rfl, HRD.out.below hb5, blw_call hb5 hwo⟩
      · rw [if_neg he] at HD
        have hez : (rt != (sum : Int)) = true := by simpa using he
        clear he
        go_wp2_with (first | (go_at_call 50; refine hlv.mono ?_; rintro e w2 ⟨A2, c2, hc2, rfl, hr2, hb2⟩) | (go_at_call 49; refine (hrt _ _ _ hc2 hr2).mono ?_; rintro e w3 ⟨rfl, hb3⟩))
        have hb5 : Below wo.heap.size wo w3 := blw_call hb3 hb2
        go_returns
        refine ⟨none, 0, ?_⟩
        rw [HD.out]
        exact ⟨by simp, rfl, rd_nilC _ _ _ _, blw_call hb5 hwo⟩
    case pos =>
      have hltz : (P.length : Int) < (N : Int) := by omega
      have hnx := next_any (bs r) (by rw [bs_size]; exact hr) wo (HE1.out.below HB.out)
      obtain ⟨m, hm⟩ : ∃ m, N - P.length = m + 1 := ⟨N - P.length - 1, by omega⟩
      rcases nextV_cases r with hv | ⟨a, b, hc, hpg, hv⟩
      · have hstop := readL_stop (m := N - P.length) hv
        rw [show by_ (bs r) = r from rfl, hv] at hnx
        have hR : (readL N r0).1 = P ∧ (readL N r0).2 = r := by
          have := HR.out
          rw [hstop] at this
          simpa using this
        rw [hR.1, hR.2, if_pos hlt] at HD
        clear HR hR HO hstop hv hm
        have tA := as_tp (bs r)
        have tB := as_tt (bs r)
        go_wp2_with (go_at_call 52; refine hnx.mono ?_; rintro e w2 ⟨rfl, hb2⟩)
        go_returns
        refine ⟨A, cc, ?_⟩
        rw [HD.out]
        exact ⟨HC.out, rfl, HRD.out.below hb2, blw_call hb2 hwo⟩
      · have hgo := readL_go (m := m) hc hpg
        rw [show by_ (bs r) = r from rfl, hv] at hnx
        have hcs := (cutL_some hc).1
        have hps := page_size (s := bs a) hpg
        have htx := text_any (bs a)
        have tA := as_pp (bs a)
        have hra : r.length = a.length + 1 + b.length := by rw [hcs]; simp; omega
        have hsz1 : ((bs a).size : Int) + 1 ≤ ((bs r).size : Int) := by rw [bs_size, bs_size]; omega
        rw [hm, hgo] at HR
        have HX := Go.Lib.hid (ex_rest hcs)
        clear hv hc hgo hcs HC HRD
        go_wp2_with (first | (go_at_call 52; refine hnx.mono ?_; rintro e w2 ⟨rfl, hb2⟩; have hsz2 := hb2.size) | (go_at_call 53; refine (htx _).mono ?_; rintro e w3 ⟨rfl, rfl⟩) | (at_builtin; (refine app_own (w0 := w1) w1.heap.size rfl _ _ 23 9 (.string ⟨#[]⟩) 1 16 rfl Tryd.underlying23 (by kernel_rfl) rfl (by decide) (by decide) (.slice A P.length cc) P.length _ [.string (bs a)] rfl rfl rfl (by simp [Value.oneCell']) (own_blw HO.out hb2) (blw_call hb2 HB.out) (by omega) (by omega) ?_); intro v1 w3 ho1 hb3 _ _))
        go_roundg (N - (P.length + 1))
        case measure => omega
        case rel =>
          refine ⟨P ++ [a], b, by simp; omega, by simp, by rw [HX.out], by omega, asd ?_, asd ?_, asd hb3⟩
          · rw [List.length_append, List.length_singleton, show N - (P.length + 1) = m by omega, List.append_assoc]
            exact HR.out
          · rw [List.length_append, List.length_singleton, show bsl (P ++ [a]) = bsl P ++ [bs a] by simp [bsl], List.flatMap_append]
            exact ho1
theorem read_any (s : ByteArray) (hs : s.size ≤ 1000000) (w : World) (hE : EnvB w) : Calls Tryd.prog 26 #[.string s] w (ReadP (by_ s) w) := by
  cases h : headL (by_ s) with
  | none => exact read_none s hs w hE h
  | some x =>
    obtain ⟨N, sum, r0⟩ := x
    exact read_some s hs w hE N sum r0 h
end Go.Proofs.YthfdlfdbjiofhaaDoor
