/- The reference's ReadAll. -/
import Derived.Test.YthfdlfdbjiofhaaDoorB14
set_option linter.unusedVariables false
set_option linter.unusedSimpArgs false
namespace Go.Proofs.YthfdlfdbjiofhaaDoor
open Go.RowKit
set_option maxRecDepth 20000
set_option maxHeartbeats 1000000
theorem headL_no {t a r : List UInt8} (hc : cutL t = some (a, r)) {n m : Int} (h : headR (a ++ [10]) = (n, m, false)) : headL t = none := by
  cases hl : headL t with
  | none => rfl
  | some x =>
    obtain ⟨N, M, r'⟩ := x
    obtain ⟨h1, h2, h3⟩ := (headL_iff _ _ _ _).1 hl
    have e : t = lineL N M ++ 10 :: r' := by rw [h3, firstL_eq]; simp
    rw [e, cutL_of (line_nl N M)] at hc
    simp only [Option.some.injEq, Prod.mk.injEq] at hc
    obtain ⟨rfl, rfl⟩ := hc
    rw [← firstL_eq, headR_first h1 h2] at h
    simp at h
theorem headL_yes {t a r : List UInt8} (hc : cutL t = some (a, r)) {n m : Int} (h : headR (a ++ [10]) = (n, m, true)) : ∃ N M : Nat, n = N ∧ m = M ∧ headL t = some (N, M, r) := by
  obtain ⟨N, M, rfl, rfl, h1, h2, h3⟩ := headR_true h
  refine ⟨N, M, rfl, rfl, (headL_iff _ _ _ _).2 ⟨h1, h2, ?_⟩⟩
  rw [← h3, (cutL_some hc).1]; simp
def readN (t : List UInt8) : Int :=
  match headL t with
  | none => -1
  | some (n, sum, r) => if (readL n r).1.length < n then (n : Int) else if rootP (readL n r).1 = sum then (n : Int) else -1
def RAP (t : List UInt8) (w : World) (e : Ending) (w' : World) : Prop := ∃ A c, (readD t).1.length ≤ c ∧ e = .returned (.tuple #[.slice A (readD t).1.length c, .int .i64 (readN t), .string (bs (readD t).2.1), .int .i64 (readD t).2.2.2]) ∧ Rd w' encStr 1 A (bsl (readD t).1) ∧ Below w.heap.size w w'
theorem rleaves_P (P : List (List UInt8)) (hP : ∀ p ∈ P, pageL p = true) (A : Option Addr) (c : Nat) (w : World) (H : Rd w encStr 1 A (bsl P)) : Calls Tryd.prog 58 #[.slice A P.length c] w (LvP P w) := by
  have h := rleaves_any (bsl P) A c w H (fun x hx => by
    obtain ⟨y, hy, rfl⟩ := List.mem_map.1 hx
    have := page_size (s := bs y) (hP y hy)
    omega)
  rw [bsl_len] at h
  refine h.mono ?_
  rintro e w' ⟨A2, c2, h1, rfl, h2, h3⟩
  rw [lv_len] at h1
  exact ⟨A2, c2, h1, by rw [lv_len], h2, h3⟩
theorem rroot_P (P : List (List UInt8)) (h64 : P.length ≤ 64) (A : Option Addr) (c : Nat) (w : World) (hc : P.length ≤ c) (H : Rd w encInt 1 A (leavesL (bsl P))) : Calls Tryd.prog 57 #[.slice A P.length c] w fun e w' => e = .returned (.int .i64 (rootP P)) ∧ Below w.heap.size w w' := by
  have h := rroot_any _ (leavesL (bsl P)) A c w rfl (by rw [lv_len]; exact h64) (by rw [lv_len]; exact hc) H (leaves_bd _)
  rw [root_of, lv_len] at h
  exact h
theorem rall_none (s : ByteArray) (hs : s.size ≤ 1000000) (w : World) (hl : headL (by_ s) = none) : Calls Tryd.prog 27 #[.string s] w (RAP (by_ s) w) := by
  have h1 := fun W => line_any s hs W
  have HD := Go.Lib.hid (show readD (by_ s) = ([], [], false, 2) by unfold readD; rw [hl])
  have HN := Go.Lib.hid (show readN (by_ s) = -1 by unfold readN; rw [hl])
  cases hc : cutL (by_ s) with
  | none =>
    rw [show lineV s = .tuple #[.string s, .bool false] by unfold lineV; rw [hc]] at h1
    have h2 := fun W => rhead_any s hs W
    unfold headRV at h2
    generalize headR (by_ s) = d at *
    obtain ⟨n, m, b⟩ := d
    simp only at h2
    clear hl hc
    go_enter Tryd.func27, Tryd.ntmps27
    go_wp2_with (first | (go_at_call 54; refine (h1 _).mono ?_; rintro e w1 ⟨rfl, rfl⟩) | (go_at_call 55; refine (h2 _).mono ?_; rintro e w2 ⟨rfl, hb2⟩))
    go_returns
    refine ⟨none, 0, ?_⟩
    rw [HD.out, HN.out]
    exact ⟨by simp, rfl, rd_nilC _ _ _ _, hb2⟩
  | some x =>
    obtain ⟨a, r⟩ := x
    rw [show lineV s = .tuple #[.string (bs (a ++ [10])), .bool true] by unfold lineV; rw [hc]] at h1
    have hA : (bs (a ++ [10])).size ≤ 1000000 := by
      have h0 : (by_ s).length ≤ 1000000 := by simpa using hs
      rw [(cutL_some hc).1] at h0
      rw [bs_size]; simp at h0 ⊢; omega
    have h2 := fun W => rhead_any (bs (a ++ [10])) hA W
    rw [show by_ (bs (a ++ [10])) = a ++ [10] from rfl] at h2
    generalize hd : headR (a ++ [10]) = d at *
    obtain ⟨n, m, b⟩ := d
    cases b with
    | true =>
      obtain ⟨N, M, _, _, h⟩ := headL_yes hc hd
      rw [hl] at h; cases h
    | false =>
      unfold headRV at h2
      simp only at h2
      clear hl hc hd hA
      generalize bs (a ++ [10]) = y at *
      go_enter Tryd.func27, Tryd.ntmps27
      go_wp2_with (first | (go_at_call 54; refine (h1 _).mono ?_; rintro e w1 ⟨rfl, rfl⟩) | (go_at_call 55; refine (h2 _).mono ?_; rintro e w2 ⟨rfl, hb2⟩))
      go_returns
      refine ⟨none, 0, ?_⟩
      rw [HD.out, HN.out]
      exact ⟨by simp, rfl, rd_nilC _ _ _ _, hb2⟩
theorem ext_mid (s : ByteArray) (i j : Nat) : s.extract i j = bs (((by_ s).drop i).take (j - i)) := by
  rw [← bs_by (s.extract i j)]
  congr 1
  show (s.extract i j).data.toList = _
  rw [Lib.extract_data]
theorem rall_some (s : ByteArray) (hs : s.size ≤ 1000000) (w : World) (N sum : Nat) (r0 : List UInt8) (h : headL (by_ s) = some (N, sum, r0)) : Calls Tryd.prog 27 #[.string s] w (RAP (by_ s) w) := by
  obtain ⟨h64, hsum, hspl⟩ := (headL_iff _ _ _ _).1 h
  have hcut : cutL (by_ s) = some (lineL N sum, r0) := by rw [hspl, show firstL N sum ++ r0 = lineL N sum ++ 10 :: r0 by rw [firstL_eq]; simp, cutL_of (line_nl N sum)]
  have h1 := fun W => line_any s hs W
  rw [show lineV s = .tuple #[.string (bs (firstL N sum)), .bool true] by unfold lineV; rw [hcut]; rfl] at h1
  have h0 : (by_ s).length ≤ 1000000 := by simpa using hs
  rw [hspl, List.length_append] at h0
  have h2 := fun W => rhead_any (bs (firstL N sum)) (by rw [bs_size]; omega) W
  rw [show by_ (bs (firstL N sum)) = firstL N sum from rfl, headR_first h64 hsum] at h2
  unfold headRV at h2
  simp only at h2
  have hss : s.size = (firstL N sum).length + r0.length := by
    have : (by_ s).length = s.size := by simp
    rw [← this, hspl, List.length_append]
  have hfs := bs_size (firstL N sum)
  have HX := Go.Lib.hid (show s.extract (firstL N sum).length ((firstL N sum).length + r0.length) = bs r0 by
    rw [ext_mid, hspl, Nat.add_sub_cancel_left, List.drop_left, List.take_length])
  have HD := Go.Lib.hid (show readD (by_ s) = _ by unfold readD; rw [h])
  have HN := Go.Lib.hid (show readN (by_ s) = _ by unfold readN; rw [h])
  simp only at HD HN
  clear h hspl hcut
  generalize bs (firstL N sum) = y at *
  generalize (firstL N sum).length = L at *
  go_enter Tryd.func27, Tryd.ntmps27
  go_wp2_with (first | (go_at_call 54; refine (h1 _).mono ?_; rintro e w1 ⟨rfl, rfl⟩) | (go_at_call 55; refine (h2 _).mono ?_; rintro e w2 ⟨rfl, hb2⟩))
  have HB1 := asd hb2
  have hsz1 := hb2.size
  clear h1 h2 hb2
  go_loopg [11, 12, 13, 14] N (fun gg s11 s12 s13 s14 wr => ∃ (P : List (List UInt8)) (r : List UInt8), P.length ≤ N ∧ N - P.length ≤ gg ∧ s11 = .string (bs r) ∧ r.length ≤ 1000000 ∧ Aside ((readL N r0).1 = P ++ (readL (N - P.length) r).1 ∧ (readL N r0).2 = (readL (N - P.length) r).2) ∧ Aside (wr.ownsRow w2.heap.size 9 1 s12 P.length ((bsl P).flatMap encStr)) ∧ Aside (Below w2.heap.size w2 wr))
  case atStart => exact ⟨[], r0, Nat.zero_le _, by omega, by rw [HX.out], by omega, asd ⟨rfl, rfl⟩, World.ownsRow_nil _ _ _ _, Below.refl _ _⟩
  case round =>
    obtain ⟨P, r, hk, hg, rfl, hr, HR, HO, HB⟩ := hrel
    obtain ⟨wo, rfl⟩ : ∃ wo, wo = wr := ⟨wr, rfl⟩
    obtain ⟨A, cc, rfl, hcc, hrd⟩ := own_strs HO.out (by omega)
    have HC := asd hcc
    have HRD := asd hrd
    clear hcc hrd
    have hwo : Below w.heap.size w wo := blw_call HB.out HB1.out
    have hsz := HB.out.size
    by_cases hlt : P.length < N
    case neg =>
      have hltz : ¬ (P.length : Int) < (N : Int) := by omega
      obtain rfl : P.length = N := by omega
      have hR : readL P.length r0 = (P, r) := by
        have := HR.out
        rw [Nat.sub_self] at this
        simp only [readL, List.append_nil] at this
        exact Prod.ext this.1 this.2
      have hlv := rleaves_P P (fun p hp => readL_page P.length r0 p (by rw [hR]; exact hp)) A cc wo HRD.out
      have hrt := rroot_P P h64
      rw [hR] at HD HN
      simp only [Nat.lt_irrefl, if_false] at HD HN
      clear HR hR HO hr
      generalize rootP P = rt at *
      by_cases he : rt = (sum : Int)
      · rw [if_pos he] at HD HN
        subst he
        go_wp2_with (first | (go_at_call 58; refine hlv.mono ?_; rintro e w2 ⟨A2, c2, hc2, rfl, hr2, hb2⟩) | (go_at_call 57; refine (hrt _ _ _ hc2 hr2).mono ?_; rintro e w3 ⟨rfl, hb3⟩))
        have hb5 : Below wo.heap.size wo w3 := blw_call hb3 hb2
        go_returns
        refine ⟨A, cc, ?_⟩
        rw [HD.out, HN.out]
        exact ⟨HC.out, rfl, HRD.out.below hb5, blw_call hb5 hwo⟩
      · rw [if_neg he] at HD HN
        have hez : (rt != (sum : Int)) = true := by simpa using he
        clear he
        go_wp2_with (first | (go_at_call 58; refine hlv.mono ?_; rintro e w2 ⟨A2, c2, hc2, rfl, hr2, hb2⟩) | (go_at_call 57; refine (hrt _ _ _ hc2 hr2).mono ?_; rintro e w3 ⟨rfl, hb3⟩))
        have hb5 : Below wo.heap.size wo w3 := blw_call hb3 hb2
        go_returns
        refine ⟨none, 0, ?_⟩
        rw [HD.out, HN.out]
        exact ⟨by simp, rfl, rd_nilC _ _ _ _, blw_call hb5 hwo⟩
    case pos =>
      have hltz : (P.length : Int) < (N : Int) := by omega
      have hli := fun W => line_any (bs r) (by rw [bs_size]; exact hr) W
      obtain ⟨m, hm⟩ : ∃ m, N - P.length = m + 1 := ⟨N - P.length - 1, by omega⟩
      cases hc : cutL r with
      | none =>
        rw [show lineV (bs r) = .tuple #[.string (bs r), .bool false] by unfold lineV; rw [show by_ (bs r) = r from rfl, hc]] at hli
        have hstop : readL (N - P.length) r = ([], r) := by rw [hm]; unfold readL; rw [hc]
        have hR : (readL N r0).1 = P ∧ (readL N r0).2 = r := by
          have := HR.out
          rw [hstop] at this
          simpa using this
        rw [hR.1, hR.2, if_pos hlt] at HD
        rw [hR.1, if_pos hlt] at HN
        clear HR hR HO hstop hm hc
        go_wp2_with (go_at_call 54; refine (hli _).mono ?_; rintro e w2 ⟨rfl, rfl⟩)
        go_returns
        refine ⟨A, cc, ?_⟩
        rw [HD.out, HN.out]
        exact ⟨HC.out, rfl, HRD.out, hwo⟩
      | some x =>
        obtain ⟨a, b⟩ := x
        rw [show lineV (bs r) = .tuple #[.string (bs (a ++ [10])), .bool true] by unfold lineV; rw [show by_ (bs r) = r from rfl, hc]] at hli
        have hcs := (cutL_some hc).1
        have hra : r.length = a.length + 1 + b.length := by rw [hcs]; simp; omega
        have hys := bs_size (a ++ [10])
        rw [List.length_append, List.length_singleton] at hys
        have hpg := fun W => rpage_any (bs a) (by rw [bs_size]; omega) W
        rw [show by_ (bs a) = a from rfl] at hpg
        have HY := Go.Lib.hid (show (bs (a ++ [10])).extract 0 a.length = bs a by rw [ext_upto, show by_ (bs (a ++ [10])) = a ++ [10] from rfl, List.take_left])
        have hY : (bs (a ++ [10])).extract 0 a.length = bs a := HY.out
        have hrs := bs_size r
        have HX2 := Go.Lib.hid (ex_rest hcs)
        generalize bs (a ++ [10]) = y at *
        cases hp : pageL a with
        | false =>
          rw [hp] at hpg
          have hstop : readL (N - P.length) r = ([], r) := by rw [hm]; unfold readL; rw [hc]; simp [hp]
          have hR : (readL N r0).1 = P ∧ (readL N r0).2 = r := by
            have := HR.out
            rw [hstop] at this
            simpa using this
          rw [hR.1, hR.2, if_pos hlt] at HD
          rw [hR.1, if_pos hlt] at HN
          clear HR hR HO hstop hm hc hcs hp
          go_wp2_with (first | (go_at_call 54; refine (hli _).mono ?_; rintro e w2 ⟨rfl, rfl⟩) | (go_at_call 56; refine (hpg _).mono ?_; rintro e w3 ⟨rfl, rfl⟩))
          go_returns
          refine ⟨A, cc, ?_⟩
          rw [HD.out, HN.out]
          exact ⟨HC.out, rfl, HRD.out, hwo⟩
        | true =>
          rw [hp] at hpg
          have hgo := readL_go (m := m) hc hp
          rw [hm, hgo] at HR
          clear hc hp hgo hcs HC HRD
          go_wp2_with (first | (go_at_call 54; refine (hli _).mono ?_; rintro e w2 ⟨rfl, rfl⟩) | (go_at_call 56; refine (hpg _).mono ?_; rintro e w3 ⟨rfl, rfl⟩) | (at_builtin; (refine app_own (w0 := w2) w2.heap.size rfl _ _ 23 9 (.string ⟨#[]⟩) 1 16 rfl Tryd.underlying23 (by kernel_rfl) rfl (by decide) (by decide) (.slice A P.length cc) P.length _ [.string (bs a)] rfl rfl rfl (by simp [Value.oneCell']) HO.out HB.out (by omega) (by omega) ?_); intro v1 w3 ho1 hb3 _ _))
          go_roundg (N - (P.length + 1))
          case measure => omega
          case rel =>
            refine ⟨P ++ [a], b, by simp; omega, by simp, by rw [HX2.out], by omega, asd ?_, asd ?_, asd hb3⟩
            · rw [List.length_append, List.length_singleton, show N - (P.length + 1) = m by omega, List.append_assoc]
              exact HR.out
            · rw [List.length_append, List.length_singleton, show bsl (P ++ [a]) = bsl P ++ [bs a] by simp [bsl], List.flatMap_append]
              exact ho1
theorem rall_any (s : ByteArray) (hs : s.size ≤ 1000000) (w : World) : Calls Tryd.prog 27 #[.string s] w (RAP (by_ s) w) := by
  cases h : headL (by_ s) with
  | none => exact rall_none s hs w h
  | some x =>
    obtain ⟨N, sum, r0⟩ := x
    exact rall_some s hs w N sum r0 h
end Go.Proofs.YthfdlfdbjiofhaaDoor
