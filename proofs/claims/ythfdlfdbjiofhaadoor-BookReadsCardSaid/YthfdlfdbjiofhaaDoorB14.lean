/- The reference's head. -/
import Derived.Test.YthfdlfdbjiofhaaDoorB13
import Derived.Laws.OwnMore
set_option linter.unusedVariables false
set_option linter.unusedSimpArgs false
namespace Go.Proofs.YthfdlfdbjiofhaaDoor
open Go.RowKit
set_option maxRecDepth 20000
set_option maxHeartbeats 1000000
def numF (l : List UInt8) : Int := if Lib.decDigits (valD l) = l ∧ valD l < 10000000000 then (valD l : Int) else -1
theorem numF_of {l : List UInt8} {v : Int} (h : NumV l v) : v = numF l := by
  unfold numF
  rcases h with ⟨n, rfl, hn, rfl⟩ | ⟨rfl, hn⟩
  · rw [valD_dec, if_pos ⟨rfl, hn⟩]
  · rw [if_neg (fun h => hn _ h.2 h.1.symm)]
theorem numF_bd (l : List UInt8) : -1 ≤ numF l ∧ numF l < 10000000000 := by
  unfold numF; split <;> omega
theorem numF_dec {n : Nat} (hn : n < 10000000000) : numF (Lib.decDigits n) = n := by
  unfold numF; rw [valD_dec, if_pos ⟨rfl, hn⟩]
theorem numf_any (s : ByteArray) (hs : s.size ≤ 1000000) (w : World) : Calls Tryd.prog 81 #[.string s] w fun e w' => e = .returned (.int .i64 (numF (by_ s))) ∧ w = w' := by
  refine (num_any s hs w).mono ?_
  rintro e w' ⟨v, rfl, rfl, h⟩
  exact ⟨by rw [numF_of h], rfl⟩
theorem splitW_snoc (c : UInt8) : ∀ l : List UInt8, ∃ i z, splitW l = i ++ [z] ∧ splitW (l ++ [c]) = if c = 32 then i ++ [z, []] else i ++ [z ++ [c]] := by
  intro l
  induction l with
  | nil => exact ⟨[], [], rfl, by simp [splitW]⟩
  | cons x t ih =>
    obtain ⟨i, z, h1, h2⟩ := ih
    rw [List.cons_append, splitW_cons, splitW_cons, h2, h1]
    by_cases hx : x = 32
    · refine ⟨[] :: i, z, by simp [hx], ?_⟩
      rw [if_pos hx]
      by_cases hc : c = 32
      · rw [if_pos hc, if_pos hc]; rfl
      · rw [if_neg hc, if_neg hc]; rfl
    · rw [if_neg hx, if_neg hx]
      cases i with
      | nil =>
        refine ⟨[], x :: z, rfl, ?_⟩
        by_cases hc : c = 32
        · rw [if_pos hc, if_pos hc]; rfl
        · rw [if_neg hc, if_neg hc]; rfl
      | cons a i =>
        refine ⟨(x :: a) :: i, z, rfl, ?_⟩
        by_cases hc : c = 32
        · rw [if_pos hc, if_pos hc]; rfl
        · rw [if_neg hc, if_neg hc]; rfl
theorem splitW_length : ∀ l : List UInt8, (splitW l).length ≤ l.length + 1 := by
  intro l
  induction l with
  | nil => simp [splitW]
  | cons c t ih =>
    rw [splitW_cons]
    split
    · simp; omega
    · cases h : splitW t with
      | nil => simp
      | cons a r => rw [h] at ih; simp at ih ⊢; omega
theorem own_form {w : World} {base : Nat} {e : TypeId} {v : Value} {n : Nat} {xs : List Value} (h : w.ownsRow base e 1 v n xs) (hn : 1 ≤ n) : ∃ g cap, v = .slice (some ⟨g, 0, none⟩) n cap ∧ base ≤ g ∧ g < w.heap.size ∧ n ≤ cap := by
  rcases h.2 with ⟨_, h0⟩ | ⟨g, cap, cur, rfl, hb, hg, hc, _⟩
  · omega
  · refine ⟨g, cap, rfl, hb, ?_, hc⟩
    rcases Nat.lt_or_ge g w.heap.size with h | h
    · exact h
    · rw [Array.getElem?_eq_none h] at hg; cases hg
theorem flat_str (ws : List (List UInt8)) : ((bsl ws).flatMap encStr) = ws.map fun z => .string (bs z) := by
  induction ws with
  | nil => rfl
  | cons a t ih =>
    show encStr (bs a) ++ (bsl t).flatMap encStr = _
    rw [ih]; rfl
theorem splitW_le : ∀ l : List UInt8, ∀ x ∈ splitW l, x.length ≤ l.length := by
  intro l
  induction l with
  | nil => simp [splitW]
  | cons c t ih =>
    intro x hx
    rw [splitW_cons] at hx
    split at hx
    · rcases List.mem_cons.1 hx with rfl | hx
      · simp
      · have := ih x hx; simp; omega
    · cases h : splitW t with
      | nil => exact absurd h (splitW_ne t)
      | cons a r =>
        rw [h] at hx
        rcases List.mem_cons.1 hx with rfl | hx
        · have := ih a (by rw [h]; simp); simp; omega
        · have := ih x (by rw [h]; simp [hx]); simp; omega
theorem ext_one (s : ByteArray) (k : Nat) (h : k < s.size) : s.extract k (k + 1) = bs [(by_ s)[k]'(by simpa using h)] := by
  rw [← bs_by (s.extract k (k + 1))]
  congr 1
  show (s.extract k (k + 1)).data.toList = _
  rw [Lib.extract_data, show k + 1 - k = 1 by omega]
  rw [List.drop_eq_getElem_cons (by simpa using h)]
  simp
/-- What head returns. -/
def headR (l : List UInt8) : Int × Int × Bool :=
  match splitW l.dropLast with
  | [_, w1, w2] => (numF w1, numF w2, decide (0 ≤ numF w1) && (decide (numF w1 ≤ 64) && (sumB (numF w2) && decide (firstL (numF w1).toNat (numF w2).toNat = l))))
  | _ => (0, 0, false)
def headRV (d : Int × Int × Bool) : Value := .tuple #[.int .i64 d.1, .int .i64 d.2.1, .bool d.2.2]
theorem headR_true {l : List UInt8} {n m : Int} (h : headR l = (n, m, true)) : ∃ N M : Nat, n = N ∧ m = M ∧ N ≤ 64 ∧ (M : Int) < Pm ∧ l = firstL N M := by
  unfold headR at h
  split at h
  · rename_i w0 w1 w2 hs
    simp only [Prod.mk.injEq, Bool.and_eq_true, decide_eq_true_eq] at h
    obtain ⟨rfl, rfl, h1, h2, h3, h4⟩ := h
    rw [sumB_iff] at h3
    exact ⟨(numF w1).toNat, (numF w2).toNat, by omega, by omega, by omega, by omega, h4.symm⟩
  · simp at h
theorem headR_first {N M : Nat} (hN : N ≤ 64) (hM : (M : Int) < Pm) : headR (firstL N M) = ((N : Int), (M : Int), true) := by
  have hp : Pm = 2147483647 := rfl
  unfold headR
  rw [firstL_eq, List.dropLast_concat, splitW_line]
  simp only
  rw [numF_dec (by omega), numF_dec (by omega), ← firstL_eq]
  simp
  exact ⟨by omega, by rw [sumB_iff]; omega⟩
theorem headR_ne {l : List UInt8} (h : (splitW l.dropLast).length ≠ 3) : headR l = (0, 0, false) := by
  unfold headR
  split
  · rename_i w0 w1 w2 hs; rw [hs] at h; exact absurd rfl h
  · rfl
theorem headR_three {l w0 w1 w2 : List UInt8} (h : splitW l.dropLast = [w0, w1, w2]) : headR l = (numF w1, numF w2, decide (0 ≤ numF w1) && (decide (numF w1 ≤ 64) && (sumB (numF w2) && decide (firstL (numF w1).toNat (numF w2).toNat = l)))) := by
  unfold headR; rw [h]
theorem rhead_any (s : ByteArray) (hs : s.size ≤ 1000000) (w : World) : Calls Tryd.prog 55 #[.string s] w fun e w' => e = .returned (headRV (headR (by_ s))) ∧ Below w.heap.size w w' := by
  go_enter Tryd.func55, Tryd.ntmps55
  go_wp2_with fail
  go_loopg [5, 6] s.size (fun gg s5 s6 wr => ∃ (k : Nat) (ws : List (List UInt8)), k ≤ s.size - 1 ∧ s.size - k ≤ gg ∧ s6 = .int .i64 k ∧ Aside (ws = splitW ((by_ s).take k)) ∧ Aside (wr.ownsRow w.heap.size 9 1 s5 ws.length ((bsl ws).flatMap encStr)) ∧ Aside (Below w.heap.size w wr))
  case atStart =>
    refine ⟨0, [[]], Nat.zero_le _, by omega, rfl, asd (by simp [splitW]), asd ?_, asd ?_⟩
    · exact World.ownsRow_lit (base := w.heap.size) (e := 9) (size := 1) w #[.string ⟨#[]⟩] 1 (Nat.le_refl _) (by decide) rfl
    · (repeat (first | exact Below.refl _ _ | refine blw_alloc ?_ _ | refine blw_drew ?_ | refine blw_rg ?_ _ | refine blw_call (by assumption) ?_))
  case round =>
    obtain ⟨k, ws, hk, hg, rfl, HW, HO, HB⟩ := hrel
    obtain ⟨wo, rfl⟩ : ∃ wo, wo = wr := ⟨wr, rfl⟩
    have hws : 1 ≤ ws.length := by rw [HW.out]; exact List.length_pos_iff.2 (splitW_ne _)
    have hws2 : ws.length ≤ 1000000 := by
      have := splitW_length ((by_ s).take k)
      rw [← HW.out, List.length_take] at this
      omega
    obtain ⟨g, cap, rfl, hgb, hgl, hcap⟩ := own_form HO.out hws
    rw [flat_str] at HO
    by_cases hlt : k + 1 < s.size
    · have hltz : (k : Int) < (s.size : Int) - 1 := by omega
      have hkl : k < (by_ s).length := by simp; omega
      have hx := str_at s k (by omega)
      obtain ⟨i, z, e1, e2⟩ := splitW_snoc ((by_ s)[k]) ((by_ s).take k)
      rw [← List.take_succ_eq_append_getElem hkl] at e2
      rw [← HW.out] at e1
      subst e1
      have hz : (bs z).size ≤ 1000000 := by
        have := splitW_le ((by_ s).take k) z (by rw [← HW.out]; simp)
        rw [bs_size]; simp at this; omega
      have hlen : (i ++ [z]).length = i.length + 1 := by simp
      rw [hlen] at hws hws2 HO hcap ⊢
      have hE := HO.out
      rw [List.map_append] at hE
      have HX := Go.Lib.hid (ext_one s k (by omega))
      by_cases h1 : (by_ s)[k] = 32
      · rw [if_pos h1] at e2
        rw [h1] at hx
        have E2 := asd e2
        have HE := asd hE
        clear e2 hE HO HW h1
        have hsz := HB.out.size
        go_wp2_with (at_builtin; (refine app_own (w0 := w) w.heap.size rfl _ _ 23 9 (.string ⟨#[]⟩) 1 16 rfl Tryd.underlying23 (by kernel_rfl) rfl (by decide) (by decide) (.slice (some ⟨g, 0, none⟩) (i.length + 1) cap) (i.length + 1) _ [.string ⟨#[]⟩] rfl rfl rfl (by simp [Value.oneCell']) HE.out HB.out (by omega) (by omega) ?_); intro v1 w3 ho1 hb3 _ _)
        go_roundg (s.size - (k + 1))
        case measure => omega
        case rel =>
          refine ⟨k + 1, i ++ [z, []], by omega, by omega, by go_num, asd E2.out.symm, asd ?_, asd hb3⟩
          rw [flat_str, show (i ++ [z, []]).length = i.length + 1 + 1 by simp, show i ++ [z, []] = i ++ [z] ++ [[]] by simp, List.map_append, List.map_append]
          exact ho1
      · rw [if_neg h1] at e2
        have E2 := asd e2
        have HE := asd hE
        have q1 := hE.cellAt i.length (by omega)
        have q2 := hE.frozenAt i.length
        rw [List.getElem?_append_right (by simp)] at q1
        simp only [List.length_map, Nat.sub_self, List.map_cons, List.map_nil, List.getElem?_cons_zero] at q1
        have h1z : ¬ ((by_ s)[k].toNat : Int) = 32 := fun h => h1 (UInt8.toNat_inj.1 (by have : (32 : UInt8).toNat = 32 := rfl; omega))
        clear e2 hE HO HW h1
        have hsz := HB.out.size
        obtain ⟨y, hy⟩ : ∃ y, s.extract k (k + 1) = y := ⟨_, rfl⟩
        have HY := asd (show y = bs [(by_ s)[k]] by rw [← hy, HX.out])
        have hys : y.size = 1 := by rw [HY.out]; rfl
        generalize (by_ s)[k] = x at *
        go_wp2_with fail
        go_region
        have HST := asd (HE.out.stored i.length (.string (bs z ++ y)))
        clear q1 q2
        go_wp2
        go_roundg (s.size - (k + 1))
        case measure => omega
        case rel =>
          refine ⟨k + 1, i ++ [z ++ [x]], by omega, by omega, by go_num, asd E2.out.symm, asd ?_, asd ?_⟩
          · have h1 := HST.out.1
            have hyy : bs z ++ y = bs (z ++ [x]) := by rw [HY.out, bs_app]
            rw [List.set_append_right _ _ (by simp), List.length_map, Nat.sub_self, hyy] at h1
            rw [flat_str, show (i ++ [z ++ [x]]).length = i.length + 1 by simp, List.map_append, hyy]
            exact h1
          · exact blw_drew (HB.out.grown HST.out.2 hsz (fun k hk => by cases hk; exact hgb))
    · have hltz : ¬ (k : Int) < (s.size : Int) - 1 := by omega
      have e0 : (by_ s).take k = (by_ s).dropLast := by rw [List.dropLast_eq_take, show (by_ s).length - 1 = k by simp; omega]
      rw [e0] at HW
      by_cases h3 : ws.length = 3
      case neg =>
        have h3z : ¬ (ws.length : Int) = 3 := by omega
        have HR := Go.Lib.hid (headR_ne (l := by_ s) (by rw [← HW.out]; exact h3))
        go_wp2
        go_ret3
        exact ⟨by rw [HR.out]; rfl, HB.out⟩
      match ws, h3, HW, HO with
      | [w0, w1, w2], _, HW, HO => ?_
      have q1 := HO.out.cellAt 1 (by simp)
      have q2 := HO.out.cellAt 2 (by simp)
      simp only [List.map_cons, List.map_nil, List.getElem?_cons_zero, List.getElem?_cons_succ] at q1 q2
      have hle := fun x (hx : x ∈ [w0, w1, w2]) => splitW_le ((by_ s).dropLast) x (by rw [← HW.out]; exact hx)
      have hl1 : (bs w1).size ≤ 1000000 := by have := hle w1 (by simp); rw [bs_size]; simp at this; omega
      have hl2 : (bs w2).size ≤ 1000000 := by have := hle w2 (by simp); rw [bs_size]; simp at this; omega
      have n1 := fun W => numf_any (bs w1) hl1 W
      have n2 := fun W => numf_any (bs w2) hl2 W
      rw [show by_ (bs w1) = w1 from rfl] at n1
      rw [show by_ (bs w2) = w2 from rfl] at n2
      have HR := Go.Lib.hid (headR_three HW.out.symm)
      obtain ⟨b1, b2⟩ := numF_bd w1
      obtain ⟨b3, b4⟩ := numF_bd w2
      have s1 := rg_cell q1
      have s2 := rg_cell q2
      clear hle HW HO q1 q2 hl1 hl2
      generalize numF w1 = v1 at *
      generalize numF w2 = v2 at *
      have hsum := fun W => risSum_any v2 W
      by_cases c1 : v1 < 0
      · have c1z : ¬ (0 : Int) ≤ v1 := by omega
        go_wp2_with fail
        ((with_reducible refine wp_region_rg (by kernel_rfl) (by kernel_rfl) ?_); (repeat (first | go_big_quiet_step ((go_at_call 81; first | with_reducible exact rg_of_same (n1 _) | with_reducible exact rg_of_same (n2 _))) | quiet_step ((go_at_call 81; first | with_reducible exact rg_of_same (n1 _) | with_reducible exact rg_of_same (n2 _))))); refine wpQuiet_nil ?_; intro _ hw'; obtain ⟨prg, hw''⟩ := hw'; subst hw'')
        have hbr := rg_below wo prg
        generalize rg wo prg = wr2 at hbr
        clear s1 s2 n1 n2
        go_wp2
        go_ret3
        exact ⟨by rw [HR.out, decide_eq_false (show ¬ (0 : Int) ≤ v1 by omega)]; rfl, blw_call hbr HB.out⟩
      have c1z : (0 : Int) ≤ v1 := by omega
      by_cases c2 : 64 < v1
      · have c2z : ¬ v1 ≤ 64 := by omega
        go_wp2_with fail
        ((with_reducible refine wp_region_rg (by kernel_rfl) (by kernel_rfl) ?_); (repeat (first | go_big_quiet_step ((go_at_call 81; first | with_reducible exact rg_of_same (n1 _) | with_reducible exact rg_of_same (n2 _))) | quiet_step ((go_at_call 81; first | with_reducible exact rg_of_same (n1 _) | with_reducible exact rg_of_same (n2 _))))); refine wpQuiet_nil ?_; intro _ hw'; obtain ⟨prg, hw''⟩ := hw'; subst hw'')
        have hbr := rg_below wo prg
        generalize rg wo prg = wr2 at hbr
        clear s1 s2 n1 n2
        go_wp2
        go_ret3
        exact ⟨by rw [HR.out, decide_eq_true (show (0 : Int) ≤ v1 by omega), decide_eq_false (show ¬ v1 ≤ 64 by omega)]; rfl, blw_call hbr HB.out⟩
      have c2z : v1 ≤ 64 := by omega
      cases c3 : sumB v2 with
      | false =>
        rw [c3] at hsum
        go_wp2_with fail
        ((with_reducible refine wp_region_rg (by kernel_rfl) (by kernel_rfl) ?_); (repeat (first | go_big_quiet_step ((go_at_call 81; first | with_reducible exact rg_of_same (n1 _) | with_reducible exact rg_of_same (n2 _))) | quiet_step ((go_at_call 81; first | with_reducible exact rg_of_same (n1 _) | with_reducible exact rg_of_same (n2 _))))); refine wpQuiet_nil ?_; intro _ hw'; obtain ⟨prg, hw''⟩ := hw'; subst hw'')
        have hbr := rg_below wo prg
        generalize rg wo prg = wr2 at hbr
        clear s1 s2 n1 n2
        go_wp2_with (go_at_call 82; refine (hsum _).mono ?_; rintro e w4 ⟨rfl, rfl⟩)
        go_ret3
        exact ⟨by rw [HR.out]; simp [headRV, c3], blw_call hbr HB.out⟩
      | true =>
        rw [c3] at hsum
        obtain ⟨d1, d2⟩ := sumB_iff.1 c3
        have hpm : Pm = 2147483647 := rfl
        obtain ⟨N, rfl⟩ : ∃ N : Nat, v1 = N := ⟨v1.toNat, by omega⟩
        obtain ⟨M, rfl⟩ : ∃ M : Nat, v2 = M := ⟨v2.toNat, by omega⟩
        have hf := fun W => first_any N M (by omega) (by omega) W
        have hq := str_eq (bs (firstL N M)) s
        have HQ := Go.Lib.hid (show decide (bs (firstL N M) = s) = decide (firstL N M = by_ s) by
          rw [decide_eq_decide]
          exact ⟨fun h => by rw [← h], fun h => by rw [h, bs_by]⟩)
        generalize bs (firstL N M) = y at *
        rw [HQ.out] at hq
        generalize hv : decide (firstL N M = by_ s) = r at *
        go_wp2_with fail
        ((with_reducible refine wp_region_rg (by kernel_rfl) (by kernel_rfl) ?_); (repeat (first | go_big_quiet_step ((go_at_call 81; first | with_reducible exact rg_of_same (n1 _) | with_reducible exact rg_of_same (n2 _))) | quiet_step ((go_at_call 81; first | with_reducible exact rg_of_same (n1 _) | with_reducible exact rg_of_same (n2 _))))); refine wpQuiet_nil ?_; intro _ hw'; obtain ⟨prg, hw''⟩ := hw'; subst hw'')
        have hbr := rg_below wo prg
        generalize rg wo prg = wr2 at hbr
        clear s1 s2 n1 n2
        go_wp2_with (first | (go_at_call 82; refine (hsum _).mono ?_; rintro e w4 ⟨rfl, rfl⟩) | (go_at_call 33; refine (hf _).mono ?_; rintro e w5 ⟨rfl, rfl⟩))
        go_ret3
        exact ⟨by rw [HR.out]; simp [headRV, c3, c2z, hv], blw_call hbr HB.out⟩
end Go.Proofs.YthfdlfdbjiofhaaDoor
