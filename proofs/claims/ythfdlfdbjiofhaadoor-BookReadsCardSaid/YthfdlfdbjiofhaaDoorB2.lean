/- Roots of pages: the program's split, root, leaves, ValidatePages, common. -/
import Derived.Test.YthfdlfdbjiofhaaDoorB1
import Derived.Test.YthfdlfdbjiofhaaDoorLay
set_option linter.unusedVariables false
set_option linter.unusedSimpArgs false
namespace Go.Proofs.YthfdlfdbjiofhaaDoor
open Go.RowKit
theorem bitLen_log : ∀ x, x < 64 → 1 ≤ x → Lib.bitLen x = Nat.log2 x + 1 := by decide
theorem log_small : ∀ x, x < 64 → Nat.log2 x ≤ 5 := by decide
theorem split_any (n : Nat) (h2 : 2 ≤ n) (h64 : n ≤ 64) (w : World) : Calls Tryd.prog 79 #[.int .i64 n] w fun e w' => e = .returned (.int .i64 (splitN n : Nat)) ∧ w = w' := by
  have hb := fun W => Any.bits_Len Tryd.lays125 ((n : Int) - 1) W (by omega) (by omega)
  have ht : ((n : Int) - 1).toNat = n - 1 := by omega
  rw [ht, bitLen_log (n - 1) (by omega) (by omega)] at hb
  have hm := log_small (n - 1) (by omega)
  have HS := Go.Lib.hid (show splitN n = 2 ^ Nat.log2 (n - 1) from rfl)
  have hw : IntKind.u64.wrap ((n : Int) - 1) = (n : Int) - 1 := by simp [IntKind.wrap, IntKind.bits, IntKind.signed]; omega
  generalize Nat.log2 (n - 1) = m at *
  clear ht
  rcases (by omega : m = 0 ∨ m = 1 ∨ m = 2 ∨ m = 3 ∨ m = 4 ∨ m = 5) with rfl | rfl | rfl | rfl | rfl | rfl
  all_goals
    go_enter Tryd.func79, Tryd.ntmps79
    go_wp2_with (go_at_call 107; refine (hb _).mono ?_; rintro e w' ⟨rfl, rfl⟩)
    go_ret
    exact ⟨ri (by rw [HS.out]; rfl), rfl⟩
theorem Rd.take_ {α : Type} {w : World} {enc : α → List Value} {k : Nat} {a : Option Addr} {xs : List α} (h : Rd w enc k a xs) (j : Nat) (hj : j ≤ xs.length) : Rd w enc k a (xs.take j) := by
  refine ⟨by have := h.big; simp; omega, fun h0 => ?_⟩
  have hl : (xs.take j).length = j := by rw [List.length_take]; omega
  obtain ⟨b, off, e, hb, hc⟩ := h.row (by omega)
  refine ⟨b, off, e, hb, fun i hi n v hv => ?_⟩
  rw [List.getElem_take] at hv
  exact hc i (by omega) n v hv
theorem Rd.drop_ {α : Type} {w : World} {enc : α → List Value} {b off : Nat} {xs : List α} (h : Rd w enc 1 (some ⟨b, off, none⟩) xs) (j : Nat) (hj : j < xs.length) : Rd w enc 1 (some ⟨b, off + j, none⟩) (xs.drop j) := by
  refine ⟨by have := h.big; simp; omega, fun h0 => ?_⟩
  obtain ⟨b', off', e, hb, hc⟩ := h.row (by omega)
  simp only [Option.some.injEq, Addr.mk.injEq, and_true] at e
  obtain ⟨rfl, rfl⟩ := e
  refine ⟨b, off + j, rfl, hb, fun i hi n v hv => ?_⟩
  rw [List.length_drop] at hi
  rw [List.getElem_drop] at hv
  have := hc (j + i) (by omega) n v hv
  rw [show off + j + i * 1 + n = off + (j + i) * 1 + n by omega]
  exact this
theorem all_take' {l : List Int} {p : Int → Bool} (h : ∀ x ∈ l, p x = true) (k : Nat) : ∀ x ∈ l.take k, p x = true := fun x hx => h x (List.mem_of_mem_take hx)
theorem all_drop' {l : List Int} {p : Int → Bool} (h : ∀ x ∈ l, p x = true) (k : Nat) : ∀ x ∈ l.drop k, p x = true := fun x hx => h x (List.mem_of_mem_drop hx)
set_option maxRecDepth 20000 in
set_option maxHeartbeats 1000000 in
theorem root_any : ∀ (n : Nat) (l : List Int) (A : Option Addr) (c : Nat) (w : World), l.length = n → n ≤ 64 → l.length ≤ c → Rd w encInt 1 A l → (∀ x ∈ l, sumB x = true) →
    Calls Tryd.prog 49 #[.slice A l.length c] w fun e w' => e = .returned (.int .i64 (rootL l)) ∧ Below w.heap.size w w' := by
  intro n
  induction n using Nat.strongRecOn with
  | _ n ih =>
    intro l A c w hn h64 hc H hb
    rcases Nat.lt_or_ge l.length 2 with h2 | h2
    · rcases Nat.lt_or_ge l.length 1 with h1 | h1
      · have HR := Go.Lib.hid (root_zero l (by omega))
        have h0 : l.length = 0 := by omega
        clear H hb ih
        rw [h0]
        clear hn h64 hc h2 h1 h0
        go_enter Tryd.func49, Tryd.ntmps49
        go_wp2
        go_ret
        exact ⟨ri (by rw [HR.out]), Below.refl _ _⟩
      · have HR := Go.Lib.hid (root_one l (by omega))
        have h0 : l.length = 1 := by omega
        obtain ⟨b0, off, rfl, hb0, hcc⟩ := H.at_ 0 (by omega)
        have q0 := hcc 0 _ rfl
        have HV := Go.Lib.hid (show l[0]'(by omega) = l.headD 0 by
          cases l with
          | nil => simp at h1
          | cons x t => rfl)
        generalize l[0]'(by omega) = x at q0 HV
        simp only [Nat.zero_mul, Nat.add_zero] at q0
        have hc1 : 1 ≤ c := by omega
        rw [h0]
        clear hcc H hb ih hn h64 hc h2 h1 h0
        go_enter Tryd.func49, Tryd.ntmps49
        go_wp2
        go_ret
        exact ⟨ri (by rw [HR.out, ← HV.out]), Below.refl _ _⟩
    · obtain ⟨hs1, hs2⟩ := split_bd l.length h2
      have HR := Go.Lib.hid (root_two l h2)
      obtain ⟨b0, off, rfl, hb0, hcc⟩ := H.at_ 0 (by omega)
      clear hcc
      have hsp := fun W => split_any l.length h2 (by omega) W
      have e1 : (l.take (splitN l.length)).length = splitN l.length := by rw [List.length_take]; omega
      have e2 : (l.drop (splitN l.length)).length = l.length - splitN l.length := List.length_drop
      have r1 := fun W (hW : Below w.heap.size w W) => ih (splitN l.length) (by omega) (l.take (splitN l.length)) (some ⟨b0, off, none⟩) c W e1 (by omega) (by omega) ((H.below hW).take_ _ (by omega)) (all_take' hb _)
      have r2 := fun W (hW : Below w.heap.size w W) => ih (l.length - splitN l.length) (by omega) (l.drop (splitN l.length)) (some ⟨b0, off + splitN l.length, none⟩) (c - splitN l.length) W e2 (by omega) (by omega) ((H.below hW).drop_ _ hs2) (all_drop' hb _)
      have s1 := rootL_bd _ _ rfl (all_take' hb (splitN l.length))
      have s2 := rootL_bd _ _ rfl (all_drop' hb (splitN l.length))
      have hj := fun W => join_any _ _ s1 s2 W
      rw [e1] at r1
      rw [e2] at r2
      clear s1 s2 e1 e2 hb H ih
      generalize splitN l.length = m at *
      generalize rootL (l.take m) = x at *
      generalize rootL (l.drop m) = y at *
      generalize joinZ x y = z at *
      generalize hL : l.length = L at *
      clear hL hn
      have t0 : ¬ ((L : Nat) : Int) = 0 := by omega
      have t1 : ¬ ((L : Nat) : Int) = 1 := by omega
      have t2 : (m : Int) ≤ (c : Int) := by omega
      have t3 : (m : Int) ≤ (L : Int) := by omega
      have t4 : ¬ c = m := by omega
      have r1' := fun p => r1 (rg w p) (rg_below w p)
      have r2' := fun p => r2 (rg w p) (rg_below w p)
      clear r1 r2
      go_enter Tryd.func49, Tryd.ntmps49
      go_wp2_with (go_at_call 79; refine (hsp _).mono ?_; rintro e w' ⟨rfl, rfl⟩)
      ((with_reducible refine wp_region_rg (by kernel_rfl) (by kernel_rfl) ?_); (repeat (first | go_big_quiet_step ((first | (go_at_call 49; first | with_reducible exact rg_of (r1' _) | with_reducible exact rg_of (r2' _)) | (go_at_call 48; with_reducible exact rg_of_same (hj _)))) | quiet_step ((first | (go_at_call 49; first | with_reducible exact rg_of (r1' _) | with_reducible exact rg_of (r2' _)) | (go_at_call 48; with_reducible exact rg_of_same (hj _)))))); refine wpQuiet_nil ?_; intro _ hw'; obtain ⟨prg, hw''⟩ := hw'; subst hw'')
      go_wp2
      go_ret
      exact ⟨ri (by rw [HR.out]), rg_below _ _⟩
abbrev by_ (s : ByteArray) : List UInt8 := s.data.toList
abbrev leavesL (xs : List ByteArray) : List Int := xs.map fun s => leafL (by_ s)
theorem leaves_bd (xs : List ByteArray) : ∀ x ∈ leavesL xs, sumB x = true := by
  intro x hx
  obtain ⟨s, _, rfl⟩ := List.mem_map.1 hx
  exact leafL_bd _
theorem all_take_ {α : Type} (p : α → Bool) (xs : List α) (k : Nat) (h : k < xs.length) : (xs.take (k + 1)).all p = ((xs.take k).all p && p xs[k]) := by
  rw [List.take_succ_eq_append_getElem h, List.all_append]; simp
theorem all_false_ {α : Type} (p : α → Bool) (xs : List α) (k : Nat) (h : k < xs.length) (hp : p xs[k] = false) : xs.all p = false := by
  cases hx : xs.all p
  · rfl
  · rw [List.all_eq_true.1 hx _ (List.getElem_mem h)] at hp; cases hp
theorem map_take_succ {α β : Type} (f : α → β) (xs : List α) (k : Nat) (h : k < xs.length) : (xs.take (k + 1)).map f = (xs.take k).map f ++ [f xs[k]] := by
  rw [List.take_succ_eq_append_getElem h, List.map_append]; rfl
def OwnInts (L : List Int) (w : World) (e : Ending) (w' : World) : Prop := ∃ A c, L.length ≤ c ∧ e = .returned (.slice A L.length c) ∧ Rd w' encInt 1 A L ∧ Below w.heap.size w w'
set_option maxRecDepth 20000 in
set_option maxHeartbeats 1000000 in
theorem leaves_any (xs : List ByteArray) (la : Option Addr) (c : Nat) (w : World) (H : Rd w encStr 1 la xs) (h9 : ∀ s ∈ xs, s.size ≤ 1000000) :
    Calls Tryd.prog 50 #[.slice la xs.length c] w (OwnInts (leavesL xs) w) := by
  have big := H.big
  go_enter Tryd.func50, Tryd.ntmps50
  go_wp2_with fail
  go_loopg [3, 8] xs.length (fun gg s3 s8 wr => ∃ k : Nat, k ≤ xs.length ∧ xs.length - k ≤ gg ∧ s8 = .int .i64 k ∧ Aside (wr.ownsRow w.heap.size 3 1 s3 k ((leavesL (xs.take k)).flatMap encInt)) ∧ Aside (Below w.heap.size w wr))
  case atStart => exact ⟨0, Nat.zero_le _, by omega, rfl, World.ownsRow_nil _ _ _ _, Below.refl _ _⟩
  case round =>
    obtain ⟨k, hk, hg, rfl, HO, HB⟩ := hrel
    by_cases hlt : k < xs.length
    · have hltz : (k : Int) < (xs.length : Int) := by omega
      obtain ⟨b0, off, rfl, hb0, hc⟩ := (H.below HB.out).at_ k hlt
      have q0 := hc 0 _ rfl
      simp only [Nat.mul_one, Nat.add_zero] at q0
      have HT := Go.Lib.hid (map_take_succ (fun s => leafL (by_ s)) xs k hlt)
      have hlf := fun W => leaf_any xs[k] (h9 _ (List.getElem_mem hlt)) W
      have hsz := HB.out.size
      generalize xs[k] = x at *
      generalize leafL (by_ x) = y at *
      clear hc H h9
      go_wp2_with (first | (go_at_call 46; refine (hlf _).mono ?_; rintro e w2 ⟨rfl, hb2⟩; have hsz2 := hb2.size) | (at_builtin; (refine app_own (w0 := w) w.heap.size rfl _ _ 37 3 (.int .i64 0) 1 8 rfl Tryd.underlying37 (by kernel_rfl) rfl (by decide) (by decide) u3 _ _ [.int .i64 y] rfl rfl rfl (by simp [Value.oneCell']) (own_blw HO.out hb2) (blw_call hb2 HB.out) (by omega) (by omega) ?_); intro v1 w3 ho1 hb3 _ _))
      go_roundg (xs.length - (k + 1))
      case measure => omega
      case rel =>
        refine ⟨k + 1, by omega, by omega, by go_num, ?_, hb3⟩
        rw [leavesL, HT.out, List.flatMap_append]
        exact ho1
    · have hltz : ¬ (k : Int) < (xs.length : Int) := by omega
      obtain rfl : k = xs.length := by omega
      have hlen : (leavesL xs).length = xs.length := by simp
      have HO2 : wr.ownsRow w.heap.size 3 1 u3 (leavesL xs).length ((leavesL xs).flatMap encInt) := by
        have := HO.out
        rw [List.take_of_length_le (Nat.le_refl _)] at this
        rw [hlen]; exact this
      obtain ⟨A, cc, rfl, hcc, hr⟩ := own_rdc (enc := encInt) (fun _ => rfl) (by omega) HO2
      have HR := asd hr
      have HC := asd hcc
      clear hr HO2 hcc H
      go_wp2
      go_ret
      exact ⟨A, cc, HC.out, (by rw [hlen]; rfl), HR.out, HB.out⟩
set_option maxRecDepth 20000 in
set_option maxHeartbeats 1000000 in
theorem vp_any (xs : List ByteArray) (la : Option Addr) (c : Nat) (w : World) (H : Rd w encStr 1 la xs) :
    Calls Tryd.prog 30 #[.slice la xs.length c] w fun e w' => e = .returned (.int .i64 (validP (xs.map by_))) ∧ Below w.heap.size w w' := by
  by_cases hL : 64 < xs.length
  · have hL2 : (64 : Int) < (xs.length : Int) := by omega
    have hv : validP (xs.map by_) = 3 := by unfold validP; rw [if_pos (by simpa using hL)]
    rw [hv]
    clear hv H
    go_enter Tryd.func30, Tryd.ntmps30
    go_wp2
    go_ret
    exact ⟨rfl, Below.refl _ _⟩
  have hL2 : ¬ (64 : Int) < (xs.length : Int) := by omega
  have HV := Go.Lib.hid (show validP (xs.map by_) = if xs.all (fun s => pageL (by_ s)) then 0 else 1 by unfold validP; rw [if_neg (by simpa using hL), List.all_map]; rfl)
  go_enter Tryd.func30, Tryd.ntmps30
  go_wp2_with fail
  go_loopg [10] xs.length (fun gg s10 wr => ∃ k : Nat, k ≤ xs.length ∧ xs.length - k ≤ gg ∧ s10 = .int .i64 k ∧ Aside ((xs.take k).all (fun s => pageL (by_ s)) = true) ∧ Aside (Below w.heap.size w wr))
  case atStart => exact ⟨0, Nat.zero_le _, by omega, rfl, rfl, Below.refl _ _⟩
  case round =>
    obtain ⟨k, hk, hg, rfl, HA, HB⟩ := hrel
    have big := H.big
    by_cases hlt : k < xs.length
    · have hltz : (k : Int) < (xs.length : Int) := by omega
      obtain ⟨b0, off, rfl, hb0, hc⟩ := (H.below HB.out).at_ k hlt
      have q0 := hc 0 _ rfl
      simp only [Nat.mul_one, Nat.add_zero] at q0
      have HT := Go.Lib.hid (all_take_ (fun s => pageL (by_ s)) xs k hlt)
      have HF := Go.Lib.hid (all_false_ (fun s => pageL (by_ s)) xs k hlt)
      have hpg := fun W => page_any xs[k] W
      generalize xs[k] = x at *
      clear hc H
      cases hx : pageL (by_ x)
      all_goals
        rw [show pageL x.data.toList = _ from hx] at hpg
        have HX := asd hx
        clear hx
        go_wp2_with (go_at_call 45; refine (hpg _).mono ?_; rintro e w2 ⟨rfl, hb2⟩)
      · go_ret
        exact ⟨ri (by rw [HV.out, HF.out HX.out]; rfl), blw_call hb2 HB.out⟩
      · go_roundg (xs.length - (k + 1))
        case measure => omega
        case rel => exact ⟨k + 1, by omega, by omega, by go_num, asd (by rw [HT.out, HA.out, HX.out]; rfl), blw_call hb2 HB.out⟩
    · have hltz : ¬ (k : Int) < (xs.length : Int) := by omega
      have e0 : xs.take k = xs := List.take_of_length_le (by omega)
      rw [e0] at HA
      clear H
      go_wp2
      go_ret
      exact ⟨ri (by rw [HV.out, HA.out]; rfl), HB.out⟩
end Go.Proofs.YthfdlfdbjiofhaaDoor
