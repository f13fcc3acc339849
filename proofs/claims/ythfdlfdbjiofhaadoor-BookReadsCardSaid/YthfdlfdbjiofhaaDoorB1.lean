/- Pages and sums: the program's IsPage, leaf, isSum, join. -/
import Derived.Test.YthfdlfdbjiofhaaDoorA1
import Derived.Test.YthfdlfdbjiofhaaDoorB0
import Derived.Lib.ConvBytes
import Derived.Lib.AtoiErrMem
set_option linter.unusedVariables false
set_option linter.unusedSimpArgs false
namespace Go.Proofs.YthfdlfdbjiofhaaDoor
open Go.RowKit
def encB (c : UInt8) : List Value := [.int .u8 c.toNat]
theorem bw_rd (W : World) (e : TypeId) (s : ByteArray) (h : s.size ≤ 1000000) : Rd (Lib.bytesWorld W e s) encB 1 (some ⟨W.heap.size, 0, none⟩) s.data.toList := by
  refine ⟨by simpa using h, fun _ => ⟨_, 0, rfl, by rw [Lib.bytesWorld_size]; omega, fun j hj i v hv => ?_⟩⟩
  have hj' : j < s.size := by simpa using hj
  cases i with
  | zero =>
    simp [encB] at hv
    subst hv
    rw [show 0 + j * 1 + 0 = j by omega, Lib.bytesWorld_cell W e s j hj']
    congr 2
    rw [List.getD_eq_getElem?_getD, List.getElem?_eq_getElem hj]; rfl
  | succ i => simp [encB] at hv
theorem bw_below (W : World) (e : TypeId) (s : ByteArray) : Below W.heap.size W (Lib.bytesWorld W e s) := Lib.bytesWorld_below W e s
set_option maxRecDepth 20000 in
set_option maxHeartbeats 400000 in
theorem indexB_any (g : Nat) (eg : ∀ args w, (callFunc g args).run Tryd.prog w = .ok (.enter g args) w) (p : UInt8 → Bool) (xs : List UInt8) (la : Option Addr) (c : Nat) (w : World) (H : Rd w encB 1 la xs)
    (hp : ∀ x : UInt8, ∀ W, Calls Tryd.prog g #[.int .u8 x.toNat] W fun e w' => e = .returned (.bool (p x)) ∧ W = w') :
    Calls Tryd.prog 105 #[.slice la xs.length c, FnV g] w (IdxPost (xs.any p) w) := by
  go_enter Tryd.func105, Tryd.ntmps105
  go_wp2_with fail
  go_loopg [5, 8] xs.length (fun gg _ s8 wr => ∃ k : Nat, k ≤ xs.length ∧ xs.length - k ≤ gg ∧ s8 = .int .i64 k ∧ Aside ((xs.take k).any p = false) ∧ Aside (wr = w))
  case atStart => exact ⟨0, Nat.zero_le _, by omega, rfl, rfl, rfl⟩
  case round =>
    obtain ⟨k, hk, hg, rfl, HA, HB⟩ := hrel
    obtain rfl := HB.out
    have big := H.big
    by_cases hlt : k < xs.length
    · have hltz : (k : Int) < (xs.length : Int) := by omega
      obtain ⟨b0, off, rfl, hb0, hc⟩ := H.at_ k hlt
      have q0 := hc 0 _ rfl
      have hcall := hp xs[k]
      have HT := Go.Lib.hid (idx_any p xs k hlt)
      have HF := Go.Lib.hid (any_hit p xs k hlt)
      generalize xs[k] = x at q0 HT HF hcall
      rw [Nat.mul_one, Nat.add_zero] at q0
      clear hc H hp
      cases hx : p x
      all_goals
        rw [hx] at hcall
        go_wp2_with (go_at_fn g; refine (hcall _).mono ?_; rintro e w' ⟨rfl, rfl⟩)
      · go_roundg (xs.length - (k + 1))
        case measure => omega
        case rel => exact ⟨k + 1, by omega, by omega, by go_num, (by rw [HT.out, HA.out, hx]; rfl), rfl⟩
      · go_ret
        exact ⟨_, rfl, (by rw [HF.out hx]; simp), rfl⟩
    · have hltz : ¬ (k : Int) < (xs.length : Int) := by omega
      have e0 : xs.take k = xs := List.take_of_length_le (by omega)
      rw [e0] at HA
      clear hp H
      go_wp2
      go_ret
      exact ⟨_, rfl, (by rw [HA.out]; rfl), rfl⟩
theorem containsB_any (g : Nat) (eg : ∀ args w, (callFunc g args).run Tryd.prog w = .ok (.enter g args) w) (p : UInt8 → Bool) (xs : List UInt8) (la : Option Addr) (c : Nat) (w : World) (H : Rd w encB 1 la xs)
    (hp : ∀ x : UInt8, ∀ W, Calls Tryd.prog g #[.int .u8 x.toNat] W fun e w' => e = .returned (.bool (p x)) ∧ W = w') :
    Calls Tryd.prog 75 #[.slice la xs.length c, FnV g] w fun e w' => e = .returned (.bool (xs.any p)) ∧ w = w' := by
  have hi := indexB_any g eg p xs la c w H hp
  clear hp H
  generalize xs.any p = bb at hi
  go_enter Tryd.func75, Tryd.ntmps75
  go_wp2_with (go_at_call 105; refine hi.mono ?_; rintro e w' ⟨r, rfl, hr, rfl⟩; clear hi)
  go_ret
  exact ⟨rfl, rfl⟩
set_option maxRecDepth 20000 in
set_option maxHeartbeats 400000 in
theorem indexI_any (g : Nat) (eg : ∀ args w, (callFunc g args).run Tryd.prog w = .ok (.enter g args) w) (p : Int → Bool) (xs : List Int) (la : Option Addr) (c : Nat) (w : World) (H : Rd w encInt 1 la xs)
    (hp : ∀ x : Int, ∀ W, Calls Tryd.prog g #[.int .i64 x] W fun e w' => e = .returned (.bool (p x)) ∧ W = w') :
    Calls Tryd.prog 106 #[.slice la xs.length c, FnV g] w (IdxPost (xs.any p) w) := by
  go_enter Tryd.func106, Tryd.ntmps106
  go_wp2_with fail
  go_loopg [5, 8] xs.length (fun gg _ s8 wr => ∃ k : Nat, k ≤ xs.length ∧ xs.length - k ≤ gg ∧ s8 = .int .i64 k ∧ Aside ((xs.take k).any p = false) ∧ Aside (wr = w))
  case atStart => exact ⟨0, Nat.zero_le _, by omega, rfl, rfl, rfl⟩
  case round =>
    obtain ⟨k, hk, hg, rfl, HA, HB⟩ := hrel
    obtain rfl := HB.out
    have big := H.big
    by_cases hlt : k < xs.length
    · have hltz : (k : Int) < (xs.length : Int) := by omega
      obtain ⟨b0, off, rfl, hb0, hc⟩ := H.at_ k hlt
      have q0 := hc 0 _ rfl
      have hcall := hp xs[k]
      have HT := Go.Lib.hid (idx_any p xs k hlt)
      have HF := Go.Lib.hid (any_hit p xs k hlt)
      generalize xs[k] = x at q0 HT HF hcall
      rw [Nat.mul_one, Nat.add_zero] at q0
      clear hc H hp
      cases hx : p x
      all_goals
        rw [hx] at hcall
        go_wp2_with (go_at_fn g; refine (hcall _).mono ?_; rintro e w' ⟨rfl, rfl⟩)
      · go_roundg (xs.length - (k + 1))
        case measure => omega
        case rel => exact ⟨k + 1, by omega, by omega, by go_num, (by rw [HT.out, HA.out, hx]; rfl), rfl⟩
      · go_ret
        exact ⟨_, rfl, (by rw [HF.out hx]; simp), rfl⟩
    · have hltz : ¬ (k : Int) < (xs.length : Int) := by omega
      have e0 : xs.take k = xs := List.take_of_length_le (by omega)
      rw [e0] at HA
      clear hp H
      go_wp2
      go_ret
      exact ⟨_, rfl, (by rw [HA.out]; rfl), rfl⟩
theorem containsI_any (g : Nat) (eg : ∀ args w, (callFunc g args).run Tryd.prog w = .ok (.enter g args) w) (p : Int → Bool) (xs : List Int) (la : Option Addr) (c : Nat) (w : World) (H : Rd w encInt 1 la xs)
    (hp : ∀ x : Int, ∀ W, Calls Tryd.prog g #[.int .i64 x] W fun e w' => e = .returned (.bool (p x)) ∧ W = w') :
    Calls Tryd.prog 77 #[.slice la xs.length c, FnV g] w fun e w' => e = .returned (.bool (xs.any p)) ∧ w = w' := by
  have hi := indexI_any g eg p xs la c w H hp
  clear hp H
  generalize xs.any p = bb at hi
  go_enter Tryd.func77, Tryd.ntmps77
  go_wp2_with (go_at_call 106; refine hi.mono ?_; rintro e w' ⟨r, rfl, hr, rfl⟩; clear hi)
  go_ret
  exact ⟨rfl, rfl⟩
theorem badC_any (x : UInt8) (w : World) : Calls Tryd.prog 76 #[.int .u8 x.toNat] w fun e w' => e = .returned (.bool (!okC x)) ∧ w = w' := by
  have HF := Go.Lib.hid (show okC x = (decide (32 ≤ x.toNat) && decide (x.toNat ≤ 126)) from rfl)
  have hx := x.toNat_lt
  generalize x.toNat = n at *
  by_cases h1 : (n : Int) < 32
  all_goals
    go_enter Tryd.func76, Tryd.ntmps76
    go_wp2
    go_ret
    refine ⟨rb ?_, rfl⟩
    rw [HF.out, Bool.eq_iff_iff]
    simp only [Bool.not_eq_true', Bool.and_eq_false_iff, decide_eq_true_eq, decide_eq_false_iff_not, true_iff]
    omega
theorem page_any (s : ByteArray) (w : World) : Calls Tryd.prog 45 #[.string s] w fun e w' => e = .returned (.bool (pageL s.data.toList)) ∧ Below w.heap.size w w' := by
  have HF := Go.Lib.hid (show pageL s.data.toList = (decide (1 ≤ s.size) && (decide (s.size ≤ 60) && s.data.toList.all okC)) by unfold pageL; simp)
  by_cases h1 : 1 ≤ s.size
  case neg =>
    have h1z : ¬ (1 : Int) ≤ (s.size : Int) := by omega
    have h1d : decide ((1 : Int) ≤ (s.size : Int)) = false := by simpa using h1z
    go_enter Tryd.func45, Tryd.ntmps45
    go_wp2
    go_ret
    exact ⟨rb (by rw [HF.out]; simp [h1]), Below.refl _ _⟩
  case pos =>
    have h1z : (1 : Int) ≤ (s.size : Int) := by omega
    by_cases h2 : s.size ≤ 60
    case neg =>
      have h2z : ¬ (s.size : Int) ≤ 60 := by omega
      go_enter Tryd.func45, Tryd.ntmps45
      go_wp2
      go_ret
      exact ⟨rb (by rw [HF.out]; simp [h2]), Below.refl _ _⟩
    case pos =>
      have h2z : (s.size : Int) ≤ 60 := by omega
      have kcv := fun (W : World) => Lib.run_convert_string_bytes (P := Tryd.prog) W 9 91 5 s Tryd.underlying9 Tryd.underlying91 Tryd.underlying5
      have hcf := fun (W : World) => containsB_any 76 (enters_of Tryd.func76 (by kernel_rfl) rfl) (fun c => !okC c) s.data.toList (some ⟨W.heap.size, 0, none⟩) (grownCap W s.size 0 5) (Lib.bytesWorld W 5 s) (bw_rd W 5 s (by omega)) badC_any
      have hl : s.data.toList.length = s.size := by simp
      rw [hl] at hcf
      have hall := any_not okC s.data.toList
      rw [hall] at hcf
      clear hl hall
      generalize s.data.toList.all okC = r at *
      go_enter Tryd.func45, Tryd.ntmps45
      go_wp2_with (go_at_call 75; refine (hcf _).mono ?_; rintro e w' ⟨rfl, rfl⟩)
      go_ret
      exact ⟨rb (by rw [HF.out]; simp [h1, h2]), bw_below _ _ _⟩
set_option maxRecDepth 20000 in
set_option maxHeartbeats 400000 in
theorem leaf_any (s : ByteArray) (hs : s.size ≤ 1000000) (w : World) : Calls Tryd.prog 46 #[.string s] w fun e w' => e = .returned (.int .i64 (leafL s.data.toList)) ∧ Below w.heap.size w w' := by
  have kcv := fun (W : World) => Lib.run_convert_string_bytes (P := Tryd.prog) W 9 91 5 s Tryd.underlying9 Tryd.underlying91 Tryd.underlying5
  have H := bw_rd w 5 s hs
  have hl : s.data.toList.length = s.size := by simp
  have hb := bw_below w 5 s
  go_enter Tryd.func46, Tryd.ntmps46
  go_wp2_with fail
  go_loopg [3, 9] s.size (fun gg s3 s9 wr => ∃ k : Nat, k ≤ s.size ∧ s.size - k ≤ gg ∧ s9 = .int .i64 k ∧ s3 = .int .i64 (leafL (s.data.toList.take k)) ∧ Aside (wr = Lib.bytesWorld w 5 s))
  case atStart => exact ⟨0, Nat.zero_le _, by omega, rfl, rfl, rfl⟩
  case round =>
    obtain ⟨k, hk, hg, rfl, rfl, HB⟩ := hrel
    have e := HB.out
    subst e
    have hbd := sumB_iff.1 (leafL_bd (s.data.toList.take k))
    by_cases hlt : k < s.size
    · have hltz : (k : Int) < (s.size : Int) := by omega
      obtain ⟨b0, off, e2, hb0, hc⟩ := H.at_ k (by omega)
      simp only [Option.some.injEq, Addr.mk.injEq, and_true] at e2
      obtain ⟨rfl, rfl⟩ := e2
      have q0 := hc 0 _ rfl
      simp only [Nat.zero_add, Nat.mul_one, Nat.add_zero] at q0
      have HT := Go.Lib.hid (leaf_take s.data.toList k (by omega))
      have hx := (s.data.toList[k]'(by omega)).toNat_lt
      generalize s.data.toList[k]'(by omega) = x at q0 HT hx
      generalize leafL (s.data.toList.take k) = y at *
      unfold leafStep at HT
      unfold Pm at HT hbd
      generalize x.toNat = n at *
      have hsz : w.heap.size < (Lib.bytesWorld w 5 s).heap.size := hb0
      clear hc H kcv
      go_wp2
      go_roundg (s.size - (k + 1))
      case measure => omega
      case rel => exact ⟨k + 1, by omega, by omega, by go_num, (by rw [HT.out]), rfl⟩
    · have hltz : ¬ (k : Int) < (s.size : Int) := by omega
      have e0 : s.data.toList.take k = s.data.toList := List.take_of_length_le (by omega)
      rw [e0]
      clear H kcv
      go_wp2
      go_ret
      exact ⟨rfl, hb⟩
theorem badI_any (x : Int) (w : World) : Calls Tryd.prog 78 #[.int .i64 x] w fun e w' => e = .returned (.bool (!sumB x)) ∧ w = w' := by
  have HF := Go.Lib.hid (show sumB x = (decide (0 ≤ x) && decide (x < 2147483647)) from rfl)
  by_cases h1 : x < 0
  all_goals
    go_enter Tryd.func78, Tryd.ntmps78
    go_wp2
    go_ret
    refine ⟨rb ?_, rfl⟩
    rw [HF.out, Bool.eq_iff_iff]
    simp only [Bool.not_eq_true', Bool.and_eq_false_iff, decide_eq_true_eq, decide_eq_false_iff_not, true_iff]
    omega
theorem isSum_any (xs : List Int) (la : Option Addr) (c : Nat) (w : World) (H : Rd w encInt 1 la xs) : Calls Tryd.prog 47 #[.slice la xs.length c] w fun e w' => e = .returned (.bool (xs.all sumB)) ∧ w = w' := by
  have hcf := containsI_any 78 (enters_of Tryd.func78 (by kernel_rfl) rfl) (fun x => !sumB x) xs la c w H badI_any
  have hall := any_not sumB xs
  rw [hall] at hcf
  clear hall H
  generalize xs.all sumB = r at *
  go_enter Tryd.func47, Tryd.ntmps47
  go_wp2_with (go_at_call 77; refine hcf.mono ?_; rintro e w' ⟨rfl, rfl⟩)
  go_ret
  exact ⟨rb (by simp), rfl⟩
theorem join_any (x y : Int) (hx : sumB x = true) (hy : sumB y = true) (w : World) : Calls Tryd.prog 48 #[.int .i64 x, .int .i64 y] w fun e w' => e = .returned (.int .i64 (joinZ x y)) ∧ w = w' := by
  obtain ⟨a, b⟩ := sumB_iff.1 hx
  obtain ⟨c, d⟩ := sumB_iff.1 hy
  unfold Pm at b d
  go_enter Tryd.func48, Tryd.ntmps48
  go_wp2
  go_ret
  exact ⟨rfl, rfl⟩
end Go.Proofs.YthfdlfdbjiofhaaDoor
