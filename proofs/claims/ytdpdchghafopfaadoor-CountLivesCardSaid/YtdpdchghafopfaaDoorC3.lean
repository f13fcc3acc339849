/- What a bird's history says of a day: the program's small functions. -/
import Derived.Test.YtdpdchghafopfaaDoorRows
import Derived.Test.YtdpdchghafopfaaDoorK
import Derived.Test.YtdpdchghafopfaaDoorC0
import Derived.Test.YtdpdchghafopfaaDoorLay
set_option linter.unusedVariables false
set_option linter.unusedSimpArgs false
namespace Go.Proofs.YtdpdchghafopfaaDoor
open Go.RowKit
theorem idx_mem (l : List UInt8) (c : UInt8) : (0 ≤ Lib.indexByte l c) ↔ c ∈ l := by
  have h := Lib.contains_iff_indexByte l c
  rw [List.contains_eq_mem, decide_eq_decide] at h
  exact h.symm
theorem mem_caught {s : ByteArray} {a b : Nat} (hb : b ≤ s.size) : (49 : UInt8) ∈ (s.data.toList.drop a).take (b - a) ↔ caughtB s a b = true := by
  rw [caughtB_iff, List.mem_iff_getElem?]
  constructor
  · rintro ⟨i, hi⟩
    rw [List.getElem?_take] at hi
    split at hi
    · rename_i hlt
      rw [List.getElem?_drop] at hi
      refine ⟨a + i, by omega, by omega, ?_⟩
      unfold hitB
      rw [List.getD_eq_getElem?_getD, hi]; rfl
    · cases hi
  · rintro ⟨d, h1, h2, h3⟩
    refine ⟨d - a, ?_⟩
    rw [List.getElem?_take, if_pos (by omega), List.getElem?_drop]
    have hd := hitB_lt h3
    unfold hitB at h3
    rw [List.getD_eq_getElem?_getD] at h3
    have e : a + (d - a) = d := by omega
    rw [e, List.getElem?_eq_getElem (by simpa using hd)] at *
    simpa using h3
theorem cont_caught {s : ByteArray} {a b : Nat} (hb : b ≤ s.size) : decide (0 ≤ Lib.indexByte (s.extract a b).data.toList 49) = caughtB s a b := by
  rw [Bool.eq_iff_iff, decide_eq_true_eq, idx_mem, Lib.extract_data, mem_caught hb]
theorem hit_at {s : ByteArray} {d : Nat} (h : d < s.size) : hitB s d = decide ((s[d].toNat : Int) = 49) := by
  unfold hitB
  have e : s.data.toList.getD d 0 = s[d] := by
    rw [List.getD_eq_getElem?_getD, List.getElem?_eq_getElem (by simpa using h)]; rfl
  rw [e, Bool.eq_iff_iff, beq_iff_eq, decide_eq_true_eq]
  constructor
  · intro h1; rw [h1]; rfl
  · intro h1; exact UInt8.toNat_inj.1 (by show s[d].toNat = 49; omega)
theorem on_any (s : ByteArray) (d : Nat) (hd : d < s.size) (h9 : s.size ≤ 1000) (w : World) :
    Calls Tryd.prog 32 #[.string s, .int .i64 d] w fun e w' => e = .returned (.bool (hitB s d)) ∧ w = w' := by
  have h1 : (d : Int) < (s.size : Int) := by omega
  have HF := Go.Lib.hid (hit_at hd)
  go_enter Tryd.func32, Tryd.ntmps32
  go_wp2
  go_ret
  exact ⟨rb (by rw [HF.out]; trace_state; rfl), rfl⟩
theorem ahead_any (s : ByteArray) (d : Nat) (hd : d ≤ s.size) (h9 : s.size ≤ 1000) (w : World) :
    Calls Tryd.prog 31 #[.string s, .int .i64 d] w fun e w' => e = .returned (.bool (caughtB s 0 d)) ∧ w = w' := by
  have h1 : (d : Int) ≤ (s.size : Int) := by omega
  have hc := fun W => Any.strings_Contains_one Tryd.lays144 (s.extract 0 d) 49 W
  rw [cont_caught hd] at hc
  go_enter Tryd.func31, Tryd.ntmps31
  go_wp2_with (go_at_call 39; refine (hc _).mono ?_; rintro e w' ⟨rfl, rfl⟩)
  go_ret
  exact ⟨rfl, rfl⟩
theorem later_any (s : ByteArray) (d : Nat) (hd : d < s.size) (h9 : s.size ≤ 1000) (w : World) :
    Calls Tryd.prog 69 #[.string s, .int .i64 d] w fun e w' => e = .returned (.bool (caughtB s (d + 1) s.size)) ∧ w = w' := by
  have h1 : (d : Int) + 1 ≤ (s.size : Int) := by omega
  have h2 : ((d : Int) + 1).toNat = d + 1 := by omega
  have hc := fun W => Any.strings_Contains_one Tryd.lays144 (s.extract (d + 1) s.size) 49 W
  rw [cont_caught (Nat.le_refl _)] at hc
  go_enter Tryd.func69, Tryd.ntmps69
  go_wp2_with (go_at_call 39; refine (hc _).mono ?_; rintro e w' ⟨rfl, rfl⟩)
  go_ret
  exact ⟨rfl, rfl⟩
theorem fresh_any (s : ByteArray) (d : Nat) (hd : d < s.size) (h9 : s.size ≤ 1000) (w : World) :
    Calls Tryd.prog 37 #[.string s, .int .i64 d] w fun e w' => e = .returned (.bool (freshB d s)) ∧ w = w' := by
  have h1 := fun W => on_any s d hd h9 W
  have h2 := fun W => ahead_any s d (by omega) h9 W
  unfold freshB
  generalize hitB s d = x at *
  generalize caughtB s 0 d = y at *
  cases x
  all_goals
    go_enter Tryd.func37, Tryd.ntmps37
    go_wp2_with (first | (go_at_call 32; refine (h1 _).mono ?_; rintro e w' ⟨rfl, rfl⟩) | (go_at_call 31; refine (h2 _).mono ?_; rintro e w' ⟨rfl, rfl⟩))
    go_ret
    exact ⟨rfl, rfl⟩
theorem both_any (s : ByteArray) (d : Nat) (hd : d < s.size) (h9 : s.size ≤ 1000) (w : World) :
    Calls Tryd.prog 33 #[.string s, .int .i64 d] w fun e w' => e = .returned (.bool (againB d s)) ∧ w = w' := by
  have h1 := fun W => on_any s d hd h9 W
  have h2 := fun W => ahead_any s d (by omega) h9 W
  unfold againB
  generalize hitB s d = x at *
  generalize caughtB s 0 d = y at *
  cases x
  all_goals
    go_enter Tryd.func33, Tryd.ntmps33
    go_wp2_with (first | (go_at_call 32; refine (h1 _).mono ?_; rintro e w' ⟨rfl, rfl⟩) | (go_at_call 31; refine (h2 _).mono ?_; rintro e w' ⟨rfl, rfl⟩))
    go_ret
    exact ⟨rfl, rfl⟩
theorem alive_eq {s : ByteArray} {d n : Nat} (hd : d < n) : aliveB n d s = (hitB s d || (caughtB s 0 d && caughtB s (d + 1) n)) := by
  unfold aliveB
  rw [caughtB_last (Nat.zero_le _), caughtB_first hd]
  cases hitB s d <;> simp
theorem alive_any (s : ByteArray) (d : Nat) (hd : d < s.size) (h9 : s.size ≤ 1000) (w : World) :
    Calls Tryd.prog 40 #[.string s, .int .i64 d] w fun e w' => e = .returned (.bool (aliveB s.size d s)) ∧ w = w' := by
  have h1 := fun W => on_any s d hd h9 W
  have h2 := fun W => ahead_any s d (by omega) h9 W
  have h3 := fun W => later_any s d hd h9 W
  rw [alive_eq hd]
  generalize hitB s d = x at *
  generalize caughtB s 0 d = y at *
  generalize caughtB s (d + 1) s.size = z at *
  cases x <;> cases y
  all_goals
    go_enter Tryd.func40, Tryd.ntmps40
    go_wp2_with (first | (go_at_call 32; refine (h1 _).mono ?_; rintro e w' ⟨rfl, rfl⟩) | (go_at_call 31; refine (h2 _).mono ?_; rintro e w' ⟨rfl, rfl⟩) | (go_at_call 69; refine (h3 _).mono ?_; rintro e w' ⟨rfl, rfl⟩))
    go_ret
    exact ⟨rfl, rfl⟩
end Go.Proofs.YtdpdchghafopfaaDoor
