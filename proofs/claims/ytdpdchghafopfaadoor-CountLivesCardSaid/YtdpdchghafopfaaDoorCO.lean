/- The argument opened: a slice of strings. -/
import Derived.Test.YtdpdchghafopfaaDoorC8
import Derived.ProofKit
import Derived.OpenShut
import Derived.ChangeArms
import Derived.WideShapes
import Derived.DataReads
import Derived.SliceStrings
import Derived.SizedLaws
set_option linter.unusedVariables false
set_option linter.unusedSimpArgs false
namespace Go.Proofs.YtdpdchghafopfaaDoor
open Go.ChangeShapes Go.WideShapes Go.ChangeAt Go.RowKit Go.Proofs.YtdpdchghafopfaaDoorW.PrintWords
section
variable {H : Type} {enc : TypeId × Value → H} {w : World} {sp : Nat → Bool} {held : Bool}
theorem open_strsC {fuel : Nat} {cs : List Value} {x : DataW H × List MemPlace} (h : DataW.trod enc Tryd.prog w 0 sp held fuel 22 cs = some x) :
    ∃ (xs : List ByteArray) (a : Option Addr) (c : Nat), cs = [.slice a xs.length c] ∧ xs.length ≤ c ∧ Kd.C Kd.string w a xs.length xs ∧ (xs.length ≤ 1000000 → Rd w encStr 1 a xs) ∧ (x.1 = .nil ∧ xs.length = 0 ∨ ∃ e s, x.1 = .slice e s ∧ e.length = xs.length) := by
  rcases open_strings Tryd.underlying22 Tryd.underlying9 (by kernel_rfl) h with ⟨rfl, rfl⟩ | ⟨a, len, cap, ss, rfl, _, hl, hm, hlen, rfl, hcell, hsz⟩
  · exact ⟨[], none, 0, rfl, Nat.le_refl _, ⟨rfl, by simp, fun h => absurd h (by simp)⟩, fun _ => ⟨by simp, fun h => absurd h (by simp)⟩, .inl ⟨rfl, rfl⟩⟩
  · have hls : len ≤ ss.length := by rw [hlen]; split <;> omega
    have hxl : (ss.take len).length = len := by rw [List.length_take]; omega
    have cell : ∀ j (hj : j < (ss.take len).length), w.cell? (a.add j) = some (.string (ss.take len)[j]) := by
      intro j hj
      rw [hxl] at hj
      rw [hcell j (by omega)]
      congr 2
      rw [List.getElem_take, List.getD_eq_getElem?_getD, List.getElem?_eq_getElem (by omega)]; rfl
    refine ⟨ss.take len, some a, cap, by rw [hxl], by rw [hxl]; exact hl, ⟨rfl, by rw [hxl]; unfold maxLen at hm; omega, fun _ => ⟨a, rfl, fun j p hp => ?_⟩⟩, fun hbig => ⟨hbig, fun h0 => ?_⟩, .inr ⟨_, _, rfl, by simp [strs]⟩⟩
    · obtain ⟨hj, rfl⟩ := List.getElem?_eq_some_iff.1 hp
      refine ⟨[.string (ss.take len)[j]], rfl, rfl, fun i u hu => ?_⟩
      have hi : i = 0 := by
        cases i with
        | zero => rfl
        | succ i => simp at hu
      subst hi
      simp only [List.getElem?_cons_zero, Option.some.injEq] at hu
      subst hu
      exact (by simpa [Kd.string, Kd.scalar] using cell j hj)
    · have h1 := cell 0 h0
      obtain ⟨b, off, spot⟩ := a
      have hspot : spot = none := by simpa [Addr.add] using World.cell?_spot h1
      subst hspot
      refine ⟨b, off, rfl, ?_, fun j hj i v hv => ?_⟩
      · rw [addr_none'] at h1; exact World.block_lt_of_cell? w _ h1
      · have := cell j hj
        rw [addr_none'] at this
        cases i with
        | zero => simp [encStr] at hv; subst hv; simpa using this
        | succ i => simp [encStr] at hv
end
end Go.Proofs.YtdpdchghafopfaaDoor
