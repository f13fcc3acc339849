/- Words for the printed functions: rounds, bytes, elements. -/
import Derived.Test.YtdpdchghafopfaaDoorC0
import Derived.Test.YtdpdchghafopfaaDoorWMore
set_option linter.unusedVariables false
set_option linter.unusedSimpArgs false
namespace Go.Proofs.YtdpdchghafopfaaDoor
open Go.RowKit Go.Proofs.YtdpdchghafopfaaDoorW.PrintWords Go.Proofs.YtdpdchghafopfaaDoorW.PrintLast Go.Proofs.YtdpdchghafopfaaDoorW.PrintMore
theorem wr_succ (a : Nat) (h : a ≤ 1000000000) : wrap64 ((a : Int) + 1) = ((a + 1 : Nat) : Int) := by unfold wrap64; omega
theorem bt_hit (s : ByteArray) (d : Nat) (h : d < s.size) : (bt s (d : Int) = 49) ↔ hitB s d = true := by
  unfold bt hitB
  simp only [Int.toNat_natCast]
  have e : s.data.toList.getD d 0 = s[d] := by
    rw [List.getD_eq_getElem?_getD, List.getElem?_eq_getElem (by simpa using h)]; rfl
  rw [dif_pos h, e, beq_iff_eq]
  constructor
  · intro h1; exact UInt8.toNat_inj.1 (by show s[d].toNat = 49; omega)
  · intro h1; rw [h1]; rfl
theorem bt_at (s : ByteArray) (d : Nat) (h : d < s.size) : bt s (d : Int) = ((s.data.toList[d]'(by simpa using h)).toNat : Int) := by
  unfold bt
  simp only [Int.toNat_natCast]
  rw [dif_pos h]; rfl
theorem rdOf_at {α : Type} (d : α) (xs : List α) (i : Nat) (h : i < xs.length) : rdOf d xs (i : Int) = xs[i] := by
  unfold rdOf
  rw [Int.toNat_natCast, List.getD_eq_getElem?_getD, List.getElem?_eq_getElem h]; rfl
theorem rdOf_0 (xs : List ByteArray) (h : 0 < xs.length) : (rdOf ByteArray.empty xs 0).size = daysH xs := by
  cases xs with
  | nil => simp at h
  | cons s t => rfl
end Go.Proofs.YtdpdchghafopfaaDoor
