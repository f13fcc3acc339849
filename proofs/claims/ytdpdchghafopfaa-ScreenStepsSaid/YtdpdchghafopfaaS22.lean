/- slices.SortFunc at points; Reach of the program. -/
import Derived.Test.YtdpdchghafopfaaS21
import Derived.Test.YtdpdchghafopfaaLay
import Derived.Shelf.SlSortCmp.NoneTotal
set_option linter.unusedVariables false
set_option linter.unusedSimpArgs false
namespace Go.Proofs.Ytdpdchghafopfaa
open Go.RowKit
def cfP (x y : Pt) : Int := firstNZ [cmpI x.1 y.1, cmpI x.2 y.2]
def ltP (x y : Pt) : Bool := decide (x.1 < y.1 ∨ (x.1 = y.1 ∧ x.2 < y.2))
theorem lt_cfP : Go.Proofs.ltOf cfP = ltP := by
  funext x y
  unfold Go.Proofs.ltOf ltP
  rw [decide_eq_decide]
  simp only [cfP, firstNZ, cmpI]
  by_cases h1 : x.1 < y.1 <;> by_cases h2 : y.1 < x.1 <;> by_cases h3 : x.2 < y.2 <;> by_cases h4 : y.2 < x.2 <;> simp [h1, h2, h3, h4] <;> omega
theorem swoP : Go.Sort.SWO (Go.Proofs.ltOf cfP) := by
  rw [lt_cfP]
  refine ⟨fun x => ?_, fun x y z h1 h2 => ?_, fun x y z h1 h2 => ?_⟩
  · simp [ltP]
  · simp only [ltP, decide_eq_true_eq] at *; omega
  · simp only [ltP, decide_eq_false_iff_not] at *; omega
theorem totP (x y : Pt) (h1 : Go.Proofs.ltOf cfP x y = false) (h2 : Go.Proofs.ltOf cfP y x = false) : x = y := by
  rw [lt_cfP] at h1 h2
  simp only [ltP, decide_eq_false_iff_not] at h1 h2
  exact Prod.ext (by omega) (by omega)
theorem cmpLaysP (blk off size : Nat) (w : World) : Go.Proofs.CmpLays Try.prog 16 #[] encP 2 cfP blk off size w :=
  fun _ _ _ _ x y => closure_any x y _
theorem holds_own {w : World} {base g n cap : Nat} {e : TypeId} {xs : List Pt} (h : w.ownsRow base e 2 (.slice (some ⟨g, 0, none⟩) n cap) n (xs.flatMap encP)) (hn : xs.length = n) : Go.Sort.HoldsK encP 2 w g 0 xs.toArray := by
  intro j hj
  rw [Go.Sort.size_flatK] at hj
  have hj' : j < xs.length * 2 := by simpa using hj
  rw [Nat.zero_add, h.cellAt j (by omega)]
  refine ⟨?_, h.frozenAt j⟩
  have hd : j / 2 < xs.length := by omega
  have h2 : ∃ v, (encP xs[j / 2])[j % 2]? = some v := by
    rcases (by omega : j % 2 = 0 ∨ j % 2 = 1) with e | e <;> rw [e] <;> exact ⟨_, rfl⟩
  obtain ⟨v, hv⟩ := h2
  have h3 := flat_at encP 2 (fun _ => rfl) xs (j / 2) hd (j % 2) v hv
  rw [show j / 2 * 2 + j % 2 = j by omega] at h3
  rw [h3]
  show some v = some ((Go.Sort.flatK encP 2 xs.toArray)[j]!)
  rw [Go.Sort.get_flatK _ _ _ _ hj]
  have e1 : xs.toArray[j / 2]! = xs[j / 2] := by simp [hd]
  rw [e1, List.getElem!_eq_getElem?_getD, hv]
  rfl
theorem sorted_world (w : World) (g n : Nat) (d d' : Array Pt) (os : Array Obj) (hH : Go.Sort.HoldsK encP 2 w g 0 d) (hs : d'.size = d.size) (hg : g < w.heap.size) (base : Nat) (hb : base ≤ g) (hbig : d'.size ≤ 1000000) :
    Rd (Go.Proofs.sortWorldK encP 2 w g 0 n d' os) encP 2 (some ⟨g, 0, none⟩) d'.toList ∧ Go.RowKit.Below base w (Go.Proofs.sortWorldK encP 2 w g 0 n d' os) := by
  have h1 : Go.Sort.HoldsK encP 2 (Go.Sort.putRowK encP 2 (Go.Sort.ahead w n) g 0 d') g 0 d' := Go.Sort.holdsK_putRowK _ _ _ _ _ _ _ (Go.Sort.holdsK_ahead _ _ _ _ _ _ _ hH) hs
  have hsz : g < (Go.Sort.putRowK encP 2 (Go.Sort.ahead w n) g 0 d').heap.size := by simp [Go.Sort.putRowK, Go.Sort.putRow, Go.Sort.mapBlock, Go.Sort.ahead, hg]
  have h2 := Go.Sort.holdsK_grow _ _ _ os g 0 d' hsz h1
  constructor
  · refine ⟨by simpa using hbig, fun _ => ⟨g, 0, rfl, by simp [Go.Proofs.sortWorldK, Go.Sort.grow]; omega, fun j hj i v hv => ?_⟩⟩
    have hi : i < 2 := by
      rcases Nat.lt_or_ge i 2 with a | a
      · exact a
      · rw [List.getElem?_eq_none (by simpa [encP] using a)] at hv; cases hv
    have h3 := (Go.Sort.HoldsK.cell h2 (i := j) (c := i) (by simpa using hj) hi).1
    rw [show (Go.Proofs.sortWorldK encP 2 w g 0 n d' os) = Go.Sort.grow (Go.Sort.putRowK encP 2 (Go.Sort.ahead w n) g 0 d') os from rfl, h3]
    have e1 : d'[j]! = d'.toList[j] := by simp at hj; simp [hj]
    rw [e1, List.getElem!_eq_getElem?_getD, hv]
    rfl
  · refine ⟨rfl, rfl, rfl, by simp [Go.Proofs.sortWorldK, Go.Sort.grow, Go.Sort.putRowK, Go.Sort.putRow, Go.Sort.mapBlock, Go.Sort.ahead], fun k hk => ?_⟩
    show ((w.heap.modify g _) ++ os)[k]? = w.heap[k]?
    rw [Array.getElem?_append_left (by simp; omega), Array.getElem?_modify, if_neg (by omega)]
end Go.Proofs.Ytdpdchghafopfaa
