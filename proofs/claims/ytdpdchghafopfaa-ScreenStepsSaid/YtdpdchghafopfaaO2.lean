/- The arguments opened: boxes, trips, slices. -/
import Derived.Test.YtdpdchghafopfaaS24
import Derived.Test.YtdpdchghafopfaaO
import Derived.ShutString
import Derived.ChangeOld
import Derived.Below
set_option linter.unusedVariables false
set_option linter.unusedSimpArgs false
namespace Go.Proofs.Ytdpdchghafopfaa
open Go.ChangeShapes Go.WideShapes Go.ChangeAt Go.RowKit
theorem own_ : ownKnob Try.prog.godebug = none := by kernel_rfl
section
variable {H : Type} {enc : TypeId × Value → H} {w : World} {sp : Nat → Bool} {held : Bool}
set_option maxRecDepth 20000 in
theorem open_bx {fuel : Nat} {cs : List Value} {x : DataW H × List MemPlace} (h : DataW.trod enc Try.prog w 0 sp held fuel 27 cs = some x) : ∃ s : Bx, cs = encS s := by
  obtain ⟨xs, n, _, _, hl, hx, hf⟩ := DataW.trod_struct Try.underlying27 h
  have hc : Try.prog.cellsOf 27 = 4 := by kernel_rfl
  have hi : Try.prog.cellsOf 25 = 2 := by kernel_rfl
  rw [hc] at hl
  obtain ⟨a, b, c, d, rfl⟩ : ∃ a b c d, cs = [a, b, c, d] := by
    rcases cs with _ | ⟨a, _ | ⟨b, _ | ⟨c, _ | ⟨d, _ | ⟨e, t⟩⟩⟩⟩⟩ <;> simp at hl
    exact ⟨a, b, c, d, rfl⟩
  have hx2 : xs.length = 2 := hx
  have h0 := hf 0 _ rfl
  have h1 := hf 1 _ rfl
  rw [List.getElem?_eq_getElem (by omega)] at h0 h1
  obtain ⟨n0, e0⟩ := open_pt h0
  obtain ⟨n1, e1⟩ := open_pt h1
  simp [hi, encP] at e0 e1
  exact ⟨(n0, n1), by rw [e0.1, e0.2, e1.1, e1.2]; rfl⟩
theorem open_eyes {fuel : Nat} {cs : List Value} {x : DataW H × List MemPlace} (h : DataW.trod enc Try.prog w 0 sp held fuel 23 cs = some x) : ∃ (xs : List Pt) (a : Option Addr) (c : Nat), cs = [.slice a xs.length c] ∧ (xs.length ≤ 1000000 → Rd w encP 2 a xs) :=
  open_els (en := encP) (k := 2) (by omega) Try.underlying23 (by kernel_rfl) (fun _ => rfl) (fun n cs x h => open_pt h) h
theorem open_scs {fuel : Nat} {cs : List Value} {x : DataW H × List MemPlace} (h : DataW.trod enc Try.prog w 0 sp held fuel 22 cs = some x) : ∃ (xs : List Sc) (a : Option Addr) (c : Nat), cs = [.slice a xs.length c] ∧ (xs.length ≤ 1000000 → Rd w encS 4 a xs) :=
  open_els (en := encS) (k := 4) (by omega) Try.underlying22 (by kernel_rfl) (fun _ => rfl) (fun n cs x h => open_sc h) h
set_option maxRecDepth 20000 in
theorem open_trip {fuel : Nat} {cs : List Value} {x : DataW H × List MemPlace} (h : DataW.trod enc Try.prog w 0 sp held fuel 29 cs = some x) :
    ∃ (eyes : List Pt) (a : Option Addr) (c : Nat) (b : Bx) (f t : Pt), cs = (tripC a eyes.length c b f t).toList ∧ (eyes.length ≤ 1000000 → Rd w encP 2 a eyes) := by
  obtain ⟨xs, n, _, _, hl, hx, hf⟩ := DataW.trod_struct Try.underlying29 h
  have hc : Try.prog.cellsOf 29 = 9 := by kernel_rfl
  have hi : Try.prog.cellsOf 25 = 2 := by kernel_rfl
  have hb : Try.prog.cellsOf 27 = 4 := by kernel_rfl
  have hs : Try.prog.cellsOf 23 = 1 := by kernel_rfl
  rw [hc] at hl
  obtain ⟨c0, c1, c2, c3, c4, c5, c6, c7, c8, rfl⟩ : ∃ c0 c1 c2 c3 c4 c5 c6 c7 c8, cs = [c0, c1, c2, c3, c4, c5, c6, c7, c8] := by
    rcases cs with _ | ⟨c0, _ | ⟨c1, _ | ⟨c2, _ | ⟨c3, _ | ⟨c4, _ | ⟨c5, _ | ⟨c6, _ | ⟨c7, _ | ⟨c8, _ | ⟨c9, t⟩⟩⟩⟩⟩⟩⟩⟩⟩⟩ <;> simp at hl
    exact ⟨_, _, _, _, _, _, _, _, _, rfl⟩
  have hx2 : xs.length = 4 := hx
  have h0 := hf 0 _ rfl
  have h1 := hf 1 _ rfl
  have h2 := hf 2 _ rfl
  have h3 := hf 3 _ rfl
  rw [List.getElem?_eq_getElem (by omega)] at h0 h1 h2 h3
  obtain ⟨eyes, a, c, e0, hrd⟩ := open_eyes h0
  obtain ⟨b, e1⟩ := open_bx h1
  obtain ⟨f, e2⟩ := open_pt h2
  obtain ⟨t, e3⟩ := open_pt h3
  simp [hi, hb, hs, encP, encS] at e0 e1 e2 e3
  exact ⟨eyes, a, c, b, f, t, by rw [e0, e1.1, e1.2.1, e1.2.2.1, e1.2.2.2, e2.1, e2.2, e3.1, e3.2], hrd⟩
end
end Go.Proofs.Ytdpdchghafopfaa
