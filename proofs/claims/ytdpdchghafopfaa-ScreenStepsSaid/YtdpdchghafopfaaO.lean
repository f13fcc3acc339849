/- The arguments opened: points, screens, slices of them. -/
import Derived.Test.YtdpdchghafopfaaS6
import Derived.ProofKit
import Derived.OpenShut
import Derived.ChangeArms
import Derived.WideShapes
import Derived.DataReads
set_option linter.unusedVariables false
set_option linter.unusedSimpArgs false
namespace Go.Proofs.Ytdpdchghafopfaa
open Go.ChangeShapes Go.WideShapes Go.ChangeAt Go.RowKit
section
variable {H : Type} {enc : TypeId × Value → H} {w : World} {sp : Nat → Bool} {held : Bool}
set_option maxRecDepth 20000 in
theorem open_pt {fuel : Nat} {cs : List Value} {x : DataW H × List MemPlace} (h : DataW.trod enc Try.prog w 0 sp held fuel 25 cs = some x) : ∃ p : Pt, cs = encP p := by
  obtain ⟨xs, n, _, _, hl, hx, hf⟩ := DataW.trod_struct Try.underlying25 h
  have hc : Try.prog.cellsOf 25 = 2 := by kernel_rfl
  have hi : Try.prog.cellsOf 3 = 1 := by kernel_rfl
  rw [hc] at hl
  obtain ⟨a, b, rfl⟩ : ∃ a b, cs = [a, b] := by
    rcases cs with _ | ⟨a, _ | ⟨b, _ | ⟨c, t⟩⟩⟩ <;> simp at hl
    exact ⟨a, b, rfl⟩
  have hx2 : xs.length = 2 := hx
  have h0 := hf 0 _ rfl
  have h1 := hf 1 _ rfl
  rw [List.getElem?_eq_getElem (by omega)] at h0 h1
  obtain ⟨n0, e0, _⟩ := DataW.trod_int Try.underlying3 h0
  obtain ⟨n1, e1, _⟩ := DataW.trod_int Try.underlying3 h1
  simp [hi] at e0 e1
  exact ⟨(n0, n1), by rw [e0, e1]; rfl⟩
set_option maxRecDepth 20000 in
theorem open_sc {fuel : Nat} {cs : List Value} {x : DataW H × List MemPlace} (h : DataW.trod enc Try.prog w 0 sp held fuel 42 cs = some x) : ∃ s : Sc, cs = encS s := by
  obtain ⟨xs, n, _, _, hl, hx, hf⟩ := DataW.trod_struct Try.underlying42 h
  have hc : Try.prog.cellsOf 42 = 4 := by kernel_rfl
  have hi : Try.prog.cellsOf 25 = 2 := by kernel_rfl
  rw [hc] at hl
  obtain ⟨a, b, c, d, rfl⟩ : ∃ a b c d, cs = [a, b, c, d] := by
    rcases cs with _ | ⟨a, _ | ⟨b, _ | ⟨c, _ | ⟨d, _ | ⟨e, t⟩⟩⟩⟩⟩ <;> simp at hl
    exact ⟨a, b, c, d, rfl⟩
  have hx2 : xs.length = 2 := hx
  have h0 := hf 0 _ rfl
  have h1 := hf 1 _ rfl
  rw [List.getElem?_eq_getElem (by omega)] at h0 h1
  obtain ⟨n0, e0⟩ := open_pt h0
  obtain ⟨n1, e1⟩ := open_pt h1
  simp [hi, encP] at e0 e1
  exact ⟨(n0, n1), by rw [e0.1, e0.2, e1.1, e1.2]; rfl⟩
theorem addr_none (b off n : Nat) : (⟨b, off, none⟩ : Addr).add n = ⟨b, off + n, none⟩ := by unfold Addr.add; split <;> simp_all
theorem pick_list {α : Type} {P : Nat → α → Prop} : ∀ (n : Nat), (∀ i, i < n → ∃ s, P i s) → ∃ xs : List α, xs.length = n ∧ ∀ i (h : i < xs.length), P i xs[i] := by
  intro n h
  refine ⟨List.ofFn fun i : Fin n => Classical.choose (h i.1 i.2), by simp, fun i hi => ?_⟩
  simp only [List.getElem_ofFn]
  exact Classical.choose_spec (h i (by simpa using hi))
theorem open_els {α : Type} {en : α → List Value} {k : Nat} (hk0 : 0 < k) {t e : TypeId} (ht : Try.prog.underlying t = some (.slice e)) (hk : Try.prog.cellsOf e = k) (hlen : ∀ s, (en s).length = k)
    (he : ∀ (n : Nat) (cs : List Value) (x : DataW H × List MemPlace), DataW.trod enc Try.prog w 0 sp held n e cs = some x → ∃ s : α, cs = en s)
    {fuel : Nat} {cs : List Value} {x : DataW H × List MemPlace} (h : DataW.trod enc Try.prog w 0 sp held fuel t cs = some x) : ∃ (xs : List α) (a : Option Addr) (c : Nat), cs = [.slice a xs.length c] ∧ (xs.length ≤ 1000000 → Rd w en k a xs) := by
  rcases DataW.trod_slice ht h with ⟨rfl, _⟩ | ⟨a, len, cap, elems, rest, n, _, rfl, _, _, _, _, hel, hi, _⟩
  · exact ⟨[], none, 0, rfl, fun _ => ⟨by simp, fun h => absurd h (by simp)⟩⟩
  · have hp : ∀ i, i < len → ∃ s : α, w.cells? 0 (a.add (i * k)) k = some (en s) := by
      intro i hil
      have h1 := hi i hil
      rw [List.getElem?_eq_getElem (by omega), hk, Option.bind_eq_some_iff] at h1
      obtain ⟨cs, h2, h3⟩ := h1
      obtain ⟨s, rfl⟩ := he _ _ _ h3
      exact ⟨s, h2⟩
    obtain ⟨xs, hxl, hxs⟩ := pick_list len hp
    refine ⟨xs, some a, cap, by rw [hxl], fun hbig => ⟨hbig, fun h0 => ?_⟩⟩
    have cell : ∀ j (hj : j < xs.length), ∀ i v, (en xs[j])[i]? = some v → w.cell? ((a.add (j * k)).add i) = some v := by
      intro j hj i v hv
      have hik : i < k := by
        rcases Nat.lt_or_ge i k with q | q
        · exact q
        · rw [List.getElem?_eq_none (by rw [hlen]; exact q)] at hv; cases hv
      have h3 := (World.cells?_some (hxs j hj)).2.2 i hik
      rw [h3]
      exact hv
    have hen : ∃ v, (en (xs[0]'h0))[0]? = some v := ⟨(en (xs[0]'h0))[0]'(by rw [hlen]; exact hk0), List.getElem?_eq_getElem _⟩
    obtain ⟨v, hv⟩ := hen
    have h5 := cell 0 h0 0 v hv
    obtain ⟨b, off, spot⟩ := a
    have hspot : spot = none := by simpa [Addr.add] using World.cell?_spot h5
    subst hspot
    have h6 : ∀ j i, ((⟨b, off, none⟩ : Addr).add (j * k)).add i = ⟨b, off + j * k + i, none⟩ := fun j i => by rw [addr_none, addr_none]
    refine ⟨b, off, rfl, ?_, fun j hj i u hu => by rw [← h6]; exact cell j hj i u hu⟩
    rw [h6] at h5
    exact World.block_lt_of_cell? w _ h5
end
end Go.Proofs.Ytdpdchghafopfaa
