/- More small words for the walks: slices that are made. -/
import Derived.Test.YtdpdchghafopfaaK
import Derived.Deep.OwnRows
set_option linter.unusedVariables false
set_option linter.unusedSimpArgs false
namespace Go.Proofs.Ytdpdchghafopfaa
open Go.RowKit Go.Sort
/-- make([]T, m): laid ahead of go_enter. -/
theorem mk_slice {P : Program} (t e : TypeId) (z : Value) (bytes : Nat) (ht : P.underlying t = some (.slice e)) (hinfo : (P.info? e).map (fun i => (i.zero, i.size, i.bytes)) = some (some z, 1, bytes)) (hz : z.cells = #[z]) (hb0 : 0 < bytes)
    (m : Nat) (hn : m * bytes ≤ 281474976710656) :
    ∀ W : World, (Instr.makeSlice t (.int .i64 (m : Int)) (.int .i64 (m : Int))).run P W = .ok (.slice (some ⟨W.heap.size, 0, none⟩) m m) (W.alloc (.cells (madeCells #[z] m) e)) := by
  intro W
  have hm : m ≤ 281474976710656 := Nat.le_trans (Nat.le_mul_of_pos_right _ hb0) hn
  exact run_make_row' t e z bytes ht hinfo hz .i64 .i64 m (by rw [Nat.mul_comm]; exact hn) (by omega) W
theorem own_made (W : World) (base : Nat) (e : TypeId) (z : Value) (m : Nat) (hb : base ≤ W.heap.size) (hm : m ≤ 1000000) :
    (W.alloc (.cells (madeCells #[z] m) e)).ownsRow base e 1 (.slice (some ⟨W.heap.size, 0, none⟩) m m) m (List.replicate m z) := by
  have h := World.ownsRow_lit (base := base) (e := e) (size := 1) W (madeCells #[z] m) m hb (by simp only [maxLen]; omega) (by simp [size_madeCells])
  have hl : (madeCells #[z] m).toList = List.replicate m z := by
    apply List.ext_getElem
    · simp [madeCells]
    · intro i h1 h2
      simp [madeCells, Nat.mod_one]
  rwa [hl] at h
/-- A region in a world that has grown already: what is known of the elder world serves. -/
theorem wp_region_rg2 {P : Program} {id : Nat} {Q : Exit → Act → World → Prop} {a : Act} {w : World} {p : RG} {l : List Oper} (hm : P.follows .mixedOrders = true) (hB : Region.lexB .any l.toArray = true)
    (h : wpQuiet P l.toArray (fun w' => ∃ q : RG, w' = rg w q) (fun a' => ∀ w', (∃ q : RG, w' = rg w q) → Q .normal a' w') l a) : (Code.region id l.toArray true).wp P Q a (rg w p) :=
  wp_region_quiet (C := fun w' => ∃ q : RG, w' = rg w q) hm hB (rg_mk ⟨(rg_below w p).os, (rg_below w p).tape, (rg_below w p).output, (rg_below w p).size, (rg_below w p).block⟩) (by simpa using h)
end Go.Proofs.Ytdpdchghafopfaa
