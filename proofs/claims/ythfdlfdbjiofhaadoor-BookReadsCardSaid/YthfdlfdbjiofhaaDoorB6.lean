/- The head of a book, walked. -/
import Derived.Test.YthfdlfdbjiofhaaDoorB5
import Derived.Deep.Cut
set_option linter.unusedVariables false
set_option linter.unusedSimpArgs false
namespace Go.Proofs.YthfdlfdbjiofhaaDoor
open Go.RowKit
theorem map_three {α β : Type} {f : α → β} {l : List α} {a b c : β} (h : l.map f = [a, b, c]) : ∃ x y z, l = [x, y, z] ∧ f x = a ∧ f y = b ∧ f z = c := by
  match l, h with
  | [x, y, z], h =>
    simp only [List.map_cons, List.map_nil, List.cons.injEq, and_true] at h
    exact ⟨x, y, z, rfl, h.1, h.2.1, h.2.2⟩
/-- strings.Split at a blank. -/
theorem split_w (s : ByteArray) (hs : s.size ≤ 1000000) : ∃ ws : List ByteArray, ws.map by_ = splitW (by_ s) ∧ ∀ w, EnvB w → Calls Tryd.prog 41 #[.string s, .string spS] w fun e w' => e = .returned (.slice (some ⟨w.heap.size, 0, none⟩) ws.length ws.length) ∧ w' = w.alloc (.cells (ws.map Value.string).toArray 9) := by
  refine ⟨Lib.splitB spS 0 (Lib.countB s spS) s, split_of _ s rfl, ?_⟩
  intro w hE
  obtain ⟨m, hm⟩ := hE.ml
  refine (Any.strings_Split Tryd.lays146 (by kernel_rfl) s spS m w (by omega) hm (by decide)).mono ?_
  rintro e w' ⟨rfl, rfl⟩
  have hl := Lib.splitB_all spS (by decide) 0 (Lib.countB s spS) s rfl
  refine ⟨?_, rfl⟩
  rw [hl]
theorem atoiSat_bd (l : List UInt8) : -9223372036854775808 ≤ Lib.atoiSat l ∧ Lib.atoiSat l ≤ 9223372036854775807 := by
  unfold Lib.atoiSat; split <;> omega
theorem atoi_ok (s : ByteArray) (hs : s.size ≤ 1000000) (v : Int) (h : Lib.atoiAll (by_ s) = .ok v) (w : World) : Calls Tryd.prog 43 #[.string s] w fun e w' => e = .returned (.tuple #[.int .i64 v, .nilIface]) ∧ Below w.heap.size w w' := by
  refine (Any.strconv_Atoi_ok Tryd.laysC172 s (by omega) v h w).mono ?_
  rintro e w' ⟨rfl, hw⟩
  refine ⟨rfl, ?_⟩
  rcases hw with rfl | ⟨t, rfl⟩
  · exact Below.refl _ _
  · exact Lib.bytesWorld_below _ _ _
def AtoiBad (w : World) (e : Ending) (w' : World) : Prop := ∃ (v : Int) (N : Nat), e = .returned (.tuple #[.int .i64 v, .iface 119 (.pointer (some ⟨N, 0, none⟩))]) ∧ Below w.heap.size w w'
theorem atoi_bad (s : ByteArray) (hs : s.size ≤ 1000000) (h : ∀ u, Lib.atoiAll (by_ s) ≠ .ok u) (w : World) (hE : EnvB w) : Calls Tryd.prog 43 #[.string s] w (AtoiBad w) := by
  rcases h1 : Lib.atoiAll s.data.toList with v | _ | _
  · exact absurd h1 (h v)
  · obtain ⟨ev, he, hv⟩ := hE.es
    refine (Any.strconv_Atoi_syntax Tryd.laysC172 s (by omega) h1 ev w he hv).mono ?_
    rintro e w' ⟨N, rfl, h1, h2, h3⟩
    exact ⟨0, N, rfl, h3⟩
  · obtain ⟨ev, he, hv⟩ := hE.er
    refine (Any.strconv_Atoi_range Tryd.laysC172 s (by omega) h1 ev w he hv).mono ?_
    rintro e w' ⟨N, rfl, h1, h2, h3⟩
    exact ⟨_, N, rfl, h3⟩
def AtoiP (w : World) (e : Ending) (w' : World) : Prop := ∃ (v : Int) (ev : Value), e = .returned (.tuple #[.int .i64 v, ev]) ∧ Below w.heap.size w w'
theorem atoi_w (s : ByteArray) (hs : s.size ≤ 1000000) (w : World) (hE : EnvB w) : Calls Tryd.prog 43 #[.string s] w (AtoiP w) := by
  rcases h : Lib.atoiAll (by_ s) with v | _ | _
  · exact (atoi_ok s hs v h w).mono fun e w' h => ⟨v, _, h.1, h.2⟩
  · exact (atoi_bad s hs (by rw [h]; intro u hu; cases hu) w hE).mono fun e w' ⟨v, N, h1, h2⟩ => ⟨v, _, h1, h2⟩
  · exact (atoi_bad s hs (by rw [h]; intro u hu; cases hu) w hE).mono fun e w' ⟨v, N, h1, h2⟩ => ⟨v, _, h1, h2⟩
theorem cut_yes (s : ByteArray) (hs : s.size ≤ 1000000) (a b : List UInt8) (h : cutL (by_ s) = some (a, b)) (w : World) (hE : EnvB w) : Calls Tryd.prog 80 #[.string s, .string nlS] w fun e w' => e = .returned (.tuple #[.string ⟨a.toArray⟩, .string ⟨b.toArray⟩, .bool true]) ∧ Below w.heap.size w w' := by
  refine (cut_any s hs w hE).mono ?_
  rintro e w' ⟨a', b', ok, rfl, HC, hb⟩
  rcases HC with ⟨rfl, hc⟩ | ⟨rfl, hc, _, _⟩
  · rw [h] at hc
    simp only [Option.some.injEq, Prod.mk.injEq] at hc
    obtain ⟨rfl, rfl⟩ := hc
    exact ⟨rfl, hb⟩
  · rw [h] at hc; cases hc
theorem cut_no (s : ByteArray) (hs : s.size ≤ 1000000) (h : cutL (by_ s) = none) (w : World) (hE : EnvB w) : Calls Tryd.prog 80 #[.string s, .string nlS] w fun e w' => e = .returned (.tuple #[.string s, .string ⟨#[]⟩, .bool false]) ∧ Below w.heap.size w w' := by
  refine (cut_any s hs w hE).mono ?_
  rintro e w' ⟨a', b', ok, rfl, HC, hb⟩
  rcases HC with ⟨rfl, hc⟩ | ⟨rfl, hc, rfl, rfl⟩
  · rw [h] at hc; cases hc
  · exact ⟨rfl, hb⟩
theorem itoa_w (n : Int) (h0 : -9223372036854775808 ≤ n) (h1 : n ≤ 9223372036854775807) (w : World) (hE : EnvB w) : Calls Tryd.prog 40 #[.int .i64 n] w fun e w' => e = .returned (.string ⟨(Lib.itoa n).toArray⟩) ∧ Below w.heap.size w w' := by
  refine (Any.strconv_Itoa Tryd.laysM171 n h0 h1 w hE.tab).mono ?_
  rintro e w' ⟨rfl, k, os, rfl⟩
  exact ⟨rfl, (below_drewN (Below.refl _ _) k).trans (by have := below_regrown (w.drewN k) (w.drewN k).drawn os; exact this)⟩
/-- What head returns. -/
def headV : Option (Nat × Nat × List UInt8) → Value
  | some (n, m, r) => .tuple #[.int .i64 n, .int .i64 m, .string ⟨r.toArray⟩, .bool true]
  | none => .tuple #[.int .i64 0, .int .i64 0, .string ⟨#[]⟩, .bool false]
theorem head_none {l : List UInt8} (h : headL l = none) : Ending.returned (.tuple #[.int .i64 0, .int .i64 0, .string ⟨#[]⟩, .bool false]) = .returned (headV (headL l)) := by rw [h]; rfl
theorem headL_cut {l a b : List UInt8} (h : cutL l = some (a, b)) : headL l = match lineD a with | none => none | some (n, s) => some (n, s, b) := by unfold headL; rw [h]; rfl
theorem lineD_ne {a : List UInt8} (h : (splitW a).length ≠ 3) : lineD a = none := by
  unfold lineD
  split
  · rename_i w0 w1 w2 hs; rw [hs] at h; exact absurd rfl h
  · rfl
theorem lineD_three {a w0 w1 w2 : List UInt8} (h : splitW a = [w0, w1, w2]) : lineD a = if w0 = pagesW then numsD w1 w2 else none := by unfold lineD; rw [h]
theorem numsD_bad1 {w1 w2 : List UInt8} (h : ∀ u, Lib.atoiAll w1 ≠ .ok u) : numsD w1 w2 = none := by
  unfold numsD
  split
  · rename_i x y h1 h2; exact absurd h1 (h x)
  · rfl
theorem numsD_bad2 {w1 w2 : List UInt8} (h : ∀ u, Lib.atoiAll w2 ≠ .ok u) : numsD w1 w2 = none := by
  unfold numsD
  split
  · rename_i x y h1 h2; exact absurd h2 (h y)
  · rfl
theorem numsD_ok {w1 w2 : List UInt8} {n s : Int} (h1 : Lib.atoiAll w1 = .ok n) (h2 : Lib.atoiAll w2 = .ok s) : numsD w1 w2 = if Lib.itoa n = w1 ∧ Lib.itoa s = w2 ∧ 0 ≤ n ∧ n ≤ 64 ∧ sumB s = true then some (n.toNat, s.toNat) else none := by unfold numsD; rw [h1, h2]
theorem str_ne (x y : ByteArray) : (x.toList != y.toList) = decide (by_ x ≠ by_ y) := by
  unfold bne; rw [str_eq]
  by_cases h : x = y
  · subst h; simp
  · have : by_ x ≠ by_ y := fun e => h (by cases x; cases y; simp only [ByteArray.mk.injEq]; exact Array.toList_inj.1 e)
    simp [h, this]
end Go.Proofs.YthfdlfdbjiofhaaDoor
