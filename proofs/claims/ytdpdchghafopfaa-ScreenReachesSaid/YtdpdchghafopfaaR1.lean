/-
  ScreenReaches holds: for every input the law returns true, and each argument reads behind the call as it read before. No condition.
-/
import Derived.Test.YtdpdchghafopfaaS24
import Derived.Test.YtdpdchghafopfaaO
import Derived.ShutString
import Derived.ChangeOld
import Derived.Below
set_option linter.unusedVariables false
set_option linter.unusedSimpArgs false
namespace Go.Proofs.Ytdpdchghafopfaa
open Go.ChangeShapes Go.WideShapes Go.ChangeAt Go.RowKit
theorem own_ : ownKnob Try.prog.godebug = none := by kernel_rfl
section
variable {H : Type} {enc : TypeId × Value → H} {w : World} {sp : Nat → Bool} {held : Bool}
set_option maxRecDepth 20000 in
theorem open_bx {fuel : Nat} {cs : List Value} {x : DataW H × List MemPlace} (h : DataW.trod enc Try.prog w 0 sp held fuel 27 cs = some x) : ∃ s : Bx, cs = encS s := by
  obtain ⟨xs, n, _, _, hl, hx, hf⟩ := DataW.trod_struct Try.underlying27 h
  have hc : Try.prog.cellsOf 27 = 4 := by kernel_rfl
  have hi : Try.prog.cellsOf 25 = 2 := by kernel_rfl
  rw [hc] at hl
  obtain ⟨a, b, c, d, rfl⟩ : ∃ a b c d, cs = [a, b, c, d] := by
    rcases cs with _ | ⟨a, _ | ⟨b, _ | ⟨c, _ | ⟨d, _ | ⟨e, t⟩⟩⟩⟩⟩ <;> simp at hl
    exact ⟨a, b, c, d, rfl⟩
  have hx2 : xs.length = 2 := hx
  have h0 := hf 0 _ rfl
  have h1 := hf 1 _ rfl
  rw [List.getElem?_eq_getElem (by omega)] at h0 h1
  obtain ⟨n0, e0⟩ := open_pt h0
  obtain ⟨n1, e1⟩ := open_pt h1
  simp [hi, encP] at e0 e1
  exact ⟨(n0, n1), by rw [e0.1, e0.2, e1.1, e1.2]; rfl⟩
theorem open_eyes {fuel : Nat} {cs : List Value} {x : DataW H × List MemPlace} (h : DataW.trod enc Try.prog w 0 sp held fuel 23 cs = some x) : ∃ (xs : List Pt) (a : Option Addr) (c : Nat), cs = [.slice a xs.length c] ∧ (xs.length ≤ 1000000 → Rd w encP 2 a xs) :=
  open_els (en := encP) (k := 2) (by omega) Try.underlying23 (by kernel_rfl) (fun _ => rfl) (fun n cs x h => open_pt h) h
theorem open_scs {fuel : Nat} {cs : List Value} {x : DataW H × List MemPlace} (h : DataW.trod enc Try.prog w 0 sp held fuel 22 cs = some x) : ∃ (xs : List Sc) (a : Option Addr) (c : Nat), cs = [.slice a xs.length c] ∧ (xs.length ≤ 1000000 → Rd w encS 4 a xs) :=
  open_els (en := encS) (k := 4) (by omega) Try.underlying22 (by kernel_rfl) (fun _ => rfl) (fun n cs x h => open_sc h) h
set_option maxRecDepth 20000 in
theorem open_trip {fuel : Nat} {cs : List Value} {x : DataW H × List MemPlace} (h : DataW.trod enc Try.prog w 0 sp held fuel 29 cs = some x) :
    ∃ (eyes : List Pt) (a : Option Addr) (c : Nat) (b : Bx) (f t : Pt), cs = (tripC a eyes.length c b f t).toList ∧ (eyes.length ≤ 1000000 → Rd w encP 2 a eyes) := by
  obtain ⟨xs, n, _, _, hl, hx, hf⟩ := DataW.trod_struct Try.underlying29 h
  have hc : Try.prog.cellsOf 29 = 9 := by kernel_rfl
  have hi : Try.prog.cellsOf 25 = 2 := by kernel_rfl
  have hb : Try.prog.cellsOf 27 = 4 := by kernel_rfl
  have hs : Try.prog.cellsOf 23 = 1 := by kernel_rfl
  rw [hc] at hl
  obtain ⟨c0, c1, c2, c3, c4, c5, c6, c7, c8, rfl⟩ : ∃ c0 c1 c2 c3 c4 c5 c6 c7 c8, cs = [c0, c1, c2, c3, c4, c5, c6, c7, c8] := by
    rcases cs with _ | ⟨c0, _ | ⟨c1, _ | ⟨c2, _ | ⟨c3, _ | ⟨c4, _ | ⟨c5, _ | ⟨c6, _ | ⟨c7, _ | ⟨c8, _ | ⟨c9, t⟩⟩⟩⟩⟩⟩⟩⟩⟩⟩ <;> simp at hl
    exact ⟨_, _, _, _, _, _, _, _, _, rfl⟩
  have hx2 : xs.length = 4 := hx
  have h0 := hf 0 _ rfl
  have h1 := hf 1 _ rfl
  have h2 := hf 2 _ rfl
  have h3 := hf 3 _ rfl
  rw [List.getElem?_eq_getElem (by omega)] at h0 h1 h2 h3
  obtain ⟨eyes, a, c, e0, hrd⟩ := open_eyes h0
  obtain ⟨b, e1⟩ := open_bx h1
  obtain ⟨f, e2⟩ := open_pt h2
  obtain ⟨t, e3⟩ := open_pt h3
  simp [hi, hb, hs, encP, encS] at e0 e1 e2 e3
  exact ⟨eyes, a, c, b, f, t, by rw [e0, e1.1, e1.2.1, e1.2.2.1, e1.2.2.2, e2.1, e2.2, e3.1, e3.2], hrd⟩
end
set_option maxRecDepth 100000 in
theorem lifted1 (os : Os) (started : os.Started) (H : Type) (enc : TypeId × Value → H) :
    ReturnsInHanded {} Try.checked os 3 .any (Rows.screenReachesSpec.pre6 enc Try.prog Try.f3 Rows.screenReachesRow.domain false) (Rows.screenReachesSpec.post enc Try.prog Try.f3 false true false false) := by
  refine returnsInHanded_of_change (C := Try.checked) own_ started (by kernel_rfl) Try.func3
    (ChangeSpec.witness6 (enc := enc) (C := Try.checked) false ⟨#[], #[.slice none 0 0, .agg #[.slice none 0 0, .int .i64 0, .int .i64 0, .int .i64 0, .int .i64 0, .int .i64 0, .int .i64 0, .int .i64 0, .int .i64 0], .int .i64 0], []⟩ 8 (by kernel_rfl) (by kernel_rfl) (by kernel_rfl) (by kernel_rfl)) ?_
  intro W base args ds gs before hval0 hW hcnd _
  have hval : ∀ (j : Nat) t v, Try.f3.params[j]? = some t → args[j]? = some v → Value.okWide Try.prog W .any base t v := hval0
  have hW' := hW
  obtain ⟨p, q, hA0, hV, rfl, hfz, hnd⟩ := hW
  have hA : DataW.TrodAll enc Try.prog W 0 (fun _ => true) true Try.f3.params.toList args.toList ds p := hA0
  rw [Try.params3] at hA hval
  obtain ⟨v0, vs0, d0, ds0, p0, q0, hargs, rfl, rfl, h0, r0⟩ := trodAll_cons hA
  obtain ⟨v1, vs1, d1, ds1, p1, q1, rfl, rfl, rfl, h1, r1⟩ := trodAll_cons r0
  obtain ⟨v2, vs2, d2, ds2, p2, q2, rfl, rfl, rfl, h2, r2⟩ := trodAll_cons r1
  obtain ⟨rfl, rfl, rfl⟩ := trodAll_nil r2
  obtain rfl : args = #[v0, v1, v2] := by cases args; simp_all
  obtain ⟨rfl, rfl⟩ := trodVars_none hV
  obtain ⟨a0, len0, cap0, rfl⟩ := okWide_slice Try.underlying22 (hval 0 22 v0 rfl rfl)
  obtain ⟨cs1, rfl, hcs1⟩ := okWide_struct Try.underlying29 (hval 1 29 v1 rfl rfl)
  have k0 := h0
  have lt0 : ∀ x ∈ p0, x.block < W.heap.size := by obtain ⟨m, hm⟩ := k0; exact DataW.trod_lt m _ _ _ hm
  have k1 := h1
  have lt1 : ∀ x ∈ p1, x.block < W.heap.size := by obtain ⟨m, hm⟩ := k1; exact DataW.trod_lt m _ _ _ hm
  obtain ⟨l, la, c, e0, hR0⟩ := (by obtain ⟨fuel, hf⟩ := h0; exact open_scs hf : ∃ (xs : List Sc) (a : Option Addr) (c : Nat), (Value.slice a0 len0 cap0).cells.toList = [.slice a xs.length c] ∧ (xs.length ≤ 1000000 → Rd W encS 4 a xs))
  obtain ⟨eyes, ea, ce, b, f, t, e1, hR1⟩ := (by obtain ⟨fuel, hf⟩ := h1; exact open_trip hf : ∃ (eyes : List Pt) (a : Option Addr) (c : Nat) (b : Bx) (f t : Pt), (Value.agg cs1).cells.toList = (tripC a eyes.length c b f t).toList ∧ (eyes.length ≤ 1000000 → Rd W encP 2 a eyes))
  simp [Value.cells] at e0
  obtain ⟨rfl, rfl, rfl⟩ := e0
  have e2 : cs1 = tripC ea eyes.length ce b f t := by
    have : cs1.toList = (tripC ea eyes.length ce b f t).toList := e1
    exact Array.toList_inj.1 this
  subst e2
  obtain ⟨a2, rfl, rfl, rfl, w2⟩ := open_int Try.underlying3 (hval 2 3 v2 rfl rfl) h2
  clear hA0 hval0
  have hat : -9223372036854775808 ≤ a2 ∧ a2 ≤ 9223372036854775807 := by
    simp [Lit.wf, IntKind.min, IntKind.max, IntKind.signed, IntKind.bits] at w2
    omega
  refine (law_any l eyes b f t a2 a0 ea cap0 ce W (fun h => hR0 (by omega)) (fun h => hR1 (by omega)) hat).mono fun e W' ⟨he, bel⟩ => ?_
  subst he
  exact ⟨_, rfl, _, _, _, [], _, [], hW', trodAll_mk1 (shut_bool Try.underlying4 _), (trodAll_cons_mk (Below.trod laidOut_ (by kernel_rfl) (of_decide_eq_true (by kernel_rfl)) k0 bel lt0) (trodAll_cons_mk (Below.trod laidOut_ (by kernel_rfl) (of_decide_eq_true (by kernel_rfl)) k1 bel lt1) (trodAll_cons_mk (shut_int Try.underlying3 w2) trodAll_mk0))), rfl, bel.frame _, fun h => by cases h⟩

theorem screenReaches_holds : Rows.ScreenReachesSaid :=
  OpenClaim.holds_of_wide 3 Try.f3 rfl rfl rfl rfl rfl rfl rfl ⟨rfl, rfl, rfl, rfl, rfl⟩ rfl rfl rfl rfl rfl (by kernel_rfl) Try.func3 (by kernel_rfl)
    (of_decide_eq_true (by kernel_rfl)) (by unfold Func.isWrapper; first | (rw [if_pos (by decide +kernel)]; kernel_rfl) | (rw [if_neg (by decide +kernel)]; exact ⟨rfl, rfl⟩))
    (fun os started H enc _ => lifted1 os started H enc)
#print axioms screenReaches_holds
end Go.Proofs.Ytdpdchghafopfaa
