/- What the listed and the named variables hold, for the walks. -/
import Derived.Test.YthfdlfdbjiofhaaDoorB17
import Derived.Test.YthfdlfdbjiofhaaDoorTie
import Derived.Test.YthfdlfdbjiofhaaDoorCards
import Derived.ShutString
import Derived.ChangeOld
import Derived.Below
import Derived.LaidMore
import Derived.Lay
import Derived.SevenTiedAt
import Derived.Stop.Joined
import Derived.Stop.LaidErr
import Derived.Lib.LaidTab
import Derived.Shelf.Vars
import Derived.HandedShaped
set_option linter.unusedVariables false
set_option linter.unusedSimpArgs false
namespace Go.Proofs.YthfdlfdbjiofhaaDoor
open Go.ChangeShapes Go.WideShapes Go.ChangeAt Go.RowKit
theorem own_ : ownKnob Tryd.prog.godebug = none := by kernel_rfl
theorem laidOut_ : laidOutB Tryd.prog = true := by kernel_rfl
/-- As 'returnsInHanded_of_change_and'; the world's shape is handed on too. -/
theorem handed_and_shaped {H : Type} {enc : TypeId × Value → H} {a : Assume} {C : Checked} {os : Os} {f : FuncId} {fn : Func} {s : ChangeSpec} {conds : List PathCond} {apart fresh handsOn again : Bool} {X : World → Array Value → Prop}
    (hX : ∀ (w w' : World) (args : Array Value), w.heap = w'.heap → X w args → X w' args)
    (own : ownKnob C.prog.godebug = none) (started : os.Started) (noInit : C.prog.inits.idxOf? f = none) (hfn : C.prog.funcs[f]? = some fn)
    (witness : ∃ (w : World) (tape : Tape) (i : Input), w.os = os ∧ (w.forCall tape i).Shaped C.prog ∧ i.vars = [] ∧ Input.okWide C.prog (w.forCall tape i) .any w.heap.size f i ∧
      ((s.pre enc C.prog fn conds apart (w.forCall tape i).memory i.args ∧ X (w.forCall tape i).memory i.args) ∧ sizedMet enc C.prog fn (OpenSpec.ofChange s) apart (w.forCall tape i).memory i.args) ∧ a.holds C.prog (lone (Frame.enter C.prog f i.args .normal) [] (w.forCall tape i)))
    (contract : ∀ (W : World) (base : Nat) (args : Array Value) (ds gs : List (DataW H)) (before : List MemPlace),
      (∀ (j : Nat) t v, fn.params[j]? = some t → args[j]? = some v → Value.okWide C.prog W .any base t v) →
      DataW.Whole enc C.prog fn.params.toList s.vars apart W args.toList ds gs before →
      (DataW.weightsEach C.prog (fn.params.toList ++ s.plain.varTypes C.prog) (ds ++ gs)).all (· ≤ reachBytes) = true → X W args → W.ShapedOpen C.prog →
      Calls C.prog f args W fun e W' => ∃ v, e = .returned v ∧ s.post enc C.prog fn apart fresh handsOn again W args v W') :
    ReturnsInHanded a C os f .any (fun w args => (s.pre enc C.prog fn conds apart w args ∧ X w args) ∧ sizedMet enc C.prog fn (OpenSpec.ofChange s) apart w args) (s.post enc C.prog fn apart fresh handsOn again) := by
  refine returnsInHanded_of_calls own started noInit witness ?_
  intro w tape i _ hsh _ hok hpre hholds
  obtain ⟨_, _, _, fn', hfn', _, _, _, _, hval⟩ := hok
  have e : fn' = fn := Option.some.inj (hfn'.symm.trans hfn)
  subst e
  obtain ⟨⟨⟨ds, gs, before, hw, hc⟩, hx⟩, hz⟩ := hpre
  have hw' := DataW.Whole.of_heap (w' := w.forCall tape i) (by rfl) hw
  refine (contract (w.forCall tape i) w.heap.size i.args ds gs before hval hw' (hz.weights hw) (hX _ _ _ (by rfl) hx) hsh).mono fun e W' ⟨v, he, hp⟩ => ?_
  subst he
  exact ChangeSpec.post_blind hp
theorem star_es : "*errors.errorString" = "*" ++ "errors.errorString" := by decide
theorem row_es : ∀ u, Tryd.prog.typeName? 3 u = some "*errors.errorString" → u = 154 := fun u h =>
  typeName_ptr_named (nm := "errors.errorString") (by rw [← star_es]; kernel_rfl) (by kernel_rfl) (by decide) u (by rw [← star_es]; exact h)
theorem env_of {W : World} (hL : laidMetH Tryd.prog Rows.bookReadsRow.laid W) (hs : W.ShapedOpen Tryd.prog) : EnvB W := by
  rw [MakeChecks.laidMetH_plain _ _ _ (by kernel_rfl)] at hL
  have h2 := laidMet.tail (laidMet.tail hL)
  have h4 := laidMet.tail (laidMet.tail h2)
  have h5 := laidMet.tail h4
  refine ⟨?_, ?_, ?_, ?_⟩
  · exact cell_of_shapedOpen_int (t := 3) (zero := #[.int .i64 0]) hs (of_decide_eq_true (by kernel_rfl)) (by kernel_rfl) rfl (by kernel_rfl) (by kernel_rfl) Tryd.underlying3
  · obtain ⟨a1, s1, hv1, _⟩ := laid_sentinel (g := 0) (ti := 68) (tp := 154) (te := 156) (ts := 9) h5 (by kernel_rfl) (by kernel_rfl) Tryd.underlying68 row_es Tryd.underlying154 Tryd.underlying156 rfl rfl Tryd.underlying9 (by kernel_rfl) (by kernel_rfl)
    exact ⟨_, by have := World.var?_cell (show Tryd.prog.globalNamed "strconv.ErrSyntax" = some 0 by kernel_rfl) hv1 0; simpa using this, .inr ⟨_, _, rfl⟩⟩
  · obtain ⟨a1, s1, hv1, _⟩ := laid_sentinel (g := 1) (ti := 68) (tp := 154) (te := 156) (ts := 9) h4 (by kernel_rfl) (by kernel_rfl) Tryd.underlying68 row_es Tryd.underlying154 Tryd.underlying156 rfl rfl Tryd.underlying9 (by kernel_rfl) (by kernel_rfl)
    exact ⟨_, by have := World.var?_cell (show Tryd.prog.globalNamed "strconv.ErrRange" = some 1 by kernel_rfl) hv1 0; simpa using this, .inr ⟨_, _, rfl⟩⟩
  · exact Lib.tabIs_of_head (P := Tryd.prog) (k := .u64) (zs := Lib.pow10Tab) (g := 2) (t := 151) (e := 130) (n := 20) (by kernel_rfl) (by kernel_rfl) Tryd.underlying151 Tryd.underlying130 (by kernel_rfl) (by kernel_rfl) h2
end Go.Proofs.YthfdlfdbjiofhaaDoor
