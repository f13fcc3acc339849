/- A map from points to points that the call itself has made. -/
import Derived.Test.YtdpdchghafopfaaK2
import Derived.Test.YtdpdchghafopfaaS1
import Derived.Maps.Own
import Derived.Maps.OwnSet
import Derived.Maps.OwnOps
import Derived.DeepKeys4
import Derived.MapViews
set_option linter.unusedVariables false
set_option linter.unusedSimpArgs false
namespace Go.Proofs.Ytdpdchghafopfaa
open Go.RowKit Go.Maps
theorem laidOut_ : laidOutB Try.prog = true := by kernel_rfl
theorem rowPt : (25 : TypeId) < Try.prog.types.size := of_decide_eq_true (by kernel_rfl)
theorem cellsPt : Try.prog.cellsOf 25 = 2 := by kernel_rfl
theorem deepPt : Try.prog.keyTypeAt 2 25 = true := by kernel_rfl
theorem lawPt : Keyed Try.prog 25 := Keyed.of_law (deep_law_laid laidOut_ (m := 2) (by omega) rowPt deepPt (by rw [Try.underlying25]))
set_option maxRecDepth 100000 in
theorem keyPt : Try.prog.keyType 25 = true := by kernel_rfl
def hR (v : Value) : Option (DataW Value × List MemPlace) := some (.held v, [])
abbrev bigI (n : Int) : Prop := (Lit.int .i64 n).wf = true
theorem bigI_of {n : Int} (h1 : -1000000 ≤ n) (h2 : n ≤ 1000000) : bigI n := by
  simp [bigI, Lit.wf, IntKind.min, IntKind.max, IntKind.signed, IntKind.bits]
  omega
theorem lits_int (d : Nat) (n : Int) (h : bigI n) : Try.prog.keyLits (d + 1) 3 [.int .i64 n] = some [.int .i64 n] := by
  have h' : (Lit.int .i64 n).wf = true := h
  simp only [Program.keyLits, Try.underlying3, h', and_self, if_true]
theorem lits_pt (d : Nat) (q : Pt) (h1 : bigI q.1) (h2 : bigI q.2) : Try.prog.keyLits (d + 2) 25 [.int .i64 q.1, .int .i64 q.2] = some [.int .i64 q.1, .int .i64 q.2] := by
  have c : Try.prog.cellsOf 3 = 1 := by kernel_rfl
  unfold Program.keyLits
  simp only [Try.underlying25, cellsPt]
  rw [if_pos (by simp)]
  simp [lits_int _ _ h1, lits_int _ _ h2, c]
theorem key_some (q : Pt) (h1 : bigI q.1) (h2 : bigI q.2) : ∃ l, keyOf Try.prog 25 (P2 q) = some l := by
  have hf : (P2 q).formed Try.prog 25 = true := by simp only [Value.formed, Try.underlying25, cellsPt, P2]; rfl
  have hs : Try.prog.types.size + 1 = (Try.prog.types.size - 1) + 2 := by have h : (25 : Nat) < Try.prog.types.size := rowPt; omega
  have hc : (P2 q).cells.toList = [.int .i64 q.1, .int .i64 q.2] := rfl
  unfold keyOf
  simp only [Try.underlying25]
  rw [if_pos (by rw [keyPt, hf]; rfl), hs, hc, lits_pt _ q h1 h2]
  exact ⟨_, rfl⟩

/-- Block b is the call's own map: what it says of each point. -/
def OwnsPM (w : World) (b n : Nat) (f : Pt → Option Pt) : Prop :=
  ∃ D, w.ownsMap Try.prog 25 hR b n D ∧ IsMap D ∧ ∀ q l, keyOf Try.prog 25 (P2 q) = some l → has D l = (f q).isSome ∧ ∀ z, D.atKey l z = ((f q).map fun p => DataW.held (P2 p)).getD z
theorem opm_made (w : World) : OwnsPM (w.alloc (.map #[] 0)) w.heap.size 0 fun _ => none :=
  ⟨_, World.ownsMap_made w _ _ _, isMap_empty, fun q l h => ⟨rfl, fun z => rfl⟩⟩
theorem OwnsPM.kept {w w' : World} {b n : Nat} {f : Pt → Option Pt} {row : Option Nat} (h : OwnsPM w b n f) (hg : w.grownBy w' row) (hne : some b ≠ row) : OwnsPM w' b n f := by
  obtain ⟨D, h1, h2⟩ := h
  exact ⟨D, h1.kept hg hne, h2⟩
theorem OwnsPM.below {w w' : World} {b n : Nat} {f : Pt → Option Pt} (h : OwnsPM w b n f) (hb : Below w.heap.size w w') : OwnsPM w' b n f :=
  h.kept (row := none) ⟨hb.os, hb.tape, hb.output, hb.size, fun i hi _ => hb.block i hi⟩ (by simp)
theorem OwnsPM.lt {w : World} {b n : Nat} {f : Pt → Option Pt} (h : OwnsPM w b n f) : b < w.heap.size := by
  obtain ⟨D, h1, _⟩ := h
  exact h1.lt
theorem zeroPt (w : World) : (zeroValue 25).run Try.prog w = .ok (P2 (0, 0)) w := by kernel_rfl
theorem OwnsPM.look2 {w : World} {b n : Nat} {f : Pt → Option Pt} (h : OwnsPM w b n f) (q : Pt) (h1 : bigI q.1) (h2 : bigI q.2) :
    (Instr.lookup 46 (.map (some b)) (.agg #[.int .i64 q.1, .int .i64 q.2]) true).run Try.prog w = .ok (.tuple #[P2 ((f q).getD (0, 0)), .bool (f q).isSome]) w := by
  obtain ⟨D, hD, hm, hf⟩ := h
  obtain ⟨l, hl⟩ := key_some q h1 h2
  obtain ⟨v, ps, hrun, hv⟩ := hD.look_ok lawPt Try.underlying46 (zeroPt w) (zd := .held (P2 (0, 0))) (zp := []) rfl hl
  obtain ⟨e1, e2⟩ := hf q l hl
  rw [e1] at hrun
  rw [e2] at hv
  have : v = P2 ((f q).getD (0, 0)) := by
    cases hq : f q with
    | none => rw [hq] at hv; simp [hR] at hv; simpa using hv.1
    | some p => rw [hq] at hv; simp [hR] at hv; simpa using hv.1
  rw [← this]
  exact hrun
theorem OwnsPM.look {w : World} {b n : Nat} {f : Pt → Option Pt} (h : OwnsPM w b n f) (q : Pt) (h1 : bigI q.1) (h2 : bigI q.2) :
    (Instr.lookup 46 (.map (some b)) (.agg #[.int .i64 q.1, .int .i64 q.2]) false).run Try.prog w = .ok (P2 ((f q).getD (0, 0))) w := by
  obtain ⟨D, hD, hm, hf⟩ := h
  obtain ⟨l, hl⟩ := key_some q h1 h2
  obtain ⟨v, ps, hrun, hv⟩ := hD.lookup lawPt Try.underlying46 (zeroPt w) (zd := .held (P2 (0, 0))) (zp := []) rfl hl
  obtain ⟨e1, e2⟩ := hf q l hl
  rw [e2] at hv
  have : v = P2 ((f q).getD (0, 0)) := by
    cases hq : f q with
    | none => rw [hq] at hv; simp [hR] at hv; simpa using hv.1
    | some p => rw [hq] at hv; simp [hR] at hv; simpa using hv.1
  rw [← this]
  exact hrun
/-- _, ok := back[q], at the operation. -/
theorem wpList_look2_pm {ops : Array Oper} {rest : List Oper} {o : Oper} {a : Act} {Q : Exit → Act → World → Prop} (w : World)
    (hg : o.guard = none) (m x : Operand) (hop : o.op = Op.lookup 46 m x true) (b n : Nat) (f : Pt → Option Pt)
    (hm : a.eval m = .map (some b)) (hown : OwnsPM w b n f) (q : Pt) (hx : a.eval x = P2 q) (h1 : bigI q.1) (h2 : bigI q.2) (r : Pt) (k : Bool) (hr : (f q).getD (0, 0) = r) (hk : (f q).isSome = k)
    (hK : wpList Try.prog ops Q rest (a.put o.dst (.tuple #[P2 r, .bool k])) w) :
    wpList Try.prog ops Q (o :: rest) a w := by
  have hrun := hown.look2 q h1 h2
  rw [hr, hk] at hrun
  refine wpList_plain hg fun K' hK' => ?_
  unfold Oper.wp
  simp [execOp, hop, hm, hx, hrun, Result.andThen]
  exact hK' _ _ hK
theorem wpList_look_pm {ops : Array Oper} {rest : List Oper} {o : Oper} {a : Act} {Q : Exit → Act → World → Prop} (w : World)
    (hg : o.guard = none) (m x : Operand) (hop : o.op = Op.lookup 46 m x false) (b n : Nat) (f : Pt → Option Pt)
    (hm : a.eval m = .map (some b)) (hown : OwnsPM w b n f) (q : Pt) (hx : a.eval x = P2 q) (h1 : bigI q.1) (h2 : bigI q.2) (r : Pt) (hr : (f q).getD (0, 0) = r)
    (hK : wpList Try.prog ops Q rest (a.put o.dst (P2 r)) w) :
    wpList Try.prog ops Q (o :: rest) a w := by
  have hrun := hown.look q h1 h2
  rw [hr] at hrun
  refine wpList_plain hg fun K' hK' => ?_
  unfold Oper.wp
  simp [execOp, hop, hm, hx, hrun, Result.andThen]
  exact hK' _ _ hK
/-- back[q] = p, at the operation. -/
theorem wpList_put_pm {ops : Array Oper} {rest : List Oper} {o : Oper} {a : Act} {Q : Exit → Act → World → Prop} (w : World)
    (hg : o.guard = none) (m x v : Operand) (hop : o.op = Op.mapUpdate 46 m x v) (b n : Nat) (f : Pt → Option Pt)
    (hm : a.eval m = .map (some b)) (hown : OwnsPM w b n f) (hn : n < maxLen) (q p : Pt) (hx : a.eval x = P2 q) (hv : a.eval v = P2 p) (h1 : bigI q.1) (h2 : bigI q.2)
    (hK : ∀ w', OwnsPM w' b (n + 1) (fun q' => if q' = q then some p else f q') → w.grownBy w' (some b) → wpList Try.prog ops Q rest (a.put o.dst undef) w') :
    wpList Try.prog ops Q (o :: rest) a w := by
  obtain ⟨D, hD, hm', hf⟩ := hown
  obtain ⟨l, hl⟩ := key_some q h1 h2
  refine wpList_mapUpdate_own w hg m x v _ hop 25 25 lawPt Try.underlying46 hR b n D hm hD hn _ _ l hx hv hl (.held (P2 p)) [] rfl ?_
  intro w' ho hgr
  refine hK w' ⟨_, ho, hm'.put _ _, fun q' l' hl' => ?_⟩ hgr
  have hkl := lawPt.key hl
  by_cases e : q' = q
  · subst e
    obtain rfl : l = l' := by rw [hl] at hl'; exact Option.some.inj hl'
    simp only [if_true]
    exact ⟨has_put_same hm' hkl _, fun z => by rw [atKey_put_same hm' hkl]; rfl⟩
  · have hne : l' ≠ l := fun e2 => e (by
      subst e2
      have := lawPt.inj hl' hl
      simp [P2] at this
      exact Prod.ext this.1 this.2)
    simp only [if_neg e]
    rw [has_put_other hne]
    exact ⟨(hf q' l' hl').1, fun z => by rw [atKey_put_other hne]; exact (hf q' l' hl').2 z⟩
end Go.Proofs.Ytdpdchghafopfaa
