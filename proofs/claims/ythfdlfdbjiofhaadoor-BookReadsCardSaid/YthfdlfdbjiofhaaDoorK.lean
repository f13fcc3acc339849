/- Small words for the walks: what a slice that is read says, what a slice of the call's own says, and that old memory stays. -/
import Derived.WalkKit
import Derived.WalkSpells
import Derived.WalkLawsBesides
import Derived.Maps.AppendAt
import Derived.Deep.LoopGhost
import Derived.Lib.Hide
import Derived.Deep.AppendLies
import Derived.Laws.Rows
import Derived.Deep.QuietTactic
import Derived.BigQuiet
import Derived.Deep.Light
import Derived.Deep.RegionWith
import Derived.Lib.QuietBelow
import Derived.Laws.StructEq
set_option linter.unusedVariables false
set_option linter.unusedSimpArgs false
namespace Go.Proofs.YthfdlfdbjiofhaaDoor
open Go.RowKit Go.Sort
theorem blw_alloc {w W : World} (h : Below w.heap.size w W) (o : Obj) : Below w.heap.size w (W.alloc o) := h.alloc h.size o
theorem blw_call {w W w1 : World} (hb : Below W.heap.size W w1) (h : Below w.heap.size w W) : Below w.heap.size w w1 := h.trans (hb.mono h.size)
theorem blw_drew {w W : World} (h : Below w.heap.size w W) : Below w.heap.size w W.drew := h.drew
theorem asd {p : Prop} (h : p) : Aside p := h
theorem bcell {W w1 : World} (hb : Below W.heap.size W w1) : (∀ b o, b < W.heap.size → w1.cell? ⟨b, o, none⟩ = W.cell? ⟨b, o, none⟩) ∧ (∀ b o, b < W.heap.size → w1.frozen? ⟨b, o, none⟩ = W.frozen? ⟨b, o, none⟩) :=
  ⟨fun b o h => hb.cell (p := ⟨b, o, none⟩) h, fun b o h => hb.frozen (p := ⟨b, o, none⟩) h⟩
theorem rb {a b : Bool} (h : a = b) : Ending.returned (.bool a) = .returned (.bool b) := by rw [h]
theorem ri {a b : Int} (h : a = b) : Ending.returned (.int .i64 a) = .returned (.int .i64 b) := by rw [h]

/-- A slice (address a, length xs.length) whose elements are the xs, each of k cells: read only. -/
structure Rd {α : Type} (w : World) (enc : α → List Value) (k : Nat) (a : Option Addr) (xs : List α) : Prop where
  big : xs.length ≤ 1000000
  row : 0 < xs.length → ∃ b off, a = some ⟨b, off, none⟩ ∧ b < w.heap.size ∧ ∀ j (h : j < xs.length), ∀ i v, (enc xs[j])[i]? = some v → w.cell? ⟨b, off + j * k + i, none⟩ = some v

theorem Rd.below {α : Type} {w W : World} {enc : α → List Value} {k : Nat} {a : Option Addr} {xs : List α} (h : Rd w enc k a xs) (hb : Below w.heap.size w W) : Rd W enc k a xs :=
  ⟨h.big, fun h0 => by
    obtain ⟨b, off, e, hlt, hc⟩ := h.row h0
    exact ⟨b, off, e, Nat.lt_of_lt_of_le hlt hb.size, fun j hj i v hv => (hb.cell (p := ⟨b, off + j * k + i, none⟩) hlt).trans (hc j hj i v hv)⟩⟩

theorem Rd.at_ {α : Type} {w : World} {enc : α → List Value} {k : Nat} {a : Option Addr} {xs : List α} (h : Rd w enc k a xs) (j : Nat) (hj : j < xs.length) :
    ∃ b off, a = some ⟨b, off, none⟩ ∧ b < w.heap.size ∧ ∀ i v, (enc xs[j])[i]? = some v → w.cell? ⟨b, off + j * k + i, none⟩ = some v := by
  obtain ⟨b, off, e, hlt, hc⟩ := h.row (by omega)
  exact ⟨b, off, e, hlt, hc j hj⟩

/-- append(v, y), y of 'size' cells, v a row of the call's own; the world is 'W.alloc' of the variadic's box. -/
theorem app_own {P : Program} {ops : Array Oper} {rest : List Oper} {o : Oper} {a : Act} {Q : Exit → Act → World → Prop} {w0 W : World} (base : Nat) (hgd : o.guard = none) (s x : Operand) (t e : TypeId) (z : Value) (size bytes : Nat)
    (ho : o.op = .call { callee := .builtin .append, args := #[s, x], argTypes := #[t, t] })
    (ht : P.underlying t = some (.slice e)) (hinfo : (P.info? e).map (fun i => (i.zero, i.size, i.bytes)) = some (some z, size, bytes)) (hz : z.cells.size = size) (hs0 : 0 < size) (hb0 : 0 < bytes)
    (v : Value) (n : Nat) (xs ys : List Value) (hs : a.eval s = v) (hx : a.eval x = .slice (some ⟨W.heap.size, 0, none⟩) 1 1) (hys : ys.length = size) (h1 : ∀ y ∈ ys, y.oneCell' = true)
    (HO : W.ownsRow base e size v n xs) (HB : Below base w0 W) (hbase : base ≤ W.heap.size) (hl : (n + 1) * bytes ≤ 140737488355328)
    (h : ∀ v1 w1, w1.ownsRow base e size v1 (n + 1) (xs ++ ys) → Below base w0 w1 → W.grownBy w1 v.ownBlock → (v1.ownBlock = v.ownBlock ∨ ∃ b, v1.ownBlock = some b ∧ W.heap.size ≤ b) → wpList P ops Q rest (a.put o.dst v1) w1) :
    wpList P ops Q (o :: rest) a (W.alloc (.cells ys.toArray e)) := by
  obtain ⟨i0, hi, hzz⟩ := Option.map_eq_some_iff.1 hinfo
  simp only [Prod.mk.injEq] at hzz
  obtain ⟨hz0, hz1, hz2⟩ := hzz
  have hlen : n + 1 ≤ 140737488355328 := Nat.le_trans (Nat.le_mul_of_pos_right _ hb0) hl
  refine wpList_append_own_at (W.alloc (.cells ys.toArray e)) hgd s x t ho base e i0 z size bytes ht hi hz0 hz1 hz2 hz (by omega) v n xs hs (HO.alloc _) ⟨W.heap.size, 0, none⟩ 1 1 ys hx (by omega)
    (World.news_of_block (cs := ys.toArray) (t := e) (fr := (0, 0)) (heap_alloc_new W _)) h1 (by simp only [maxLen]; omega) hl (by simp; omega) ?_
  intro v1 w1 hown hg _ hat
  refine h v1 w1 hown ((HB.alloc hbase _).grown hg (by simp; omega) (fun k hk => (HO.lt k hk).1)) (World.grownBy.trans (World.grownBy_alloc W _ _) hg) ?_
  rcases hat with hat | hat
  · exact .inl hat
  · exact .inr ⟨_, hat, by simp⟩

theorem own_blw {w W : World} {base : Nat} {e : TypeId} {size n : Nat} {v : Value} {xs : List Value} (h : w.ownsRow base e size v n xs) (hb : Below w.heap.size w W) : W.ownsRow base e size v n xs :=
  h.kept (row := none) ⟨hb.os, hb.tape, hb.output, hb.size, fun i hi _ => hb.block i hi⟩ (by cases v.ownBlock <;> simp)
theorem own_slice {w : World} {base n : Nat} {e : TypeId} {size : Nat} {v : Value} {xs : List Value} (h : w.ownsRow base e size v n xs) : ∃ A c, v = .slice A n c := by
  rcases h.2 with ⟨rfl, rfl⟩ | ⟨g, cap, cur, rfl, _⟩
  · exact ⟨none, 0, rfl⟩
  · exact ⟨_, cap, rfl⟩
theorem own_mono {w : World} {base base' : Nat} {e : TypeId} {size n : Nat} {v : Value} {xs : List Value} (h : w.ownsRow base e size v n xs) (hb : base' ≤ base) : w.ownsRow base' e size v n xs := by
  obtain ⟨h1, h2⟩ := h
  refine ⟨h1, ?_⟩
  rcases h2 with h2 | ⟨g, cap, cur, hv, hg, r⟩
  · exact .inl h2
  · exact .inr ⟨g, cap, cur, hv, Nat.le_trans hb hg, r⟩
theorem flat_len {α : Type} (enc : α → List Value) (k : Nat) (hk : ∀ x, (enc x).length = k) (xs : List α) : (xs.flatMap enc).length = xs.length * k := by
  induction xs with
  | nil => simp
  | cons x t ih => rw [List.flatMap_cons, List.length_append, hk, ih, List.length_cons, Nat.succ_mul, Nat.add_comm]
theorem flat_at {α : Type} (enc : α → List Value) (k : Nat) (hk : ∀ x, (enc x).length = k) (xs : List α) : ∀ (j : Nat) (hj : j < xs.length) (i : Nat) (v : Value), (enc xs[j])[i]? = some v → (xs.flatMap enc)[j * k + i]? = some v := by
  induction xs with
  | nil => intro j hj; simp at hj
  | cons x t ih =>
    intro j hj i v hv
    have hi : i < k := by
      rcases Nat.lt_or_ge i k with h | h
      · exact h
      · rw [List.getElem?_eq_none (by rw [hk]; exact h)] at hv; cases hv
    rw [List.flatMap_cons]
    cases j with
    | zero => rw [Nat.zero_mul, Nat.zero_add, List.getElem?_append_left (by rw [hk]; exact hi)]; exact hv
    | succ j =>
      rw [List.getElem?_append_right (by rw [hk, Nat.succ_mul]; omega), hk, show (j + 1) * k + i - k = j * k + i from by rw [Nat.succ_mul]; omega]
      exact ih j (by simpa using hj) i v (by simpa using hv)
/-- A row of the call's own, as a slice that is read. -/
theorem own_rd {α : Type} {w : World} {base : Nat} {e : TypeId} {k : Nat} {v : Value} {enc : α → List Value} {xs : List α} (hk : ∀ x, (enc x).length = k) (hbig : xs.length ≤ 1000000) (h : w.ownsRow base e k v xs.length (xs.flatMap enc)) :
    ∃ A c, v = .slice A xs.length c ∧ Rd w enc k A xs := by
  rcases h.2 with ⟨hv, hn⟩ | ⟨g, cap, cur, hv, hb, hh, h1, h2, h3, h4⟩
  · exact ⟨none, 0, by rw [hv, hn], ⟨hbig, fun h0 => absurd h0 (by omega)⟩⟩
  · refine ⟨_, cap, hv, ⟨hbig, fun h0 => ⟨g, 0, rfl, (Array.getElem?_eq_some_iff.1 hh).1, fun j hj i u hu => ?_⟩⟩⟩
    have := h.cells (g := g) (by rw [hv]; rfl) (j * k + i) u (flat_at enc k hk xs j hj i u hu)
    have ha : (⟨g, 0, none⟩ : Addr).add (j * k + i) = ⟨g, 0 + j * k + i, none⟩ := by unfold Addr.add; split <;> simp_all
    rw [← ha]; exact this

/-! Structs compared, field by field. -/
section
variable {P : Program} {d : Nat} {xs ys : Array Value} {f : Field} {fs : List Field} {a b : Value} {r s : Bool} {w : World}
theorem seq_cons (hn : (f.name == "_") = false) (ha : (part f.type xs f.offset).run P w = .ok a w) (hb : (part f.type ys f.offset).run P w = .ok b w) (he : (Op.equalIn d f.type a b).run P w = .ok r w) (hr : (Op.eqFields d xs ys fs).run P w = .ok s w) : (Op.eqFields d xs ys (f :: fs)).run P w = .ok (r && s) w := by
  have hn' : f.name ≠ "_" := by simpa using hn
  rw [Op.eqFields]
  simp only [if_pos hn', Sem.run_bind, ha, hb, he, Result.andThen_ok]
  cases r
  · simp
  · simpa using hr
theorem seq_last (hn : (f.name == "_") = false) (ha : (part f.type xs f.offset).run P w = .ok a w) (hb : (part f.type ys f.offset).run P w = .ok b w) (he : (Op.equalIn d f.type a b).run P w = .ok r w) : (Op.eqFields d xs ys [f]).run P w = .ok r w := by
  have := seq_cons hn ha hb he (fs := []) (s := true) (by simp [Op.eqFields])
  rwa [Bool.and_true] at this
theorem seq_of {t : TypeId} {fs : Array Field} (hu : P.underlying t = some (.struct fs)) (hp : P.stoodInHeld t = false) (h : (Op.eqFields d xs ys fs.toList).run P w = .ok r w) : (Op.equalIn (d + 1) t (.agg xs) (.agg ys)).run P w = .ok r w := by
  have hf : P.fieldsOf t = fs := by simp [Program.fieldsOf, hu]
  rw [run_equalIn_struct (P := P) w d t xs ys (by rw [hf]; exact hu) hp, hf]
  exact h
end
/-! Regions that draw their order: what they load lies in old blocks, what they call lays blocks of its own. -/
structure RG where
  d : Nat
  os : Array Obj
  deriving Inhabited
def rg (w : World) (p : RG) : World := grow (redrawn w p.d) p.os
theorem rg_below (w : World) (p : RG) : Below w.heap.size w (rg w p) := below_regrown w p.d p.os
theorem blw_rg {w W : World} (h : Below w.heap.size w W) (p : RG) : Below w.heap.size w (rg W p) := blw_call (rg_below W p) h
theorem rg_cell {w : World} {a : Addr} {v : Value} (h : w.cell? a = some v) (p : RG) : (rg w p).cell? a = some v := ((rg_below w p).cell (World.block_lt_of_cell? w a h)).trans h
theorem rg_cells (w : World) (a : Addr) (p : RG) (h : (w.cell? a).isSome = true) : (rg w p).cell? a = w.cell? a := by
  obtain ⟨v, hv⟩ := Option.isSome_iff_exists.1 h
  rw [hv]; exact rg_cell hv p
theorem rg_same (w : World) (p : RG) (a : Addr) (h : a.block < w.heap.size) : (rg w p).cell? a = w.cell? a := (rg_below w p).cell h
@[go_sem] theorem rg_a0 (w : World) (c : Array Value) (t : TypeId) (p : RG) (b i : Nat) (h : b = w.heap.size) : (rg (w.alloc (.cells c t)) p).cell? ⟨b, i, none⟩ = c[i]? := by
  subst h
  rw [rg_same _ _ _ (by simp; try omega)]
  simp
@[go_sem] theorem rg_a1 (w : World) (c : Array Value) (t : TypeId) (o1 : Obj) (p : RG) (b i : Nat) (h : b = w.heap.size) : (rg ((w.alloc (.cells c t)).alloc o1) p).cell? ⟨b, i, none⟩ = c[i]? := by
  subst h
  rw [rg_same _ _ _ (by simp; try omega)]
  rw [World.cell?_alloc_lt _ _ _ (by simp; try omega)]
  exact World.cell?_alloc_new w c t i
@[go_sem] theorem rg_a2 (w : World) (c : Array Value) (t : TypeId) (o1 o2 : Obj) (p : RG) (b i : Nat) (h : b = w.heap.size) : (rg (((w.alloc (.cells c t)).alloc o1).alloc o2) p).cell? ⟨b, i, none⟩ = c[i]? := by
  subst h
  rw [rg_same _ _ _ (by simp; try omega)]
  rw [World.cell?_alloc_lt _ _ _ (by simp; try omega)]
  rw [World.cell?_alloc_lt _ _ _ (by simp; try omega)]
  exact World.cell?_alloc_new w c t i
@[go_sem] theorem rg_a3 (w : World) (c : Array Value) (t : TypeId) (o1 o2 o3 : Obj) (p : RG) (b i : Nat) (h : b = w.heap.size) : (rg ((((w.alloc (.cells c t)).alloc o1).alloc o2).alloc o3) p).cell? ⟨b, i, none⟩ = c[i]? := by
  subst h
  rw [rg_same _ _ _ (by simp; try omega)]
  rw [World.cell?_alloc_lt _ _ _ (by simp; try omega)]
  rw [World.cell?_alloc_lt _ _ _ (by simp; try omega)]
  rw [World.cell?_alloc_lt _ _ _ (by simp; try omega)]
  exact World.cell?_alloc_new w c t i
@[go_sem] theorem rg_a4 (w : World) (c : Array Value) (t : TypeId) (o1 o2 o3 o4 : Obj) (p : RG) (b i : Nat) (h : b = w.heap.size) : (rg (((((w.alloc (.cells c t)).alloc o1).alloc o2).alloc o3).alloc o4) p).cell? ⟨b, i, none⟩ = c[i]? := by
  subst h
  rw [rg_same _ _ _ (by simp; try omega)]
  rw [World.cell?_alloc_lt _ _ _ (by simp; try omega)]
  rw [World.cell?_alloc_lt _ _ _ (by simp; try omega)]
  rw [World.cell?_alloc_lt _ _ _ (by simp; try omega)]
  rw [World.cell?_alloc_lt _ _ _ (by simp; try omega)]
  exact World.cell?_alloc_new w c t i
@[go_sem] theorem rg_a5 (w : World) (c : Array Value) (t : TypeId) (o1 o2 o3 o4 o5 : Obj) (p : RG) (b i : Nat) (h : b = w.heap.size) : (rg ((((((w.alloc (.cells c t)).alloc o1).alloc o2).alloc o3).alloc o4).alloc o5) p).cell? ⟨b, i, none⟩ = c[i]? := by
  subst h
  rw [rg_same _ _ _ (by simp; try omega)]
  rw [World.cell?_alloc_lt _ _ _ (by simp; try omega)]
  rw [World.cell?_alloc_lt _ _ _ (by simp; try omega)]
  rw [World.cell?_alloc_lt _ _ _ (by simp; try omega)]
  rw [World.cell?_alloc_lt _ _ _ (by simp; try omega)]
  rw [World.cell?_alloc_lt _ _ _ (by simp; try omega)]
  exact World.cell?_alloc_new w c t i
@[go_sem] theorem rg_a6 (w : World) (c : Array Value) (t : TypeId) (o1 o2 o3 o4 o5 o6 : Obj) (p : RG) (b i : Nat) (h : b = w.heap.size) : (rg (((((((w.alloc (.cells c t)).alloc o1).alloc o2).alloc o3).alloc o4).alloc o5).alloc o6) p).cell? ⟨b, i, none⟩ = c[i]? := by
  subst h
  rw [rg_same _ _ _ (by simp; try omega)]
  rw [World.cell?_alloc_lt _ _ _ (by simp; try omega)]
  rw [World.cell?_alloc_lt _ _ _ (by simp; try omega)]
  rw [World.cell?_alloc_lt _ _ _ (by simp; try omega)]
  rw [World.cell?_alloc_lt _ _ _ (by simp; try omega)]
  rw [World.cell?_alloc_lt _ _ _ (by simp; try omega)]
  rw [World.cell?_alloc_lt _ _ _ (by simp; try omega)]
  exact World.cell?_alloc_new w c t i
@[go_sem] theorem rg_a7 (w : World) (c : Array Value) (t : TypeId) (o1 o2 o3 o4 o5 o6 o7 : Obj) (p : RG) (b i : Nat) (h : b = w.heap.size) : (rg ((((((((w.alloc (.cells c t)).alloc o1).alloc o2).alloc o3).alloc o4).alloc o5).alloc o6).alloc o7) p).cell? ⟨b, i, none⟩ = c[i]? := by
  subst h
  rw [rg_same _ _ _ (by simp; try omega)]
  rw [World.cell?_alloc_lt _ _ _ (by simp; try omega)]
  rw [World.cell?_alloc_lt _ _ _ (by simp; try omega)]
  rw [World.cell?_alloc_lt _ _ _ (by simp; try omega)]
  rw [World.cell?_alloc_lt _ _ _ (by simp; try omega)]
  rw [World.cell?_alloc_lt _ _ _ (by simp; try omega)]
  rw [World.cell?_alloc_lt _ _ _ (by simp; try omega)]
  rw [World.cell?_alloc_lt _ _ _ (by simp; try omega)]
  exact World.cell?_alloc_new w c t i
@[go_sem] theorem rg_a8 (w : World) (c : Array Value) (t : TypeId) (o1 o2 o3 o4 o5 o6 o7 o8 : Obj) (p : RG) (b i : Nat) (h : b = w.heap.size) : (rg (((((((((w.alloc (.cells c t)).alloc o1).alloc o2).alloc o3).alloc o4).alloc o5).alloc o6).alloc o7).alloc o8) p).cell? ⟨b, i, none⟩ = c[i]? := by
  subst h
  rw [rg_same _ _ _ (by simp; try omega)]
  rw [World.cell?_alloc_lt _ _ _ (by simp; try omega)]
  rw [World.cell?_alloc_lt _ _ _ (by simp; try omega)]
  rw [World.cell?_alloc_lt _ _ _ (by simp; try omega)]
  rw [World.cell?_alloc_lt _ _ _ (by simp; try omega)]
  rw [World.cell?_alloc_lt _ _ _ (by simp; try omega)]
  rw [World.cell?_alloc_lt _ _ _ (by simp; try omega)]
  rw [World.cell?_alloc_lt _ _ _ (by simp; try omega)]
  rw [World.cell?_alloc_lt _ _ _ (by simp; try omega)]
  exact World.cell?_alloc_new w c t i
theorem rg_mk {w W : World} (h : Below w.heap.size w W) : ∃ p : RG, W = rg w p := by
  obtain ⟨⟨d, os⟩, e⟩ := regrown_of_below h
  exact ⟨⟨d, os⟩, e⟩
theorem wp_region_rg {P : Program} {id : Nat} {Q : Exit → Act → World → Prop} {a : Act} {w : World} {l : List Oper} (hm : P.follows .mixedOrders = true) (hB : Region.lexB .any l.toArray = true)
    (h : wpQuiet P l.toArray (fun w' => ∃ p : RG, w' = rg w p) (fun a' => ∀ w', (∃ p : RG, w' = rg w p) → Q .normal a' w') l a) : (Code.region id l.toArray true).wp P Q a w :=
  wp_region_quiet (C := fun w' => ∃ p : RG, w' = rg w p) hm hB (rg_mk ⟨rfl, rfl, rfl, Nat.le_refl _, fun _ _ => rfl⟩) (by simpa using h)
theorem rg_next {w W : World} {p : RG} (h : Below (rg w p).heap.size (rg w p) W) : ∃ q : RG, W = rg w q := rg_mk ((rg_below w p).trans (h.mono (rg_below w p).size))
theorem rg_of {P : Program} {f : FuncId} {args : Array Value} {w : World} {p : RG} {v : Value}
    (h : Calls P f args (rg w p) fun e w' => e = .returned v ∧ Below (rg w p).heap.size (rg w p) w') : Calls P f args (rg w p) fun e w'' => e = .returned v ∧ ∃ q : RG, w'' = rg w q :=
  h.mono fun _ _ ⟨he, hb⟩ => ⟨he, rg_mk ((rg_below w p).trans (hb.mono (rg_below w p).size))⟩
theorem rg_of_same {P : Program} {f : FuncId} {args : Array Value} {w : World} {p : RG} {v : Value}
    (h : Calls P f args (rg w p) fun e w' => e = .returned v ∧ rg w p = w') : Calls P f args (rg w p) fun e w'' => e = .returned v ∧ ∃ q : RG, w'' = rg w q :=
  h.mono fun _ _ ⟨he, hb⟩ => ⟨he, p, hb.symm⟩
end Go.Proofs.YthfdlfdbjiofhaaDoor
