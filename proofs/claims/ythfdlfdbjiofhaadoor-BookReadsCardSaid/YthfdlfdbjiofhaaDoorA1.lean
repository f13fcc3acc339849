/- Words: slices of strings and ints, as the walks and as the printed functions read them. -/
import Derived.Test.YthfdlfdbjiofhaaDoorRows
import Derived.Test.YthfdlfdbjiofhaaDoorK
import Derived.OneCell
import Derived.Shelf.Abstract
import Derived.Laws.EntriesVeiled
set_option linter.unusedVariables false
set_option linter.unusedSimpArgs false
namespace Go.Proofs.YthfdlfdbjiofhaaDoor
open Go.RowKit
def encStr (s : ByteArray) : List Value := [.string s]
def encInt (x : Int) : List Value := [.int .i64 x]
abbrev FnV (g : Nat) : Value := .func (.func g) #[] #[]
def ListPost {α : Type} (enc : α → List Value) (k : Nat) (L : List α) (e0 : Int) (w : World) (e : Ending) (w' : World) : Prop := ∃ A c, L.length ≤ c ∧ e = .returned (.tuple #[.slice A L.length c, .int .i64 e0]) ∧ Rd w' enc k A L ∧ Below w.heap.size w w'
theorem rd_nilC {α : Type} (w : World) (enc : α → List Value) (k : Nat) (a : Option Addr) : Rd w enc k a [] := ⟨by simp, fun h => absurd h (by simp)⟩
theorem own_rdc {α : Type} {w : World} {base : Nat} {e : TypeId} {k : Nat} {v : Value} {enc : α → List Value} {xs : List α} (hk : ∀ x, (enc x).length = k) (hbig : xs.length ≤ 1000000) (h : w.ownsRow base e k v xs.length (xs.flatMap enc)) :
    ∃ A c, v = .slice A xs.length c ∧ xs.length ≤ c ∧ Rd w enc k A xs := by
  obtain ⟨A, c, rfl, hr⟩ := own_rd hk hbig h
  refine ⟨A, c, rfl, ?_, hr⟩
  rcases h.2 with ⟨hv, hn⟩ | ⟨g, cap, cur, hv, hb, hh, h1, h2, h3, h4⟩
  · injection hv with h5 h6 h7; omega
  · injection hv with h5 h6 h7; omega
theorem addr_none' (b off n : Nat) : (⟨b, off, none⟩ : Addr).add n = ⟨b, off + n, none⟩ := by unfold Addr.add; split <;> simp_all
theorem u8_eq {x : UInt8} {n : Nat} (hn : n < 256) : ((x.toNat : Int) = n) ↔ x = UInt8.ofNat n := by
  constructor
  · intro h
    apply UInt8.toNat_inj.1
    rw [UInt8.toNat_ofNat']
    omega
  · intro h
    rw [h, UInt8.toNat_ofNat']
    omega
/-- A walk that ends at one of two known values: the same for a list made by the call. -/
theorem idx_any {α : Type} (p : α → Bool) (xs : List α) (k : Nat) (h : k < xs.length) : (xs.take (k + 1)).any p = ((xs.take k).any p || p xs[k]) := by
  rw [List.take_succ_eq_append_getElem h, List.any_append]; simp
theorem any_hit {α : Type} (p : α → Bool) (xs : List α) (k : Nat) (h : k < xs.length) (hp : p xs[k] = true) : xs.any p = true := List.any_eq_true.2 ⟨_, List.getElem_mem h, hp⟩
theorem any_not {α : Type} (p : α → Bool) (xs : List α) : (xs.any fun c => !p c) = !xs.all p := by
  induction xs with
  | nil => rfl
  | cons x t ih => rw [List.any_cons, List.all_cons, ih]; cases p x <;> simp
def IdxPost (b : Bool) (w : World) (e : Ending) (w' : World) : Prop := ∃ r : Int, e = .returned (.int .i64 r) ∧ decide (0 ≤ r) = b ∧ w = w'
end Go.Proofs.YthfdlfdbjiofhaaDoor
