/- common of the program; texts cut and split; what the library's variables hold; next. -/
import Derived.Test.YthfdlfdbjiofhaaDoorB3
import Derived.Lib.IndexBytes
import Derived.Lib.CountLaws
import Derived.Lib.SplitLaws
set_option linter.unusedVariables false
set_option linter.unusedSimpArgs false
namespace Go.Proofs.YthfdlfdbjiofhaaDoor
open Go.RowKit
set_option maxRecDepth 20000 in
set_option maxHeartbeats 1000000 in
theorem common_any (xs ys : List ByteArray) (la lb : Option Addr) (c d : Nat) (w : World) (H : Rd w encStr 1 la xs) (H2 : Rd w encStr 1 lb ys) :
    Calls Tryd.prog 28 #[.slice la xs.length c, .slice lb ys.length d] w fun e w' => e = .returned (.int .i64 (comN xs ys : Nat)) ∧ Below w.heap.size w w' := by
  have hle := comN_le xs ys
  have big := H.big
  go_enter Tryd.func28, Tryd.ntmps28
  go_wp2_with fail
  go_loopg [5] xs.length (fun gg s5 wr => ∃ k : Nat, k ≤ xs.length ∧ xs.length - k ≤ gg ∧ s5 = .int .i64 k ∧ Aside (k + comN (xs.drop k) (ys.drop k) = comN xs ys) ∧ Aside (Below w.heap.size w wr))
  case atStart => exact ⟨0, Nat.zero_le _, by omega, rfl, asd (by simp), Below.refl _ _⟩
  case round =>
    obtain ⟨k, hk, hg, rfl, HA, HB⟩ := hrel
    by_cases hx : k < xs.length
    case neg =>
      have hxz : decide ((k : Int) < (xs.length : Int)) = false := by simp; omega
      have HE := Go.Lib.hid (show k = comN xs ys by have := HA.out; rw [comN_end xs ys k (by omega)] at this; omega)
      clear H H2
      go_wp2_with fail
      ((with_reducible refine wp_region_rg (by kernel_rfl) (by kernel_rfl) ?_); (repeat (first | go_big_quiet_step (fail) | quiet_step (fail))); refine wpQuiet_nil ?_; intro _ hw'; obtain ⟨prg, hw''⟩ := hw'; subst hw'')
      go_wp2
      go_ret
      exact ⟨ri (by rw [← HE.out]), blw_call (rg_below _ _) HB.out⟩
    case pos =>
      have hxz : decide ((k : Int) < (xs.length : Int)) = true := by simp; omega
      by_cases hy : k < ys.length
      case neg =>
        have hyz : decide ((k : Int) < (ys.length : Int)) = false := by simp; omega
        have HE := Go.Lib.hid (show k = comN xs ys by have := HA.out; rw [comN_end xs ys k (by omega)] at this; omega)
        clear H H2
        go_wp2_with fail
        ((with_reducible refine wp_region_rg (by kernel_rfl) (by kernel_rfl) ?_); (repeat (first | go_big_quiet_step (fail) | quiet_step (fail))); refine wpQuiet_nil ?_; intro _ hw'; obtain ⟨prg, hw''⟩ := hw'; subst hw'')
        go_wp2
        go_ret
        exact ⟨ri (by rw [← HE.out]), blw_call (rg_below _ _) HB.out⟩
      case pos =>
        have hyz : decide ((k : Int) < (ys.length : Int)) = true := by simp; omega
        have hx1 : (k : Int) < (xs.length : Int) := by omega
        have hy1 : (k : Int) < (ys.length : Int) := by omega
        obtain ⟨b0, o0, rfl, hb0, hc0⟩ := (H.below HB.out).at_ k hx
        obtain ⟨b1, o1, rfl, hb1, hc1⟩ := (H2.below HB.out).at_ k hy
        have q0 := rg_cell (hc0 0 _ rfl)
        have q1 := rg_cell (hc1 0 _ rfl)
        simp only [Nat.mul_one, Nat.add_zero] at q0 q1
        have HT := comN_step xs ys k hx hy
        have hq := str_eq xs[k] ys[k]
        generalize xs[k] = x at *
        generalize ys[k] = y at *
        clear hc0 hc1 H H2
        by_cases e : x = y
        · have he : (x.toList == y.toList) = true := by rw [hq]; simpa using e
          rw [if_pos e] at HT
          have HE := Go.Lib.hid (show (k + 1) + comN (xs.drop (k + 1)) (ys.drop (k + 1)) = comN xs ys by have := HA.out; omega)
          clear hq HT e
          go_wp2_with fail
          ((with_reducible refine wp_region_rg (by kernel_rfl) (by kernel_rfl) ?_); (repeat (first | go_big_quiet_step (fail) | quiet_step (fail))); refine wpQuiet_nil ?_; intro _ hw'; obtain ⟨prg, hw''⟩ := hw'; subst hw'')
          have hbr := rg_below wr prg
          generalize rg wr prg = wr2 at hbr
          clear q0 q1
          go_wp2
          go_roundg (xs.length - (k + 1))
          case measure => omega
          case rel => exact ⟨k + 1, by omega, by omega, by go_num, HE.out, blw_call hbr HB.out⟩
        · have he : (x.toList == y.toList) = false := by rw [hq]; simpa using e
          rw [if_neg e] at HT
          have HE := Go.Lib.hid (show k = comN xs ys by have := HA.out; omega)
          clear hq HT e
          go_wp2_with fail
          ((with_reducible refine wp_region_rg (by kernel_rfl) (by kernel_rfl) ?_); (repeat (first | go_big_quiet_step (fail) | quiet_step (fail))); refine wpQuiet_nil ?_; intro _ hw'; obtain ⟨prg, hw''⟩ := hw'; subst hw'')
          have hbr := rg_below wr prg
          generalize rg wr prg = wr2 at hbr
          clear q0 q1
          go_wp2
          go_ret
          exact ⟨ri (by rw [← HE.out]), blw_call hbr HB.out⟩
/-- A text split at its spaces. -/
def splitW : List UInt8 → List (List UInt8)
  | [] => [[]]
  | c :: t => if c = 32 then [] :: splitW t else match splitW t with
    | h :: r => (c :: h) :: r
    | [] => [[c]]
theorem splitW_cons (c : UInt8) (t : List UInt8) : splitW (c :: t) = if c = 32 then [] :: splitW t else match splitW t with
    | h :: r => (c :: h) :: r
    | [] => [[c]] := rfl
theorem splitW_ne (l : List UInt8) : splitW l ≠ [] := by
  induction l with
  | nil => simp [splitW]
  | cons c t ih =>
    unfold splitW
    split
    · simp
    · cases h : splitW t with
      | nil => exact absurd h ih
      | cons a r => simp
theorem splitW_one {l : List UInt8} (h : (32 : UInt8) ∉ l) : splitW l = [l] := by
  induction l with
  | nil => rfl
  | cons c t ih =>
    rw [List.mem_cons, not_or] at h
    unfold splitW
    rw [if_neg (fun e => h.1 e.symm), ih h.2]
theorem splitW_at {a b : List UInt8} (h : (32 : UInt8) ∉ a) : splitW (a ++ 32 :: b) = a :: splitW b := by
  induction a with
  | nil => simp [splitW]
  | cons c t ih =>
    rw [List.mem_cons, not_or] at h
    show splitW (c :: (t ++ 32 :: b)) = _
    rw [splitW_cons, if_neg (fun e => h.1 e.symm), ih h.2]
theorem splitW_join : ∀ l : List UInt8, (List.intersperse [32] (splitW l)).flatten = l ∧ ∀ x ∈ splitW l, (32 : UInt8) ∉ x := by
  intro l
  induction l with
  | nil => simp [splitW]
  | cons c t ih =>
    obtain ⟨h1, h2⟩ := ih
    unfold splitW
    split
    · rename_i hc
      subst hc
      cases hs : splitW t with
      | nil => exact absurd hs (splitW_ne t)
      | cons a r =>
        rw [hs] at h1 h2
        refine ⟨by rw [List.intersperse_cons_cons]; simpa using h1, fun x hx => ?_⟩
        rcases List.mem_cons.1 hx with rfl | hx
        · simp
        · exact h2 x hx
    · rename_i hc
      cases hs : splitW t with
      | nil => exact absurd hs (splitW_ne t)
      | cons a r =>
        rw [hs] at h1 h2
        refine ⟨?_, fun x hx => ?_⟩
        · cases r with
          | nil => simpa using h1
          | cons b r => rw [List.intersperse_cons_cons] at h1 ⊢; simpa using h1
        · rcases List.mem_cons.1 hx with rfl | hx
          · rw [List.mem_cons, not_or]; exact ⟨fun e => hc e.symm, h2 a (by simp)⟩
          · exact h2 x (by simp [hx])
abbrev spS : ByteArray := ⟨#[32]⟩
abbrev nlS : ByteArray := ⟨#[10]⟩
theorem indexB_sp (s : ByteArray) : Lib.indexB s spS = Lib.indexByte s.data.toList 32 := Lib.index_one _ _
theorem split_of : ∀ (n : Nat) (s : ByteArray), s.size = n → (Lib.splitB spS 0 (Lib.countB s spS) s).map by_ = splitW (by_ s) := by
  intro n
  induction n using Nat.strongRecOn with
  | _ n ih =>
    intro s hn
    by_cases h : Lib.indexB s spS = -1
    · rw [Lib.countB_miss _ _ h, Lib.splitB_zero]
      rw [indexB_sp] at h
      have hm : (32 : UInt8) ∉ by_ s := fun hx => by
        obtain ⟨k, hk⟩ := List.mem_iff_getElem?.1 hx
        exact Lib.indexByte_none h k hk
      rw [splitW_one hm]; rfl
    · have hge := Lib.indexByte_ge s.data.toList 32
      obtain ⟨i, hi⟩ : ∃ i : Nat, Lib.indexB s spS = i := ⟨(Lib.indexB s spS).toNat, by rw [indexB_sp] at h ⊢; omega⟩
      rw [Lib.countB_hit s spS i (by decide) hi, Nat.add_comm, Lib.splitB_hit spS 0 _ s i hi]
      have hi2 := hi
      rw [indexB_sp] at hi2
      obtain ⟨h1, h2⟩ := Lib.indexByte_some hi2
      have hlt : i < (by_ s).length := (List.getElem?_eq_some_iff.1 h1).1
      have hlt' : i < s.size := by simpa using hlt
      have hsz : (s.extract (i + 1) s.size).size = s.size - (i + 1) := by rw [ByteArray.size_extract]; omega
      have e2 : by_ (s.extract (i + 1) s.size) = (by_ s).drop (i + 1) := by
        show (s.extract (i + 1) s.size).data.toList = _
        rw [Lib.extract_data, List.take_of_length_le (by simp)]
      have e1 : by_ (s.extract 0 (i + 0)) = (by_ s).take i := by
        show (s.extract 0 (i + 0)).data.toList = _
        rw [Lib.extract_data]; simp
      have hih := ih (s.size - (i + 1)) (by omega) (s.extract (i + 1) s.size) hsz
      rw [List.map_cons, show i + spS.size = i + 1 from rfl, hih, e1, e2]
      have h32 : (by_ s)[i] = 32 := (List.getElem?_eq_some_iff.1 h1).2
      have hsplit : by_ s = (by_ s).take i ++ 32 :: (by_ s).drop (i + 1) := (List.take_append_drop i (by_ s)).symm.trans (by rw [List.drop_eq_getElem_cons hlt, h32])
      have hni : (32 : UInt8) ∉ (by_ s).take i := fun hx => by
        obtain ⟨k, hk⟩ := List.mem_iff_getElem?.1 hx
        rw [List.getElem?_take] at hk
        split at hk
        · rename_i hki; exact h2 k hki hk
        · cases hk
      conv => rhs; rw [hsplit]
      rw [splitW_at hni]
theorem cut_of (l : List UInt8) : Lib.cut l [10] = match cutL l with
    | some (a, b) => (a, b, true)
    | none => (l, [], false) := by
  have e := Lib.index_one l 10
  unfold Lib.cut
  rw [e]
  cases h : cutL l with
  | none =>
    have hn := cutL_none h
    have : Lib.indexByte l 10 = -1 := by
      have hge := Lib.indexByte_ge l 10
      rcases Int.lt_or_le (Lib.indexByte l 10) 0 with a | a
      · omega
      · obtain ⟨o, ho⟩ : ∃ o : Nat, Lib.indexByte l 10 = o := ⟨(Lib.indexByte l 10).toNat, by omega⟩
        exact absurd (List.mem_of_getElem? (Lib.indexByte_some ho).1) hn
    rw [this]; simp
  | some x =>
    obtain ⟨a, b⟩ := x
    obtain ⟨rfl, hn⟩ := cutL_some h
    have : Lib.indexByte (a ++ 10 :: b) 10 = a.length := by
      have hge := Lib.indexByte_ge (a ++ 10 :: b) 10
      rcases Int.lt_or_le (Lib.indexByte (a ++ 10 :: b) 10) 0 with c | c
      · have hm : Lib.indexByte (a ++ 10 :: b) 10 = -1 := by omega
        exact absurd (by simp) (Lib.indexByte_none hm a.length)
      · obtain ⟨o, ho⟩ : ∃ o : Nat, Lib.indexByte (a ++ 10 :: b) 10 = o := ⟨(Lib.indexByte (a ++ 10 :: b) 10).toNat, by omega⟩
        obtain ⟨h1, h2⟩ := Lib.indexByte_some ho
        rw [ho]
        rcases Nat.lt_trichotomy o a.length with d | d | d
        · rw [List.getElem?_append_left d] at h1
          exact absurd (List.mem_of_getElem? h1) hn
        · rw [d]
        · exact absurd (by simp) (h2 a.length d)
    rw [this]
    simp
/-- What the walks ask of the library's own variables. -/
structure EnvB (w : World) : Prop where
  ml : ∃ m, w.cell? ⟨3, 0, none⟩ = some (.int .i64 m)
  es : ∃ ev, w.cell? ⟨0, 0, none⟩ = some ev ∧ (ev = .nilIface ∨ ∃ te pe, ev = .iface te pe)
  er : ∃ ev, w.cell? ⟨1, 0, none⟩ = some ev ∧ (ev = .nilIface ∨ ∃ te pe, ev = .iface te pe)
  tab : Lib.TabIs Tryd.prog w "internal/strconv.uint64pow10" .u64 Lib.pow10Tab
theorem var_below {w W : World} (hb : Below w.heap.size w W) {n : String} {cs : Array Value} (h : w.var? Tryd.prog n = some cs) : W.var? Tryd.prog n = some cs := by
  unfold World.var? at h ⊢
  cases hg : Tryd.prog.globalNamed n with
  | none => simp [hg] at h
  | some g =>
    simp only [hg, Option.bind_some] at h ⊢
    have hlt : g < w.heap.size := by
      rcases Nat.lt_or_ge g w.heap.size with h' | h'
      · exact h'
      · simp [Array.getElem?_eq_none h'] at h
    rw [hb.block g hlt]
    exact h
theorem EnvB.below {w W : World} (h : EnvB w) (hb : Below w.heap.size w W) : EnvB W := by
  obtain ⟨⟨m, hm⟩, ⟨ev, he, hv⟩, ⟨er, hr, hrv⟩, ht⟩ := h
  exact ⟨⟨m, (hb.cell (World.block_lt_of_cell? w _ hm)).trans hm⟩, ⟨ev, (hb.cell (World.block_lt_of_cell? w _ he)).trans he, hv⟩, ⟨er, (hb.cell (World.block_lt_of_cell? w _ hr)).trans hr, hrv⟩, var_below hb ht⟩
/-- strings.Cut at a line feed. -/
def CutP (l : List UInt8) (w : World) (e : Ending) (w' : World) : Prop := ∃ a b ok, e = .returned (.tuple #[.string ⟨a.toArray⟩, .string ⟨b.toArray⟩, .bool ok]) ∧ ((ok = true ∧ cutL l = some (a, b)) ∨ (ok = false ∧ cutL l = none ∧ a = l ∧ b = [])) ∧ Below w.heap.size w w'
theorem cut_any (s : ByteArray) (hs : s.size ≤ 1000000) (w : World) (hE : EnvB w) : Calls Tryd.prog 80 #[.string s, .string nlS] w (CutP (by_ s) w) := by
  obtain ⟨m, hm⟩ := hE.ml
  refine (Any.strings_Cut Tryd.lays145 s nlS m w (by omega) hm).mono ?_
  rintro e w' ⟨rfl, n, rfl⟩
  have hc : Lib.cut s.data.toList nlS.data.toList = _ := cut_of (by_ s)
  rw [hc]
  cases h : cutL (by_ s) with
  | none => exact ⟨_, _, _, rfl, .inr ⟨rfl, h, rfl, rfl⟩, below_drewN (Below.refl _ _) n⟩
  | some x =>
    obtain ⟨a, b⟩ := x
    exact ⟨_, _, _, rfl, .inl ⟨rfl, h⟩, below_drewN (Below.refl _ _) n⟩
end Go.Proofs.YthfdlfdbjiofhaaDoor
