/- The map in which globs.Match keeps from which places it can't be dealt: map[[2]int]bool, the call's own. No walk. -/
import Derived.Test.YtgbogkmbgedkkaaDoorPlain
import Derived.Test.YtgbogkmbgedkkaaDoorProg
import Derived.WideKeyPair
namespace Go.Proofs.YtgbogkmbgedkkaaDoor
open Go.RowKit

namespace GS
def bl (s : ByteArray) : Part := s.data.toList
/-- From the i-th part, and the k-th name. -/
def dealAt (ps ns : List ByteArray) (i k : Nat) : Bool := deal ((ps.drop i).map bl) ((ns.drop k).map bl)

theorem dealAt_end {ps ns : List ByteArray} {k : Nat} (hk : k ≤ ns.length) : dealAt ps ns ps.length k = decide (k = ns.length) := by
  unfold dealAt
  rw [List.drop_length, List.map_nil]
  unfold deal
  rw [Bool.eq_iff_iff, List.isEmpty_iff, List.map_eq_nil_iff, List.drop_eq_nil_iff, decide_eq_true_iff]
  omega
theorem dealAt_sign {ps ns : List ByteArray} {i k : Nat} {x y : ByteArray} (hx : ps[i]? = some x) (hss : bl x ≠ ss) (hy : ns[k]? = some y) : dealAt ps ns i k = (one (bl x) (bl y) && dealAt ps ns (i + 1) (k + 1)) := by
  obtain ⟨hi, rfl⟩ := List.getElem?_eq_some_iff.1 hx
  obtain ⟨hk, rfl⟩ := List.getElem?_eq_some_iff.1 hy
  unfold dealAt
  rw [List.drop_eq_getElem_cons hi, List.drop_eq_getElem_cons hk, List.map_cons, List.map_cons]
  conv => lhs; unfold deal
  rw [if_neg hss]
theorem dealAt_sign0 {ps ns : List ByteArray} {i k : Nat} {x : ByteArray} (hx : ps[i]? = some x) (hss : bl x ≠ ss) (hk : ns.length ≤ k) : dealAt ps ns i k = false := by
  obtain ⟨hi, rfl⟩ := List.getElem?_eq_some_iff.1 hx
  unfold dealAt
  rw [List.drop_eq_getElem_cons hi, List.drop_of_length_le hk, List.map_cons, List.map_nil]
  unfold deal
  rw [if_neg hss]
theorem dealAt_last {ps ns : List ByteArray} {i k : Nat} {x : ByteArray} (hx : ps[i]? = some x) (hss : bl x = ss) (hl : i + 1 = ps.length) : dealAt ps ns i k = decide (k < ns.length) := by
  obtain ⟨hi, rfl⟩ := List.getElem?_eq_some_iff.1 hx
  unfold dealAt
  rw [List.drop_eq_getElem_cons hi, List.drop_of_length_le (by omega), List.map_cons, List.map_nil]
  by_cases hk : k < ns.length
  · rw [List.drop_eq_getElem_cons hk, List.map_cons, decide_eq_true hk]
    unfold deal
    rw [if_pos hss, if_pos rfl]
  · rw [List.drop_of_length_le (by omega), List.map_nil, decide_eq_false hk]
    unfold deal
    rw [if_pos hss, if_pos rfl]
theorem dealAt_star {ps ns : List ByteArray} {i k : Nat} {x : ByteArray} (hx : ps[i]? = some x) (hss : bl x = ss) (hl : i + 1 < ps.length) : dealAt ps ns i k = (dealAt ps ns (i + 1) k || (decide (k < ns.length) && dealAt ps ns i (k + 1))) := by
  obtain ⟨hi, rfl⟩ := List.getElem?_eq_some_iff.1 hx
  have hne : (ps.drop (i + 1)).map bl ≠ [] := by
    rw [Ne, List.map_eq_nil_iff, List.drop_eq_nil_iff]
    omega
  have hd : (ps.drop i).map bl = bl ps[i] :: (ps.drop (i + 1)).map bl := by rw [List.drop_eq_getElem_cons hi, List.map_cons]
  unfold dealAt
  rw [hd]
  by_cases hk : k < ns.length
  · rw [decide_eq_true hk, List.drop_eq_getElem_cons hk, List.map_cons]
    conv => lhs; unfold deal
    rw [if_pos hss, if_neg hne, Bool.true_and]
  · rw [decide_eq_false hk, List.drop_of_length_le (show ns.length ≤ k by omega), List.map_nil]
    conv => lhs; unfold deal
    rw [if_pos hss, if_neg hne, Bool.false_and, Bool.or_false]
end GS


theorem pairArr : WideMaps.ArrKey Tryd.prog 41 3 2 := ⟨Tryd.underlying41, by kernel_rfl, by kernel_rfl, by kernel_rfl⟩
theorem pairKey : Maps.Keyed Tryd.prog 41 := Maps.Keyed.of_law pairArr.law
theorem zeroNo (w : World) : (zeroValue 4).run Tryd.prog w = .ok (.bool false) w := by kernel_rfl
theorem pair_size : ∃ m, Tryd.prog.types.size = m + 1 := ⟨Tryd.prog.types.size - 1, by kernel_rfl⟩
theorem small_wf {i : Nat} (hi : i ≤ 1000) : (Lit.int .i64 i).wf = true := by
  simp [Lit.wf, IntKind.min, IntKind.max, IntKind.signed, IntKind.bits]; omega
theorem plainElem_bool_inv {H : Type} {P : Program} {e : TypeId} (he : P.underlying e = some .bool) {v : Value} {z : DataW H × List MemPlace} (h : plainElem P e v = some z) : ∃ x, v = .bool x ∧ z = (.lit (.bool x), []) := by
  unfold plainElem at h
  rw [he] at h
  cases v <;> simp at h
  exact ⟨_, rfl, h.symm⟩
/-- A place, as a key. -/
def pairV (i k : Nat) : Value := .agg #[.int .i64 i, .int .i64 k]
theorem pair_key (i k : Nat) (hi : i ≤ 1000) (hk : k ≤ 1000) : ∃ l, keyOf Tryd.prog 41 (pairV i k) = some l :=
  ⟨_, WideMaps.keyOf_pair pairArr Tryd.underlying3 pair_size (small_wf hi) (small_wf hk)⟩
theorem pair_inj {i k i' k' : Nat} (h : pairV i k = pairV i' k') : i = i' ∧ k = k' := by
  unfold pairV at h
  injection h with h
  injection h with h
  injection h with h1 h
  injection h with h2 _
  injection h1 with _ h1
  injection h2 with _ h2
  omega

/-- Block b is the map; where it says yes it can't be dealt. -/
def OwnsNo (w : World) (b q : Nat) (S : Nat → Nat → Bool) : Prop :=
  ∃ (D : DataW Unit) (f : Lit → Bool), w.ownsMap Tryd.prog 41 (plainElem Tryd.prog 4) b q D ∧ Maps.IsMap D ∧ (∀ l, D.atKey l (.lit (.bool false)) = .lit (.bool (f l))) ∧
    ∀ i k l, keyOf Tryd.prog 41 (pairV i k) = some l → f l = true → S i k = false

theorem OwnsNo.made (w : World) (S : Nat → Nat → Bool) : OwnsNo (w.alloc (.map #[] 0)) w.heap.size 0 S :=
  ⟨.map [], fun _ => false, World.ownsMap_made _ _ _ _, ⟨[], rfl⟩, fun _ => rfl, fun _ _ _ _ h => by cases h⟩
theorem OwnsNo.kept {w w' : World} {b q : Nat} {S : Nat → Nat → Bool} {row : Option Nat} (h : OwnsNo w b q S) (hg : w.grownBy w' row) (hne : some b ≠ row) : OwnsNo w' b q S := by
  obtain ⟨D, f, h1, h2⟩ := h
  exact ⟨D, f, h1.kept hg hne, h2⟩
theorem OwnsNo.lt {w : World} {b q : Nat} {S : Nat → Nat → Bool} (h : OwnsNo w b q S) : b < w.heap.size := by
  obtain ⟨D, f, h1, _⟩ := h
  exact h1.lt
theorem grown_of_below {w w' : World} (hb : Below w.heap.size w w') (row : Option Nat) : w.grownBy w' row := ⟨hb.os, hb.tape, hb.output, hb.size, fun i hi _ => hb.block i hi⟩
theorem grown_trans {a b c : World} {row : Option Nat} (h : a.grownBy b row) (k : b.grownBy c row) : a.grownBy c row :=
  ⟨k.os.trans h.os, k.tape.trans h.tape, k.output.trans h.output, Nat.le_trans h.size k.size, fun i hi hne => (k.block i (Nat.lt_of_lt_of_le hi h.size) hne).trans (h.block i hi hne)⟩
theorem OwnsNo.below {w w' : World} {b q : Nat} {S : Nat → Nat → Bool} (h : OwnsNo w b q S) (hb : Below w.heap.size w w') : OwnsNo w' b q S :=
  h.kept (row := none) (grown_of_below hb none) (by simp)

theorem OwnsNo.has {w : World} {b q : Nat} {S : Nat → Nat → Bool} (h : OwnsNo w b q S) {i k : Nat} (hi : i ≤ 1000) (hk : k ≤ 1000) :
    ∃ x, (Instr.lookup 39 (.map (some b)) (pairV i k) false).run Tryd.prog w = .ok (.bool x) w ∧ (x = true → S i k = false) := by
  obtain ⟨D, f, hown, _, hf, hS⟩ := h
  obtain ⟨l, hl⟩ := pair_key i k hi hk
  obtain ⟨v, ps, hrun, hv⟩ := hown.lookup pairKey Tryd.underlying39 (zeroNo w) (plainElem_bool Tryd.underlying4 false) hl
  rw [hf] at hv
  obtain ⟨x, rfl, hz⟩ := plainElem_bool_inv Tryd.underlying4 hv
  simp only [Prod.mk.injEq, DataW.lit.injEq, Lit.bool.injEq] at hz
  exact ⟨f l, by rw [hrun, hz.1], hS i k l hl⟩

open Classical in
theorem OwnsNo.put {w : World} {b q : Nat} {S : Nat → Nat → Bool} (h : OwnsNo w b q S) (hq : q < maxLen) {i k : Nat} (hi : i ≤ 1000) (hk : k ≤ 1000) (x : Bool) (hx : x = true → S i k = false) :
    ∃ w', (Instr.mapUpdate 39 (.map (some b)) (pairV i k) (.bool x)).run Tryd.prog w = .ok () w' ∧ OwnsNo w' b (q + 1) S ∧ w.grownBy w' (some b) := by
  obtain ⟨D, f, hown, hm, hf, hS⟩ := h
  obtain ⟨l, hl⟩ := pair_key i k hi hk
  obtain ⟨w', hrun, hown', hg⟩ := hown.update pairKey Tryd.underlying39 hq hl (plainElem_bool Tryd.underlying4 x)
  refine ⟨w', hrun, ⟨_, fun m => if m = l then x else f m, hown', ?_, fun m => ?_, fun i' k' m hm' hy0 => ?_⟩, hg⟩
  case refine_3 =>
    have hy : (if m = l then x else f m) = true := hy0
    by_cases he : m = l
    · subst he
      obtain ⟨rfl, rfl⟩ := pair_inj (pairKey.inj hm' hl)
      rw [if_pos rfl] at hy
      exact hx hy
    · rw [if_neg he] at hy
      exact hS i' k' m hm' hy
  · obtain ⟨es, rfl⟩ := hm
    exact ⟨_, rfl⟩
  · by_cases he : m = l
    · subst he
      rw [Maps.atKey_put_same hm (pairKey.key hl)]
      show _ = DataW.lit (Lit.bool (if m = m then x else f m))
      rw [if_pos rfl]
    · rw [Maps.atKey_put_other he, hf]
      show _ = DataW.lit (Lit.bool (if m = l then x else f m))
      rw [if_neg he]

theorem wpList_no_has {w : World} {ops : Array Oper} {rest : List Oper} {o : Oper} {a : Act} {Q : Exit → Act → World → Prop} (hgd : o.guard = none) (m x : Operand) (hop : o.op = Op.lookup 39 m x false)
    (b q : Nat) (S : Nat → Nat → Bool) (hm : a.eval m = .map (some b)) (h : OwnsNo w b q S) (i k : Nat) (hi : i ≤ 1000) (hk : k ≤ 1000) (hx : a.eval x = pairV i k)
    (hK : ∀ y, (y = true → S i k = false) → wpList Tryd.prog ops Q rest (a.put o.dst (.bool y)) w) : wpList Tryd.prog ops Q (o :: rest) a w := by
  refine wpList_plain hgd fun K' hK' => ?_
  obtain ⟨y, hrun, hy⟩ := h.has hi hk
  unfold Oper.wp
  simp [execOp, hop, hm, hx, hrun, Result.andThen]
  exact hK' _ _ (hK y hy)
theorem wpList_no_put {w : World} {ops : Array Oper} {rest : List Oper} {o : Oper} {a : Act} {Q : Exit → Act → World → Prop} (hgd : o.guard = none) (m x v : Operand) (hop : o.op = Op.mapUpdate 39 m x v)
    (b q : Nat) (S : Nat → Nat → Bool) (hm : a.eval m = .map (some b)) (h : OwnsNo w b q S) (hq : q < maxLen) (i k : Nat) (hi : i ≤ 1000) (hk : k ≤ 1000) (hx : a.eval x = pairV i k)
    (y : Bool) (hv : a.eval v = .bool y) (hy : y = true → S i k = false)
    (hK : ∀ w', OwnsNo w' b (q + 1) S → w.grownBy w' (some b) → wpList Tryd.prog ops Q rest (a.put o.dst undef) w') : wpList Tryd.prog ops Q (o :: rest) a w := by
  refine wpList_plain hgd fun K' hK' => ?_
  obtain ⟨w', hrun, r1, r2⟩ := h.put hq hi hk y hy
  unfold Oper.wp
  simp [execOp, hop, hm, hx, hv, hrun, Result.andThen]
  exact hK' _ _ (hK w' r1 r2)
end Go.Proofs.YtgbogkmbgedkkaaDoor
