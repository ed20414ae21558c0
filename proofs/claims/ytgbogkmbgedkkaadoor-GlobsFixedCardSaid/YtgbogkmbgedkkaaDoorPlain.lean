/- Small words for the walks of this seat: slices whose elements take several cells, a box for a loop's variable, a set of texts that the call owns. No program in sight. Plain facts on paths (layer 3): which byte may stand in a part, which text is a part, a text cut at its strokes, which text is a path, which lies below a directory. No program in sight. Plain facts on a text cut at its strokes: where the first stroke stands. No program in sight. Plain facts on paths: how long the parts of a text are, and a path. No program in sight. A range over a function at an outermost loop, in plain steps: entering it, one round of it. Any program; no numbers. Plain facts on patterns (layer 4): which text is a part of a pattern, a pattern; what a part matches; what a pattern matches. No program in sight. Plain facts on patterns (layer 4): how the parts of a pattern are dealt to the parts of a path, told from the front and from the end. No program in sight. Plain facts on what a part of a pattern matches: going on greedily, back to the last star where it doesn't go on, tells the same. No program in sight. -/
import Derived.WalkKit
import Derived.WalkSpells
import Derived.WalkLawsBesides
import Derived.BigQuiet
import Derived.Deep.MidRow
import Derived.Deep.WholeRow
import Derived.Lib.Hide
import Derived.OneCell
import Derived.Stop.BytesEq
import Derived.Maps.Own
import Derived.Maps.OwnOps
import Derived.Maps.Views
import Derived.Shelf.GgClosure.StringsIndexFunc
import Derived.Lib.IndexLaws
import Derived.Lib.IndexBytes
import Derived.RangeFuncIn
import Derived.RangeFuncRecord
import Derived.RangeFuncBound
import Derived.RangeFuncCalls
import Derived.RangeFuncLeaves
import Derived.RangeFuncNested
import Derived.Shelf.Abstract
import Derived.OwnWalkIn
import Derived.TacticsInMore
import Derived.LoopNIn
import Derived.LoopIn
namespace Go.Proofs.YtgbogkmbgedkkaaDoor
open Go.RowKit
variable {P : Program}

theorem retI {k : IntKind} {a b : Int} (h : a = b) : Ending.returned (.int k a) = .returned (.int k b) := by rw [h]
theorem retB {a b : Bool} (h : a = b) : Ending.returned (.bool a) = .returned (.bool b) := by rw [h]

theorem retBS {a b : Bool} {s t : ByteArray} (h : a = b) (k : s = t) : Ending.returned (.tuple #[.bool a, .string s]) = .returned (.tuple #[.bool b, .string t]) := by rw [h, k]
theorem retSI {a b : Int} {kk : IntKind} {s t : ByteArray} (h : s = t) (k : a = b) : Ending.returned (.tuple #[.string s, .int kk a]) = .returned (.tuple #[.string t, .int kk b]) := by rw [h, k]

/-- A world gets a name. -/
theorem wpList_name {ops : Array Oper} {l : List Oper} {a : Act} {w : World} {Q : Exit → Act → World → Prop} (h : ∀ X, w = X → wpList P ops Q l a X) : wpList P ops Q l a w := h w rfl
theorem wp_name {c : Code} {a : Act} {w : World} {Q : Exit → Act → World → Prop} (h : ∀ X, w = X → c.wp P Q a X) : c.wp P Q a w := h w rfl
theorem calls_name {f : FuncId} {args : Array Value} {w : World} {R : Ending → World → Prop} (h : ∀ X, w = X → Calls P f args X R) : Calls P f args w R := h w rfl

/-! ### What lies below stays -/
theorem below_then {B : Nat} {A X Y : World} (h : Below B A X) (hB : B ≤ X.heap.size) (k : Below X.heap.size X Y) : Below B A Y := h.trans (k.mono hB)
theorem cell_below {X Y : World} (h : Below X.heap.size X Y) {a : Addr} {v : Value} (hc : X.cell? a = some v) : Y.cell? a = some v :=
  (h.cell (World.block_lt_of_cell? X a hc)).trans hc
theorem frozen_below {X Y : World} (h : Below X.heap.size X Y) {a : Addr} {v : Value} (hc : X.cell? a = some v) : Y.frozen? a = X.frozen? a :=
  h.frozen (World.block_lt_of_cell? X a hc)
theorem heap_below {X Y : World} (h : Below X.heap.size X Y) {k : Nat} {o : Obj} (hk : X.heap[k]? = some o) : Y.heap[k]? = some o :=
  (h.block k (lt_of_block hk)).trans hk
theorem range_below {X Y : World} (h : Below X.heap.size X Y) {b o : Nat} {cs : List Value} (hr : X.rangeAt b o cs) : Y.rangeAt b o cs :=
  fun j v hv => cell_below h (hr j v hv)
theorem range_low {B : Nat} {X Y : World} (h : Below B X Y) {b o : Nat} {cs : List Value} (hb : b < B) (hr : X.rangeAt b o cs) : Y.rangeAt b o cs :=
  fun j v hv => (h.cell (p := ⟨b, o + j, none⟩) hb).trans (hr j v hv)

theorem below_draws {B : Nat} {A X : World} (h : Below B A X) (n : Nat) : Below B A (X.drewN n) := ⟨h.os, h.tape, h.output, h.size, h.block⟩

/-! ### A slice whose elements take k cells -/
structure Elems {α : Type} (enc : α → List Value) (k : Nat) (w : World) (A : Option Addr) (n c : Nat) (xs : List α) : Prop where
  len : xs.length = n
  cap : n ≤ c
  at_ : 0 < n → ∃ b o, A = some ⟨b, o, none⟩ ∧ b < w.heap.size ∧ ∀ j x, xs[j]? = some x → w.rangeAt b (o + j * k) (enc x)

theorem Elems.below {α : Type} {enc : α → List Value} {k : Nat} {X Y : World} {A : Option Addr} {n c : Nat} {xs : List α} (h : Elems enc k X A n c xs) (hb : Below X.heap.size X Y) : Elems enc k Y A n c xs :=
  ⟨h.len, h.cap, fun hn => by
    obtain ⟨b, o, e, hlt, hr⟩ := h.at_ hn
    exact ⟨b, o, e, Nat.lt_of_lt_of_le hlt hb.size, fun j x hx => range_below hb (hr j x hx)⟩⟩

/-- Where the memory was laid open up to B. -/
theorem Elems.low {α : Type} {enc : α → List Value} {k B : Nat} {w X Y : World} {A : Option Addr} {n c : Nat} {xs : List α} (h : Elems enc k w A n c xs) (hB : w.heap.size ≤ B) (hX : Below w.heap.size w X) (hY : Below B X Y) : Elems enc k Y A n c xs :=
  h.below (hX.trans (hY.mono hB))

/-! ### A box -/
theorem wpList_store_new {ops : Array Oper} {rest : List Oper} {op : Oper} {a : Act} {w : World} {Q : Exit → Act → World → Prop} (hgd : op.guard = none) (ty : TypeId) (x y : Operand) (ho : op.op = .store ty x y)
    (c : Array Value) (cs : List Value) (hx : a.eval x = .pointer (some ⟨w.heap.size, 0, none⟩)) (hy : a.eval y = .agg cs.toArray) (hc : c.size = cs.length)
    (hi : (P.info? ty).map (·.size) = some cs.length) (h1 : ∀ v ∈ cs, v.oneCell' = true)
    (h : wpList P ops Q rest (a.put op.dst undef) (w.alloc (.cells cs.toArray ty))) : wpList P ops Q (op :: rest) a (w.alloc (.cells c ty)) := by
  refine wpList_plain hgd fun K hK => ?_
  unfold Oper.wp execOp
  simp only [ho, hx, hy, Sem.run_bind, run_storeAt_new w ty c cs.toArray (by simpa using hi) (by simpa using hc) (all_oneCell_toArray h1), Result.andThen_ok, Sem.run_pure]
  exact hK _ _ h

theorem range_new (w : World) (cs : List Value) (t : TypeId) : (w.alloc (.cells cs.toArray t)).rangeAt w.heap.size 0 cs := fun j v hv => by
  rw [cell_of_row _ w.heap.size (0 + j) cs.toArray t (0, 0) (heap_alloc_last w _)]
  simpa using hv

/-- What a box just laid holds. -/
theorem box_facts {W X : World} {cs : List Value} {t : TypeId} (h : W.alloc (.cells cs.toArray t) = X) : Below W.heap.size W X ∧ X.heap.size = W.heap.size + 1 ∧ X.rangeAt W.heap.size 0 cs := by
  subst h
  exact ⟨(Below.refl _ _).alloc (Nat.le_refl _) _, by simp, range_new W cs t⟩

/-- A load of several cells under a guard that says yes. -/
theorem wpList_load_mid_g {ops : Array Oper} {rest : List Oper} {op : Oper} {a : Act} {w : World} {Q : Exit → Act → World → Prop} (ty : TypeId) (x : Operand) (ho : op.op = .load ty x) (hw : Region.wanted op (yielded ops a.tmps) = true)
    (b o : Nat) (hx : a.eval x = .pointer (some ⟨b, o, none⟩)) (cs : List Value) (d : TypeDesc) (hc : w.rangeAt b o cs)
    (hu : P.underlying ty = some d) (hd : d.isRow = true) (hi : (P.info? ty).map (·.size) = some cs.length)
    (h : wpList P ops Q rest (a.put op.dst (.agg cs.toArray)) w) : wpList P ops Q (op :: rest) a w :=
  BigFrame.wpList_want hw fun _ hK => wp_load_mid ty x ho b o hx cs d hc hu hd hi (hK _ _ h)

/-- A cell of a box just laid, said for every world: a rule for the walk. -/
theorem box_cell {cs : List Value} {j : Nat} {v : Value} (t : TypeId) (h : cs[j]? = some v) (W : World) : (W.alloc (.cells cs.toArray t)).cell? ⟨W.heap.size, j, none⟩ = some v := by
  have := range_new W cs t j v h
  rwa [Nat.zero_add] at this
theorem below_box {w : World} (o : Obj) : Below w.heap.size w (w.alloc o) := (Below.refl _ _).alloc (Nat.le_refl _) _

/-- In a quiet region: a load of several cells. -/
theorem wpQuiet_load {ops : Array Oper} {C : World → Prop} {Q : Act → Prop} {rest : List Oper} {op : Oper} {a : Act} (ty : TypeId) (x : Operand) (ho : op.op = .load ty x) (hw : Region.wanted op (yielded ops a.tmps) = true)
    (p v : Value) (hx : a.eval x = p) (h : ∀ w, C w → (Instr.loadAt ty p).run P w = .ok v w) (a' : Act) (ha : a.put op.dst v = a') (hk : wpQuiet P ops C Q rest a') : wpQuiet P ops C Q (op :: rest) a := by
  refine wpQuiet_step fun K hK => ?_
  rw [if_pos hw]
  refine ⟨v, fun w hC => ?_, hK _ (ha ▸ hk)⟩
  unfold Oper.quietAt execOp
  simp only [ho, hx, Sem.run_bind, h w hC, Result.andThen_ok, Sem.run_pure]
  exact ⟨rfl, rfl⟩
theorem wpQuiet_binop {ops : Array Oper} {C : World → Prop} {Q : Act → Prop} {rest : List Oper} {op : Oper} {a : Act} (bop : BinOp) (ty ty' : TypeId) (x y : Operand) (ho : op.op = .binOp bop ty x y ty') (hw : Region.wanted op (yielded ops a.tmps) = true)
    (p q v : Value) (hx : a.eval x = p) (hy : a.eval y = q) (hg : ∀ w, (eqGuard bop ty x y p q).run P w = .ok () w) (h : ∀ w, (binOp bop ty p q).run P w = .ok v w) (a' : Act) (ha : a.put op.dst v = a') (hk : wpQuiet P ops C Q rest a') : wpQuiet P ops C Q (op :: rest) a := by
  refine wpQuiet_step fun K hK => ?_
  rw [if_pos hw]
  refine ⟨v, fun w hC => ?_, hK _ (ha ▸ hk)⟩
  unfold Oper.quietAt execOp
  simp only [ho, hx, hy, Sem.run_bind, hg, h w, Result.andThen_ok, Sem.run_pure]
  exact ⟨rfl, rfl⟩

/-! ### A set of texts that the call owns: map[string]bool -/
def OwnsSet (w : World) (P : Program) (k e : TypeId) (b n : Nat) (f : List UInt8 → Bool) : Prop :=
  ∃ D : DataW Unit, w.ownsMap P k (plainElem P e) b n D ∧ Maps.IsMap D ∧ ∀ s, D.atKey (.string s) (.lit (.bool false)) = .lit (.bool (f s))

theorem OwnsSet.made (w : World) (P : Program) (k e : TypeId) : OwnsSet (w.alloc (.map #[] 0)) P k e w.heap.size 0 (fun _ => false) :=
  ⟨.map [], World.ownsMap_made _ _ _ _, ⟨[], rfl⟩, fun _ => rfl⟩
theorem OwnsSet.kept {w w' : World} {k e : TypeId} {b n : Nat} {f : List UInt8 → Bool} {row : Option Nat} (h : OwnsSet w P k e b n f) (hg : w.grownBy w' row) (hne : some b ≠ row) : OwnsSet w' P k e b n f := by
  obtain ⟨D, h1, h2⟩ := h
  exact ⟨D, h1.kept hg hne, h2⟩
theorem OwnsSet.lt {w : World} {k e : TypeId} {b n : Nat} {f : List UInt8 → Bool} (h : OwnsSet w P k e b n f) : b < w.heap.size := by
  obtain ⟨D, h1, _⟩ := h
  exact h1.lt
theorem OwnsSet.below {w w' : World} {k e : TypeId} {b n : Nat} {f : List UInt8 → Bool} (h : OwnsSet w P k e b n f) (hb : Below w.heap.size w w') : OwnsSet w' P k e b n f :=
  h.kept (row := none) ⟨hb.os, hb.tape, hb.output, hb.size, fun i hi _ => hb.block i hi⟩ (by simp)

theorem OwnsSet.has {w : World} {t k e : TypeId} {b n : Nat} {f : List UInt8 → Bool} (h : OwnsSet w P k e b n f) (K : Maps.Keyed P k) (ht : P.underlying t = some (.map k e)) (he : P.underlying e = some .bool)
    (hz : (zeroValue e).run P w = .ok (.bool false) w) {s : ByteArray} (hk : keyOf P k (.string s) = some (.string s.data.toList)) :
    (Instr.lookup t (.map (some b)) (.string s) false).run P w = .ok (.bool (f s.data.toList)) w := by
  obtain ⟨D, hown, _, hf⟩ := h
  obtain ⟨v, ps, hrun, hv⟩ := hown.lookup K ht hz (plainElem_bool he false) hk
  rw [hf] at hv
  have : v = .bool (f s.data.toList) := by
    unfold plainElem at hv
    rw [he] at hv
    cases v <;> simp at hv
    rw [hv.1]
  rw [hrun, this]

theorem OwnsSet.put {w : World} {t k e : TypeId} {b n : Nat} {f : List UInt8 → Bool} (h : OwnsSet w P k e b n f) (K : Maps.Keyed P k) (ht : P.underlying t = some (.map k e)) (he : P.underlying e = some .bool)
    (hn : n < maxLen) {s : ByteArray} (hk : keyOf P k (.string s) = some (.string s.data.toList)) :
    ∃ w', (Instr.mapUpdate t (.map (some b)) (.string s) (.bool true)).run P w = .ok () w' ∧ OwnsSet w' P k e b (n + 1) (fun x => x == s.data.toList || f x) ∧ w.grownBy w' (some b) := by
  obtain ⟨D, hown, hm, hf⟩ := h
  obtain ⟨w', hrun, hown', hg⟩ := hown.update K ht hn hk (plainElem_bool he true)
  refine ⟨w', hrun, ⟨_, hown', ?_, fun x => ?_⟩, hg⟩
  · obtain ⟨es, rfl⟩ := hm
    exact ⟨_, rfl⟩
  · by_cases hx : x = s.data.toList
    · subst hx
      rw [Maps.atKey_put_same hm (K.key hk)]
      simp
    · rw [Maps.atKey_put_other (fun hh => hx (by injection hh)), hf]
      simp [hx]

theorem wpList_set_put {w : World} {ops : Array Oper} {rest : List Oper} {o : Oper} {a : Act} {Q : Exit → Act → World → Prop} (hgd : o.guard = none) (m x v : Operand) (t : TypeId) (hop : o.op = Op.mapUpdate t m x v)
    (k e : TypeId) (K : Maps.Keyed P k) (ht : P.underlying t = some (.map k e)) (he : P.underlying e = some .bool) (b n : Nat) (f : List UInt8 → Bool) (hm : a.eval m = .map (some b)) (h : OwnsSet w P k e b n f) (hn : n < maxLen)
    (s : ByteArray) (hx : a.eval x = .string s) (hv : a.eval v = .bool true) (hk : keyOf P k (.string s) = some (.string s.data.toList))
    (hK : ∀ w', OwnsSet w' P k e b (n + 1) (fun y => y == s.data.toList || f y) → w.grownBy w' (some b) → wpList P ops Q rest (a.put o.dst undef) w') :
    wpList P ops Q (o :: rest) a w := by
  refine wpList_plain hgd fun K' hK' => ?_
  obtain ⟨w', hrun, r1, r2⟩ := h.put K ht he hn hk
  unfold Oper.wp
  simp [execOp, hop, hm, hx, hv, hrun, Result.andThen]
  exact hK' _ _ (hK w' r1 r2)

end Go.Proofs.YtgbogkmbgedkkaaDoor

namespace Go.Proofs.YtgbogkmbgedkkaaDoor
namespace PS

/-- A rune (or a byte) that may stand in a part. -/
def signB (c : Int) : Bool := (decide (97 ≤ c) && decide (c ≤ 122)) || (decide (65 ≤ c) && decide (c ≤ 90)) || (decide (48 ≤ c) && decide (c ≤ 57)) || c == 95 || c == 46 || c == 45 || c == 43
def signOk (b : UInt8) : Bool := signB (b.toNat : Int)
def partOk (l : List UInt8) : Bool := !l.isEmpty && decide (l.length ≤ 64) && !(l == [46]) && !(l == [46, 46]) && l.all signOk
/-- A text cut at its strokes. -/
def split : List UInt8 → List (List UInt8)
  | [] => [[]]
  | c :: r => if c = 47 then [] :: split r else match split r with
    | [] => [[c]]
    | p :: ps => (c :: p) :: ps
def may (l : List UInt8) : Bool := decide ((split l).length ≤ 16) && (split l).all partOk
/-- Below a directory ([]: the top). -/
def under (s dir : List UInt8) : Bool := may s && (dir.isEmpty || (may dir && (dir ++ [47]).isPrefixOf s))

theorem signB_big {c : Int} (h : 128 ≤ c) : signB c = false := by
  unfold signB
  simp
  omega

theorem split_ne (l : List UInt8) : split l ≠ [] := by
  cases l with
  | nil => simp [split]
  | cons c r =>
    unfold split
    split
    · simp
    · split <;> simp

theorem decode_ascii (s : ByteArray) (pos : Nat) (h : pos < s.size) (h1 : (s[pos]).toNat < 128) : Utf8.decode s pos = ((s[pos]).toNat, 1) := by
  have e : s.get! pos = s[pos] := by simp [ByteArray.get!, getElem!_pos, h]; rfl
  unfold Utf8.decode
  simp only [Nat.add_zero, e]
  rw [if_pos h1]

theorem decode_wide (s : ByteArray) (pos : Nat) (h : pos < s.size) (h1 : 128 ≤ (s[pos]).toNat) : 128 ≤ (Utf8.decode s pos).1 := by
  have e : s.get! pos = s[pos] := by simp [ByteArray.get!, getElem!_pos, h]; rfl
  unfold Utf8.decode
  simp only [Nat.add_zero, e]
  rw [if_neg (by omega)]
  have hr : 128 ≤ Utf8.runeError := by decide
  split
  · split
    · omega
    · exact hr
  · split
    · split
      · rename_i h2; simp at h2; omega
      · exact hr
    · split
      · split
        · rename_i h2; simp at h2; omega
        · exact hr
      · exact hr

theorem idx_from (s : ByteArray) : ∀ (f pos : Nat), s.size ≤ pos + f → decide (0 ≤ Lib.idxFuncFrom (fun x => !signB (x : Int)) true s f pos) = !((s.data.toList.drop pos).all signOk)
  | 0, pos, hf => by
    have : s.data.toList.drop pos = [] := List.drop_eq_nil_of_le (by simpa using hf)
    rw [this]
    simp [Lib.idxFuncFrom]
  | f + 1, pos, hf => by
    unfold Lib.idxFuncFrom
    by_cases h : pos < s.size
    · rw [if_pos h]
      have hl : pos < s.data.toList.length := by simpa using h
      have hd : s.data.toList.drop pos = s[pos] :: s.data.toList.drop (pos + 1) := by
        rw [List.drop_eq_getElem_cons hl]; rfl
      rw [hd, List.all_cons]
      by_cases hb : (s[pos]).toNat < 128
      · rw [decode_ascii s pos h hb]
        have ih := idx_from s f (pos + 1) (by omega)
        by_cases hs : signOk s[pos] = true
        · have hs' : signB ((s[pos]).toNat : Int) = true := hs
          simp only [hs', hs, Bool.not_true, Bool.true_and]
          rw [if_neg (by simp)]
          exact ih
        · have hs' : signB ((s[pos]).toNat : Int) = false := by simpa [signOk] using hs
          have hs2 : signOk s[pos] = false := by simpa using hs
          simp [hs', hs2]
      · have hw := decode_wide s pos h (by omega)
        have h1 : signB ((Utf8.decode s pos).1 : Int) = false := signB_big (by omega)
        have h2 : signOk s[pos] = false := signB_big (by omega)
        simp [h1, h2]
    · rw [if_neg h]
      have : s.data.toList.drop pos = [] := List.drop_eq_nil_of_le (by simpa using h)
      rw [this]
      simp

theorem idx_sign (s : ByteArray) : decide (0 ≤ Lib.idxFunc (fun x => !signB (x : Int)) true s) = !(s.data.toList.all signOk) := by
  unfold Lib.idxFunc
  have := idx_from s s.size 0 (by omega)
  simpa using this

end PS
end Go.Proofs.YtgbogkmbgedkkaaDoor

namespace Go.Proofs.YtgbogkmbgedkkaaDoor
namespace PS

theorem split_none : ∀ {l : List UInt8}, Lib.indexByte l 47 < 0 → split l = [l]
  | [], _ => rfl
  | c :: r, h => by
    unfold Lib.indexByte at h
    have hg := Lib.indexByte_ge r 47
    by_cases hc : c = 47
    · subst hc; simp at h
    · have hc' : (c == 47) = false := by simpa using hc
      rw [hc'] at h
      simp only [Bool.false_eq_true, if_false] at h
      have hr : Lib.indexByte r 47 < 0 := by
        split at h
        · rename_i e; simp at e; omega
        · omega
      unfold split
      rw [if_neg hc, split_none hr]

theorem split_some : ∀ {l : List UInt8} {i : Nat}, Lib.indexByte l 47 = i → split l = l.take i :: split (l.drop (i + 1)) ∧ i < l.length
  | [], i, h => by simp [Lib.indexByte] at h
  | c :: r, i, h => by
    unfold Lib.indexByte at h
    by_cases hc : c = 47
    · subst hc
      simp at h
      obtain rfl : i = 0 := by omega
      simp [split]
    · have hc' : (c == 47) = false := by simpa using hc
      rw [hc'] at h
      simp only [Bool.false_eq_true, if_false] at h
      split at h
      · omega
      · obtain ⟨j, rfl⟩ : ∃ j, i = j + 1 := ⟨i - 1, by have := Lib.indexByte_ge r 47; rename_i e; simp at e; omega⟩
        obtain ⟨h1, h2⟩ := split_some (l := r) (i := j) (by omega)
        refine ⟨?_, by simp; omega⟩
        rw [split, if_neg hc, h1]
        simp

/-- The piece ahead of the first stroke, and what stands behind it, as the code cuts them. -/
theorem split_cut (r : ByteArray) {i : Int} (h : Lib.indexByte r.data.toList 47 = i) (h0 : 0 ≤ i) :
    i < r.size ∧ split r.data.toList = (r.extract 0 i.toNat).data.toList :: split (r.extract (i + 1).toNat r.size).data.toList := by
  obtain ⟨k, rfl⟩ := Int.eq_ofNat_of_zero_le h0
  obtain ⟨h1, h2⟩ := split_some h
  have h3 : k < r.size := by simpa using h2
  refine ⟨by omega, ?_⟩
  have e : ((k : Int) + 1).toNat = k + 1 := by omega
  rw [h1, e]
  congr 1
  · simp [ByteArray.extract, ByteArray.copySlice]
  · rw [Lib.extract_to_end]

theorem split_len : ∀ (l : List UInt8), ∀ p ∈ split l, p.length ≤ l.length
  | [], p, h => by simp [split] at h; subst h; simp
  | c :: r, p, h => by
    unfold split at h
    have ih := split_len r
    split at h
    · rcases List.mem_cons.1 h with rfl | h
      · simp
      · have := ih p h; simp; omega
    · split at h
      · rename_i e; exact absurd e (split_ne r)
      · rename_i q qs e
        rw [e] at ih
        rcases List.mem_cons.1 h with rfl | h
        · have := ih q (by simp); simp; omega
        · have := ih p (by simp [h]); simp; omega

end PS
end Go.Proofs.YtgbogkmbgedkkaaDoor

namespace Go.Proofs.YtgbogkmbgedkkaaDoor
namespace PS
theorem split_sum : ∀ l : List UInt8, ((split l).map fun p => p.length + 1).sum = l.length + 1
  | [] => rfl
  | c :: r => by
    have ih := split_sum r
    unfold split
    split
    · simp [ih]; omega
    · split
      · rename_i e; exact absurd e (split_ne r)
      · rename_i p ps e
        rw [e] at ih
        simp at ih ⊢
        omega
theorem sum_le : ∀ (l : List (List UInt8)) (m : Nat), (∀ p ∈ l, p.length ≤ m) → (l.map fun p => p.length + 1).sum ≤ l.length * (m + 1)
  | [], _, _ => by simp
  | p :: l, m, h => by
    have h1 := sum_le l m (fun q hq => h q (by simp [hq]))
    have h2 := h p (by simp)
    simp only [List.map_cons, List.sum_cons, List.length_cons, Nat.add_mul]
    omega
theorem part_len {l : List UInt8} (h : partOk l = true) : l.length ≤ 64 := by
  unfold partOk at h
  simp at h
  omega
theorem may_len {l : List UInt8} (h : may l = true) : l.length ≤ 1039 := by
  unfold may at h
  simp only [Bool.and_eq_true, decide_eq_true_eq, List.all_eq_true] at h
  have h1 := sum_le (split l) 64 (fun p hp => part_len (h.2 p hp))
  rw [split_sum] at h1
  have h2 : (split l).length * (64 + 1) ≤ 16 * 65 := Nat.mul_le_mul_right _ h.1
  omega
theorem under_may {l d : List UInt8} (h : under l d = true) : may l = true := by
  unfold under at h
  simp only [Bool.and_eq_true] at h
  exact h.1
end PS
end Go.Proofs.YtgbogkmbgedkkaaDoor

namespace Go.Proofs.YtgbogkmbgedkkaaDoor
open Go.RowKit
namespace RNG
variable {P : Program} {n : Nat}

/-- The record of the loop. -/
def record (fn : FuncId) (tmps : Array Value) (ps : Array Tmp) (assign body : Code) (D : Nat) (st : LoopState) (j : Option Code) : Loop :=
  { state := st, pending := j, fn := fn, tmps := tmps, params := ps, assign := assign, body := body, defers := D }

/-- The world in which the iterator begins. -/
def laid (w : World) (fn : FuncId) (tmps : Array Value) (ps : Array Tmp) (assign body : Code) : World :=
  (w.alloc (.deferred (some []))).alloc (.loop (record fn tmps ps assign body w.heap.size .ready none))

theorem laid_size (w : World) (fn : FuncId) (tmps : Array Value) (ps : Array Tmp) (assign body : Code) : (laid w fn tmps ps assign body).heap.size = w.heap.size + 2 := by
  simp [laid]

theorem laid_loop (w : World) (fn : FuncId) (tmps : Array Value) (ps : Array Tmp) (assign body : Code) :
    (laid w fn tmps ps assign body).heap[w.heap.size + 1]? = some (.loop (record fn tmps ps assign body w.heap.size .ready none)) := by
  have := World.alloc_heap_new (w.alloc (.deferred (some []))) (.loop (record fn tmps ps assign body w.heap.size .ready none))
  rwa [World.size_alloc] at this

theorem laid_defer (w : World) (fn : FuncId) (tmps : Array Value) (ps : Array Tmp) (assign body : Code) :
    (laid w fn tmps ps assign body).heap[w.heap.size]? = some (.deferred (some [])) :=
  (Below.heap_alloc _ _ _ (by simp)).trans (World.alloc_heap_new w _)

theorem laid_old (w : World) (fn : FuncId) (tmps : Array Value) (ps : Array Tmp) (assign body : Code) (k : Nat) (h : k < w.heap.size) :
    (laid w fn tmps ps assign body).heap[k]? = w.heap[k]? :=
  (Below.heap_alloc _ _ _ (by simp; omega)).trans (Below.heap_alloc _ _ _ h)

theorem laid_below (w : World) (fn : FuncId) (tmps : Array Value) (ps : Array Tmp) (assign body : Code) : Below w.heap.size w (laid w fn tmps ps assign body) :=
  ((Below.refl _ w).alloc (Nat.le_refl _) _).alloc (by simp) _

/-- Entering: the iterator is called; it returns, and the record says how the loop was left. -/
theorem enter {g : Operand} {ps : Array Tmp} {assign body : Code} {Q : Exit → Act → World → Prop} {a : Act} {w : World} {gf : Nat} {lb : Array Value}
    (hg : a.eval g = .func (.func gf) #[] lb) (eg : ∀ args w, (callFunc gf args).run P w = .ok (.enter gf args) w)
    (h : ∀ fn r W1, r = record fn a.tmps ps assign body w.heap.size → W1.heap.size = w.heap.size + 2 → Below w.heap.size w W1 → W1.heap[w.heap.size]? = some (.deferred (some [])) → W1.heap[w.heap.size + 1]? = some (.loop (r .ready none)) →
      CallsIn Fence.wide (n - 1) P gf (#[.func (.yield (w.heap.size + 1)) #[] #[]] ++ lb) W1 fun e W2 =>
      (∃ v, e = .returned v) ∧
      ((W2.heap[w.heap.size + 1]? = some (.loop (r .ready none)) ∧
        Q .normal { a with defers := { target := .collected w.heap.size, args := #[] } :: a.defers } (W2.putObj (w.heap.size + 1) (.loop (r .exhausted none)))) ∨
       ∃ c, W2.heap[w.heap.size + 1]? = some (.loop (r .done (some c))) ∧
        c.wpIn Fence.wide n P Q { a with defers := { target := .collected w.heap.size, args := #[] } :: a.defers } (W2.putObj (w.heap.size + 1) (.loop (r .exhausted (some c)))))) :
    (Code.rangeFunc g ps assign body).wpIn Fence.wide n P Q a w := by
  refine wpIn_rangeFunc fun fn _ => ?_
  refine ⟨w.heap.size + 1, [{ target := .collected w.heap.size, args := #[] }], laid w fn a.tmps ps assign body,
    { target := .fn (.func gf) lb, args := #[.func (.yield (w.heap.size + 1)) #[] #[]] }, laid w fn a.tmps ps assign body, gf,
    #[.func (.yield (w.heap.size + 1)) #[] #[]] ++ lb, laid w fn a.tmps ps assign body, ?_, ?_, fun _ _ => trivial, ?_, fun h => by simp [Fence.wide] at h, ?_⟩
  · exact run_enterLoop_outer _ _ _ _ _
  · simp only [resolve, hg]
    simp [go_sem]
  · simp [invoke, go_sem, eg]
  · refine (h fn _ _ rfl (laid_size ..) (laid_below ..) (laid_defer ..) (laid_loop ..)).mono ?_
    rintro e W2 ⟨⟨v, rfl⟩, ⟨hl, hq⟩ | ⟨c, hl, hq⟩⟩
    · exact ⟨none, _, run_endLoop (P := P) hl (by simp [record]), hq⟩
    · exact ⟨some c, _, run_endLoop (P := P) hl (by simp [record]), hq⟩

/-- How the body of a round may end. -/
def roundEnd (r : LoopState → Option Code → Loop) (l : Nat) (R : Ending → World → Prop) : Exit → Act → World → Prop
  | .normal, _, W3 => W3.heap[l]? = some (.loop (r .busy none)) ∧ R (.returned (.bool true)) (W3.putObj l (.loop (r .ready none)))
  | .ret, _, W3 => W3.heap[l]? = some (.loop (r .busy none)) ∧ R (.returned (.bool false)) (W3.putObj l (.loop (r .done (some .ret))))
  | .exit id, _, W3 => W3.heap[l]? = some (.loop (r .busy none)) ∧ R (.returned (.bool false)) (W3.putObj l (.loop (r .done (some (.exit id)))))
  | .goto _, _, _ => False
  | .panic _, _, _ => False
  | .outgrown, _, _ => False

/-- One round: what the body must show at each of its ends. -/
theorem round {ps : Array Tmp} {assign body : Code} {l D fn : Nat} {tmps args : Array Value} {W : World} {R : Ending → World → Prop} {r : LoopState → Option Code → Loop}
    (hr : r = record fn tmps ps assign body D) (hl : W.heap[l]? = some (.loop (r .ready none))) (hs : args.size = ps.size)
    (h : assign.wpIn (Fence.wide.inRound l) n P (Exit.then (fun a1 w1 => w1 = W ∧ body.wpIn (Fence.wide.inRound l) n P (roundEnd r l R) a1 (W.putObj l (.loop (r .busy none)))) (fun _ _ _ => False))
      { tmps := (ps.zip args).foldl (fun t (p, v) => t.setIfInBounds p v) tmps, defers := [] } W) :
    YieldAt Fence.wide n P l args W R := by
  subst hr
  refine ⟨fn, _, assign, body, run_yield (P := P) hl (by simpa [record] using hs), roundIn_of_wpIn trivial (wpIn_mono h ?_)⟩
  rintro e a1 w1 hp
  cases e with
  | normal =>
    obtain ⟨rfl, hb⟩ := hp
    refine ⟨_, run_beginRound hl rfl, wpIn_mono hb ?_⟩
    rintro e a3 W3 hp
    cases e with
    | normal => exact ⟨_, _, run_endRound (P := P) none hp.1, hp.2⟩
    | ret => exact ⟨_, _, run_endRound (P := P) (some .ret) hp.1, hp.2⟩
    | exit id => exact ⟨_, _, run_endRound (P := P) (some (.exit id)) hp.1, hp.2⟩
    | goto t => exact hp.elim
    | panic ch => exact hp.elim
    | outgrown => exact hp.elim
  | ret => exact hp
  | exit id => exact hp
  | goto t => exact hp
  | panic ch => exact hp
  | outgrown => exact hp

end RNG
end Go.Proofs.YtgbogkmbgedkkaaDoor

namespace Go.Proofs.YtgbogkmbgedkkaaDoor
namespace GS

def signW (c : UInt8) : Bool := PS.signOk c || c == 42 || c == 63
/-- No two stars side by side. -/
def noStars : List UInt8 → Bool
  | [] => true
  | [_] => true
  | a :: b :: r => !(a == 42 && b == 42) && noStars (b :: r)
def part (l : List UInt8) : Bool := l == [42, 42] || (!l.isEmpty && decide (l.length ≤ 64) && !(l == [46]) && !(l == [46, 46]) && (l.all signW && noStars l))
def may (l : List UInt8) : Bool := decide ((PS.split l).length ≤ 16) && (PS.split l).all part
/-- What stands ahead of the first sign that is wild. -/
def plainHead : List UInt8 → List UInt8
  | [] => []
  | c :: r => if c = 42 ∨ c = 63 then [] else c :: plainHead r
def fixed (l : List UInt8) : List UInt8 := if may l = true then plainHead l else []

/-- What a part of a pattern matches. -/
inductive GM : List UInt8 → List UInt8 → Prop
  | nil : GM [] []
  | one {c x : UInt8} {p s : List UInt8} (h : c ≠ 42) (hx : c = 63 ∨ c = x) (hr : GM p s) : GM (c :: p) (x :: s)
  | done {p s : List UInt8} (hr : GM p s) : GM (42 :: p) s
  | more {x : UInt8} {p s : List UInt8} (hr : GM (42 :: p) s) : GM (42 :: p) (x :: s)

def one : List UInt8 → List UInt8 → Bool
  | [], [] => true
  | [], _ :: _ => false
  | c :: p, [] => c == 42 && one p []
  | c :: p, x :: s => if c = 42 then one p (x :: s) || one (c :: p) s else (c == 63 || c == x) && one p s
termination_by p s => p.length + s.length

theorem gm_one {p s : List UInt8} (h : GM p s) : one p s = true := by
  induction h with
  | nil => unfold one; rfl
  | @one c x p s h hx _ ih =>
    unfold one
    rw [if_neg h, ih, Bool.and_true]
    rcases hx with rfl | rfl <;> simp
  | @done p s _ ih =>
    cases s with
    | nil => unfold one; rw [ih]; rfl
    | cons x s => unfold one; rw [if_pos rfl, ih, Bool.true_or]
  | @more x p s _ ih => unfold one; rw [if_pos rfl, ih, Bool.or_true]
theorem one_gm : ∀ (p s : List UInt8), one p s = true → GM p s
  | [], [], _ => .nil
  | [], _ :: _, h => by unfold one at h; cases h
  | c :: p, [], h => by
    unfold one at h
    simp only [Bool.and_eq_true, beq_iff_eq] at h
    obtain ⟨rfl, h⟩ := h
    exact .done (one_gm p [] h)
  | c :: p, x :: s, h => by
    unfold one at h
    split at h
    · rename_i hc
      subst hc
      rcases Bool.or_eq_true_iff.1 h with h | h
      · exact .done (one_gm p (x :: s) h)
      · exact .more (one_gm (42 :: p) s h)
    · rename_i hc
      simp only [Bool.and_eq_true, Bool.or_eq_true, beq_iff_eq] at h
      exact .one hc h.1 (one_gm p s h.2)
termination_by p s => p.length + s.length
theorem one_iff {p s : List UInt8} : one p s = true ↔ GM p s := ⟨one_gm p s, gm_one⟩

theorem gm_append {p s : List UInt8} (h : GM p s) : ∀ {q t : List UInt8}, GM q t → GM (p ++ q) (s ++ t) := by
  induction h with
  | nil => intro q t h; exact h
  | one h hx _ ih => intro q t k; exact .one h hx (ih k)
  | done _ ih => intro q t k; exact .done (ih k)
  | more _ ih => intro q t k; exact .more (ih k)
theorem gm_split : ∀ (p q u : List UInt8), GM (p ++ q) u → ∃ s t, u = s ++ t ∧ GM p s ∧ GM q t := by
  intro p q u h
  generalize hr : p ++ q = r at h
  induction h generalizing p with
  | nil =>
    obtain ⟨rfl, rfl⟩ := List.append_eq_nil_iff.1 hr
    exact ⟨[], [], rfl, .nil, .nil⟩
  | @one c x p' s h hx hr' ih =>
    cases p with
    | nil => exact ⟨[], x :: s, rfl, .nil, by rw [show q = c :: p' from hr]; exact .one h hx hr'⟩
    | cons a p =>
      simp only [List.cons_append, List.cons.injEq] at hr
      obtain ⟨rfl, hr⟩ := hr
      obtain ⟨s1, t1, rfl, h1, h2⟩ := ih p hr
      exact ⟨x :: s1, t1, rfl, .one h hx h1, h2⟩
  | @done p' s hr' ih =>
    cases p with
    | nil => exact ⟨[], s, rfl, .nil, by rw [show q = 42 :: p' from hr]; exact .done hr'⟩
    | cons a p =>
      simp only [List.cons_append, List.cons.injEq] at hr
      obtain ⟨rfl, hr⟩ := hr
      obtain ⟨s1, t1, rfl, h1, h2⟩ := ih p hr
      exact ⟨s1, t1, rfl, .done h1, h2⟩
  | @more x p' s hr' ih =>
    cases p with
    | nil => exact ⟨[], x :: s, rfl, .nil, by rw [show q = 42 :: p' from hr]; exact .more hr'⟩
    | cons a p =>
      have hr2 := hr
      simp only [List.cons_append, List.cons.injEq] at hr
      obtain ⟨rfl, _⟩ := hr
      obtain ⟨s1, t1, rfl, h1, h2⟩ := ih (42 :: p) hr2
      exact ⟨x :: s1, t1, rfl, .more h1, h2⟩
theorem gm_star (t : List UInt8) : GM [42] t := by
  induction t with
  | nil => exact .done .nil
  | cons x t ih => exact .more ih
theorem gm_nil {s : List UInt8} (h : GM [] s) : s = [] := by cases h; rfl
theorem gm_single {c : UInt8} (hc : c ≠ 42) {t : List UInt8} (h : GM [c] t) : ∃ x, t = [x] ∧ (c = 63 ∨ c = x) := by
  cases h with
  | one h hx hr => cases hr; exact ⟨_, rfl, hx⟩
  | done _ => exact absurd rfl hc
  | more _ => exact absurd rfl hc
/-- A star takes what stands ahead, too. -/
theorem gm_wide {p t : List UInt8} (h : GM (42 :: p) t) : ∀ u : List UInt8, GM (42 :: p) (u ++ t)
  | [] => h
  | _ :: u => .more (gm_wide h u)
theorem gm_star_iff {p t : List UInt8} : GM (42 :: p) t ↔ ∃ u v, t = u ++ v ∧ GM p v := by
  constructor
  · intro h
    obtain ⟨u, v, e, _, h2⟩ := gm_split [42] p t h
    exact ⟨u, v, e, h2⟩
  · rintro ⟨u, v, rfl, h⟩
    exact gm_wide (.done h) u

/-! ### Told from the end -/
theorem one_nil (t : List UInt8) : one [] t = t.isEmpty := by cases t <;> (unfold one; rfl)
theorem one_snoc_star (p t : List UInt8) (x : UInt8) : one (p ++ [42]) (t ++ [x]) = (one p (t ++ [x]) || one (p ++ [42]) t) := by
  rw [Bool.eq_iff_iff, Bool.or_eq_true, one_iff, one_iff, one_iff]
  constructor
  · intro h
    obtain ⟨s, u, e, h1, _⟩ := gm_split p [42] _ h
    rcases List.eq_nil_or_concat u with rfl | ⟨u', y, rfl⟩
    · rw [List.append_nil] at e
      exact Or.inl (e ▸ h1)
    · rw [List.concat_eq_append, ← List.append_assoc] at e
      obtain ⟨e1, _⟩ := List.append_inj' e rfl
      rw [e1]
      exact Or.inr (gm_append h1 (gm_star u'))
  · rintro (h | h)
    · have := gm_append h (gm_star [])
      simpa using this
    · obtain ⟨s, u, rfl, h1, _⟩ := gm_split p [42] _ h
      rw [List.append_assoc]
      exact gm_append h1 (gm_star _)
theorem one_snoc_star0 (p : List UInt8) : one (p ++ [42]) [] = one p [] := by
  rw [Bool.eq_iff_iff, one_iff, one_iff]
  constructor
  · intro h
    obtain ⟨s, u, e, h1, _⟩ := gm_split p [42] _ h
    obtain ⟨rfl, _⟩ := List.append_eq_nil_iff.1 e.symm
    exact h1
  · intro h
    have := gm_append h (gm_star [])
    simpa using this
theorem one_snoc {c : UInt8} (hc : c ≠ 42) (p t : List UInt8) (x : UInt8) : one (p ++ [c]) (t ++ [x]) = (one p t && (c == 63 || c == x)) := by
  rw [Bool.eq_iff_iff, Bool.and_eq_true, one_iff, one_iff]
  constructor
  · intro h
    obtain ⟨s, u, e, h1, h2⟩ := gm_split p [c] _ h
    obtain ⟨y, rfl, h3⟩ := gm_single hc h2
    obtain ⟨e1, e2⟩ := List.append_inj' e rfl
    simp only [List.cons.injEq, and_true] at e2
    subst e1 e2
    exact ⟨h1, by simpa using h3⟩
  · rintro ⟨h1, h2⟩
    exact gm_append h1 (.one hc (by simpa using h2) .nil)
theorem one_snoc0 {c : UInt8} (hc : c ≠ 42) (p : List UInt8) : one (p ++ [c]) [] = false := by
  rw [Bool.eq_false_iff]
  intro h
  rw [one_iff] at h
  obtain ⟨s, u, e, _, h2⟩ := gm_split p [c] _ h
  obtain ⟨y, rfl, _⟩ := gm_single hc h2
  simp at e
end GS
end Go.Proofs.YtgbogkmbgedkkaaDoor

namespace Go.Proofs.YtgbogkmbgedkkaaDoor
namespace GS
abbrev Part := List UInt8
def ss : Part := [42, 42]

/-- Two stars take what they like; what else there is takes one part that it matches. -/
inductive DM : List Part → List Part → Prop
  | nil : DM [] []
  | one {x n : Part} {ps ns : List Part} (h : x ≠ ss) (hx : one x n = true) (hr : DM ps ns) : DM (x :: ps) (n :: ns)
  | done {ps ns : List Part} (hr : DM ps ns) : DM (ss :: ps) ns
  | more {n : Part} {ps ns : List Part} (hr : DM (ss :: ps) ns) : DM (ss :: ps) (n :: ns)

/-- As the code deals: two stars at the end want one part at the least. -/
def deal : List Part → List Part → Bool
  | [], ns => ns.isEmpty
  | x :: ps, [] => if x = ss then (if ps = [] then false else deal ps []) else false
  | x :: ps, n :: ns => if x = ss then (if ps = [] then true else deal ps (n :: ns) || deal (x :: ps) ns) else one x n && deal ps ns
termination_by ps ns => ps.length + ns.length

/-- What 'deal' says, by 'DM'. -/
def Full (l m : List Part) : Prop := if l.getLast? = some ss then ∃ a b, m = a ++ b ∧ b ≠ [] ∧ DM l.dropLast a else DM l m

theorem full_nil (m : List Part) : Full [] m ↔ m = [] := by
  unfold Full
  rw [if_neg (by simp)]
  constructor
  · intro h; cases h; rfl
  · rintro rfl; exact .nil
theorem full_last (m : List Part) : Full [ss] m ↔ m ≠ [] := by
  unfold Full
  rw [if_pos (show [ss].getLast? = some ss from rfl)]
  constructor
  · rintro ⟨a, b, rfl, hb, _⟩ h
    exact hb (List.append_eq_nil_iff.1 h).2
  · intro h
    exact ⟨[], m, rfl, h, .nil⟩
theorem full_cons (x : Part) (ps : List Part) (h : ps ≠ []) (m : List Part) : Full (x :: ps) m ↔ if ps.getLast? = some ss then ∃ a b, m = a ++ b ∧ b ≠ [] ∧ DM (x :: ps.dropLast) a else DM (x :: ps) m := by
  unfold Full
  obtain ⟨y, ps, rfl⟩ : ∃ y r, ps = y :: r := by
    cases ps with
    | nil => exact absurd rfl h
    | cons y r => exact ⟨y, r, rfl⟩
  rw [List.getLast?_cons_cons, List.dropLast_cons_cons]

theorem full_star (ps : List Part) (h : ps ≠ []) (m : List Part) : Full (ss :: ps) m ↔ Full ps m ∨ ∃ n m', m = n :: m' ∧ Full (ss :: ps) m' := by
  simp only [full_cons ss ps h]
  by_cases hl : ps.getLast? = some ss
  · simp only [if_pos hl]
    have hf : ∀ m, Full ps m ↔ ∃ a b, m = a ++ b ∧ b ≠ [] ∧ DM ps.dropLast a := fun m => by unfold Full; rw [if_pos hl]
    rw [hf]
    constructor
    · rintro ⟨a, b, rfl, hb, hd⟩
      cases hd with
      | one hx _ _ => exact absurd rfl hx
      | done hr => exact Or.inl ⟨a, b, rfl, hb, hr⟩
      | more hr => exact Or.inr ⟨_, _, rfl, _, b, rfl, hb, hr⟩
    · rintro (⟨a, b, rfl, hb, hd⟩ | ⟨n, m', rfl, a, b, rfl, hb, hd⟩)
      · exact ⟨a, b, rfl, hb, .done hd⟩
      · exact ⟨n :: a, b, rfl, hb, .more hd⟩
  · simp only [if_neg hl]
    have hf : ∀ m, Full ps m ↔ DM ps m := fun m => by unfold Full; rw [if_neg hl]
    rw [hf]
    constructor
    · intro hd
      cases hd with
      | one hx _ _ => exact absurd rfl hx
      | done hr => exact Or.inl hr
      | more hr => exact Or.inr ⟨_, _, rfl, hr⟩
    · rintro (hd | ⟨n, m', rfl, hd⟩)
      · exact .done hd
      · exact .more hd
theorem full_sign (x : Part) (hx : x ≠ ss) (ps m : List Part) : Full (x :: ps) m ↔ ∃ n m', m = n :: m' ∧ one x n = true ∧ Full ps m' := by
  by_cases h : ps = []
  · subst h
    unfold Full
    rw [if_neg (by simpa using hx)]
    constructor
    · intro hd
      cases hd with
      | one _ h1 hr => exact ⟨_, _, rfl, h1, by rw [if_neg (by simp)]; exact hr⟩
      | done _ => exact absurd rfl hx
      | more _ => exact absurd rfl hx
    · rintro ⟨n, m', rfl, h1, hr⟩
      rw [if_neg (by simp)] at hr
      exact .one hx h1 hr
  · rw [full_cons x ps h]
    by_cases hl : ps.getLast? = some ss
    · have hf : ∀ m, Full ps m ↔ ∃ a b, m = a ++ b ∧ b ≠ [] ∧ DM ps.dropLast a := fun m => by unfold Full; rw [if_pos hl]
      simp only [if_pos hl, hf]
      constructor
      · rintro ⟨a, b, rfl, hb, hd⟩
        cases hd with
        | one _ h1 hr => exact ⟨_, _, rfl, h1, _, b, rfl, hb, hr⟩
        | done _ => exact absurd rfl hx
        | more _ => exact absurd rfl hx
      · rintro ⟨n, m', rfl, h1, a, b, rfl, hb, hd⟩
        exact ⟨n :: a, b, rfl, hb, .one hx h1 hd⟩
    · have hf : ∀ m, Full ps m ↔ DM ps m := fun m => by unfold Full; rw [if_neg hl]
      simp only [if_neg hl, hf]
      constructor
      · intro hd
        cases hd with
        | one _ h1 hr => exact ⟨_, _, rfl, h1, hr⟩
        | done _ => exact absurd rfl hx
        | more _ => exact absurd rfl hx
      · rintro ⟨n, m', rfl, h1, hr⟩
        exact .one hx h1 hr

theorem deal_full : ∀ (l m : List Part), deal l m = true ↔ Full l m
  | [], ns => by
    rw [full_nil]
    unfold deal
    cases ns <;> simp
  | x :: ps, [] => by
    unfold deal
    by_cases hx : x = ss
    · subst hx
      rw [if_pos rfl]
      by_cases hp : ps = []
      · subst hp
        rw [if_pos rfl, full_last]
        simp
      · rw [if_neg hp, deal_full ps [], full_star ps hp]
        simp
    · rw [if_neg hx, full_sign x hx]
      simp
  | x :: ps, n :: ns => by
    unfold deal
    by_cases hx : x = ss
    · subst hx
      rw [if_pos rfl]
      by_cases hp : ps = []
      · subst hp
        rw [if_pos rfl, full_last]
        simp
      · rw [if_neg hp, Bool.or_eq_true, deal_full ps (n :: ns), deal_full (ss :: ps) ns, full_star ps hp (n :: ns)]
        constructor
        · rintro (h | h)
          · exact Or.inl h
          · exact Or.inr ⟨n, ns, rfl, h⟩
        · rintro (h | ⟨_, _, e, h⟩)
          · exact Or.inl h
          · cases e
            exact Or.inr h
    · rw [if_neg hx, Bool.and_eq_true, deal_full ps ns, full_sign x hx]
      constructor
      · rintro ⟨h1, h2⟩
        exact ⟨n, ns, rfl, h1, h2⟩
      · rintro ⟨_, _, e, h1, h2⟩
        cases e
        exact ⟨h1, h2⟩
termination_by l m => l.length + m.length

/-! ### Told from the end -/
theorem dm_append {p s : List Part} (h : DM p s) : ∀ {q t : List Part}, DM q t → DM (p ++ q) (s ++ t) := by
  induction h with
  | nil => intro q t h; exact h
  | one h hx _ ih => intro q t k; exact .one h hx (ih k)
  | done _ ih => intro q t k; exact .done (ih k)
  | more _ ih => intro q t k; exact .more (ih k)
theorem dm_split : ∀ (p q u : List Part), DM (p ++ q) u → ∃ s t, u = s ++ t ∧ DM p s ∧ DM q t := by
  intro p q u h
  generalize hr : p ++ q = r at h
  induction h generalizing p with
  | nil =>
    obtain ⟨rfl, rfl⟩ := List.append_eq_nil_iff.1 hr
    exact ⟨[], [], rfl, .nil, .nil⟩
  | @one c x p' s h hx hr' ih =>
    cases p with
    | nil => exact ⟨[], x :: s, rfl, .nil, by rw [show q = c :: p' from hr]; exact .one h hx hr'⟩
    | cons a p =>
      simp only [List.cons_append, List.cons.injEq] at hr
      obtain ⟨rfl, hr⟩ := hr
      obtain ⟨s1, t1, rfl, h1, h2⟩ := ih p hr
      exact ⟨x :: s1, t1, rfl, .one h hx h1, h2⟩
  | @done p' s hr' ih =>
    cases p with
    | nil => exact ⟨[], s, rfl, .nil, by rw [show q = ss :: p' from hr]; exact .done hr'⟩
    | cons a p =>
      simp only [List.cons_append, List.cons.injEq] at hr
      obtain ⟨rfl, hr⟩ := hr
      obtain ⟨s1, t1, rfl, h1, h2⟩ := ih p hr
      exact ⟨s1, t1, rfl, .done h1, h2⟩
  | @more x p' s hr' ih =>
    cases p with
    | nil => exact ⟨[], x :: s, rfl, .nil, by rw [show q = ss :: p' from hr]; exact .more hr'⟩
    | cons a p =>
      have hr2 := hr
      simp only [List.cons_append, List.cons.injEq] at hr
      obtain ⟨rfl, _⟩ := hr
      obtain ⟨s1, t1, rfl, h1, h2⟩ := ih (ss :: p) hr2
      exact ⟨x :: s1, t1, rfl, .more h1, h2⟩
theorem dm_star (t : List Part) : DM [ss] t := by
  induction t with
  | nil => exact .done .nil
  | cons x t ih => exact .more ih
theorem dm_single {c : Part} (hc : c ≠ ss) {t : List Part} (h : DM [c] t) : ∃ x, t = [x] ∧ one c x = true := by
  cases h with
  | one h hx hr => cases hr; exact ⟨_, rfl, hx⟩
  | done _ => exact absurd rfl hc
  | more _ => exact absurd rfl hc

open Classical in
noncomputable def dm (l m : List Part) : Bool := decide (DM l m)
theorem dm_iff {l m : List Part} : dm l m = true ↔ DM l m := by unfold dm; simp
theorem dm_nil (t : List Part) : dm [] t = t.isEmpty := by
  rw [Bool.eq_iff_iff, dm_iff]
  constructor
  · intro h; cases h; rfl
  · intro h
    rw [List.isEmpty_iff] at h
    subst h
    exact .nil
theorem dm_snoc_star (p t : List Part) (x : Part) : dm (p ++ [ss]) (t ++ [x]) = (dm p (t ++ [x]) || dm (p ++ [ss]) t) := by
  rw [Bool.eq_iff_iff, Bool.or_eq_true, dm_iff, dm_iff, dm_iff]
  constructor
  · intro h
    obtain ⟨s, u, e, h1, _⟩ := dm_split p [ss] _ h
    rcases List.eq_nil_or_concat u with rfl | ⟨u', y, rfl⟩
    · rw [List.append_nil] at e
      exact Or.inl (e ▸ h1)
    · rw [List.concat_eq_append, ← List.append_assoc] at e
      obtain ⟨e1, _⟩ := List.append_inj' e rfl
      rw [e1]
      exact Or.inr (dm_append h1 (dm_star u'))
  · rintro (h | h)
    · have := dm_append h (dm_star [])
      simpa using this
    · obtain ⟨s, u, rfl, h1, _⟩ := dm_split p [ss] _ h
      rw [List.append_assoc]
      exact dm_append h1 (dm_star _)
theorem dm_snoc_star0 (p : List Part) : dm (p ++ [ss]) [] = dm p [] := by
  rw [Bool.eq_iff_iff, dm_iff, dm_iff]
  constructor
  · intro h
    obtain ⟨s, u, e, h1, _⟩ := dm_split p [ss] _ h
    obtain ⟨rfl, _⟩ := List.append_eq_nil_iff.1 e.symm
    exact h1
  · intro h
    have := dm_append h (dm_star [])
    simpa using this
theorem dm_snoc {c : Part} (hc : c ≠ ss) (p t : List Part) (x : Part) : dm (p ++ [c]) (t ++ [x]) = (dm p t && one c x) := by
  rw [Bool.eq_iff_iff, Bool.and_eq_true, dm_iff, dm_iff]
  constructor
  · intro h
    obtain ⟨s, u, e, h1, h2⟩ := dm_split p [c] _ h
    obtain ⟨y, rfl, h3⟩ := dm_single hc h2
    obtain ⟨e1, e2⟩ := List.append_inj' e rfl
    simp only [List.cons.injEq, and_true] at e2
    subst e1 e2
    exact ⟨h1, h3⟩
  · rintro ⟨h1, h2⟩
    exact dm_append h1 (.one hc h2 .nil)
theorem dm_snoc0 {c : Part} (hc : c ≠ ss) (p : List Part) : dm (p ++ [c]) [] = false := by
  rw [Bool.eq_false_iff]
  intro h
  rw [dm_iff] at h
  obtain ⟨s, u, e, _, h2⟩ := dm_split p [c] _ h
  obtain ⟨y, rfl, _⟩ := dm_single hc h2
  simp at e

/-- Does a pattern match a path? -/
def matches_ (p s : List UInt8) : Bool := may p && PS.may s && deal (PS.split p) (PS.split s)
end GS
end Go.Proofs.YtgbogkmbgedkkaaDoor

namespace Go.Proofs.YtgbogkmbgedkkaaDoor
namespace GS

/-- Signs without stars that match just these. -/
def Ex (q t : List UInt8) : Prop := 42 ∉ q ∧ GM q t
theorem ex_nil : Ex [] [] := ⟨by simp, .nil⟩
theorem ex_len : ∀ {q t : List UInt8}, 42 ∉ q → GM q t → q.length = t.length := by
  intro q t hq h
  induction h with
  | nil => rfl
  | one _ _ _ ih => simp [ih (fun e => hq (by simp [e]))]
  | done _ _ => exact absurd (by simp) hq
  | more _ _ => exact absurd (by simp) hq
theorem ex_snoc {q t : List UInt8} {c x : UInt8} (h : Ex q t) (hc : c ≠ 42) (hx : c = 63 ∨ c = x) : Ex (q ++ [c]) (t ++ [x]) :=
  ⟨by simp only [List.mem_append, List.mem_singleton, not_or]; exact ⟨h.1, fun e => hc e.symm⟩, gm_append h.2 (.one hc hx .nil)⟩

/-- How far the code is: at the i-th sign of the one, the k-th of the other; the last star, and from where on it takes. -/
def Inv (P S : List UInt8) (i k : Nat) (star : Int) (at_ : Nat) : Prop :=
  i ≤ P.length ∧ k ≤ S.length ∧ at_ ≤ k ∧
  ((star = -1 ∧ at_ = 0 ∧ (GM P S ↔ GM (P.drop i) (S.drop k))) ∨
    ∃ (j : Nat) (q t : List UInt8), star = (j : Int) ∧ j + 1 + q.length = i ∧ P.drop j = 42 :: (q ++ P.drop i) ∧ S.drop at_ = t ++ S.drop k ∧ Ex q t ∧ (GM P S ↔ GM (P.drop j) (S.drop at_)))

theorem inv_start (P S : List UInt8) : Inv P S 0 0 (-1) 0 := ⟨Nat.zero_le _, Nat.zero_le _, Nat.le_refl _, Or.inl ⟨rfl, rfl, by simp⟩⟩

theorem star_over {q t r v : List UInt8} (h : Ex q t) : GM (42 :: (q ++ 42 :: r)) (t ++ v) ↔ GM (42 :: r) v := by
  constructor
  · intro hg
    obtain ⟨u, z, e, hz⟩ := gm_star_iff.1 hg
    obtain ⟨a, b, rfl, ha, hb⟩ := gm_split q (42 :: r) z hz
    have l1 := ex_len h.1 ha
    have l2 := ex_len h.1 h.2
    rw [← List.append_assoc] at e
    have hv : v = (u ++ a).drop t.length ++ b := by
      have := congrArg (List.drop t.length) e
      rw [List.drop_left, List.drop_append_of_le_length (by simp; omega)] at this
      exact this
    rw [hv]
    exact gm_wide hb _
  · intro hg
    exact .done (gm_append h.2 hg)

theorem inv_star {P S : List UInt8} {i k : Nat} {star : Int} {at_ : Nat} (h : Inv P S i k star at_) (hi : i < P.length) (hc : P[i] = 42) : Inv P S (i + 1) k (i : Int) k := by
  obtain ⟨_, hk, ha, h⟩ := h
  have hd : P.drop i = 42 :: P.drop (i + 1) := by rw [List.drop_eq_getElem_cons hi, hc]
  refine ⟨by omega, hk, Nat.le_refl _, Or.inr ⟨i, [], [], rfl, by simp, by simpa using hd, by simp, ex_nil, ?_⟩⟩
  rcases h with ⟨_, _, h⟩ | ⟨j, q, t, _, _, h1, h2, h3, h⟩
  · exact h
  · rw [h, h1, h2, hd, star_over h3]

theorem inv_sign {P S : List UInt8} {i k : Nat} {star : Int} {at_ : Nat} (h : Inv P S i k star at_) (hi : i < P.length) (hk : k < S.length) (hc : P[i] ≠ 42) (hx : P[i] = 63 ∨ P[i] = S[k]) : Inv P S (i + 1) (k + 1) star at_ := by
  obtain ⟨_, _, ha, h⟩ := h
  have hd : P.drop i = P[i] :: P.drop (i + 1) := List.drop_eq_getElem_cons hi
  have he : S.drop k = S[k] :: S.drop (k + 1) := List.drop_eq_getElem_cons hk
  refine ⟨by omega, by omega, by omega, ?_⟩
  rcases h with ⟨h1, h2, h⟩ | ⟨j, q, t, h0, hj, h1, h2, h3, h⟩
  · refine Or.inl ⟨h1, h2, ?_⟩
    rw [h, hd, he]
    constructor
    · intro hg
      generalize hp : P[i] :: P.drop (i + 1) = p at hg
      cases hg with
      | one _ _ hr => cases hp; exact hr
      | done _ => simp only [List.cons.injEq] at hp; exact absurd hp.1 hc
      | more _ => simp only [List.cons.injEq] at hp; exact absurd hp.1 hc
    · intro hg
      exact .one hc hx hg
  · refine Or.inr ⟨j, q ++ [P[i]], t ++ [S[k]], h0, by simp; omega, ?_, ?_, ex_snoc h3 hc hx, h⟩
    · rw [h1, hd]; simp
    · rw [h2, he]; simp

/-- Where it doesn't go on. -/
theorem not_on {P S : List UInt8} {i k : Nat} (hk : k < S.length) (h1 : ∀ h : i < P.length, P[i] ≠ 42 ∧ P[i] ≠ 63 ∧ P[i] ≠ S[k]) : ¬ GM (P.drop i) (S.drop k) := by
  have he : S.drop k = S[k] :: S.drop (k + 1) := List.drop_eq_getElem_cons hk
  rw [he]
  by_cases hi : i < P.length
  · obtain ⟨a, b, c⟩ := h1 hi
    rw [List.drop_eq_getElem_cons hi]
    intro hg
    generalize hp : P[i] :: P.drop (i + 1) = p at hg
    cases hg with
    | one _ hx _ =>
      simp only [List.cons.injEq] at hp
      rcases hx with hx | hx
      · exact b (hp.1.trans hx)
      · exact c (hp.1.trans hx)
    | done _ => simp only [List.cons.injEq] at hp; exact absurd hp.1 a
    | more _ => simp only [List.cons.injEq] at hp; exact absurd hp.1 a
  · rw [List.drop_eq_nil_of_le (by omega)]
    intro hg
    cases hg
theorem inv_none {P S : List UInt8} {i k : Nat} {star : Int} {at_ : Nat} (h : Inv P S i k star at_) (hs : star < 0) (hn : ¬ GM (P.drop i) (S.drop k)) : one P S = false := by
  obtain ⟨_, _, _, h⟩ := h
  rw [Bool.eq_false_iff]
  intro h'
  rw [one_iff] at h'
  rcases h with ⟨_, _, h⟩ | ⟨j, _, _, h0, _⟩
  · exact hn (h.1 h')
  · omega
theorem inv_back {P S : List UInt8} {i k : Nat} {star : Int} {at_ : Nat} (h : Inv P S i k star at_) (hs : 0 ≤ star) (hk : k < S.length) (hn : ¬ GM (P.drop i) (S.drop k)) : star.toNat + 1 ≤ i ∧ Inv P S (star.toNat + 1) (at_ + 1) star (at_ + 1) := by
  obtain ⟨hi, _, ha, h⟩ := h
  rcases h with ⟨h1, _, _⟩ | ⟨j, q, t, h0, hj, h1, h2, h3, h⟩
  · omega
  · subst h0
    rw [Int.toNat_natCast]
    have hd : P.drop (j + 1) = q ++ P.drop i := by
      rw [← List.tail_drop, h1]; rfl
    have hat : at_ < S.length := by omega
    have he : S.drop at_ = S[at_] :: S.drop (at_ + 1) := List.drop_eq_getElem_cons hat
    refine ⟨by omega, by omega, by omega, Nat.le_refl _, Or.inr ⟨j, [], [], rfl, by simp, by rw [hd, h1]; simp, by simp, ex_nil, ?_⟩⟩
    rw [h, h1]
    constructor
    · intro hg
      rw [he] at hg
      cases hg with
      | one hx _ _ => exact absurd rfl hx
      | done hr =>
        rw [← he, h2] at hr
        obtain ⟨a, b, e, hga, hgb⟩ := gm_split q (P.drop i) _ hr
        have l1 := ex_len h3.1 hga
        have l2 := ex_len h3.1 h3.2
        obtain ⟨e1, e2⟩ := List.append_inj e (by omega)
        rw [← e2] at hgb
        exact absurd hgb hn
      | more hr => exact hr
    · intro hg
      rw [he]
      exact .more hg
theorem gm_stars : ∀ p : List UInt8, GM p [] ↔ ∀ c ∈ p, c = 42
  | [] => ⟨fun _ c hc => by simp at hc, fun _ => .nil⟩
  | c :: p => by
    have ih := gm_stars p
    constructor
    · intro h
      cases h with
      | done hr =>
        intro d hd
        rcases List.mem_cons.1 hd with rfl | hd
        · rfl
        · exact ih.1 hr d hd
    · intro h
      have hc := h c (by simp)
      subst hc
      exact .done (ih.2 (fun d hd => h d (by simp [hd])))
theorem inv_end {P S : List UInt8} {i : Nat} {star : Int} {at_ : Nat} (h : Inv P S i S.length star at_) : one P S = true ↔ ∀ c ∈ P.drop i, c = 42 := by
  obtain ⟨_, _, _, h⟩ := h
  rw [one_iff, ← gm_stars]
  rcases h with ⟨_, _, h⟩ | ⟨j, q, t, _, _, h1, h2, h3, h⟩
  · rw [h, List.drop_length]
  · rw [h, h1, h2, List.drop_length, List.append_nil]
    constructor
    · intro hg
      obtain ⟨u, z, e, hz⟩ := gm_star_iff.1 hg
      obtain ⟨a, b, rfl, ha, hb⟩ := gm_split q (P.drop i) z hz
      have l1 := ex_len h3.1 ha
      have l2 := ex_len h3.1 h3.2
      have := congrArg List.length e
      simp only [List.length_append] at this
      obtain rfl : b = [] := List.length_eq_zero_iff.1 (by omega)
      exact hb
    · intro hg
      have := gm_append h3.2 hg
      rw [List.append_nil] at this
      exact .done this
end GS
end Go.Proofs.YtgbogkmbgedkkaaDoor
