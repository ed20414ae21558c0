/- Small words for the walks of this seat: slices whose elements take several cells, a box for a loop's variable, a set of texts that the call owns. No program in sight. -/
import Derived.WalkKit
import Derived.WalkSpells
import Derived.WalkLawsBesides
import Derived.BigQuiet
import Derived.Deep.MidRow
import Derived.Deep.WholeRow
import Derived.Lib.Hide
import Derived.OneCell
import Derived.Stop.BytesEq
import Derived.Maps.Own
import Derived.Maps.OwnOps
import Derived.Maps.Views
namespace Go.Proofs.YtgbogkmbgedkkaaDoor
open Go.RowKit
variable {P : Program}

theorem retI {k : IntKind} {a b : Int} (h : a = b) : Ending.returned (.int k a) = .returned (.int k b) := by rw [h]
theorem retB {a b : Bool} (h : a = b) : Ending.returned (.bool a) = .returned (.bool b) := by rw [h]

theorem retBS {a b : Bool} {s t : ByteArray} (h : a = b) (k : s = t) : Ending.returned (.tuple #[.bool a, .string s]) = .returned (.tuple #[.bool b, .string t]) := by rw [h, k]
theorem retSI {a b : Int} {kk : IntKind} {s t : ByteArray} (h : s = t) (k : a = b) : Ending.returned (.tuple #[.string s, .int kk a]) = .returned (.tuple #[.string t, .int kk b]) := by rw [h, k]

/-- A world gets a name. -/
theorem wpList_name {ops : Array Oper} {l : List Oper} {a : Act} {w : World} {Q : Exit → Act → World → Prop} (h : ∀ X, w = X → wpList P ops Q l a X) : wpList P ops Q l a w := h w rfl
theorem wp_name {c : Code} {a : Act} {w : World} {Q : Exit → Act → World → Prop} (h : ∀ X, w = X → c.wp P Q a X) : c.wp P Q a w := h w rfl
theorem calls_name {f : FuncId} {args : Array Value} {w : World} {R : Ending → World → Prop} (h : ∀ X, w = X → Calls P f args X R) : Calls P f args w R := h w rfl

/-! ### What lies below stays -/
theorem below_then {B : Nat} {A X Y : World} (h : Below B A X) (hB : B ≤ X.heap.size) (k : Below X.heap.size X Y) : Below B A Y := h.trans (k.mono hB)
theorem cell_below {X Y : World} (h : Below X.heap.size X Y) {a : Addr} {v : Value} (hc : X.cell? a = some v) : Y.cell? a = some v :=
  (h.cell (World.block_lt_of_cell? X a hc)).trans hc
theorem frozen_below {X Y : World} (h : Below X.heap.size X Y) {a : Addr} {v : Value} (hc : X.cell? a = some v) : Y.frozen? a = X.frozen? a :=
  h.frozen (World.block_lt_of_cell? X a hc)
theorem heap_below {X Y : World} (h : Below X.heap.size X Y) {k : Nat} {o : Obj} (hk : X.heap[k]? = some o) : Y.heap[k]? = some o :=
  (h.block k (lt_of_block hk)).trans hk
theorem range_below {X Y : World} (h : Below X.heap.size X Y) {b o : Nat} {cs : List Value} (hr : X.rangeAt b o cs) : Y.rangeAt b o cs :=
  fun j v hv => cell_below h (hr j v hv)
theorem range_low {B : Nat} {X Y : World} (h : Below B X Y) {b o : Nat} {cs : List Value} (hb : b < B) (hr : X.rangeAt b o cs) : Y.rangeAt b o cs :=
  fun j v hv => (h.cell (p := ⟨b, o + j, none⟩) hb).trans (hr j v hv)

theorem below_draws {B : Nat} {A X : World} (h : Below B A X) (n : Nat) : Below B A (X.drewN n) := ⟨h.os, h.tape, h.output, h.size, h.block⟩

/-! ### A slice whose elements take k cells -/
structure Elems {α : Type} (enc : α → List Value) (k : Nat) (w : World) (A : Option Addr) (n c : Nat) (xs : List α) : Prop where
  len : xs.length = n
  cap : n ≤ c
  at_ : 0 < n → ∃ b o, A = some ⟨b, o, none⟩ ∧ b < w.heap.size ∧ ∀ j x, xs[j]? = some x → w.rangeAt b (o + j * k) (enc x)

theorem Elems.below {α : Type} {enc : α → List Value} {k : Nat} {X Y : World} {A : Option Addr} {n c : Nat} {xs : List α} (h : Elems enc k X A n c xs) (hb : Below X.heap.size X Y) : Elems enc k Y A n c xs :=
  ⟨h.len, h.cap, fun hn => by
    obtain ⟨b, o, e, hlt, hr⟩ := h.at_ hn
    exact ⟨b, o, e, Nat.lt_of_lt_of_le hlt hb.size, fun j x hx => range_below hb (hr j x hx)⟩⟩

/-- Where the memory was laid open up to B. -/
theorem Elems.low {α : Type} {enc : α → List Value} {k B : Nat} {w X Y : World} {A : Option Addr} {n c : Nat} {xs : List α} (h : Elems enc k w A n c xs) (hB : w.heap.size ≤ B) (hX : Below w.heap.size w X) (hY : Below B X Y) : Elems enc k Y A n c xs :=
  h.below (hX.trans (hY.mono hB))

/-! ### A box -/
theorem wpList_store_new {ops : Array Oper} {rest : List Oper} {op : Oper} {a : Act} {w : World} {Q : Exit → Act → World → Prop} (hgd : op.guard = none) (ty : TypeId) (x y : Operand) (ho : op.op = .store ty x y)
    (c : Array Value) (cs : List Value) (hx : a.eval x = .pointer (some ⟨w.heap.size, 0, none⟩)) (hy : a.eval y = .agg cs.toArray) (hc : c.size = cs.length)
    (hi : (P.info? ty).map (·.size) = some cs.length) (h1 : ∀ v ∈ cs, v.oneCell' = true)
    (h : wpList P ops Q rest (a.put op.dst undef) (w.alloc (.cells cs.toArray ty))) : wpList P ops Q (op :: rest) a (w.alloc (.cells c ty)) := by
  refine wpList_plain hgd fun K hK => ?_
  unfold Oper.wp execOp
  simp only [ho, hx, hy, Sem.run_bind, run_storeAt_new w ty c cs.toArray (by simpa using hi) (by simpa using hc) (all_oneCell_toArray h1), Result.andThen_ok, Sem.run_pure]
  exact hK _ _ h

theorem range_new (w : World) (cs : List Value) (t : TypeId) : (w.alloc (.cells cs.toArray t)).rangeAt w.heap.size 0 cs := fun j v hv => by
  rw [cell_of_row _ w.heap.size (0 + j) cs.toArray t (0, 0) (heap_alloc_last w _)]
  simpa using hv

/-- What a box just laid holds. -/
theorem box_facts {W X : World} {cs : List Value} {t : TypeId} (h : W.alloc (.cells cs.toArray t) = X) : Below W.heap.size W X ∧ X.heap.size = W.heap.size + 1 ∧ X.rangeAt W.heap.size 0 cs := by
  subst h
  exact ⟨(Below.refl _ _).alloc (Nat.le_refl _) _, by simp, range_new W cs t⟩

/-- A load of several cells under a guard that says yes. -/
theorem wpList_load_mid_g {ops : Array Oper} {rest : List Oper} {op : Oper} {a : Act} {w : World} {Q : Exit → Act → World → Prop} (ty : TypeId) (x : Operand) (ho : op.op = .load ty x) (hw : Region.wanted op (yielded ops a.tmps) = true)
    (b o : Nat) (hx : a.eval x = .pointer (some ⟨b, o, none⟩)) (cs : List Value) (d : TypeDesc) (hc : w.rangeAt b o cs)
    (hu : P.underlying ty = some d) (hd : d.isRow = true) (hi : (P.info? ty).map (·.size) = some cs.length)
    (h : wpList P ops Q rest (a.put op.dst (.agg cs.toArray)) w) : wpList P ops Q (op :: rest) a w :=
  BigFrame.wpList_want hw fun _ hK => wp_load_mid ty x ho b o hx cs d hc hu hd hi (hK _ _ h)

/-- A cell of a box just laid, said for every world: a rule for the walk. -/
theorem box_cell {cs : List Value} {j : Nat} {v : Value} (t : TypeId) (h : cs[j]? = some v) (W : World) : (W.alloc (.cells cs.toArray t)).cell? ⟨W.heap.size, j, none⟩ = some v := by
  have := range_new W cs t j v h
  rwa [Nat.zero_add] at this
theorem below_box {w : World} (o : Obj) : Below w.heap.size w (w.alloc o) := (Below.refl _ _).alloc (Nat.le_refl _) _

/-- In a quiet region: a load of several cells. -/
theorem wpQuiet_load {ops : Array Oper} {C : World → Prop} {Q : Act → Prop} {rest : List Oper} {op : Oper} {a : Act} (ty : TypeId) (x : Operand) (ho : op.op = .load ty x) (hw : Region.wanted op (yielded ops a.tmps) = true)
    (p v : Value) (hx : a.eval x = p) (h : ∀ w, C w → (Instr.loadAt ty p).run P w = .ok v w) (a' : Act) (ha : a.put op.dst v = a') (hk : wpQuiet P ops C Q rest a') : wpQuiet P ops C Q (op :: rest) a := by
  refine wpQuiet_step fun K hK => ?_
  rw [if_pos hw]
  refine ⟨v, fun w hC => ?_, hK _ (ha ▸ hk)⟩
  unfold Oper.quietAt execOp
  simp only [ho, hx, Sem.run_bind, h w hC, Result.andThen_ok, Sem.run_pure]
  exact ⟨rfl, rfl⟩
theorem wpQuiet_binop {ops : Array Oper} {C : World → Prop} {Q : Act → Prop} {rest : List Oper} {op : Oper} {a : Act} (bop : BinOp) (ty ty' : TypeId) (x y : Operand) (ho : op.op = .binOp bop ty x y ty') (hw : Region.wanted op (yielded ops a.tmps) = true)
    (p q v : Value) (hx : a.eval x = p) (hy : a.eval y = q) (hg : ∀ w, (eqGuard bop ty x y p q).run P w = .ok () w) (h : ∀ w, (binOp bop ty p q).run P w = .ok v w) (a' : Act) (ha : a.put op.dst v = a') (hk : wpQuiet P ops C Q rest a') : wpQuiet P ops C Q (op :: rest) a := by
  refine wpQuiet_step fun K hK => ?_
  rw [if_pos hw]
  refine ⟨v, fun w hC => ?_, hK _ (ha ▸ hk)⟩
  unfold Oper.quietAt execOp
  simp only [ho, hx, hy, Sem.run_bind, hg, h w, Result.andThen_ok, Sem.run_pure]
  exact ⟨rfl, rfl⟩

/-! ### A set of texts that the call owns: map[string]bool -/
def OwnsSet (w : World) (P : Program) (k e : TypeId) (b n : Nat) (f : List UInt8 → Bool) : Prop :=
  ∃ D : DataW Unit, w.ownsMap P k (plainElem P e) b n D ∧ Maps.IsMap D ∧ ∀ s, D.atKey (.string s) (.lit (.bool false)) = .lit (.bool (f s))

theorem OwnsSet.made (w : World) (P : Program) (k e : TypeId) : OwnsSet (w.alloc (.map #[] 0)) P k e w.heap.size 0 (fun _ => false) :=
  ⟨.map [], World.ownsMap_made _ _ _ _, ⟨[], rfl⟩, fun _ => rfl⟩
theorem OwnsSet.kept {w w' : World} {k e : TypeId} {b n : Nat} {f : List UInt8 → Bool} {row : Option Nat} (h : OwnsSet w P k e b n f) (hg : w.grownBy w' row) (hne : some b ≠ row) : OwnsSet w' P k e b n f := by
  obtain ⟨D, h1, h2⟩ := h
  exact ⟨D, h1.kept hg hne, h2⟩
theorem OwnsSet.lt {w : World} {k e : TypeId} {b n : Nat} {f : List UInt8 → Bool} (h : OwnsSet w P k e b n f) : b < w.heap.size := by
  obtain ⟨D, h1, _⟩ := h
  exact h1.lt
theorem OwnsSet.below {w w' : World} {k e : TypeId} {b n : Nat} {f : List UInt8 → Bool} (h : OwnsSet w P k e b n f) (hb : Below w.heap.size w w') : OwnsSet w' P k e b n f :=
  h.kept (row := none) ⟨hb.os, hb.tape, hb.output, hb.size, fun i hi _ => hb.block i hi⟩ (by simp)

theorem OwnsSet.has {w : World} {t k e : TypeId} {b n : Nat} {f : List UInt8 → Bool} (h : OwnsSet w P k e b n f) (K : Maps.Keyed P k) (ht : P.underlying t = some (.map k e)) (he : P.underlying e = some .bool)
    (hz : (zeroValue e).run P w = .ok (.bool false) w) {s : ByteArray} (hk : keyOf P k (.string s) = some (.string s.data.toList)) :
    (Instr.lookup t (.map (some b)) (.string s) false).run P w = .ok (.bool (f s.data.toList)) w := by
  obtain ⟨D, hown, _, hf⟩ := h
  obtain ⟨v, ps, hrun, hv⟩ := hown.lookup K ht hz (plainElem_bool he false) hk
  rw [hf] at hv
  have : v = .bool (f s.data.toList) := by
    unfold plainElem at hv
    rw [he] at hv
    cases v <;> simp at hv
    rw [hv.1]
  rw [hrun, this]

theorem OwnsSet.put {w : World} {t k e : TypeId} {b n : Nat} {f : List UInt8 → Bool} (h : OwnsSet w P k e b n f) (K : Maps.Keyed P k) (ht : P.underlying t = some (.map k e)) (he : P.underlying e = some .bool)
    (hn : n < maxLen) {s : ByteArray} (hk : keyOf P k (.string s) = some (.string s.data.toList)) :
    ∃ w', (Instr.mapUpdate t (.map (some b)) (.string s) (.bool true)).run P w = .ok () w' ∧ OwnsSet w' P k e b (n + 1) (fun x => x == s.data.toList || f x) ∧ w.grownBy w' (some b) := by
  obtain ⟨D, hown, hm, hf⟩ := h
  obtain ⟨w', hrun, hown', hg⟩ := hown.update K ht hn hk (plainElem_bool he true)
  refine ⟨w', hrun, ⟨_, hown', ?_, fun x => ?_⟩, hg⟩
  · obtain ⟨es, rfl⟩ := hm
    exact ⟨_, rfl⟩
  · by_cases hx : x = s.data.toList
    · subst hx
      rw [Maps.atKey_put_same hm (K.key hk)]
      simp
    · rw [Maps.atKey_put_other (fun hh => hx (by injection hh)), hf]
      simp [hx]

theorem wpList_set_put {w : World} {ops : Array Oper} {rest : List Oper} {o : Oper} {a : Act} {Q : Exit → Act → World → Prop} (hgd : o.guard = none) (m x v : Operand) (t : TypeId) (hop : o.op = Op.mapUpdate t m x v)
    (k e : TypeId) (K : Maps.Keyed P k) (ht : P.underlying t = some (.map k e)) (he : P.underlying e = some .bool) (b n : Nat) (f : List UInt8 → Bool) (hm : a.eval m = .map (some b)) (h : OwnsSet w P k e b n f) (hn : n < maxLen)
    (s : ByteArray) (hx : a.eval x = .string s) (hv : a.eval v = .bool true) (hk : keyOf P k (.string s) = some (.string s.data.toList))
    (hK : ∀ w', OwnsSet w' P k e b (n + 1) (fun y => y == s.data.toList || f y) → w.grownBy w' (some b) → wpList P ops Q rest (a.put o.dst undef) w') :
    wpList P ops Q (o :: rest) a w := by
  refine wpList_plain hgd fun K' hK' => ?_
  obtain ⟨w', hrun, r1, r2⟩ := h.put K ht he hn hk
  unfold Oper.wp
  simp [execOp, hop, hm, hx, hv, hrun, Result.andThen]
  exact hK' _ _ (hK w' r1 r2)

end Go.Proofs.YtgbogkmbgedkkaaDoor
