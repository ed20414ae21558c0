/- The laws' first look: the document's example of a trace. -/
import Derived.Test.YtcaookphoiopbaaDoorTraceBytes
import Derived.Test.YtcaookphoiopbaaDoorTraceHolds
namespace Go.Proofs.YtcaookphoiopbaaDoor
open Go.RowKit Go.Shelf

def aliveR : ReadD := ⟨⟨#[97]⟩, false, Dig.zero⟩
def aliveT : TraceD := ⟨Dig.zero, [aliveR], []⟩
def aliveB : ByteArray := ⟨#[51, 50, 58, 0, 0, 0, 0, 0, 0, 0, 0, 0, 0, 0, 0, 0, 0, 0, 0, 0, 0, 0, 0, 0, 0, 0, 0, 0, 0, 0, 0, 0, 0, 0, 0, 49, 58, 49, 49, 58, 97, 48, 58]⟩
theorem itoa_0 : Lib.itoa ((0 : Nat) : Int) = [48] := by
  rw [Lib.itoa, if_neg (by decide)]
  exact Lib.decDigits_one (i := 0) (by omega)
theorem itoa_1 : Lib.itoa ((1 : Nat) : Int) = [49] := by
  rw [Lib.itoa, if_neg (by decide)]
  exact Lib.decDigits_one (i := 1) (by omega)
theorem itoa_32 : Lib.itoa ((32 : Nat) : Int) = [51, 50] := by
  rw [Lib.itoa, if_neg (by decide)]
  exact Lib.decDigits_two (i := 32) (by omega) (by omega)
theorem alive_check : TS.checkErr aliveT = 0 := by decide
theorem alive_bytes : TB.out aliveT = aliveB := by
  rw [TB.out, if_pos alive_check]
  have e : (TB.texts aliveT).map (fun s => s.data.toList) = [List.replicate 32 0, [49], [97], []] := by
    have h : (TB.numS aliveT).data.toList = [49] := itoa_1
    simp only [TB.texts, List.map_append, List.map_cons, List.map_nil, h]
    rfl
  unfold TB.bytes
  rw [e]
  simp only [PK.row, PK.piece, List.flatMap_cons, List.flatMap_nil, List.length_replicate, List.length_cons, List.length_nil, itoa_0, itoa_1, itoa_32, Nat.zero_add]
  rfl
theorem alive_holds : TS.holds [] aliveT.reads = (false, ⟨#[97]⟩) := rfl
theorem alive_f1 : (aliveB.size : Int) = 43 := rfl
theorem alive_f2 : (aliveB.extract 0 3).toList = [51, 50, 58] := by rw [ByteArray.toList_eq]; rfl
theorem alive_f3 : (aliveB.extract 35 aliveB.size).toList = [49, 58, 49, 49, 58, 97, 48, 58] := by rw [ByteArray.toList_eq]; rfl
theorem alive_small : aliveT.small := ⟨fun r hr => by simp [aliveT] at hr; subst hr; decide, fun m hm => by simp [aliveT] at hm⟩

theorem wpList_store_newM {P : Program} {ops : Array Oper} {rest : List Oper} {op : Oper} {a : Act} {w : World} {Q : Exit → Act → World → Prop} (hgd : op.guard = none) (ty : TypeId) (x y : Operand) (ho : op.op = .store ty x y)
    (c : Array Value) (cs : List Value) (M : Nat) (hx : a.eval x = .pointer (some ⟨M, 0, none⟩)) (hM : w.heap.size = M) (hy : a.eval y = .agg cs.toArray) (hc : c.size = cs.length)
    (hi : (P.info? ty).map (·.size) = some cs.length) (h1 : ∀ v ∈ cs, v.oneCell' = true)
    (h : wpList P ops Q rest (a.put op.dst undef) (w.alloc (.cells cs.toArray ty))) : wpList P ops Q (op :: rest) a (w.alloc (.cells c ty)) := by
  subst hM
  exact wpList_store_new hgd ty x y ho c cs hx hy hc hi h1 h

/-- Where the example lies. -/
theorem alive_laid {w X : World} (h : (w.alloc (.cells aliveR.enc.toArray 32)).alloc (.cells (aliveT.cells (some ⟨w.heap.size, 0, none⟩) 1 none 0).toArray 29) = X) :
    Below w.heap.size w X ∧ X.rangeAt (w.heap.size + 1) 0 (aliveT.cells (some ⟨w.heap.size, 0, none⟩) 1 none 0) ∧ Elems ReadD.enc 34 X (some ⟨w.heap.size, 0, none⟩) 1 1 aliveT.reads := by
  obtain ⟨h1, h2, h3⟩ := box_facts h
  rw [World.size_alloc] at h1 h2 h3
  refine ⟨below_then (below_box _) (by simp) (by rw [World.size_alloc]; exact h1), h3, rfl, Nat.le_refl _, fun _ => ⟨w.heap.size, 0, rfl, by omega, fun j x hx => ?_⟩⟩
  obtain ⟨rfl, rfl⟩ : j = 0 ∧ x = aliveR := by
    cases j with
    | zero => simp [aliveT] at hx; exact ⟨rfl, hx.symm⟩
    | succ j => simp [aliveT] at hx
  exact range_low h1 (Nat.lt_succ_self _) (range_new w aliveR.enc _)

set_option maxHeartbeats 2000000 in
set_option maxRecDepth 100000 in
theorem alive_any (w : World) (hp : Pow w) :
    Calls Tryd.prog 11 #[] w fun e w' => e = .returned (.bool true) ∧ Below w.heap.size w w' := by
  obtain ⟨cs, hcs⟩ : ∃ cs, aliveT.cells (some ⟨w.heap.size, 0, none⟩) 1 none 0 = cs := ⟨_, rfl⟩
  have hone : ∀ v ∈ cs, v.oneCell' = true := hcs ▸ TraceD.cells_one _ _ _ _ _
  have hl : cs.length = 34 := hcs ▸ TraceD.cells_len _ _ _ _ _
  have hlaid : ∀ X, (w.alloc (.cells aliveR.enc.toArray 32)).alloc (.cells cs.toArray 29) = X → Below w.heap.size w X ∧ X.rangeAt (w.heap.size + 1) 0 cs ∧ Elems ReadD.enc 34 X (some ⟨w.heap.size, 0, none⟩) 1 1 aliveT.reads := fun X hX => by
    rw [← hcs] at hX ⊢
    exact alive_laid hX
  have hO : ∀ X : World, Elems MadeD.enc 33 X none 0 0 aliveT.outs := fun X => ⟨rfl, Nat.le_refl _, fun h => absurd h (by omega)⟩
  have cb := fun W h k => bytes_any aliveT (some ⟨w.heap.size, 0, none⟩) 1 none 0 W h (hO W) alive_small k
  have ch := fun W h => holds_any aliveT (some ⟨w.heap.size, 0, none⟩) 1 none 0 none 0 0 [] W h ⟨rfl, Nat.le_refl _, fun h => absurd h (by omega)⟩ (by omega) (by decide)
  rw [alive_holds] at ch
  rw [alive_bytes, alive_check] at cb
  rw [hcs] at ch cb
  have HCS := Lib.hid hcs
  have HL := Lib.hid hl
  have HLA := Lib.hid hlaid
  have CB := Lib.hid cb
  have CH := Lib.hid ch
  clear hcs hl hlaid hO cb ch
  go_enter Tryd.func11, Tryd.ntmps11
  go_wp2_with (first | (refine wpList_store_newM rfl 29 _ _ rfl _ cs _ rfl (by simp) (by rw [← HCS.out]; rfl) (by rw [HL.out]; rfl) (by rw [HL.out]; kernel_rfl) hone ?_; refine wpList_name ?_; intro X hX; obtain ⟨hbX, hrX, heX⟩ := HLA.out X hX; clear hX; have HRX := Lib.hid hrX; clear hrX) | (refine wpList_load_mid rfl 29 _ rfl (w.heap.size + 1) 0 rfl cs _ HRX.out Tryd.underlying29 rfl (by rw [HL.out]; kernel_rfl) ?_) | (refine wpList_load_mid rfl 29 _ rfl (w.heap.size + 1) 0 rfl cs _ (range_below hb1 HRX.out) Tryd.underlying29 rfl (by rw [HL.out]; kernel_rfl) ?_) | (go_at_call 22; refine (CB.out _ heX (hp.below hbX)).mono ?_; rintro e w1 ⟨rfl, hb1⟩) | (go_at_call 15; refine (CH.out _ (heX.below hb1)).mono ?_; rintro e w2 ⟨rfl, hb2⟩))
  · go_ret
    exact ⟨rfl, below_then (below_then hbX hbX.size hb1) (Nat.le_trans hbX.size hb1.size) hb2⟩
  all_goals (exfalso; first | exact absurd alive_f1 ‹_› | exact absurd alive_f2 ‹_› | exact absurd alive_f3 ‹_›)
end Go.Proofs.YtcaookphoiopbaaDoor
