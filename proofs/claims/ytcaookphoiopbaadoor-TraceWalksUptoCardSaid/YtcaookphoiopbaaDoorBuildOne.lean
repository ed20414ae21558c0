/- A slice literal of one struct: the block that it makes. -/
import Derived.Test.YtcaookphoiopbaaDoorOpen
import Derived.Great.Walk
namespace Go.Proofs.YtcaookphoiopbaaDoor
open Go.RowKit

theorem built_one {P : Program} (e : TypeId) (i : TypeInfo) (z : Value) (cs : List Value) (hi : P.info? e = some i) (hz : i.zero = some z) (hs : i.size = cs.length) (hzs : z.cells.size = cs.length) (h0 : 0 < cs.length) (hl : cs.length ≤ 2 ^ 24) :
    P.builtSlice e 1 [(0, .agg cs.toArray)] = some cs.toArray := by
  have hc : (Value.agg cs.toArray).cells = cs.toArray := rfl
  unfold Program.builtSlice
  simp only [hi, hz, hs, Nat.one_mul]
  rw [if_neg (by omega)]
  obtain ⟨r, hr, hsz, hk⟩ := Great.fill_dense (s := cs.length) h0 [.agg cs.toArray] 0 ((Array.range cs.length).map (z.cells[· % z.cells.size]!)) (fun v hv => by simp at hv; subst hv; rw [hc]; simp) (by simp)
  have e0 : (([Value.agg cs.toArray].zipIdx 0).map fun x => (x.2, x.1)) = [(0, .agg cs.toArray)] := rfl
  rw [e0] at hr
  rw [hr]
  congr 1
  apply Array.ext_getElem?
  intro k
  rw [hk k]
  simp only [List.length_cons, List.length_nil, Nat.zero_mul, Nat.zero_add, Nat.one_mul]
  by_cases h : k < cs.length
  · rw [if_pos ⟨Nat.zero_le _, h⟩, Nat.div_eq_of_lt h, Nat.mod_eq_of_lt h]
    simp [hc]
  · rw [if_neg (by omega)]
    simp [h]

/-- The operation. -/
theorem wpList_one {P : Program} {ops : Array Oper} {rest : List Oper} {o : Oper} {a : Act} {w : World} {Q : Exit → Act → World → Prop} (hg : o.guard = none) (t e : TypeId) (x : Operand) (ho : o.op = .buildSlice t 1 #[(0, x)])
    (hu : P.underlying t = some (.slice e)) (cs : List Value) (hx : a.eval x = .agg cs.toArray) (hb : P.builtSlice e 1 [(0, .agg cs.toArray)] = some cs.toArray)
    (h : wpList P ops Q rest (a.put o.dst (.slice (some ⟨w.heap.size, 0, none⟩) 1 1)) (w.alloc (.cells cs.toArray e))) : wpList P ops Q (o :: rest) a w := by
  refine Great.wpList_buildSliceTo hg t e 1 _ ho _ rfl _ rfl hu cs.toArray ?_ h
  rw [← hb, ← hx]
  simp

theorem infoReadZ : (Tryd.prog.info? 32).map (fun i => (i.zero, i.size)) = some (some (.agg (ReadD.enc ⟨⟨#[]⟩, false, Dig.zero⟩).toArray), 34) := by kernel_rfl
theorem infoMadeZ : (Tryd.prog.info? 34).map (fun i => (i.zero, i.size)) = some (some (.agg (MadeD.enc ⟨⟨#[]⟩, Dig.zero⟩).toArray), 33) := by kernel_rfl
theorem built_read (r : ReadD) : Tryd.prog.builtSlice 32 1 [(0, .agg r.enc.toArray)] = some r.enc.toArray := by
  have h := infoReadZ
  cases hi : Tryd.prog.info? 32 with
  | none => rw [hi] at h; cases h
  | some i =>
    rw [hi] at h
    simp only [Option.map_some, Option.some.injEq, Prod.mk.injEq] at h
    exact built_one _ i _ r.enc hi h.1 (by rw [h.2, r.enc_len]) (by show (ReadD.enc _).toArray.size = _; rw [List.size_toArray, ReadD.enc_len, r.enc_len]) (by rw [r.enc_len]; omega) (by rw [r.enc_len]; omega)
theorem built_made (r : MadeD) : Tryd.prog.builtSlice 34 1 [(0, .agg r.enc.toArray)] = some r.enc.toArray := by
  have h := infoMadeZ
  cases hi : Tryd.prog.info? 34 with
  | none => rw [hi] at h; cases h
  | some i =>
    rw [hi] at h
    simp only [Option.map_some, Option.some.injEq, Prod.mk.injEq] at h
    exact built_one _ i _ r.enc hi h.1 (by rw [h.2, r.enc_len]) (by show (MadeD.enc _).toArray.size = _; rw [List.size_toArray, MadeD.enc_len, r.enc_len]) (by rw [r.enc_len]; omega) (by rw [r.enc_len]; omega)
end Go.Proofs.YtcaookphoiopbaaDoor
