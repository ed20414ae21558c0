/- Arguments opened: a trace, a slice of reads, as the walks take them. -/
import Derived.Test.YtcaookphoiopbaaDoorRowBase
import Derived.Test.YtcaookphoiopbaaDoorTraceSpec
import Derived.Deep.Slices
import Derived.Carry
namespace Go.Proofs.YtcaookphoiopbaaDoor
open Go.ChangeShapes Go.WideShapes Go.ChangeAt Go.RowKit

instance : Inhabited Dig := ⟨Dig.zero⟩
instance : Inhabited ReadD := ⟨⟨⟨#[]⟩, false, default⟩⟩
instance : Inhabited MadeD := ⟨⟨⟨#[]⟩, default⟩⟩

theorem cells_u8 : Tryd.prog.cellsOf 5 = 1 := by kernel_rfl
theorem cells_str : Tryd.prog.cellsOf 9 = 1 := by kernel_rfl
theorem cells_bool : Tryd.prog.cellsOf 4 = 1 := by kernel_rfl
theorem cells_dig : Tryd.prog.cellsOf 25 = 32 := by kernel_rfl
theorem cells_read : Tryd.prog.cellsOf 32 = 34 := by kernel_rfl
theorem cells_made : Tryd.prog.cellsOf 34 = 33 := by kernel_rfl
theorem cells_reads : Tryd.prog.cellsOf 26 = 1 := by kernel_rfl
theorem cells_mades : Tryd.prog.cellsOf 27 = 1 := by kernel_rfl
theorem cells_trace : Tryd.prog.cellsOf 29 = 34 := by kernel_rfl

section
variable {H : Type} {enc : TypeId × Value → H} {W : World} {base : Nat} {sp : Nat → Bool} {held : Bool} {fuel : Nat} {cs : List Value} {x : DataW H × List MemPlace}

theorem trod_struct3 {P : Program} {t : TypeId} {f0 f1 f2 : Field} (ht : P.underlying t = some (.struct #[f0, f1, f2])) (h : DataW.trod enc P W base sp held fuel t cs = some x) :
    ∃ y0 y1 y2 n, cs.length = P.cellsOf t ∧ DataW.trod enc P W base sp held n f0.type ((cs.drop f0.offset).take (P.cellsOf f0.type)) = some y0 ∧
      DataW.trod enc P W base sp held n f1.type ((cs.drop f1.offset).take (P.cellsOf f1.type)) = some y1 ∧ DataW.trod enc P W base sp held n f2.type ((cs.drop f2.offset).take (P.cellsOf f2.type)) = some y2 := by
  obtain ⟨xs, n, _, rfl, hl, hlen, hf⟩ := DataW.trod_struct ht h
  match xs, hlen with
  | [y0, y1, y2], _ => exact ⟨y0, y1, y2, n, hl, by simpa using hf 0 f0 rfl, by simpa using hf 1 f1 rfl, by simpa using hf 2 f2 rfl⟩

theorem open_dig (h : DataW.trod enc Tryd.prog W base sp held fuel 25 cs = some x) : ∃ d : Dig, cs = d.enc := by
  obtain ⟨xs, m, _, _, hl, hn, he⟩ := DataW.trod_array Tryd.underlying25 h
  rw [cells_dig] at hl
  simp only [cells_u8, Nat.mul_one] at he
  have each : ∀ i, i < 32 → ∃ n : Int, cs[i]? = some (.int .u8 n) ∧ 0 ≤ n ∧ n ≤ 255 := fun i hi => by
    have h1 := he i hi
    rw [List.getElem?_eq_getElem (by omega)] at h1
    obtain ⟨n, e, _, hw⟩ := DataW.trod_int Tryd.underlying5 h1
    have h2 : ((cs.drop i).take 1)[0]? = some (.int .u8 n) := by rw [e]; rfl
    have h3 : 0 ≤ n ∧ n ≤ 255 := by simpa [Lit.wf, IntKind.min, IntKind.max, IntKind.signed, IntKind.bits] using hw
    exact ⟨n, by simpa [List.getElem?_take, List.getElem?_drop] using h2, h3⟩
  refine ⟨⟨cs.map fun v => UInt8.ofNat (intOf v).toNat, by simp [hl]⟩, ?_⟩
  apply List.ext_getElem?
  intro i
  by_cases hi : i < 32
  · obtain ⟨n, e, h0, h1⟩ := each i hi
    simp only [Dig.enc, List.getElem?_map, e, Option.map_some, intOf]
    congr 2
    rw [UInt8.toNat_ofNat']
    omega
  · rw [List.getElem?_eq_none (by omega), List.getElem?_eq_none (by simp [Dig.enc, hl]; omega)]

theorem take_one {l : List Value} {i : Nat} {v : Value} (h : (l.drop i).take 1 = [v]) : l[i]? = some v := by
  have h2 : ((l.drop i).take 1)[0]? = some v := by rw [h]; rfl
  simpa [List.getElem?_take, List.getElem?_drop] using h2

set_option maxRecDepth 100000 in
theorem open_read (h : DataW.trod enc Tryd.prog W base sp held fuel 32 cs = some x) : ∃ r : ReadD, cs = r.enc := by
  obtain ⟨_, _, _, n, hl, h0, h1, h2⟩ := trod_struct3 Tryd.underlying32 h
  rw [cells_read] at hl
  obtain ⟨s, e0, _⟩ := DataW.trod_string Tryd.underlying9 h0
  obtain ⟨b, e1, _⟩ := DataW.trod_bool Tryd.underlying4 h1
  obtain ⟨d, e2⟩ := open_dig h2
  match cs, hl, e0, e1, e2 with
  | c0 :: c1 :: r, hl, e0, e1, e2 =>
    simp only [cells_str, cells_bool, cells_dig] at e0 e1 e2
    refine ⟨⟨s, b, d⟩, ?_⟩
    have k0 : c0 = .string s := by simpa using take_one e0
    have k1 : c1 = .bool b := by simpa using take_one e1
    have k2 : r = d.enc := by
      rw [← e2]
      simp only [List.length_cons] at hl
      simp only [List.drop_succ_cons, List.drop_zero]
      rw [List.take_of_length_le (by omega)]
    rw [k0, k1, k2]
    rfl

set_option maxRecDepth 100000 in
theorem open_made (h : DataW.trod enc Tryd.prog W base sp held fuel 34 cs = some x) : ∃ r : MadeD, cs = r.enc := by
  obtain ⟨_, _, n, _, hl, h0, h2⟩ := trod_struct2 Tryd.underlying34 h
  rw [cells_made] at hl
  obtain ⟨s, e0, _⟩ := DataW.trod_string Tryd.underlying9 h0
  obtain ⟨d, e2⟩ := open_dig h2
  match cs, hl, e0, e2 with
  | c0 :: r, hl, e0, e2 =>
    simp only [cells_str, cells_dig] at e0 e2
    refine ⟨⟨s, d⟩, ?_⟩
    have k0 : c0 = .string s := by simpa using take_one e0
    have k2 : r = d.enc := by
      rw [← e2]
      simp only [List.length_cons] at hl
      simp only [List.drop_succ_cons, List.drop_zero]
      rw [List.take_of_length_le (by omega)]
    rw [k0, k2]
    rfl

/-- A slice whose elements take k cells, opened. -/
theorem open_elems {α : Type} [Inhabited α] (en : α → List Value) (k : Nat) (hk : 0 < k) {t e : TypeId} (ht : Tryd.prog.underlying t = some (.slice e)) (hc : Tryd.prog.cellsOf e = k)
    (ho : ∀ n l y, DataW.trod enc Tryd.prog W base sp held n e l = some y → ∃ r : α, l = en r) (h : DataW.trod enc Tryd.prog W base sp held fuel t cs = some x) : ∃ A n c xs, cs = [.slice A n c] ∧ Elems en k W A n c xs := by
  rcases Deep.open_slice ht h with ⟨rfl, _⟩ | ⟨a, len, cap, m, n, D, Pl, rfl, hb, hl, hm, hmm, _, hx⟩
  · exact ⟨none, 0, 0, [], rfl, rfl, Nat.le_refl _, fun h => by omega⟩
  · have hle : len ≤ m := by rw [hmm]; split <;> omega
    have each : ∀ i, i < len → ∃ r : α, W.cells? base (a.add (i * k)) k = some (en r) := fun i hi => by
      obtain ⟨l, h1, h2⟩ := hx i (by omega)
      rw [hc] at h1
      obtain ⟨r, rfl⟩ := ho _ _ _ h2
      exact ⟨r, h1⟩
    obtain ⟨f, hf⟩ := Deep.choose_lt each
    have cell : ∀ i, i < len → ∀ j v, (en (f i))[j]? = some v → W.cell? (a.add (i * k + j)) = some v := fun i hi j v hv => by
      have h1 := hf i hi
      unfold World.cells? at h1
      split at h1
      · have hjl : j < (en (f i)).length := (List.getElem?_eq_some_iff.1 hv).1
        have hlen := Lib.mapM_length h1
        simp only [List.length_range] at hlen
        obtain ⟨b, h2, h3⟩ := Lib.mapM_at h1 j j (List.getElem?_range (by omega))
        rw [hv] at h2
        cases h2
        rw [← Deep.add_add]
        exact h3
      · cases h1
    refine ⟨some a, len, cap, (List.range len).map f, rfl, by simp, hl, fun h0 => ?_⟩
    have h1 := hf 0 h0
    have hfirst : ∃ v, W.cell? a = some v := by
      unfold World.cells? at h1
      split at h1
      · obtain ⟨b, h2, h3⟩ := Lib.mapM_at h1 0 0 (List.getElem?_range (by omega))
        rw [Deep.add_add] at h3
        exact ⟨b, by simpa [Addr.add] using h3⟩
      · cases h1
    obtain ⟨v, hv⟩ := hfirst
    obtain ⟨b, o, s⟩ := a
    have hs : s = none := by
      cases s with
      | none => rfl
      | some s => simp [World.cell?] at hv; split at hv <;> simp at hv
    subst hs
    refine ⟨b, o, rfl, World.block_lt_of_cell? W _ hv, fun j y hy i u hu => ?_⟩
    have hj : j < len := by
      have := (List.getElem?_eq_some_iff.1 hy).1
      simpa using this
    simp only [List.getElem?_map, List.getElem?_range hj, Option.map_some, Option.some.injEq] at hy
    subst hy
    have := cell j hj i u hu
    rw [Addr.add_mid] at this
    rwa [Nat.add_assoc]

set_option maxRecDepth 100000 in
theorem open_trace_cells (h : DataW.trod enc Tryd.prog W base sp held fuel 29 cs = some x) : ∃ (t : TraceD) (A : Option Addr) (c : Nat) (A' : Option Addr) (c' : Nat), cs = t.cells A c A' c' ∧ Elems ReadD.enc 34 W A t.reads.length c t.reads ∧ Elems MadeD.enc 33 W A' t.outs.length c' t.outs := by
  obtain ⟨_, _, _, n, hl, h0, h1, h2⟩ := trod_struct3 Tryd.underlying29 h
  rw [cells_trace] at hl
  obtain ⟨d, e0⟩ := open_dig h0
  obtain ⟨A, m, c, rs, e1, hR⟩ := open_elems ReadD.enc 34 (by omega) Tryd.underlying26 cells_read (fun _ _ _ h => open_read h) h1
  obtain ⟨A', m', c', ms, e2, hO⟩ := open_elems MadeD.enc 33 (by omega) Tryd.underlying27 cells_made (fun _ _ _ h => open_made h) h2
  simp only [cells_dig, cells_reads, cells_mades] at e0 e1 e2
  obtain rfl := hR.len
  obtain rfl := hO.len
  refine ⟨⟨d, rs, ms⟩, A, c, A', c', ?_, hR, hO⟩
  have k1 := take_one e1
  have k2 := take_one e2
  have k0 : cs.take 32 = d.enc := by simpa using e0
  have e : cs = cs.take 32 ++ cs.drop 32 := (List.take_append_drop 32 cs).symm
  rw [e, k0]
  unfold TraceD.cells
  congr 1
  apply List.ext_getElem?
  intro i
  match i with
  | 0 => simpa using k1
  | 1 => simpa using k2
  | i + 2 => rw [List.getElem?_eq_none (by simp [hl]), List.getElem?_eq_none (by simp)]
end

section
variable {H : Type} {enc : TypeId × Value → H} {W : World} {base : Nat} {sp : Nat → Bool} {held : Bool} {v : Value} {d : DataW H} {ps : List MemPlace} {r : Reach} {b0 : Nat}

set_option maxRecDepth 100000 in
theorem open_reads (hval : Value.okWide Tryd.prog W r b0 26 v) (hd : DataW.Trod enc Tryd.prog W base sp held 26 v d ps) : ∃ A n c rs, v = .slice A n c ∧ Elems ReadD.enc 34 W A n c rs := by
  obtain ⟨a, l, c, rfl⟩ := okWide_slice Tryd.underlying26 hval
  obtain ⟨fuel, hf⟩ := hd
  obtain ⟨A, n, c', rs, e, hE⟩ := open_elems ReadD.enc 34 (by omega) Tryd.underlying26 cells_read (fun _ _ _ h => open_read h) hf
  refine ⟨A, n, c', rs, ?_, hE⟩
  simpa [Value.cells] using e

set_option maxRecDepth 100000 in
theorem open_trace (hval : Value.okWide Tryd.prog W r b0 29 v) (hd : DataW.Trod enc Tryd.prog W base sp held 29 v d ps) : ∃ (t : TraceD) (A : Option Addr) (c : Nat) (A' : Option Addr) (c' : Nat), v = .agg (t.cells A c A' c').toArray ∧ Elems ReadD.enc 34 W A t.reads.length c t.reads ∧ Elems MadeD.enc 33 W A' t.outs.length c' t.outs := by
  obtain ⟨cs, rfl, _⟩ := okWide_struct Tryd.underlying29 hval
  obtain ⟨fuel, hf⟩ := hd
  obtain ⟨t, A, c, A', c', e, hR, hO⟩ := open_trace_cells hf
  refine ⟨t, A, c, A', c', ?_, hR, hO⟩
  have e' : cs.toList = t.cells A c A' c' := e
  rw [← e']
end
end Go.Proofs.YtcaookphoiopbaaDoor
