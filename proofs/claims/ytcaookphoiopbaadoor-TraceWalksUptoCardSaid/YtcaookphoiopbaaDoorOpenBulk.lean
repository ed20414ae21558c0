/- Arguments opened, and how long the texts in them are at the most: a trace whose bulk is known. -/
import Derived.Test.YtcaookphoiopbaaDoorOpen
import Derived.Test.YtcaookphoiopbaaDoorBulk
namespace Go.Proofs.YtcaookphoiopbaaDoor
open Go.ChangeShapes Go.WideShapes Go.ChangeAt Go.RowKit

section
variable {H : Type} {enc : TypeId × Value → H} {W : World} {base : Nat} {sp : Nat → Bool} {held : Bool} {fuel : Nat} {cs : List Value} {x : DataW H × List MemPlace}

/-- A struct's first field is no more than the struct. -/
theorem first_le {P : Program} {t : TypeId} {fs : Array Field} {f0 : Field} (ht : P.underlying t = some (.struct fs)) (h0 : fs[0]? = some f0) (h : DataW.trod enc P W base sp held fuel t cs = some x) :
    ∃ y n, DataW.trod enc P W base sp held n f0.type ((cs.drop f0.offset).take (P.cellsOf f0.type)) = some y ∧ Rows.uptoBulk y.1 ≤ Rows.uptoBulk x.1 := by
  obtain ⟨xs, n, _, rfl, hl, hlen, hf⟩ := DataW.trod_struct ht h
  have h1 := hf 0 f0 h0
  cases e : xs[0]? with
  | none =>
    rw [List.getElem?_eq_none_iff] at e
    have := (Array.getElem?_eq_some_iff.1 h0).1
    omega
  | some y =>
    rw [e] at h1
    refine ⟨y, n, h1, ?_⟩
    have hm : y.1 ∈ xs.map (·.1) := List.mem_map_of_mem (List.mem_of_getElem? e)
    have := bulks.part_le hm
    simp only [Rows.uptoBulk]
    omega

set_option maxRecDepth 100000 in
theorem open_read_b (h : DataW.trod enc Tryd.prog W base sp held fuel 32 cs = some x) : ∃ r : ReadD, cs = r.enc ∧ r.path.size ≤ Rows.uptoBulk x.1 := by
  obtain ⟨r, rfl⟩ := open_read h
  obtain ⟨y, n, h0, hle⟩ := first_le Tryd.underlying32 rfl h
  refine ⟨r, rfl, ?_⟩
  obtain ⟨s, e0, e1, _⟩ := DataW.trod_string Tryd.underlying9 h0
  have e0' : (r.enc.drop 0).take (Tryd.prog.cellsOf 9) = [.string s] := e0
  rw [cells_str] at e0'
  have k0 : r.path = s := by simpa [ReadD.enc] using e0'
  rw [e1, ← k0] at hle
  simp only [Rows.uptoBulk, Array.length_toList] at hle
  have e2 : r.path.data.size = r.path.size := rfl
  omega
set_option maxRecDepth 100000 in
theorem open_made_b (h : DataW.trod enc Tryd.prog W base sp held fuel 34 cs = some x) : ∃ r : MadeD, cs = r.enc ∧ r.path.size ≤ Rows.uptoBulk x.1 := by
  obtain ⟨r, rfl⟩ := open_made h
  obtain ⟨y, n, h0, hle⟩ := first_le Tryd.underlying34 rfl h
  refine ⟨r, rfl, ?_⟩
  obtain ⟨s, e0, e1, _⟩ := DataW.trod_string Tryd.underlying9 h0
  have e0' : (r.enc.drop 0).take (Tryd.prog.cellsOf 9) = [.string s] := e0
  rw [cells_str] at e0'
  have k0 : r.path = s := by simpa [MadeD.enc] using e0'
  rw [e1, ← k0] at hle
  simp only [Rows.uptoBulk, Array.length_toList] at hle
  have e2 : r.path.data.size = r.path.size := rfl
  omega

/-- A slice whose elements take k cells, opened; each element is no more than the whole. -/
theorem open_elems_b {α : Type} [Inhabited α] (en : α → List Value) (sz : α → Nat) (k : Nat) (hk : 0 < k) {t e : TypeId} (ht : Tryd.prog.underlying t = some (.slice e)) (hc : Tryd.prog.cellsOf e = k)
    (ho : ∀ n l y, DataW.trod enc Tryd.prog W base sp held n e l = some y → ∃ r : α, l = en r ∧ sz r ≤ Rows.uptoBulk y.1) (h : DataW.trod enc Tryd.prog W base sp held fuel t cs = some x) :
    ∃ A n c xs, cs = [.slice A n c] ∧ Elems en k W A n c xs ∧ ∀ r ∈ xs, sz r ≤ Rows.uptoBulk x.1 := by
  rcases Deep.open_slice ht h with ⟨rfl, _⟩ | ⟨a, len, cap, m, n, D, Pl, rfl, hb, hl, hm, hmm, hxx, hx⟩
  · exact ⟨none, 0, 0, [], rfl, ⟨rfl, Nat.le_refl _, fun h => by omega⟩, fun r hr => by simp at hr⟩
  · have hle : len ≤ m := by rw [hmm]; split <;> omega
    have each : ∀ i, i < len → ∃ r : α, W.cells? base (a.add (i * k)) k = some (en r) ∧ sz r ≤ Rows.uptoBulk (D i) := fun i hi => by
      obtain ⟨l, h1, h2⟩ := hx i (by omega)
      rw [hc] at h1
      obtain ⟨r, rfl, h3⟩ := ho _ _ _ h2
      exact ⟨r, h1, h3⟩
    obtain ⟨f, hf⟩ := Deep.choose_lt each
    have cell : ∀ i, i < len → ∀ j v, (en (f i))[j]? = some v → W.cell? (a.add (i * k + j)) = some v := fun i hi j v hv => by
      have h1 := (hf i hi).1
      unfold World.cells? at h1
      split at h1
      · have hjl : j < (en (f i)).length := (List.getElem?_eq_some_iff.1 hv).1
        have hlen := Lib.mapM_length h1
        simp only [List.length_range] at hlen
        obtain ⟨b, h2, h3⟩ := Lib.mapM_at h1 j j (List.getElem?_range (by omega))
        rw [hv] at h2
        cases h2
        rw [← Deep.add_add]
        exact h3
      · cases h1
    refine ⟨some a, len, cap, (List.range len).map f, rfl, ⟨by simp, hl, fun h0 => ?_⟩, fun r hr => ?_⟩
    · have h1 := (hf 0 h0).1
      have hfirst : ∃ v, W.cell? a = some v := by
        unfold World.cells? at h1
        split at h1
        · obtain ⟨b, h2, h3⟩ := Lib.mapM_at h1 0 0 (List.getElem?_range (by omega))
          rw [Deep.add_add] at h3
          exact ⟨b, by simpa [Addr.add] using h3⟩
        · cases h1
      obtain ⟨v, hv⟩ := hfirst
      obtain ⟨b, o, s⟩ := a
      have hs : s = none := by
        cases s with
        | none => rfl
        | some s => simp [World.cell?] at hv; split at hv <;> simp at hv
      subst hs
      refine ⟨b, o, rfl, World.block_lt_of_cell? W _ hv, fun j y hy i u hu => ?_⟩
      have hj : j < len := by
        have := (List.getElem?_eq_some_iff.1 hy).1
        simpa using this
      simp only [List.getElem?_map, List.getElem?_range hj, Option.map_some, Option.some.injEq] at hy
      subst hy
      have := cell j hj i u hu
      rw [Addr.add_mid] at this
      rwa [Nat.add_assoc]
    · obtain ⟨i, hi, rfl⟩ := List.mem_map.1 hr
      have hi' : i < len := by simpa using hi
      have h1 := (hf i hi').2
      have h2 : D i ∈ (List.range len).map D := List.mem_map_of_mem hi
      have h3 := bulks.part_le h2
      have h4 := bulks.slice_elems ((List.range len).map D) ((List.range (m - len)).map fun j => D (len + j))
      rw [hxx]
      show sz (f i) ≤ Rows.uptoBulk (DataW.slice _ _)
      omega

set_option maxRecDepth 100000 in
theorem open_trace_cells_b (h : DataW.trod enc Tryd.prog W base sp held fuel 29 cs = some x) : ∃ (t : TraceD) (A : Option Addr) (c : Nat) (A' : Option Addr) (c' : Nat), cs = t.cells A c A' c' ∧ Elems ReadD.enc 34 W A t.reads.length c t.reads ∧ Elems MadeD.enc 33 W A' t.outs.length c' t.outs ∧
    (∀ r ∈ t.reads, r.path.size ≤ Rows.uptoBulk x.1) ∧ (∀ m ∈ t.outs, m.path.size ≤ Rows.uptoBulk x.1) := by
  obtain ⟨xs, n, _, rfl, hl, hlen, hf⟩ := DataW.trod_struct Tryd.underlying29 h
  rw [cells_trace] at hl
  match xs, hlen with
  | [y0, y1, y2], _ =>
    have h0 := hf 0 _ rfl
    have h1 := hf 1 _ rfl
    have h2 := hf 2 _ rfl
    simp only [List.getElem?_cons_zero, List.getElem?_cons_succ] at h0 h1 h2
    obtain ⟨d, e0⟩ := open_dig h0
    obtain ⟨A, m, c, rs, e1, hR, hb1⟩ := open_elems_b ReadD.enc (fun r => r.path.size) 34 (by omega) Tryd.underlying26 cells_read (fun _ _ _ h => open_read_b h) h1
    obtain ⟨A', m', c', ms, e2, hO, hb2⟩ := open_elems_b MadeD.enc (fun r => r.path.size) 33 (by omega) Tryd.underlying27 cells_made (fun _ _ _ h => open_made_b h) h2
    have e0' : (cs.drop 0).take (Tryd.prog.cellsOf 25) = d.enc := e0
    have e1' : (cs.drop 32).take (Tryd.prog.cellsOf 26) = [.slice A m c] := e1
    have e2' : (cs.drop 33).take (Tryd.prog.cellsOf 27) = [.slice A' m' c'] := e2
    rw [cells_dig] at e0'
    rw [cells_reads] at e1'
    rw [cells_mades] at e2'
    obtain rfl := hR.len
    obtain rfl := hO.len
    have hy1 : Rows.uptoBulk y1.1 ≤ Rows.uptoBulk (DataW.agg ([y0, y1, y2].map (·.1))) := by
      have := bulks.part_le (show y1.1 ∈ [y0, y1, y2].map (·.1) by simp)
      simp only [Rows.uptoBulk]; omega
    have hy2 : Rows.uptoBulk y2.1 ≤ Rows.uptoBulk (DataW.agg ([y0, y1, y2].map (·.1))) := by
      have := bulks.part_le (show y2.1 ∈ [y0, y1, y2].map (·.1) by simp)
      simp only [Rows.uptoBulk]; omega
    refine ⟨⟨d, rs, ms⟩, A, c, A', c', ?_, hR, hO, fun r hr => Nat.le_trans (hb1 r hr) hy1, fun r hr => Nat.le_trans (hb2 r hr) hy2⟩
    have k1 := take_one e1'
    have k2 := take_one e2'
    have k0 : cs.take 32 = d.enc := by simpa using e0'
    have e : cs = cs.take 32 ++ cs.drop 32 := (List.take_append_drop 32 cs).symm
    rw [e, k0]
    unfold TraceD.cells
    congr 1
    apply List.ext_getElem?
    intro i
    match i with
    | 0 => simpa using k1
    | 1 => simpa using k2
    | i + 2 => rw [List.getElem?_eq_none (by simp [hl]), List.getElem?_eq_none (by simp)]
end

section
variable {H : Type} {enc : TypeId × Value → H} {W : World} {base : Nat} {sp : Nat → Bool} {held : Bool} {v : Value} {d : DataW H} {ps : List MemPlace} {r : Reach} {b0 : Nat}
set_option maxRecDepth 100000 in
theorem open_trace_b (hval : Value.okWide Tryd.prog W r b0 29 v) (hd : DataW.Trod enc Tryd.prog W base sp held 29 v d ps) : ∃ (t : TraceD) (A : Option Addr) (c : Nat) (A' : Option Addr) (c' : Nat), v = .agg (t.cells A c A' c').toArray ∧ Elems ReadD.enc 34 W A t.reads.length c t.reads ∧ Elems MadeD.enc 33 W A' t.outs.length c' t.outs ∧
    (∀ r ∈ t.reads, r.path.size ≤ Rows.uptoBulk d) ∧ (∀ m ∈ t.outs, m.path.size ≤ Rows.uptoBulk d) := by
  obtain ⟨cs, rfl, _⟩ := okWide_struct Tryd.underlying29 hval
  obtain ⟨fuel, hf⟩ := hd
  obtain ⟨t, A, c, A', c', e, hR, hO, h1, h2⟩ := open_trace_cells_b hf
  refine ⟨t, A, c, A', c', ?_, hR, hO, h1, h2⟩
  have e' : cs.toList = t.cells A c A' c' := e
  rw [← e']
end
end Go.Proofs.YtcaookphoiopbaaDoor
