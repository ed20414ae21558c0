/- Arguments opened, and how long the texts in them are at the most: by any bound that a value hands on to its parts. -/
import Derived.Test.YtcaookphoiopbaaDoorOpen
import Derived.Test.YtcaookphoiopbaaDoorBulk
import Derived.SizedLaws
namespace Go.Proofs.YtcaookphoiopbaaDoor
open Go.ChangeShapes Go.WideShapes Go.ChangeAt Go.RowKit

/-- A bound that a value hands on to its parts. -/
structure Heir {H : Type} (P : Program) (N : Nat) (Ok : TypeId → DataW H → Prop) : Prop where
  str : ∀ t bs, Ok t (.lit (.string bs)) → bs.length ≤ N
  agg : ∀ t (fs : Array Field) parts (i : Nat) f d, P.underlying t = some (.struct fs) → Ok t (.agg parts) → fs[i]? = some f → parts[i]? = some d → Ok f.type d
  sl : ∀ t e elems spare d, P.underlying t = some (.slice e) → Ok t (.slice elems spare) → d ∈ elems → Ok e d

theorem heir_bulk {H : Type} (P : Program) (N : Nat) : Heir (H := H) P N (fun _ d => Rows.uptoBulk d ≤ N) where
  str := fun _ bs h => by simp only [Rows.uptoBulk] at h; omega
  agg := fun _ _ parts i _ d _ h _ hd => by
    have := bulks.part_le (List.mem_of_getElem? hd)
    simp only [Rows.uptoBulk] at h
    omega
  sl := fun _ _ elems spare d _ h hd => by
    have := bulks.part_le hd
    simp only [Rows.uptoBulk] at h
    omega
theorem weights_all {H : Type} {P : Program} {e : TypeId} : ∀ {l : List (DataW H)} {d : DataW H}, d ∈ l → ∀ n ∈ d.weights P e, n ∈ DataW.weightsAll P e l
  | [], _, h, _, _ => by simp at h
  | x :: l, d, h, n, hn => by
    simp only [DataW.weightsAll, List.mem_append]
    rcases List.mem_cons.1 h with rfl | h
    · exact Or.inl hn
    · exact Or.inr (weights_all h n hn)
theorem heir_weights {H : Type} (P : Program) (N : Nat) : Heir (H := H) P N (fun t d => ∀ n ∈ d.weights P t, n ≤ N) where
  str := fun _ bs h => h bs.length (by simp [DataW.weights])
  agg := fun t fs parts i f d hu h hf hd n hn => h n (by
    simp only [DataW.weights, hu]
    exact DataW.weights_mem_each (j := i) (by simp [hf]) hd n hn)
  sl := fun t e elems spare d hu h hd n hn => h n (by
    simp only [DataW.weights, hu, List.mem_cons, List.mem_append]
    exact Or.inr (Or.inl (weights_all hd n hn)))
theorem weights_of {H : Type} {P : Program} {ts : List TypeId} {ds : List (DataW H)} (h : (DataW.weightsEach P ts ds).all (· ≤ reachBytes) = true) {j : Nat} {t : TypeId} {d : DataW H} (ht : ts[j]? = some t) (hd : ds[j]? = some d) : ∀ n ∈ d.weights P t, n ≤ reachBytes := fun n hn => by
  simpa using List.all_eq_true.1 h _ (DataW.weights_mem_each ht hd n hn)

section
variable {H : Type} {enc : TypeId × Value → H} {W : World} {base : Nat} {sp : Nat → Bool} {held : Bool} {fuel : Nat} {cs : List Value} {x : DataW H × List MemPlace} {N : Nat} {Ok : TypeId → DataW H → Prop}

/-- A struct's field, of the struct's own bound. -/
theorem field_ok {P : Program} (hH : Heir P N Ok) {t : TypeId} {fs : Array Field} {f0 : Field} {i : Nat} (ht : P.underlying t = some (.struct fs)) (h0 : fs[i]? = some f0) (h : DataW.trod enc P W base sp held fuel t cs = some x) (hx : Ok t x.1) :
    ∃ y n, DataW.trod enc P W base sp held n f0.type ((cs.drop f0.offset).take (P.cellsOf f0.type)) = some y ∧ Ok f0.type y.1 := by
  obtain ⟨xs, n, _, rfl, hl, hlen, hf⟩ := DataW.trod_struct ht h
  have h1 := hf i f0 h0
  cases e : xs[i]? with
  | none =>
    rw [List.getElem?_eq_none_iff] at e
    have := (Array.getElem?_eq_some_iff.1 h0).1
    omega
  | some y =>
    rw [e] at h1
    exact ⟨y, n, h1, hH.agg t fs _ i f0 y.1 ht hx h0 (by simp [e])⟩

/-- A field that is a text. -/
theorem field_str (hH : Heir Tryd.prog N Ok) {t : TypeId} {fs : Array Field} {f0 : Field} {i : Nat} (ht : Tryd.prog.underlying t = some (.struct fs)) (h0 : fs[i]? = some f0) (hf : f0.type = 9) (h : DataW.trod enc Tryd.prog W base sp held fuel t cs = some x) (hx : Ok t x.1) (s : ByteArray)
    (hs : cs[f0.offset]? = some (.string s)) : s.size ≤ N := by
  obtain ⟨y, n, h1, h2⟩ := field_ok hH ht h0 h hx
  rw [hf] at h1 h2
  obtain ⟨s', e0, e1, _⟩ := DataW.trod_string Tryd.underlying9 h1
  rw [cells_str] at e0
  have k0 := take_one e0
  rw [hs] at k0
  have : s = s' := by simpa using k0
  subst this
  rw [e1] at h2
  have h3 := hH.str _ _ h2
  rw [Array.length_toList] at h3
  exact h3

set_option maxRecDepth 100000 in
theorem open_read_h (hH : Heir Tryd.prog N Ok) (h : DataW.trod enc Tryd.prog W base sp held fuel 32 cs = some x) (hx : Ok 32 x.1) : ∃ r : ReadD, cs = r.enc ∧ r.path.size ≤ N := by
  obtain ⟨r, rfl⟩ := open_read h
  exact ⟨r, rfl, field_str hH (i := 0) Tryd.underlying32 rfl rfl h hx r.path rfl⟩
set_option maxRecDepth 100000 in
theorem open_made_h (hH : Heir Tryd.prog N Ok) (h : DataW.trod enc Tryd.prog W base sp held fuel 34 cs = some x) (hx : Ok 34 x.1) : ∃ r : MadeD, cs = r.enc ∧ r.path.size ≤ N := by
  obtain ⟨r, rfl⟩ := open_made h
  exact ⟨r, rfl, field_str hH (i := 0) Tryd.underlying34 rfl rfl h hx r.path rfl⟩

/-- A slice whose elements take k cells, opened; each element is of the slice's own bound. -/
theorem open_elems_h {α : Type} [Inhabited α] (hH : Heir Tryd.prog N Ok) (en : α → List Value) (G : α → Prop) (k : Nat) (hk : 0 < k) {t e : TypeId} (ht : Tryd.prog.underlying t = some (.slice e)) (hc : Tryd.prog.cellsOf e = k)
    (ho : ∀ n l y, DataW.trod enc Tryd.prog W base sp held n e l = some y → Ok e y.1 → ∃ r : α, l = en r ∧ G r) (h : DataW.trod enc Tryd.prog W base sp held fuel t cs = some x) (hok : Ok t x.1) :
    ∃ A n c xs, cs = [.slice A n c] ∧ Elems en k W A n c xs ∧ ∀ r ∈ xs, G r := by
  rcases Deep.open_slice ht h with ⟨rfl, _⟩ | ⟨a, len, cap, m, n, D, Pl, rfl, hb, hl, hm, hmm, hxx, hx⟩
  · exact ⟨none, 0, 0, [], rfl, ⟨rfl, Nat.le_refl _, fun h => by omega⟩, fun r hr => by simp at hr⟩
  · have hle : len ≤ m := by rw [hmm]; split <;> omega
    have each : ∀ i, i < len → ∃ r : α, W.cells? base (a.add (i * k)) k = some (en r) ∧ G r := fun i hi => by
      obtain ⟨l, h1, h2⟩ := hx i (by omega)
      rw [hc] at h1
      have hmem : D i ∈ (List.range len).map D := List.mem_map_of_mem (List.mem_range.2 hi)
      obtain ⟨r, rfl, h3⟩ := ho _ _ _ h2 (hH.sl t e _ _ _ ht (by rw [hxx] at hok; exact hok) hmem)
      exact ⟨r, h1, h3⟩
    obtain ⟨f, hf⟩ := Deep.choose_lt each
    have cell : ∀ i, i < len → ∀ j v, (en (f i))[j]? = some v → W.cell? (a.add (i * k + j)) = some v := fun i hi j v hv => by
      have h1 := (hf i hi).1
      unfold World.cells? at h1
      split at h1
      · have hjl : j < (en (f i)).length := (List.getElem?_eq_some_iff.1 hv).1
        have hlen := Lib.mapM_length h1
        simp only [List.length_range] at hlen
        obtain ⟨b, h2, h3⟩ := Lib.mapM_at h1 j j (List.getElem?_range (by omega))
        rw [hv] at h2
        cases h2
        rw [← Deep.add_add]
        exact h3
      · cases h1
    refine ⟨some a, len, cap, (List.range len).map f, rfl, ⟨by simp, hl, fun h0 => ?_⟩, fun r hr => ?_⟩
    · have h1 := (hf 0 h0).1
      have hfirst : ∃ v, W.cell? a = some v := by
        unfold World.cells? at h1
        split at h1
        · obtain ⟨b, h2, h3⟩ := Lib.mapM_at h1 0 0 (List.getElem?_range (by omega))
          rw [Deep.add_add] at h3
          exact ⟨b, by simpa [Addr.add] using h3⟩
        · cases h1
      obtain ⟨v, hv⟩ := hfirst
      obtain ⟨b, o, s⟩ := a
      have hs : s = none := by
        cases s with
        | none => rfl
        | some s => simp [World.cell?] at hv; split at hv <;> simp at hv
      subst hs
      refine ⟨b, o, rfl, World.block_lt_of_cell? W _ hv, fun j y hy i u hu => ?_⟩
      have hj : j < len := by
        have := (List.getElem?_eq_some_iff.1 hy).1
        simpa using this
      simp only [List.getElem?_map, List.getElem?_range hj, Option.map_some, Option.some.injEq] at hy
      subst hy
      have := cell j hj i u hu
      rw [Addr.add_mid] at this
      rwa [Nat.add_assoc]
    · obtain ⟨i, hi, rfl⟩ := List.mem_map.1 hr
      exact (hf i (by simpa using hi)).2

set_option maxRecDepth 100000 in
theorem open_trace_cells_h (hH : Heir Tryd.prog N Ok) (h : DataW.trod enc Tryd.prog W base sp held fuel 29 cs = some x) (hok : Ok 29 x.1) : ∃ (t : TraceD) (A : Option Addr) (c : Nat) (A' : Option Addr) (c' : Nat), cs = t.cells A c A' c' ∧ Elems ReadD.enc 34 W A t.reads.length c t.reads ∧ Elems MadeD.enc 33 W A' t.outs.length c' t.outs ∧
    (∀ r ∈ t.reads, r.path.size ≤ N) ∧ (∀ m ∈ t.outs, m.path.size ≤ N) := by
  obtain ⟨_, _, h0, _⟩ := field_ok hH (i := 0) Tryd.underlying29 rfl h hok
  obtain ⟨_, _, h1, o1⟩ := field_ok hH (i := 1) Tryd.underlying29 rfl h hok
  obtain ⟨_, _, h2, o2⟩ := field_ok hH (i := 2) Tryd.underlying29 rfl h hok
  obtain ⟨_, _, _, _, hl, _⟩ := trod_struct3 Tryd.underlying29 h
  rw [cells_trace] at hl
  obtain ⟨d, e0⟩ := open_dig h0
  obtain ⟨A, m, c, rs, e1, hR, hb1⟩ := open_elems_h hH ReadD.enc (fun r => r.path.size ≤ N) 34 (by omega) Tryd.underlying26 cells_read (fun _ _ _ h k => open_read_h hH h k) h1 o1
  obtain ⟨A', m', c', ms, e2, hO, hb2⟩ := open_elems_h hH MadeD.enc (fun r => r.path.size ≤ N) 33 (by omega) Tryd.underlying27 cells_made (fun _ _ _ h k => open_made_h hH h k) h2 o2
  have e0' : (cs.drop 0).take (Tryd.prog.cellsOf 25) = d.enc := e0
  have e1' : (cs.drop 32).take (Tryd.prog.cellsOf 26) = [.slice A m c] := e1
  have e2' : (cs.drop 33).take (Tryd.prog.cellsOf 27) = [.slice A' m' c'] := e2
  rw [cells_dig] at e0'
  rw [cells_reads] at e1'
  rw [cells_mades] at e2'
  obtain rfl := hR.len
  obtain rfl := hO.len
  refine ⟨⟨d, rs, ms⟩, A, c, A', c', ?_, hR, hO, hb1, hb2⟩
  have k1 := take_one e1'
  have k2 := take_one e2'
  have k0 : cs.take 32 = d.enc := by simpa using e0'
  have e : cs = cs.take 32 ++ cs.drop 32 := (List.take_append_drop 32 cs).symm
  rw [e, k0]
  unfold TraceD.cells
  congr 1
  apply List.ext_getElem?
  intro i
  match i with
  | 0 => simpa using k1
  | 1 => simpa using k2
  | i + 2 => rw [List.getElem?_eq_none (by simp [hl]), List.getElem?_eq_none (by simp)]
end

section
variable {H : Type} {enc : TypeId × Value → H} {W : World} {base : Nat} {sp : Nat → Bool} {held : Bool} {v : Value} {d : DataW H} {ps : List MemPlace} {r : Reach} {b0 : Nat} {N : Nat} {Ok : TypeId → DataW H → Prop}
set_option maxRecDepth 100000 in
theorem open_trace_h (hH : Heir Tryd.prog N Ok) (hval : Value.okWide Tryd.prog W r b0 29 v) (hd : DataW.Trod enc Tryd.prog W base sp held 29 v d ps) (hok : Ok 29 d) : ∃ (t : TraceD) (A : Option Addr) (c : Nat) (A' : Option Addr) (c' : Nat), v = .agg (t.cells A c A' c').toArray ∧ Elems ReadD.enc 34 W A t.reads.length c t.reads ∧ Elems MadeD.enc 33 W A' t.outs.length c' t.outs ∧
    (∀ r ∈ t.reads, r.path.size ≤ N) ∧ (∀ m ∈ t.outs, m.path.size ≤ N) := by
  obtain ⟨cs, rfl, _⟩ := okWide_struct Tryd.underlying29 hval
  obtain ⟨fuel, hf⟩ := hd
  obtain ⟨t, A, c, A', c', e, hR, hO, h1, h2⟩ := open_trace_cells_h hH hf hok
  refine ⟨t, A, c, A', c', ?_, hR, hO, h1, h2⟩
  have e' : cs.toList = t.cells A c A' c' := e
  rw [← e']
end
end Go.Proofs.YtcaookphoiopbaaDoor
