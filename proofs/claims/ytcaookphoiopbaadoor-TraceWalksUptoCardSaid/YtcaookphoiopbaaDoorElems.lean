/- Slices whose elements take several cells: a row of the call's own as such a slice; such a slice appended to a row of the call's own. -/
import Derived.Test.YtcaookphoiopbaaDoorTraceSpec
import Derived.Test.YtcaookphoiopbaaDoorProg
import Derived.Deep.AppendLies
import Derived.Deep.Upon
namespace Go.Proofs.YtcaookphoiopbaaDoor
open Go.RowKit

theorem flat_at {α : Type} (enc : α → List Value) (k : Nat) (hk : ∀ x, (enc x).length = k) : ∀ (xs : List α) (j : Nat) (x : α) (i : Nat) (u : Value), xs[j]? = some x → (enc x)[i]? = some u → (xs.flatMap enc)[j * k + i]? = some u
  | [], _, _, _, _, h, _ => by simp at h
  | y :: ys, 0, x, i, u, h, hu => by
    simp at h
    subst h
    rw [List.flatMap_cons, Nat.zero_mul, Nat.zero_add, List.getElem?_append_left (List.getElem?_eq_some_iff.1 hu).1]
    exact hu
  | y :: ys, j + 1, x, i, u, h, hu => by
    rw [List.flatMap_cons, List.getElem?_append_right (by rw [hk, Nat.succ_mul]; omega), hk, show (j + 1) * k + i - k = j * k + i by rw [Nat.succ_mul]; omega]
    exact flat_at enc k hk ys j x i u (by simpa using h) hu

/-- An own row, as a slice of elements. -/
theorem own_elems {α : Type} (enc : α → List Value) (k : Nat) (hk : ∀ x, (enc x).length = k) {W : World} {base e : TypeId} {v : Value} {xs : List α} (h : W.ownsRow base e k v xs.length (xs.flatMap enc)) : ∃ A c, v = .slice A xs.length c ∧ Elems enc k W A xs.length c xs := by
  have h0 := h
  rcases h.2 with ⟨rfl, hn⟩ | ⟨g, cap, cur, rfl, _, hh, hc, _⟩
  · refine ⟨none, 0, by rw [hn], rfl, by omega, fun h => by omega⟩
  · refine ⟨_, _, rfl, rfl, hc, fun _ => ⟨g, 0, rfl, lt_of_block hh, fun j x hx i u hu => ?_⟩⟩
    have := h0.cells (g := g) rfl (j * k + i) u (flat_at enc k hk xs j x i u hx hu)
    rw [Addr.add_mid] at this
    rwa [Nat.zero_add, ← Nat.zero_add (j * k)] at this

theorem flat_inv {α : Type} (enc : α → List Value) (k : Nat) (hk : ∀ x, (enc x).length = k) : ∀ (xs : List α) (j : Nat) (u : Value), (xs.flatMap enc)[j]? = some u → ∃ q x i, j = q * k + i ∧ xs[q]? = some x ∧ (enc x)[i]? = some u
  | [], j, u, h => by simp at h
  | y :: ys, j, u, h => by
    rw [List.flatMap_cons] at h
    by_cases hj : j < k
    · rw [List.getElem?_append_left (by rw [hk]; exact hj)] at h
      exact ⟨0, y, j, by omega, rfl, h⟩
    · rw [List.getElem?_append_right (by rw [hk]; omega), hk] at h
      obtain ⟨q, x, i, h1, h2, h3⟩ := flat_inv enc k hk ys (j - k) u h
      exact ⟨q + 1, x, i, by rw [Nat.succ_mul]; omega, by simpa using h2, h3⟩
theorem flat_len {α : Type} (enc : α → List Value) (k : Nat) (hk : ∀ x, (enc x).length = k) : ∀ xs : List α, (xs.flatMap enc).length = xs.length * k
  | [] => by simp
  | y :: ys => by rw [List.flatMap_cons, List.length_append, hk, flat_len enc k hk ys, List.length_cons, Nat.succ_mul, Nat.add_comm]

theorem run_append_elems {P : Program} {α : Type} (en : α → List Value) (size : Nat) (hen : ∀ x, (en x).length = size) (hone : ∀ x, ∀ u ∈ en x, u.oneCell' = true) (w : World) (t ty : TypeId) (base : Nat) (e : TypeId) (i : TypeInfo) (z : Value) (bytes : Nat)
    (ht : P.underlying t = some (.slice e)) (hi : P.info? e = some i) (hz : i.zero = some z) (hsize : i.size = size) (hby : i.bytes = bytes) (hzs : z.cells.size = size) (hsz : 0 < size)
    (v : Value) (n : Nat) (xs : List Value) (hown : w.ownsRow base e size v n xs) (K : Option Addr) (m c : Nat) (ys : List α) (hE : Elems en size w K m c ys)
    (h63 : n + m ≤ maxLen) (hbytes : (n + m) * bytes ≤ 140737488355328) (hbase : base ≤ w.heap.size) :
    ∃ v' w', (Builtin.append_ #[t, t] ty #[v, .slice K m c]).run P w = .ok v' w' ∧ w'.ownsRow base e size v' (n + m) (xs ++ ys.flatMap en) ∧ w.grownBy w' v.ownBlock := by
  cases K with
  | none =>
    have hm : m = 0 := by
      cases m with
      | zero => rfl
      | succ m =>
        obtain ⟨b, o, e1, _⟩ := hE.at_ (Nat.succ_pos m)
        cases e1
    subst hm
    have hys : ys = [] := List.length_eq_zero_iff.1 hE.len
    subst hys
    have hs : Src P i.size t (.slice none 0 c) 0 [] w := ⟨Or.inl ⟨e, ht⟩, fun _ => rfl, rfl, rfl, by simp, fun u hu => by cases hu⟩
    have hform : ∃ a l cp, v = .slice a l cp ∧ l ≤ cp := by
      rcases hown.2 with ⟨rfl, _⟩ | ⟨g, cap, cur, rfl, _, _, hc, _⟩
      · exact ⟨none, 0, 0, rfl, Nat.le_refl _⟩
      · exact ⟨_, _, _, rfl, hc⟩
    obtain ⟨a, l, cp, rfl, hle⟩ := hform
    refine ⟨_, w, run_append_nothing (P := P) w t t ty e i ht hi a l cp hle _ hs, ?_, World.grownBy.refl _ _⟩
    simpa using hown
  | some ad =>
    obtain ⟨v', w', hr, h2, h3, _, _⟩ := run_append_own_at (P := P) w base t ty e i z size bytes ht hi hz hsize hby hzs hsz v n xs hown ad m c (ys.flatMap en) (by rw [flat_len en size hen, hE.len]) (fun j u hu => by
        obtain ⟨q, x, i', rfl, hx, hu'⟩ := flat_inv en size hen ys j u hu
        have hq : q < m := by
          rw [← hE.len]
          exact (List.getElem?_eq_some_iff.1 hx).1
        obtain ⟨b, o, e1, _, hr⟩ := hE.at_ (by omega)
        obtain rfl := Option.some.inj e1
        rw [Addr.add_mid, ← Nat.add_assoc]
        exact hr q x hx i' u hu') (fun u hu => by
        obtain ⟨x, _, hx⟩ := List.mem_flatMap.1 hu
        exact hone x u hx) h63 hbytes hbase
    exact ⟨v', w', hr, h2, h3⟩

theorem wpList_append_elems {P : Program} {ops : Array Oper} {rest : List Oper} {o : Oper} {a : Act} {w : World} {Q : Exit → Act → World → Prop} (hgd : o.guard = none) (s x : Operand) (t : TypeId)
    (ho : o.op = .call { callee := .builtin .append, args := #[s, x], argTypes := #[t, t] }) {α : Type} (en : α → List Value) (size : Nat) (hen : ∀ x, (en x).length = size) (hone : ∀ x, ∀ u ∈ en x, u.oneCell' = true) (base : Nat) (e : TypeId) (i : TypeInfo) (z : Value) (bytes : Nat)
    (ht : P.underlying t = some (.slice e)) (hi : P.info? e = some i) (hz : i.zero = some z) (hsize : i.size = size) (hby : i.bytes = bytes) (hzs : z.cells.size = size) (hsz : 0 < size)
    (v : Value) (n : Nat) (xs : List Value) (hs : a.eval s = v) (hown : w.ownsRow base e size v n xs) (K : Option Addr) (m c : Nat) (ys : List α) (hx : a.eval x = .slice K m c) (hE : Elems en size w K m c ys)
    (h63 : n + m ≤ maxLen) (hbytes : (n + m) * bytes ≤ 140737488355328) (hbase : base ≤ w.heap.size)
    (h : ∀ v' w', w'.ownsRow base e size v' (n + m) (xs ++ ys.flatMap en) → w.grownBy w' v.ownBlock → wpList P ops Q rest (a.put o.dst v') w') : wpList P ops Q (o :: rest) a w := by
  refine wpList_plain hgd fun K' hK => ?_
  obtain ⟨v', w', hr, h2, h3⟩ := run_append_elems (P := P) en size hen hone w t o.type base e i z bytes ht hi hz hsize hby hzs hsz v n xs hown K m c ys hE h63 hbytes hbase
  unfold Oper.wp execOp
  simp only [ho, resolve, invoke, builtin, Sem.run_bind, Sem.run_pure, Result.andThen_ok, List.map_toArray, List.map_cons, List.map_nil, hs, hx, hr]
  exact hK _ _ (h v' w' h2 h3)
end Go.Proofs.YtcaookphoiopbaaDoor
