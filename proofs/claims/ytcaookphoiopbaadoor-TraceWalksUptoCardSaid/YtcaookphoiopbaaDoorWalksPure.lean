/- Plain facts on a trace in which nothing is wrong: told its reads one by one, it asks for the next one, and holds at the end. No program in sight. -/
import Derived.Test.YtcaookphoiopbaaDoorHoldsPure
import Derived.Test.YtcaookphoiopbaaDoorRefCheck
namespace Go.Proofs.YtcaookphoiopbaaDoor
namespace TS

theorem reads_distinct : ∀ (l : List ReadD) (f : List UInt8 → Bool), readsErr f l = 0 → (∀ r ∈ l, f r.path.data.toList = false) ∧ l.Pairwise (fun x y => x.path.data.toList ≠ y.path.data.toList)
  | [], _, _ => ⟨fun r hr => by simp at hr, List.Pairwise.nil⟩
  | r :: l, f, h => by
    unfold readsErr at h
    split at h
    · split at h
      · cases h
      · rename_i hf
        split at h
        · cases h
        · obtain ⟨h1, h2⟩ := reads_distinct l _ h
          refine ⟨fun x hx => ?_, List.Pairwise.cons (fun y hy => ?_) h2⟩
          · rcases List.mem_cons.1 hx with rfl | hx
            · simpa using hf
            · have := h1 x hx
              simp only [Bool.or_eq_false_iff] at this
              exact this.2
          · have := h1 y hy
            simp only [Bool.or_eq_false_iff, beq_eq_false_iff_ne] at this
            exact fun e => this.1 e.symm
    · cases h

def Distinct (l : List ReadD) : Prop := ∀ (i j : Nat) (x y : ReadD), l[i]? = some x → l[j]? = some y → x.path.toList = y.path.toList → i = j
theorem check_distinct {t : TraceD} (h : checkErr t = 0) : Distinct t.reads := by
  have h1 := (reads_distinct _ _ (check_parts h).2.2.1).2
  rw [List.pairwise_iff_getElem] at h1
  intro i j x y hi hj e
  obtain ⟨hi', rfl⟩ := List.getElem?_eq_some_iff.1 hi
  obtain ⟨hj', rfl⟩ := List.getElem?_eq_some_iff.1 hj
  rw [ByteArray.toList_eq, ByteArray.toList_eq] at e
  rcases Nat.lt_trichotomy i j with hlt | heq | hgt
  · exact absurd e (h1 i j hi' hj' hlt)
  · exact heq
  · exact absurd e.symm (h1 j i hj' hi' hgt)

theorem same_self (r : ReadD) : r.same r = true := by simp [ReadD.same]
theorem find_take {l : List ReadD} (hd : Distinct l) {i k : Nat} {r : ReadD} (hi : l[i]? = some r) (hk : k ≤ l.length) : find r.path (l.take k) 0 = if i < k then (i : Int) else find r.path (l.take k) 0 := by
  by_cases h : i < k
  · rw [if_pos h]
    have hm : (l.take k)[i]? = some r := by rw [List.getElem?_take_of_lt h]; exact hi
    by_cases hf : find r.path (l.take k) 0 < 0
    · have := find_knows _ _ _ hf
      unfold knows at this
      rw [List.any_eq_false] at this
      exact absurd (by simp) (this r (List.mem_of_getElem? hm))
    · obtain ⟨j, x, hx, hj, he⟩ := find_at r.path (l.take k) 0 (by omega)
      have hjk : j < k := by
        have := (List.getElem?_eq_some_iff.1 hx).1
        rw [List.length_take] at this
        omega
      rw [List.getElem?_take_of_lt hjk] at hx
      have := hd j i x r hx hi (by simpa using he)
      rw [hj, this]
      simp
  · rw [if_neg h]
theorem find_out {l : List ReadD} (hd : Distinct l) {k : Nat} {r : ReadD} (hi : l[k]? = some r) : find r.path (l.take k) 0 < 0 := by
  by_cases hf : find r.path (l.take k) 0 < 0
  · exact hf
  · obtain ⟨j, x, hx, hj, he⟩ := find_at r.path (l.take k) 0 (by omega)
    have hjk : j < k := by
      have := (List.getElem?_eq_some_iff.1 hx).1
      rw [List.length_take] at this
      omega
    rw [List.getElem?_take_of_lt hjk] at hx
    have := hd j k x r hx hi (by simpa using he)
    omega

theorem holds_step (K : List ReadD) (r : ReadD) (l : List ReadD) : holds K (r :: l) = if find r.path K 0 < 0 then (false, r.path) else match K[(find r.path K 0).toNat]? with
    | some x => if x.same r = true then holds K l else (false, ⟨#[]⟩)
    | none => (true, ⟨#[]⟩) := rfl

theorem holds_known {l : List ReadD} (hd : Distinct l) {k : Nat} (hk : k ≤ l.length) (d : Nat) : ∀ i, i ≤ k → k - i = d → holds (l.take k) (l.drop i) = holds (l.take k) (l.drop k) := by
  induction d with
  | zero =>
    intro i hi hdi
    obtain rfl : i = k := by omega
    rfl
  | succ d ih =>
    intro i hi hdi
    have hlt : i < l.length := by omega
    have hm : l[i]? = some l[i] := List.getElem?_eq_getElem hlt
    have hft := find_take hd hm hk
    rw [if_pos (by omega)] at hft
    rw [List.drop_eq_getElem_cons hlt, holds_step, hft, if_neg (by omega), Int.toNat_natCast, List.getElem?_take_of_lt (by omega), hm]
    simp only [same_self, if_true]
    exact ih (i + 1) (by omega) (by omega)

/-- What was told, in order, up to the k-th: it asks for the k-th. -/
theorem walks_next {t : TraceD} (h : checkErr t = 0) {k : Nat} {r : ReadD} (hr : t.reads[k]? = some r) : holds (t.reads.take k) t.reads = (false, r.path) := by
  have hd := check_distinct h
  obtain ⟨hk, rfl⟩ := List.getElem?_eq_some_iff.1 hr
  have h1 := holds_known hd (k := k) (by omega) k 0 (by omega) (by omega)
  rw [List.drop_zero] at h1
  rw [h1, List.drop_eq_getElem_cons hk, holds_step, if_pos (find_out hd hr)]
theorem walks_end {t : TraceD} (h : checkErr t = 0) : holds t.reads t.reads = (true, ⟨#[]⟩) := by
  have hd := check_distinct h
  have h1 := holds_known hd (k := t.reads.length) (Nat.le_refl _) t.reads.length 0 (by omega) (by omega)
  rw [List.drop_zero, List.take_length, List.drop_length] at h1
  rw [h1]
  rfl
end TS
end Go.Proofs.YtcaookphoiopbaaDoor
