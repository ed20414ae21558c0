/- Plain facts on what holds: what is known first stays found first. No program in sight. -/
import Derived.Test.YtcaookphoiopbaaDoorTraceHolds
import Derived.Test.YtcaookphoiopbaaDoorTraceWide
namespace Go.Proofs.YtcaookphoiopbaaDoor
namespace TS
def empty (rs : List ReadD) : Bool := rs.any fun r => r.path.toList == []

theorem nil_toList : (⟨#[]⟩ : ByteArray).toList = [] := by rw [ByteArray.toList_eq]
theorem find_cons (p : ByteArray) (x : ReadD) (l : List ReadD) (k : Nat) : find p (x :: l) k = if (x.path.toList == p.toList) = true then (k : Int) else find p l (k + 1) := rfl
theorem find_ge (p : ByteArray) : ∀ (l : List ReadD) (k : Nat), find p l k < 0 ∨ (k : Int) ≤ find p l k
  | [], k => Or.inl (by simp [find])
  | x :: l, k => by
    unfold find
    split
    · exact Or.inr (Int.le_refl _)
    · rcases find_ge p l (k + 1) with h | h
      · exact Or.inl h
      · exact Or.inr (by omega)
theorem find_more (p : ByteArray) (m : List ReadD) : ∀ (l : List ReadD) (k : Nat), find p (l ++ m) k = if find p l k < 0 then find p m (k + l.length) else find p l k
  | [], k => by simp [find]
  | x :: l, k => by
    rw [List.cons_append, find_cons, find_cons]
    split
    · rw [if_neg (by omega)]
    · rw [find_more p m l (k + 1), List.length_cons, show k + 1 + l.length = k + (l.length + 1) by omega]
theorem find_knows (p : ByteArray) : ∀ (l : List ReadD) (k : Nat), find p l k < 0 → knows l p = false
  | [], _, _ => rfl
  | x :: l, k, h => by
    unfold find at h
    unfold knows
    rw [List.any_cons]
    split at h
    · omega
    · rename_i hne
      have := find_knows p l (k + 1) h
      unfold knows at this
      rw [this, Bool.or_false]
      simpa using hne
theorem find_cong {p q : ByteArray} (h : p.toList = q.toList) : ∀ (l : List ReadD) (k : Nat), find p l k = find q l k
  | [], _ => rfl
  | x :: l, k => by
    unfold find
    rw [h, find_cong h l (k + 1)]

theorem holds_out (K : List ReadD) : ∀ rs : List ReadD, ((holds K rs).1 = true ∧ (holds K rs).2.toList = []) ∨ ((holds K rs).1 = false ∧ ((holds K rs).2.toList = [] ∨ find (holds K rs).2 K 0 < 0))
  | [] => Or.inl ⟨rfl, nil_toList⟩
  | r :: l => by
    unfold holds
    split
    · rename_i h
      exact Or.inr ⟨rfl, Or.inr h⟩
    · split
      · split
        · exact holds_out K l
        · exact Or.inr ⟨rfl, Or.inl nil_toList⟩
      · exact Or.inl ⟨rfl, nil_toList⟩

theorem holds_sure (K M : List ReadD) : ∀ rs : List ReadD, (holds K rs).2.toList = [] → (((holds (K ++ M) rs).1 = (holds K rs).1) ∧ (holds (K ++ M) rs).2.toList = []) ∨ empty rs = true
  | [], _ => Or.inl ⟨rfl, nil_toList⟩
  | r :: l, h => by
    unfold holds at h ⊢
    rw [find_more, Nat.zero_add]
    by_cases hf : find r.path K 0 < 0
    · rw [if_pos hf] at h
      refine Or.inr ?_
      unfold empty
      rw [List.any_cons, h]
      rfl
    · obtain ⟨j, x, hx, hj, _⟩ := find_at r.path K 0 (by omega)
      rw [Nat.zero_add] at hj
      rw [if_neg hf] at h ⊢
      rw [if_neg hf]
      rw [if_neg hf]
      rw [hj] at h ⊢
      have hjl : j < K.length := (List.getElem?_eq_some_iff.1 hx).1
      simp only [Int.toNat_natCast, List.getElem?_append_left hjl, hx] at h ⊢
      by_cases hs : x.same r = true
      · rw [if_pos hs] at h ⊢
        rw [if_pos hs]
        rcases holds_sure K M l h with h1 | h1
        · exact Or.inl h1
        · refine Or.inr ?_
          unfold empty at h1 ⊢
          rw [List.any_cons, h1, Bool.or_true]
      · rw [if_neg hs, if_neg hs]
        exact Or.inl ⟨rfl, nil_toList⟩

theorem holds_lack (K M : List ReadD) : ∀ rs : List ReadD, (holds K rs).2.toList ≠ [] → ((holds (K ++ M) rs).1 = true ∧ (holds (K ++ M) rs).2.toList = []) ∨ ((holds (K ++ M) rs).1 = false ∧ ((holds (K ++ M) rs).2.toList ≠ (holds K rs).2.toList ∨ knows M (holds K rs).2 = false))
  | [], h => absurd nil_toList h
  | r :: l, h => by
    have hout := holds_out (K ++ M) (r :: l)
    by_cases hf : find r.path K 0 < 0
    · have e : holds K (r :: l) = (false, r.path) := by
        unfold holds
        rw [if_pos hf]
      rw [e] at h ⊢
      by_cases hm : find r.path (K ++ M) 0 < 0
      · have e2 : holds (K ++ M) (r :: l) = (false, r.path) := by
          unfold holds
          rw [if_pos hm]
        rw [e2]
        refine Or.inr ⟨rfl, Or.inr ?_⟩
        rw [find_more, if_pos hf] at hm
        exact find_knows _ _ _ hm
      · rcases hout with h1 | ⟨h1, h2⟩
        · exact Or.inl h1
        · refine Or.inr ⟨h1, Or.inl fun e3 => ?_⟩
          rcases h2 with h2 | h2
          · exact h (e3 ▸ h2)
          · rw [find_cong e3] at h2
            exact hm h2
    · obtain ⟨j, x, hx, hj, _⟩ := find_at r.path K 0 (by omega)
      rw [Nat.zero_add] at hj
      have hjl : j < K.length := (List.getElem?_eq_some_iff.1 hx).1
      have e1 : holds K (r :: l) = if x.same r = true then holds K l else (false, ⟨#[]⟩) := by
        conv => lhs; unfold holds
        rw [if_neg hf, hj]
        simp only [Int.toNat_natCast, hx]
      have e2 : holds (K ++ M) (r :: l) = if x.same r = true then holds (K ++ M) l else (false, ⟨#[]⟩) := by
        conv => lhs; unfold holds
        rw [find_more, if_neg hf, if_neg hf, hj]
        simp only [Int.toNat_natCast, List.getElem?_append_left hjl, hx]
      rw [e1] at h ⊢
      rw [e2]
      by_cases hs : x.same r = true
      · rw [if_pos hs] at h ⊢
        rw [if_pos hs]
        exact holds_lack K M l h
      · rw [if_neg hs] at h
        exact absurd nil_toList h
end TS
end Go.Proofs.YtcaookphoiopbaaDoor
