/- Plain facts on what a part of a pattern matches: going on greedily, back to the last star where it doesn't go on, tells the same. No program in sight. -/
import Derived.Test.YtgbogkmbgedkkaaDoorGlobSpec
namespace Go.Proofs.YtgbogkmbgedkkaaDoor
namespace GS

/-- Signs without stars that match just these. -/
def Ex (q t : List UInt8) : Prop := 42 ∉ q ∧ GM q t
theorem ex_nil : Ex [] [] := ⟨by simp, .nil⟩
theorem ex_len : ∀ {q t : List UInt8}, 42 ∉ q → GM q t → q.length = t.length := by
  intro q t hq h
  induction h with
  | nil => rfl
  | one _ _ _ ih => simp [ih (fun e => hq (by simp [e]))]
  | done _ _ => exact absurd (by simp) hq
  | more _ _ => exact absurd (by simp) hq
theorem ex_snoc {q t : List UInt8} {c x : UInt8} (h : Ex q t) (hc : c ≠ 42) (hx : c = 63 ∨ c = x) : Ex (q ++ [c]) (t ++ [x]) :=
  ⟨by simp only [List.mem_append, List.mem_singleton, not_or]; exact ⟨h.1, fun e => hc e.symm⟩, gm_append h.2 (.one hc hx .nil)⟩

/-- How far the code is: at the i-th sign of the one, the k-th of the other; the last star, and from where on it takes. -/
def Inv (P S : List UInt8) (i k : Nat) (star : Int) (at_ : Nat) : Prop :=
  i ≤ P.length ∧ k ≤ S.length ∧ at_ ≤ k ∧
  ((star = -1 ∧ at_ = 0 ∧ (GM P S ↔ GM (P.drop i) (S.drop k))) ∨
    ∃ (j : Nat) (q t : List UInt8), star = (j : Int) ∧ j + 1 + q.length = i ∧ P.drop j = 42 :: (q ++ P.drop i) ∧ S.drop at_ = t ++ S.drop k ∧ Ex q t ∧ (GM P S ↔ GM (P.drop j) (S.drop at_)))

theorem inv_start (P S : List UInt8) : Inv P S 0 0 (-1) 0 := ⟨Nat.zero_le _, Nat.zero_le _, Nat.le_refl _, Or.inl ⟨rfl, rfl, by simp⟩⟩

theorem star_over {q t r v : List UInt8} (h : Ex q t) : GM (42 :: (q ++ 42 :: r)) (t ++ v) ↔ GM (42 :: r) v := by
  constructor
  · intro hg
    obtain ⟨u, z, e, hz⟩ := gm_star_iff.1 hg
    obtain ⟨a, b, rfl, ha, hb⟩ := gm_split q (42 :: r) z hz
    have l1 := ex_len h.1 ha
    have l2 := ex_len h.1 h.2
    rw [← List.append_assoc] at e
    have hv : v = (u ++ a).drop t.length ++ b := by
      have := congrArg (List.drop t.length) e
      rw [List.drop_left, List.drop_append_of_le_length (by simp; omega)] at this
      exact this
    rw [hv]
    exact gm_wide hb _
  · intro hg
    exact .done (gm_append h.2 hg)

theorem inv_star {P S : List UInt8} {i k : Nat} {star : Int} {at_ : Nat} (h : Inv P S i k star at_) (hi : i < P.length) (hc : P[i] = 42) : Inv P S (i + 1) k (i : Int) k := by
  obtain ⟨_, hk, ha, h⟩ := h
  have hd : P.drop i = 42 :: P.drop (i + 1) := by rw [List.drop_eq_getElem_cons hi, hc]
  refine ⟨by omega, hk, Nat.le_refl _, Or.inr ⟨i, [], [], rfl, by simp, by simpa using hd, by simp, ex_nil, ?_⟩⟩
  rcases h with ⟨_, _, h⟩ | ⟨j, q, t, _, _, h1, h2, h3, h⟩
  · exact h
  · rw [h, h1, h2, hd, star_over h3]

theorem inv_sign {P S : List UInt8} {i k : Nat} {star : Int} {at_ : Nat} (h : Inv P S i k star at_) (hi : i < P.length) (hk : k < S.length) (hc : P[i] ≠ 42) (hx : P[i] = 63 ∨ P[i] = S[k]) : Inv P S (i + 1) (k + 1) star at_ := by
  obtain ⟨_, _, ha, h⟩ := h
  have hd : P.drop i = P[i] :: P.drop (i + 1) := List.drop_eq_getElem_cons hi
  have he : S.drop k = S[k] :: S.drop (k + 1) := List.drop_eq_getElem_cons hk
  refine ⟨by omega, by omega, by omega, ?_⟩
  rcases h with ⟨h1, h2, h⟩ | ⟨j, q, t, h0, hj, h1, h2, h3, h⟩
  · refine Or.inl ⟨h1, h2, ?_⟩
    rw [h, hd, he]
    constructor
    · intro hg
      generalize hp : P[i] :: P.drop (i + 1) = p at hg
      cases hg with
      | one _ _ hr => cases hp; exact hr
      | done _ => simp only [List.cons.injEq] at hp; exact absurd hp.1 hc
      | more _ => simp only [List.cons.injEq] at hp; exact absurd hp.1 hc
    · intro hg
      exact .one hc hx hg
  · refine Or.inr ⟨j, q ++ [P[i]], t ++ [S[k]], h0, by simp; omega, ?_, ?_, ex_snoc h3 hc hx, h⟩
    · rw [h1, hd]; simp
    · rw [h2, he]; simp

/-- Where it doesn't go on. -/
theorem not_on {P S : List UInt8} {i k : Nat} (hk : k < S.length) (h1 : ∀ h : i < P.length, P[i] ≠ 42 ∧ P[i] ≠ 63 ∧ P[i] ≠ S[k]) : ¬ GM (P.drop i) (S.drop k) := by
  have he : S.drop k = S[k] :: S.drop (k + 1) := List.drop_eq_getElem_cons hk
  rw [he]
  by_cases hi : i < P.length
  · obtain ⟨a, b, c⟩ := h1 hi
    rw [List.drop_eq_getElem_cons hi]
    intro hg
    generalize hp : P[i] :: P.drop (i + 1) = p at hg
    cases hg with
    | one _ hx _ =>
      simp only [List.cons.injEq] at hp
      rcases hx with hx | hx
      · exact b (hp.1.trans hx)
      · exact c (hp.1.trans hx)
    | done _ => simp only [List.cons.injEq] at hp; exact absurd hp.1 a
    | more _ => simp only [List.cons.injEq] at hp; exact absurd hp.1 a
  · rw [List.drop_eq_nil_of_le (by omega)]
    intro hg
    cases hg
theorem inv_none {P S : List UInt8} {i k : Nat} {star : Int} {at_ : Nat} (h : Inv P S i k star at_) (hs : star < 0) (hn : ¬ GM (P.drop i) (S.drop k)) : one P S = false := by
  obtain ⟨_, _, _, h⟩ := h
  rw [Bool.eq_false_iff]
  intro h'
  rw [one_iff] at h'
  rcases h with ⟨_, _, h⟩ | ⟨j, _, _, h0, _⟩
  · exact hn (h.1 h')
  · omega
theorem inv_back {P S : List UInt8} {i k : Nat} {star : Int} {at_ : Nat} (h : Inv P S i k star at_) (hs : 0 ≤ star) (hk : k < S.length) (hn : ¬ GM (P.drop i) (S.drop k)) : star.toNat + 1 ≤ i ∧ Inv P S (star.toNat + 1) (at_ + 1) star (at_ + 1) := by
  obtain ⟨hi, _, ha, h⟩ := h
  rcases h with ⟨h1, _, _⟩ | ⟨j, q, t, h0, hj, h1, h2, h3, h⟩
  · omega
  · subst h0
    rw [Int.toNat_natCast]
    have hd : P.drop (j + 1) = q ++ P.drop i := by
      rw [← List.tail_drop, h1]; rfl
    have hat : at_ < S.length := by omega
    have he : S.drop at_ = S[at_] :: S.drop (at_ + 1) := List.drop_eq_getElem_cons hat
    refine ⟨by omega, by omega, by omega, Nat.le_refl _, Or.inr ⟨j, [], [], rfl, by simp, by rw [hd, h1]; simp, by simp, ex_nil, ?_⟩⟩
    rw [h, h1]
    constructor
    · intro hg
      rw [he] at hg
      cases hg with
      | one hx _ _ => exact absurd rfl hx
      | done hr =>
        rw [← he, h2] at hr
        obtain ⟨a, b, e, hga, hgb⟩ := gm_split q (P.drop i) _ hr
        have l1 := ex_len h3.1 hga
        have l2 := ex_len h3.1 h3.2
        obtain ⟨e1, e2⟩ := List.append_inj e (by omega)
        rw [← e2] at hgb
        exact absurd hgb hn
      | more hr => exact hr
    · intro hg
      rw [he]
      exact .more hg
theorem gm_stars : ∀ p : List UInt8, GM p [] ↔ ∀ c ∈ p, c = 42
  | [] => ⟨fun _ c hc => by simp at hc, fun _ => .nil⟩
  | c :: p => by
    have ih := gm_stars p
    constructor
    · intro h
      cases h with
      | done hr =>
        intro d hd
        rcases List.mem_cons.1 hd with rfl | hd
        · rfl
        · exact ih.1 hr d hd
    · intro h
      have hc := h c (by simp)
      subst hc
      exact .done (ih.2 (fun d hd => h d (by simp [hd])))
theorem inv_end {P S : List UInt8} {i : Nat} {star : Int} {at_ : Nat} (h : Inv P S i S.length star at_) : one P S = true ↔ ∀ c ∈ P.drop i, c = 42 := by
  obtain ⟨_, _, _, h⟩ := h
  rw [one_iff, ← gm_stars]
  rcases h with ⟨_, _, h⟩ | ⟨j, q, t, _, _, h1, h2, h3, h⟩
  · rw [h, List.drop_length]
  · rw [h, h1, h2, List.drop_length, List.append_nil]
    constructor
    · intro hg
      obtain ⟨u, z, e, hz⟩ := gm_star_iff.1 hg
      obtain ⟨a, b, rfl, ha, hb⟩ := gm_split q (P.drop i) z hz
      have l1 := ex_len h3.1 ha
      have l2 := ex_len h3.1 h3.2
      have := congrArg List.length e
      simp only [List.length_append] at this
      obtain rfl : b = [] := List.length_eq_zero_iff.1 (by omega)
      exact hb
    · intro hg
      have := gm_append h3.2 hg
      rw [List.append_nil] at this
      exact .done this
end GS
end Go.Proofs.YtgbogkmbgedkkaaDoor
