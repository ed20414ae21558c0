/- Plain facts for the law GlobsFixed: a path is a pattern that matches itself alone; what a pattern matches begins with what is fixed of it. No program in sight. -/
import Derived.Test.YtgbogkmbgedkkaaDoorBelowPure
namespace Go.Proofs.YtgbogkmbgedkkaaDoor
namespace GS
open R03 (joinL split_app split_one split_no split_join join_split join_last)

theorem may_path {l : List UInt8} (h : PS.may l = true) : may l = true := by
  have hp := may_parts h
  unfold PS.may at h
  simp only [Bool.and_eq_true, decide_eq_true_eq, List.all_eq_true] at h
  unfold may
  simp only [Bool.and_eq_true, decide_eq_true_eq, List.all_eq_true]
  exact ⟨h.1, fun x hx => (plain_part (hp.1 x hx)).2.2.2⟩
theorem deal_plain : ∀ (D M : List Part), (∀ x ∈ D, PS.partOk x = true) → (deal D M = true ↔ M = D)
  | [], M, _ => by
    rw [deal_full, full_nil]
  | x :: D, M, h => by
    obtain ⟨a1, a2, a3, _⟩ := plain_part (h x (by simp))
    rw [deal_full, full_sign x a3]
    constructor
    · rintro ⟨n, m', rfl, h1, h2⟩
      rw [plain_one a1 a2, beq_iff_eq] at h1
      rw [← deal_full, deal_plain D m' (fun y hy => h y (by simp [hy]))] at h2
      rw [h1, h2]
    · rintro rfl
      refine ⟨x, D, rfl, by rw [plain_one a1 a2]; simp, ?_⟩
      rw [← deal_full, deal_plain D _ (fun y hy => h y (by simp [hy]))]
theorem split_inj {a b : List UInt8} (h : PS.split a = PS.split b) : a = b := by
  rw [← join_split a, ← join_split b, h]
theorem match_self {l o : List UInt8} (h : PS.may l = true) : matches_ l o = (l == o) := by
  unfold matches_
  rw [may_path h, Bool.true_and, Bool.eq_iff_iff, Bool.and_eq_true, beq_iff_eq, deal_plain _ _ (may_parts h).1]
  constructor
  · exact fun k => (split_inj k.2).symm
  · rintro rfl
    exact ⟨h, rfl⟩
theorem plain_signs : ∀ {l : List UInt8}, (42 : UInt8) ∉ l → 63 ∉ l → plainHead l = l
  | [], _, _ => rfl
  | c :: r, h1, h2 => by
    unfold plainHead
    rw [if_neg (by rintro (rfl | rfl) <;> simp at h1 h2), plain_signs (fun e => h1 (by simp [e])) (fun e => h2 (by simp [e]))]
theorem mem_split : ∀ {l : List UInt8} {c : UInt8}, c ∈ l → c ≠ 47 → ∃ x ∈ PS.split l, c ∈ x
  | [], c, h, _ => by simp at h
  | a :: l, c, h, hc => by
    by_cases ha : a = 47
    · subst ha
      rw [split_stroke0]
      rcases List.mem_cons.1 h with rfl | h
      · exact absurd rfl hc
      · obtain ⟨x, h1, h2⟩ := mem_split h hc
        exact ⟨x, by simp [h1], h2⟩
    · cases e : PS.split l with
      | nil => exact absurd e (PS.split_ne l)
      | cons p ps =>
        rw [split_sign ha e]
        rcases List.mem_cons.1 h with rfl | h
        · exact ⟨c :: p, List.mem_cons_self .., List.mem_cons_self ..⟩
        · obtain ⟨x, h1, h2⟩ := mem_split h hc
          rw [e] at h1
          rcases List.mem_cons.1 h1 with rfl | h1
          · exact ⟨a :: x, by simp, by simp [h2]⟩
          · exact ⟨x, by simp [h1], h2⟩
theorem fixed_self {l : List UInt8} (h : PS.may l = true) : fixed l = l := by
  unfold fixed
  rw [if_pos (may_path h)]
  have hp := (may_parts h).1
  refine plain_signs (fun e => ?_) (fun e => ?_)
  · obtain ⟨x, h1, h2⟩ := mem_split e (by decide)
    exact (plain_part (hp x h1)).1 h2
  · obtain ⟨x, h1, h2⟩ := mem_split e (by decide)
    exact (plain_part (hp x h1)).2.1 h2
theorem match_all {l : List UInt8} (h : PS.may l = true) : matches_ [42, 42] l = true := by
  unfold matches_
  rw [h, show may [42, 42] = true by decide, show PS.split [42, 42] = [[42, 42]] by decide, Bool.true_and, Bool.true_and, deal_full]
  show Full [ss] _
  rw [full_last]
  exact PS.split_ne l
/-- A path's last part. -/
def lastPart (l : List UInt8) : List UInt8 := (PS.split l).getLast (PS.split_ne l)
theorem last_mem (l : List UInt8) : lastPart l ∈ PS.split l := List.getLast_mem _
theorem deal_back (x : Part) (hx : x ≠ ss) (h : one x x = true) : ∀ (b : List Part), deal [ss, x] (b ++ [x]) = true
  | [] => by
    rw [deal_full, full_star [x] (by simp)]
    refine Or.inl ?_
    rw [full_sign x hx]
    exact ⟨x, [], rfl, h, by rw [full_nil]⟩
  | n :: b => by
    rw [deal_full, full_star [x] (by simp)]
    refine Or.inr ⟨n, b ++ [x], rfl, ?_⟩
    rw [← deal_full]
    exact deal_back x hx h b
theorem match_last {l : List UInt8} (h : PS.may l = true) : matches_ ([42, 42, 47] ++ lastPart l) l = true := by
  have hp := (may_parts h).1
  have hl := last_mem l
  obtain ⟨a1, a2, a3, a4⟩ := plain_part (hp _ hl)
  have hs : PS.split ([42, 42, 47] ++ lastPart l) = [ss, lastPart l] := by
    have := split_app [42, 42] (lastPart l) (by decide)
    rw [split_one _ (split_no l _ hl)] at this
    exact this
  have hm : may ([42, 42, 47] ++ lastPart l) = true := by
    unfold may
    rw [hs]
    simp [a4]
    exact (by decide : part ss = true)
  unfold matches_
  rw [hm, h, hs, Bool.true_and, Bool.true_and]
  have := deal_back (lastPart l) a3 (by rw [plain_one a1 a2]; simp) (PS.split l).dropLast
  rwa [show (PS.split l).dropLast ++ [lastPart l] = PS.split l from List.dropLast_concat_getLast (PS.split_ne l)] at this

theorem deal_nil : ∀ {D : List Part}, deal D [] = true → D = []
  | [], _ => rfl
  | x :: D, h => by
    unfold deal at h
    split at h
    · split at h
      · cases h
      · rename_i hD
        exact absurd (deal_nil h) hD
    · cases h
theorem plain_cons (c : UInt8) (r : List UInt8) : plainHead (c :: r) = if c = 42 ∨ c = 63 then [] else c :: plainHead r := rfl
theorem head_app : ∀ (a r : List UInt8), plainHead (a ++ r) = if 42 ∉ a ∧ 63 ∉ a then a ++ plainHead r else plainHead a
  | [], r => by simp
  | c :: a, r => by
    rw [List.cons_append, plain_cons, plain_cons]
    by_cases hc : c = 42 ∨ c = 63
    · rw [if_pos hc, if_pos hc, if_neg]
      rintro ⟨h1, h2⟩
      rcases hc with rfl | rfl <;> simp at h1 h2
    · rw [if_neg hc, if_neg hc, head_app a r]
      have e1 : c ≠ 42 := fun e => hc (Or.inl e)
      have e2 : c ≠ 63 := fun e => hc (Or.inr e)
      by_cases ha : 42 ∉ a ∧ 63 ∉ a
      · rw [if_pos ha, if_pos]
        · rfl
        · simp only [List.mem_cons, not_or]
          exact ⟨⟨fun e => e1 e.symm, ha.1⟩, fun e => e2 e.symm, ha.2⟩
      · rw [if_neg ha, if_neg]
        simp only [List.mem_cons, not_or]
        exact fun h => ha ⟨h.1.2, h.2.2⟩
theorem one_head : ∀ {x n : Part}, one x n = true → plainHead x <+: n
  | [], n, _ => List.nil_prefix
  | c :: x, n, h => by
    unfold plainHead
    split
    · exact List.nil_prefix
    · rename_i hc
      have e1 : c ≠ 42 := fun e => hc (Or.inl e)
      have e2 : (c == 63) = false := by simp; exact fun e => hc (Or.inr e)
      cases n with
      | nil => unfold one at h; simp [e1] at h
      | cons a n =>
        unfold one at h
        rw [if_neg e1, e2, Bool.false_or, Bool.and_eq_true, beq_iff_eq] at h
        obtain ⟨rfl, h⟩ := h
        exact List.cons_prefix_cons.2 ⟨rfl, one_head h⟩
theorem deal_head : ∀ (D M : List Part), deal D M = true → plainHead (joinL D) <+: joinL M
  | [], M, _ => List.nil_prefix
  | x :: D, M, h => by
    by_cases hx : x = ss
    · subst hx
      have : plainHead (joinL (ss :: D)) = [] := by
        show plainHead (42 :: (42 :: [] ++ _)) = []
        unfold plainHead
        rfl
      rw [this]
      exact List.nil_prefix
    · rw [deal_full, full_sign x hx] at h
      obtain ⟨n, m', rfl, h1, h2⟩ := h
      rw [← deal_full] at h2
      show plainHead (x ++ _) <+: n ++ _
      rw [head_app]
      split
      · rename_i hw
        rw [plain_one hw.1 hw.2, beq_iff_eq] at h1
        subst h1
        refine (List.prefix_append_right_inj _).2 ?_
        cases D with
        | nil => exact List.nil_prefix
        | cons y D =>
          cases m' with
          | nil => exact absurd (deal_nil h2) (by simp)
          | cons k m' =>
            have := deal_head (y :: D) (k :: m') h2
            have e : ∀ (y : Part) (D : List Part), (y :: D).flatMap (fun q => 47 :: q) = 47 :: joinL (y :: D) := fun y D => by simp [joinL]
            rw [e, e]
            show plainHead (47 :: _) <+: _
            unfold plainHead
            rw [if_neg (by decide)]
            exact List.cons_prefix_cons.2 ⟨rfl, this⟩
      · exact (one_head h1).trans (List.prefix_append _ _)
theorem match_head {p l : List UInt8} (h : matches_ p l = true) : (fixed p).isPrefixOf l = true := by
  unfold matches_ at h
  simp only [Bool.and_eq_true] at h
  have := deal_head _ _ h.2
  rw [join_split, join_split] at this
  unfold fixed
  rw [if_pos h.1.1, List.isPrefixOf_iff_prefix]
  exact this
theorem match_may {p l : List UInt8} (h : PS.may l = false) : matches_ p l = false := by
  unfold matches_
  rw [h, Bool.and_false, Bool.false_and]
theorem strokes {l : List UInt8} (h : PS.may l = true) : (PS.split l).length ≤ 16 := by
  unfold PS.may at h
  simp only [Bool.and_eq_true, decide_eq_true_eq] at h
  exact h.1
end GS
end Go.Proofs.YtgbogkmbgedkkaaDoor
