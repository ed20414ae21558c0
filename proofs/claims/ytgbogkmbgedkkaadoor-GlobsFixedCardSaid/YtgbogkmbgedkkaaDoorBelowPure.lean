/- Plain facts for the law GlobsBelow: what a directory's name, a stroke and two stars (or one) match. No program in sight. -/
import Derived.Test.YtgbogkmbgedkkaaDoorRef03Dir
import Derived.Test.YtgbogkmbgedkkaaDoorPlain
namespace Go.Proofs.YtgbogkmbgedkkaaDoor
namespace GS
open R03 (joinL split_app split_one split_no split_join join_split join_last)

theorem plain_one : ∀ {x n : Part}, (42 : UInt8) ∉ x → 63 ∉ x → one x n = (x == n) := by
  intro x
  induction x with
  | nil =>
    intro n _ _
    cases n with
    | nil => unfold one; rfl
    | cons a n => unfold one; rfl
  | cons c x ih =>
    intro n h1 h2
    have hc : c ≠ 42 := fun e => h1 (by simp [e])
    have hq : c ≠ 63 := fun e => h2 (by simp [e])
    cases n with
    | nil => unfold one; simp [hc]
    | cons a n =>
      unfold one
      rw [if_neg hc, ih (fun e => h1 (by simp [e])) (fun e => h2 (by simp [e]))]
      by_cases e : c = a
      · subst e; simp
      · have e1 : (c == a) = false := by simpa using e
        have e2 : (c == 63) = false := by simpa using hq
        have e3 : (c :: x == a :: n) = false := by simp; intro h; exact absurd h e
        rw [e1, e2, e3]; rfl
/-- A path's part has no sign that is wild. -/
theorem plain_part {x : Part} (h : PS.partOk x = true) : 42 ∉ x ∧ 63 ∉ x ∧ x ≠ ss ∧ part x = true := by
  unfold PS.partOk at h
  simp only [Bool.and_eq_true, Bool.not_eq_true', decide_eq_true_eq, List.all_eq_true] at h
  obtain ⟨⟨⟨⟨h1, h2⟩, h3⟩, h4⟩, h5⟩ := h
  have n42 : (42 : UInt8) ∉ x := fun e => absurd (h5 _ e) (by decide)
  have n63 : (63 : UInt8) ∉ x := fun e => absurd (h5 _ e) (by decide)
  refine ⟨n42, n63, fun e => n42 (by rw [e]; simp [ss]), ?_⟩
  have hns : ∀ l : List UInt8, (42 : UInt8) ∉ l → noStars l = true := by
    intro l
    induction l with
    | nil => intro _; rfl
    | cons a l ih =>
      intro h
      cases l with
      | nil => rfl
      | cons b r =>
        have ha : (a == 42) = false := by simp; exact fun e => h (by simp [e])
        unfold noStars
        rw [ha, ih (fun e => h (List.mem_cons_of_mem _ e))]
        rfl
  unfold part
  have hall : x.all signW = true := by
    rw [List.all_eq_true]
    intro c hc
    unfold signW
    rw [h5 c hc]; rfl
  simp [h1, h2, h3, h4, hall, hns x n42]

theorem deal_two : ∀ (D M : List Part), (∀ x ∈ D, PS.partOk x = true) → (deal (D ++ [ss]) M = true ↔ ∃ b, M = D ++ b ∧ b ≠ [])
  | [], M, _ => by
    rw [deal_full]
    show Full [ss] M ↔ _
    rw [full_last]
    simp
  | x :: D, M, h => by
    obtain ⟨a1, a2, a3, _⟩ := plain_part (h x (by simp))
    rw [deal_full, List.cons_append, full_sign x a3]
    constructor
    · rintro ⟨n, m', rfl, h1, h2⟩
      rw [plain_one a1 a2, beq_iff_eq] at h1
      rw [← deal_full, deal_two D m' (fun y hy => h y (by simp [hy]))] at h2
      obtain ⟨b, rfl, hb⟩ := h2
      exact ⟨b, by rw [h1]; rfl, hb⟩
    · rintro ⟨b, rfl, hb⟩
      refine ⟨x, D ++ b, rfl, by rw [plain_one a1 a2]; simp, ?_⟩
      rw [← deal_full, deal_two D _ (fun y hy => h y (by simp [hy]))]
      exact ⟨b, rfl, hb⟩
theorem gm_star_all (n : Part) : GM [42] n := by
  induction n with
  | nil => exact .done .nil
  | cons x n ih => exact .more ih
theorem one_star (n : Part) : one [42] n = true := gm_one (gm_star_all n)
theorem deal_one : ∀ (D M : List Part), (∀ x ∈ D, PS.partOk x = true) → (deal (D ++ [[42]]) M = true ↔ ∃ n, M = D ++ [n])
  | [], M, _ => by
    rw [deal_full]
    show Full [[42]] M ↔ _
    rw [full_sign [42] (by decide)]
    constructor
    · rintro ⟨n, m', rfl, _, h⟩
      rw [full_nil] at h
      subst h
      exact ⟨n, rfl⟩
    · rintro ⟨n, rfl⟩
      exact ⟨n, [], rfl, one_star n, by rw [full_nil]⟩
  | x :: D, M, h => by
    obtain ⟨a1, a2, a3, _⟩ := plain_part (h x (by simp))
    rw [deal_full, List.cons_append, full_sign x a3]
    constructor
    · rintro ⟨n, m', rfl, h1, h2⟩
      rw [plain_one a1 a2, beq_iff_eq] at h1
      rw [← deal_full, deal_one D m' (fun y hy => h y (by simp [hy]))] at h2
      obtain ⟨b, rfl⟩ := h2
      exact ⟨b, by rw [h1]; rfl⟩
    · rintro ⟨b, rfl⟩
      refine ⟨x, D ++ [b], rfl, by rw [plain_one a1 a2]; simp, ?_⟩
      rw [← deal_full, deal_one D _ (fun y hy => h y (by simp [hy]))]
      exact ⟨b, rfl⟩
/-- Cut at each stroke. -/
theorem split_stroke0 (r : List UInt8) : PS.split (47 :: r) = [] :: PS.split r := by
  conv => lhs; unfold PS.split
  rw [if_pos rfl]
theorem split_sign {c : UInt8} (hc : c ≠ 47) {r p : List UInt8} {ps : List Part} (e : PS.split r = p :: ps) : PS.split (c :: r) = (c :: p) :: ps := by
  conv => lhs; unfold PS.split
  rw [if_neg hc, e]
theorem split_mid : ∀ (u t : List UInt8), PS.split (u ++ 47 :: t) = PS.split u ++ PS.split t
  | [], t => by rw [List.nil_append, split_stroke0]; rfl
  | c :: u, t => by
    rw [List.cons_append]
    by_cases hc : c = 47
    · subst hc
      rw [split_stroke0, split_stroke0, split_mid u t]; rfl
    · cases e : PS.split u with
      | nil => exact absurd e (PS.split_ne u)
      | cons p ps =>
        have h := split_mid u t
        rw [e] at h
        rw [split_sign hc e, split_sign hc (p := p) (ps := ps ++ PS.split t) h]; rfl
theorem cut_prefix {d l : List UInt8} : (∃ b, PS.split l = PS.split d ++ b ∧ b ≠ []) ↔ (d ++ [47]).isPrefixOf l = true := by
  rw [List.isPrefixOf_iff_prefix]
  constructor
  · rintro ⟨b, hb, hne⟩
    have hj := join_split l
    rw [hb] at hj
    obtain ⟨p, b, rfl⟩ : ∃ p r, b = p :: r := by
      cases b with
      | nil => exact absurd rfl hne
      | cons p r => exact ⟨p, r, rfl⟩
    have key : ∀ (L : List Part) (hL : L ≠ []), joinL (L ++ p :: b) = joinL L ++ 47 :: joinL (p :: b) := by
      intro L hL
      cases L with
      | nil => exact absurd rfl hL
      | cons q L => simp [joinL]
    rw [key _ (PS.split_ne d), join_split] at hj
    exact ⟨joinL (p :: b), by rw [← hj]; simp⟩
  · rintro ⟨t, rfl⟩
    refine ⟨PS.split t, ?_, PS.split_ne t⟩
    rw [List.append_assoc]
    exact split_mid d t
theorem may_parts {d : List UInt8} (hd : PS.may d = true) : (∀ x ∈ PS.split d, PS.partOk x = true) ∧ d ≠ [] := by
  unfold PS.may at hd
  simp only [Bool.and_eq_true, decide_eq_true_eq, List.all_eq_true] at hd
  refine ⟨hd.2, fun e => ?_⟩
  subst e
  exact absurd (hd.2 [] (by simp [PS.split])) (by decide)
theorem may_pat {d p : List UInt8} (hd : PS.may d = true) (h15 : (PS.split d).length ≤ 15) (hp : 47 ∉ p) (hq : part p = true) : may (d ++ 47 :: p) = true ∧ PS.split (d ++ 47 :: p) = PS.split d ++ [p] := by
  have hs : PS.split (d ++ 47 :: p) = PS.split d ++ [p] := by rw [split_mid, split_one p hp]
  refine ⟨?_, hs⟩
  unfold may
  rw [hs]
  simp only [Bool.and_eq_true, decide_eq_true_eq, List.all_eq_true, List.length_append, List.length_singleton]
  refine ⟨by omega, fun x hx => ?_⟩
  rcases List.mem_append.1 hx with hx | hx
  · exact (plain_part ((may_parts hd).1 x hx)).2.2.2
  · rw [List.mem_singleton.1 hx]; exact hq
theorem under_eq {d l : List UInt8} (hd : PS.may d = true) : PS.under l d = (PS.may l && (d ++ [47]).isPrefixOf l) := by
  unfold PS.under
  have h := (may_parts hd).2
  rw [hd]
  cases d with
  | nil => exact absurd rfl h
  | cons a d => rfl
theorem below_two {d l : List UInt8} (hd : PS.may d = true) (h15 : (PS.split d).length ≤ 15) : matches_ (d ++ [47, 42, 42]) l = PS.under l d := by
  obtain ⟨h1, h2⟩ := may_pat (p := [42, 42]) hd h15 (by decide) (by decide)
  unfold matches_
  rw [h1, h2, under_eq hd, Bool.true_and]
  congr 1
  rw [Bool.eq_iff_iff, ← cut_prefix]
  exact deal_two _ _ (may_parts hd).1
theorem dir_is {d l : List UInt8} (hd : PS.may d = true) (hl : PS.may l = true) : R03.dirL l = d ↔ ∃ n, PS.split l = PS.split d ++ [n] := by
  constructor
  · intro h
    have h1 : (PS.split l).length ≠ 1 := by
      intro e
      unfold R03.dirL at h
      rw [if_pos hl, if_pos e] at h
      exact (may_parts hd).2 h.symm
    obtain ⟨u, p, hu, rfl, hp, _, _⟩ := R03.dir_parts hl h1
    rw [h] at hu
    subst hu
    exact ⟨p, by rw [split_mid, split_one p hp]⟩
  · rintro ⟨n, hn⟩
    unfold R03.dirL
    have h2 : (PS.split l).length ≠ 1 := by
      rw [hn, List.length_append]
      have := List.length_pos_iff.2 (PS.split_ne d)
      simp only [List.length_singleton]
      omega
    rw [if_pos hl, if_neg h2, hn, List.dropLast_concat, join_split]
theorem below_one {d l : List UInt8} (hd : PS.may d = true) (h15 : (PS.split d).length ≤ 15) : matches_ (d ++ [47, 42]) l = (PS.under l d && (R03.dirL l == d)) := by
  obtain ⟨h1, h2⟩ := may_pat (p := [42]) hd h15 (by decide) (by decide)
  unfold matches_
  rw [h1, h2, under_eq hd, Bool.true_and]
  cases hl : PS.may l with
  | false => rfl
  | true =>
    rw [Bool.true_and, Bool.true_and, Bool.eq_iff_iff, Bool.and_eq_true, beq_iff_eq, ← cut_prefix, dir_is hd hl, deal_one _ _ (may_parts hd).1]
    constructor
    · rintro ⟨n, h⟩
      exact ⟨⟨[n], h, by simp⟩, n, h⟩
    · exact fun h => h.2
end GS
end Go.Proofs.YtgbogkmbgedkkaaDoor
