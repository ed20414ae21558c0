/- Plain facts on patterns (layer 4): how the parts of a pattern are dealt to the parts of a path, told from the front and from the end. No program in sight. -/
import Derived.Test.YtgbogkmbgedkkaaDoorGlobSpec
namespace Go.Proofs.YtgbogkmbgedkkaaDoor
namespace GS
abbrev Part := List UInt8
def ss : Part := [42, 42]

/-- Two stars take what they like; what else there is takes one part that it matches. -/
inductive DM : List Part → List Part → Prop
  | nil : DM [] []
  | one {x n : Part} {ps ns : List Part} (h : x ≠ ss) (hx : one x n = true) (hr : DM ps ns) : DM (x :: ps) (n :: ns)
  | done {ps ns : List Part} (hr : DM ps ns) : DM (ss :: ps) ns
  | more {n : Part} {ps ns : List Part} (hr : DM (ss :: ps) ns) : DM (ss :: ps) (n :: ns)

/-- As the code deals: two stars at the end want one part at the least. -/
def deal : List Part → List Part → Bool
  | [], ns => ns.isEmpty
  | x :: ps, [] => if x = ss then (if ps = [] then false else deal ps []) else false
  | x :: ps, n :: ns => if x = ss then (if ps = [] then true else deal ps (n :: ns) || deal (x :: ps) ns) else one x n && deal ps ns
termination_by ps ns => ps.length + ns.length

/-- What 'deal' says, by 'DM'. -/
def Full (l m : List Part) : Prop := if l.getLast? = some ss then ∃ a b, m = a ++ b ∧ b ≠ [] ∧ DM l.dropLast a else DM l m

theorem full_nil (m : List Part) : Full [] m ↔ m = [] := by
  unfold Full
  rw [if_neg (by simp)]
  constructor
  · intro h; cases h; rfl
  · rintro rfl; exact .nil
theorem full_last (m : List Part) : Full [ss] m ↔ m ≠ [] := by
  unfold Full
  rw [if_pos (show [ss].getLast? = some ss from rfl)]
  constructor
  · rintro ⟨a, b, rfl, hb, _⟩ h
    exact hb (List.append_eq_nil_iff.1 h).2
  · intro h
    exact ⟨[], m, rfl, h, .nil⟩
theorem full_cons (x : Part) (ps : List Part) (h : ps ≠ []) (m : List Part) : Full (x :: ps) m ↔ if ps.getLast? = some ss then ∃ a b, m = a ++ b ∧ b ≠ [] ∧ DM (x :: ps.dropLast) a else DM (x :: ps) m := by
  unfold Full
  obtain ⟨y, ps, rfl⟩ : ∃ y r, ps = y :: r := by
    cases ps with
    | nil => exact absurd rfl h
    | cons y r => exact ⟨y, r, rfl⟩
  rw [List.getLast?_cons_cons, List.dropLast_cons_cons]

theorem full_star (ps : List Part) (h : ps ≠ []) (m : List Part) : Full (ss :: ps) m ↔ Full ps m ∨ ∃ n m', m = n :: m' ∧ Full (ss :: ps) m' := by
  simp only [full_cons ss ps h]
  by_cases hl : ps.getLast? = some ss
  · simp only [if_pos hl]
    have hf : ∀ m, Full ps m ↔ ∃ a b, m = a ++ b ∧ b ≠ [] ∧ DM ps.dropLast a := fun m => by unfold Full; rw [if_pos hl]
    rw [hf]
    constructor
    · rintro ⟨a, b, rfl, hb, hd⟩
      cases hd with
      | one hx _ _ => exact absurd rfl hx
      | done hr => exact Or.inl ⟨a, b, rfl, hb, hr⟩
      | more hr => exact Or.inr ⟨_, _, rfl, _, b, rfl, hb, hr⟩
    · rintro (⟨a, b, rfl, hb, hd⟩ | ⟨n, m', rfl, a, b, rfl, hb, hd⟩)
      · exact ⟨a, b, rfl, hb, .done hd⟩
      · exact ⟨n :: a, b, rfl, hb, .more hd⟩
  · simp only [if_neg hl]
    have hf : ∀ m, Full ps m ↔ DM ps m := fun m => by unfold Full; rw [if_neg hl]
    rw [hf]
    constructor
    · intro hd
      cases hd with
      | one hx _ _ => exact absurd rfl hx
      | done hr => exact Or.inl hr
      | more hr => exact Or.inr ⟨_, _, rfl, hr⟩
    · rintro (hd | ⟨n, m', rfl, hd⟩)
      · exact .done hd
      · exact .more hd
theorem full_sign (x : Part) (hx : x ≠ ss) (ps m : List Part) : Full (x :: ps) m ↔ ∃ n m', m = n :: m' ∧ one x n = true ∧ Full ps m' := by
  by_cases h : ps = []
  · subst h
    unfold Full
    rw [if_neg (by simpa using hx)]
    constructor
    · intro hd
      cases hd with
      | one _ h1 hr => exact ⟨_, _, rfl, h1, by rw [if_neg (by simp)]; exact hr⟩
      | done _ => exact absurd rfl hx
      | more _ => exact absurd rfl hx
    · rintro ⟨n, m', rfl, h1, hr⟩
      rw [if_neg (by simp)] at hr
      exact .one hx h1 hr
  · rw [full_cons x ps h]
    by_cases hl : ps.getLast? = some ss
    · have hf : ∀ m, Full ps m ↔ ∃ a b, m = a ++ b ∧ b ≠ [] ∧ DM ps.dropLast a := fun m => by unfold Full; rw [if_pos hl]
      simp only [if_pos hl, hf]
      constructor
      · rintro ⟨a, b, rfl, hb, hd⟩
        cases hd with
        | one _ h1 hr => exact ⟨_, _, rfl, h1, _, b, rfl, hb, hr⟩
        | done _ => exact absurd rfl hx
        | more _ => exact absurd rfl hx
      · rintro ⟨n, m', rfl, h1, a, b, rfl, hb, hd⟩
        exact ⟨n :: a, b, rfl, hb, .one hx h1 hd⟩
    · have hf : ∀ m, Full ps m ↔ DM ps m := fun m => by unfold Full; rw [if_neg hl]
      simp only [if_neg hl, hf]
      constructor
      · intro hd
        cases hd with
        | one _ h1 hr => exact ⟨_, _, rfl, h1, hr⟩
        | done _ => exact absurd rfl hx
        | more _ => exact absurd rfl hx
      · rintro ⟨n, m', rfl, h1, hr⟩
        exact .one hx h1 hr

theorem deal_full : ∀ (l m : List Part), deal l m = true ↔ Full l m
  | [], ns => by
    rw [full_nil]
    unfold deal
    cases ns <;> simp
  | x :: ps, [] => by
    unfold deal
    by_cases hx : x = ss
    · subst hx
      rw [if_pos rfl]
      by_cases hp : ps = []
      · subst hp
        rw [if_pos rfl, full_last]
        simp
      · rw [if_neg hp, deal_full ps [], full_star ps hp]
        simp
    · rw [if_neg hx, full_sign x hx]
      simp
  | x :: ps, n :: ns => by
    unfold deal
    by_cases hx : x = ss
    · subst hx
      rw [if_pos rfl]
      by_cases hp : ps = []
      · subst hp
        rw [if_pos rfl, full_last]
        simp
      · rw [if_neg hp, Bool.or_eq_true, deal_full ps (n :: ns), deal_full (ss :: ps) ns, full_star ps hp (n :: ns)]
        constructor
        · rintro (h | h)
          · exact Or.inl h
          · exact Or.inr ⟨n, ns, rfl, h⟩
        · rintro (h | ⟨_, _, e, h⟩)
          · exact Or.inl h
          · cases e
            exact Or.inr h
    · rw [if_neg hx, Bool.and_eq_true, deal_full ps ns, full_sign x hx]
      constructor
      · rintro ⟨h1, h2⟩
        exact ⟨n, ns, rfl, h1, h2⟩
      · rintro ⟨_, _, e, h1, h2⟩
        cases e
        exact ⟨h1, h2⟩
termination_by l m => l.length + m.length

/-! ### Told from the end -/
theorem dm_append {p s : List Part} (h : DM p s) : ∀ {q t : List Part}, DM q t → DM (p ++ q) (s ++ t) := by
  induction h with
  | nil => intro q t h; exact h
  | one h hx _ ih => intro q t k; exact .one h hx (ih k)
  | done _ ih => intro q t k; exact .done (ih k)
  | more _ ih => intro q t k; exact .more (ih k)
theorem dm_split : ∀ (p q u : List Part), DM (p ++ q) u → ∃ s t, u = s ++ t ∧ DM p s ∧ DM q t := by
  intro p q u h
  generalize hr : p ++ q = r at h
  induction h generalizing p with
  | nil =>
    obtain ⟨rfl, rfl⟩ := List.append_eq_nil_iff.1 hr
    exact ⟨[], [], rfl, .nil, .nil⟩
  | @one c x p' s h hx hr' ih =>
    cases p with
    | nil => exact ⟨[], x :: s, rfl, .nil, by rw [show q = c :: p' from hr]; exact .one h hx hr'⟩
    | cons a p =>
      simp only [List.cons_append, List.cons.injEq] at hr
      obtain ⟨rfl, hr⟩ := hr
      obtain ⟨s1, t1, rfl, h1, h2⟩ := ih p hr
      exact ⟨x :: s1, t1, rfl, .one h hx h1, h2⟩
  | @done p' s hr' ih =>
    cases p with
    | nil => exact ⟨[], s, rfl, .nil, by rw [show q = ss :: p' from hr]; exact .done hr'⟩
    | cons a p =>
      simp only [List.cons_append, List.cons.injEq] at hr
      obtain ⟨rfl, hr⟩ := hr
      obtain ⟨s1, t1, rfl, h1, h2⟩ := ih p hr
      exact ⟨s1, t1, rfl, .done h1, h2⟩
  | @more x p' s hr' ih =>
    cases p with
    | nil => exact ⟨[], x :: s, rfl, .nil, by rw [show q = ss :: p' from hr]; exact .more hr'⟩
    | cons a p =>
      have hr2 := hr
      simp only [List.cons_append, List.cons.injEq] at hr
      obtain ⟨rfl, _⟩ := hr
      obtain ⟨s1, t1, rfl, h1, h2⟩ := ih (ss :: p) hr2
      exact ⟨x :: s1, t1, rfl, .more h1, h2⟩
theorem dm_star (t : List Part) : DM [ss] t := by
  induction t with
  | nil => exact .done .nil
  | cons x t ih => exact .more ih
theorem dm_single {c : Part} (hc : c ≠ ss) {t : List Part} (h : DM [c] t) : ∃ x, t = [x] ∧ one c x = true := by
  cases h with
  | one h hx hr => cases hr; exact ⟨_, rfl, hx⟩
  | done _ => exact absurd rfl hc
  | more _ => exact absurd rfl hc

open Classical in
noncomputable def dm (l m : List Part) : Bool := decide (DM l m)
theorem dm_iff {l m : List Part} : dm l m = true ↔ DM l m := by unfold dm; simp
theorem dm_nil (t : List Part) : dm [] t = t.isEmpty := by
  rw [Bool.eq_iff_iff, dm_iff]
  constructor
  · intro h; cases h; rfl
  · intro h
    rw [List.isEmpty_iff] at h
    subst h
    exact .nil
theorem dm_snoc_star (p t : List Part) (x : Part) : dm (p ++ [ss]) (t ++ [x]) = (dm p (t ++ [x]) || dm (p ++ [ss]) t) := by
  rw [Bool.eq_iff_iff, Bool.or_eq_true, dm_iff, dm_iff, dm_iff]
  constructor
  · intro h
    obtain ⟨s, u, e, h1, _⟩ := dm_split p [ss] _ h
    rcases List.eq_nil_or_concat u with rfl | ⟨u', y, rfl⟩
    · rw [List.append_nil] at e
      exact Or.inl (e ▸ h1)
    · rw [List.concat_eq_append, ← List.append_assoc] at e
      obtain ⟨e1, _⟩ := List.append_inj' e rfl
      rw [e1]
      exact Or.inr (dm_append h1 (dm_star u'))
  · rintro (h | h)
    · have := dm_append h (dm_star [])
      simpa using this
    · obtain ⟨s, u, rfl, h1, _⟩ := dm_split p [ss] _ h
      rw [List.append_assoc]
      exact dm_append h1 (dm_star _)
theorem dm_snoc_star0 (p : List Part) : dm (p ++ [ss]) [] = dm p [] := by
  rw [Bool.eq_iff_iff, dm_iff, dm_iff]
  constructor
  · intro h
    obtain ⟨s, u, e, h1, _⟩ := dm_split p [ss] _ h
    obtain ⟨rfl, _⟩ := List.append_eq_nil_iff.1 e.symm
    exact h1
  · intro h
    have := dm_append h (dm_star [])
    simpa using this
theorem dm_snoc {c : Part} (hc : c ≠ ss) (p t : List Part) (x : Part) : dm (p ++ [c]) (t ++ [x]) = (dm p t && one c x) := by
  rw [Bool.eq_iff_iff, Bool.and_eq_true, dm_iff, dm_iff]
  constructor
  · intro h
    obtain ⟨s, u, e, h1, h2⟩ := dm_split p [c] _ h
    obtain ⟨y, rfl, h3⟩ := dm_single hc h2
    obtain ⟨e1, e2⟩ := List.append_inj' e rfl
    simp only [List.cons.injEq, and_true] at e2
    subst e1 e2
    exact ⟨h1, h3⟩
  · rintro ⟨h1, h2⟩
    exact dm_append h1 (.one hc h2 .nil)
theorem dm_snoc0 {c : Part} (hc : c ≠ ss) (p : List Part) : dm (p ++ [c]) [] = false := by
  rw [Bool.eq_false_iff]
  intro h
  rw [dm_iff] at h
  obtain ⟨s, u, e, _, h2⟩ := dm_split p [c] _ h
  obtain ⟨y, rfl, _⟩ := dm_single hc h2
  simp at e

/-- Does a pattern match a path? -/
def matches_ (p s : List UInt8) : Bool := may p && PS.may s && deal (PS.split p) (PS.split s)
end GS
end Go.Proofs.YtgbogkmbgedkkaaDoor
