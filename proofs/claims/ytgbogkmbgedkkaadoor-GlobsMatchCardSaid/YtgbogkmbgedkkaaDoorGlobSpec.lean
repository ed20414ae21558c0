/- Plain facts on patterns (layer 4): which text is a part of a pattern, a pattern; what a part matches; what a pattern matches. No program in sight. -/
import Derived.Test.YtgbogkmbgedkkaaDoorPathPure
namespace Go.Proofs.YtgbogkmbgedkkaaDoor
namespace GS

def signW (c : UInt8) : Bool := PS.signOk c || c == 42 || c == 63
/-- No two stars side by side. -/
def noStars : List UInt8 → Bool
  | [] => true
  | [_] => true
  | a :: b :: r => !(a == 42 && b == 42) && noStars (b :: r)
def part (l : List UInt8) : Bool := l == [42, 42] || (!l.isEmpty && decide (l.length ≤ 64) && !(l == [46]) && !(l == [46, 46]) && (l.all signW && noStars l))
def may (l : List UInt8) : Bool := decide ((PS.split l).length ≤ 16) && (PS.split l).all part
/-- What stands ahead of the first sign that is wild. -/
def plainHead : List UInt8 → List UInt8
  | [] => []
  | c :: r => if c = 42 ∨ c = 63 then [] else c :: plainHead r
def fixed (l : List UInt8) : List UInt8 := if may l = true then plainHead l else []

/-- What a part of a pattern matches. -/
inductive GM : List UInt8 → List UInt8 → Prop
  | nil : GM [] []
  | one {c x : UInt8} {p s : List UInt8} (h : c ≠ 42) (hx : c = 63 ∨ c = x) (hr : GM p s) : GM (c :: p) (x :: s)
  | done {p s : List UInt8} (hr : GM p s) : GM (42 :: p) s
  | more {x : UInt8} {p s : List UInt8} (hr : GM (42 :: p) s) : GM (42 :: p) (x :: s)

def one : List UInt8 → List UInt8 → Bool
  | [], [] => true
  | [], _ :: _ => false
  | c :: p, [] => c == 42 && one p []
  | c :: p, x :: s => if c = 42 then one p (x :: s) || one (c :: p) s else (c == 63 || c == x) && one p s
termination_by p s => p.length + s.length

theorem gm_one {p s : List UInt8} (h : GM p s) : one p s = true := by
  induction h with
  | nil => unfold one; rfl
  | @one c x p s h hx _ ih =>
    unfold one
    rw [if_neg h, ih, Bool.and_true]
    rcases hx with rfl | rfl <;> simp
  | @done p s _ ih =>
    cases s with
    | nil => unfold one; rw [ih]; rfl
    | cons x s => unfold one; rw [if_pos rfl, ih, Bool.true_or]
  | @more x p s _ ih => unfold one; rw [if_pos rfl, ih, Bool.or_true]
theorem one_gm : ∀ (p s : List UInt8), one p s = true → GM p s
  | [], [], _ => .nil
  | [], _ :: _, h => by unfold one at h; cases h
  | c :: p, [], h => by
    unfold one at h
    simp only [Bool.and_eq_true, beq_iff_eq] at h
    obtain ⟨rfl, h⟩ := h
    exact .done (one_gm p [] h)
  | c :: p, x :: s, h => by
    unfold one at h
    split at h
    · rename_i hc
      subst hc
      rcases Bool.or_eq_true_iff.1 h with h | h
      · exact .done (one_gm p (x :: s) h)
      · exact .more (one_gm (42 :: p) s h)
    · rename_i hc
      simp only [Bool.and_eq_true, Bool.or_eq_true, beq_iff_eq] at h
      exact .one hc h.1 (one_gm p s h.2)
termination_by p s => p.length + s.length
theorem one_iff {p s : List UInt8} : one p s = true ↔ GM p s := ⟨one_gm p s, gm_one⟩

theorem gm_append {p s : List UInt8} (h : GM p s) : ∀ {q t : List UInt8}, GM q t → GM (p ++ q) (s ++ t) := by
  induction h with
  | nil => intro q t h; exact h
  | one h hx _ ih => intro q t k; exact .one h hx (ih k)
  | done _ ih => intro q t k; exact .done (ih k)
  | more _ ih => intro q t k; exact .more (ih k)
theorem gm_split : ∀ (p q u : List UInt8), GM (p ++ q) u → ∃ s t, u = s ++ t ∧ GM p s ∧ GM q t := by
  intro p q u h
  generalize hr : p ++ q = r at h
  induction h generalizing p with
  | nil =>
    obtain ⟨rfl, rfl⟩ := List.append_eq_nil_iff.1 hr
    exact ⟨[], [], rfl, .nil, .nil⟩
  | @one c x p' s h hx hr' ih =>
    cases p with
    | nil => exact ⟨[], x :: s, rfl, .nil, by rw [show q = c :: p' from hr]; exact .one h hx hr'⟩
    | cons a p =>
      simp only [List.cons_append, List.cons.injEq] at hr
      obtain ⟨rfl, hr⟩ := hr
      obtain ⟨s1, t1, rfl, h1, h2⟩ := ih p hr
      exact ⟨x :: s1, t1, rfl, .one h hx h1, h2⟩
  | @done p' s hr' ih =>
    cases p with
    | nil => exact ⟨[], s, rfl, .nil, by rw [show q = 42 :: p' from hr]; exact .done hr'⟩
    | cons a p =>
      simp only [List.cons_append, List.cons.injEq] at hr
      obtain ⟨rfl, hr⟩ := hr
      obtain ⟨s1, t1, rfl, h1, h2⟩ := ih p hr
      exact ⟨s1, t1, rfl, .done h1, h2⟩
  | @more x p' s hr' ih =>
    cases p with
    | nil => exact ⟨[], x :: s, rfl, .nil, by rw [show q = 42 :: p' from hr]; exact .more hr'⟩
    | cons a p =>
      have hr2 := hr
      simp only [List.cons_append, List.cons.injEq] at hr
      obtain ⟨rfl, _⟩ := hr
      obtain ⟨s1, t1, rfl, h1, h2⟩ := ih (42 :: p) hr2
      exact ⟨x :: s1, t1, rfl, .more h1, h2⟩
theorem gm_star (t : List UInt8) : GM [42] t := by
  induction t with
  | nil => exact .done .nil
  | cons x t ih => exact .more ih
theorem gm_nil {s : List UInt8} (h : GM [] s) : s = [] := by cases h; rfl
theorem gm_single {c : UInt8} (hc : c ≠ 42) {t : List UInt8} (h : GM [c] t) : ∃ x, t = [x] ∧ (c = 63 ∨ c = x) := by
  cases h with
  | one h hx hr => cases hr; exact ⟨_, rfl, hx⟩
  | done _ => exact absurd rfl hc
  | more _ => exact absurd rfl hc
/-- A star takes what stands ahead, too. -/
theorem gm_wide {p t : List UInt8} (h : GM (42 :: p) t) : ∀ u : List UInt8, GM (42 :: p) (u ++ t)
  | [] => h
  | _ :: u => .more (gm_wide h u)
theorem gm_star_iff {p t : List UInt8} : GM (42 :: p) t ↔ ∃ u v, t = u ++ v ∧ GM p v := by
  constructor
  · intro h
    obtain ⟨u, v, e, _, h2⟩ := gm_split [42] p t h
    exact ⟨u, v, e, h2⟩
  · rintro ⟨u, v, rfl, h⟩
    exact gm_wide (.done h) u

/-! ### Told from the end -/
theorem one_nil (t : List UInt8) : one [] t = t.isEmpty := by cases t <;> (unfold one; rfl)
theorem one_snoc_star (p t : List UInt8) (x : UInt8) : one (p ++ [42]) (t ++ [x]) = (one p (t ++ [x]) || one (p ++ [42]) t) := by
  rw [Bool.eq_iff_iff, Bool.or_eq_true, one_iff, one_iff, one_iff]
  constructor
  · intro h
    obtain ⟨s, u, e, h1, _⟩ := gm_split p [42] _ h
    rcases List.eq_nil_or_concat u with rfl | ⟨u', y, rfl⟩
    · rw [List.append_nil] at e
      exact Or.inl (e ▸ h1)
    · rw [List.concat_eq_append, ← List.append_assoc] at e
      obtain ⟨e1, _⟩ := List.append_inj' e rfl
      rw [e1]
      exact Or.inr (gm_append h1 (gm_star u'))
  · rintro (h | h)
    · have := gm_append h (gm_star [])
      simpa using this
    · obtain ⟨s, u, rfl, h1, _⟩ := gm_split p [42] _ h
      rw [List.append_assoc]
      exact gm_append h1 (gm_star _)
theorem one_snoc_star0 (p : List UInt8) : one (p ++ [42]) [] = one p [] := by
  rw [Bool.eq_iff_iff, one_iff, one_iff]
  constructor
  · intro h
    obtain ⟨s, u, e, h1, _⟩ := gm_split p [42] _ h
    obtain ⟨rfl, _⟩ := List.append_eq_nil_iff.1 e.symm
    exact h1
  · intro h
    have := gm_append h (gm_star [])
    simpa using this
theorem one_snoc {c : UInt8} (hc : c ≠ 42) (p t : List UInt8) (x : UInt8) : one (p ++ [c]) (t ++ [x]) = (one p t && (c == 63 || c == x)) := by
  rw [Bool.eq_iff_iff, Bool.and_eq_true, one_iff, one_iff]
  constructor
  · intro h
    obtain ⟨s, u, e, h1, h2⟩ := gm_split p [c] _ h
    obtain ⟨y, rfl, h3⟩ := gm_single hc h2
    obtain ⟨e1, e2⟩ := List.append_inj' e rfl
    simp only [List.cons.injEq, and_true] at e2
    subst e1 e2
    exact ⟨h1, by simpa using h3⟩
  · rintro ⟨h1, h2⟩
    exact gm_append h1 (.one hc (by simpa using h2) .nil)
theorem one_snoc0 {c : UInt8} (hc : c ≠ 42) (p : List UInt8) : one (p ++ [c]) [] = false := by
  rw [Bool.eq_false_iff]
  intro h
  rw [one_iff] at h
  obtain ⟨s, u, e, _, h2⟩ := gm_split p [c] _ h
  obtain ⟨y, rfl, _⟩ := gm_single hc h2
  simp at e
end GS
end Go.Proofs.YtgbogkmbgedkkaaDoor
