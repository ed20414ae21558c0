/- Plain facts on paths: how long the parts of a text are, and a path. No program in sight. -/
import Derived.Test.YtgbogkmbgedkkaaDoorSplitSpec
namespace Go.Proofs.YtgbogkmbgedkkaaDoor
namespace PS
theorem split_sum : ∀ l : List UInt8, ((split l).map fun p => p.length + 1).sum = l.length + 1
  | [] => rfl
  | c :: r => by
    have ih := split_sum r
    unfold split
    split
    · simp [ih]; omega
    · split
      · rename_i e; exact absurd e (split_ne r)
      · rename_i p ps e
        rw [e] at ih
        simp at ih ⊢
        omega
theorem sum_le : ∀ (l : List (List UInt8)) (m : Nat), (∀ p ∈ l, p.length ≤ m) → (l.map fun p => p.length + 1).sum ≤ l.length * (m + 1)
  | [], _, _ => by simp
  | p :: l, m, h => by
    have h1 := sum_le l m (fun q hq => h q (by simp [hq]))
    have h2 := h p (by simp)
    simp only [List.map_cons, List.sum_cons, List.length_cons, Nat.add_mul]
    omega
theorem part_len {l : List UInt8} (h : partOk l = true) : l.length ≤ 64 := by
  unfold partOk at h
  simp at h
  omega
theorem may_len {l : List UInt8} (h : may l = true) : l.length ≤ 1039 := by
  unfold may at h
  simp only [Bool.and_eq_true, decide_eq_true_eq, List.all_eq_true] at h
  have h1 := sum_le (split l) 64 (fun p hp => part_len (h.2 p hp))
  rw [split_sum] at h1
  have h2 : (split l).length * (64 + 1) ≤ 16 * 65 := Nat.mul_le_mul_right _ h.1
  omega
theorem under_may {l d : List UInt8} (h : under l d = true) : may l = true := by
  unfold under at h
  simp only [Bool.and_eq_true] at h
  exact h.1
end PS
end Go.Proofs.YtgbogkmbgedkkaaDoor
