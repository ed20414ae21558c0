/- Plain facts on traces: how long the paths of a trace are in which nothing is wrong. No program in sight. -/
import Derived.Test.YtcaookphoiopbaaDoorTraceSpec
import Derived.Test.YtcaookphoiopbaaDoorSplitSpec
namespace Go.Proofs.YtcaookphoiopbaaDoor
open Go.RowKit
namespace PS
theorem split_sum : ∀ l : List UInt8, ((split l).map fun p => p.length + 1).sum = l.length + 1
  | [] => rfl
  | c :: r => by
    have ih := split_sum r
    unfold split
    split
    · simp [ih]; omega
    · split
      · rename_i e; exact absurd e (split_ne r)
      · rename_i p ps e
        rw [e] at ih
        simp at ih ⊢
        omega
theorem sum_le : ∀ (l : List (List UInt8)) (m : Nat), (∀ p ∈ l, p.length ≤ m) → (l.map fun p => p.length + 1).sum ≤ l.length * (m + 1)
  | [], _, _ => by simp
  | p :: l, m, h => by
    have h1 := sum_le l m (fun q hq => h q (by simp [hq]))
    have h2 := h p (by simp)
    simp only [List.map_cons, List.sum_cons, List.length_cons, Nat.add_mul]
    omega
theorem part_len {l : List UInt8} (h : partOk l = true) : l.length ≤ 64 := by
  unfold partOk at h
  simp at h
  omega
theorem may_len {l : List UInt8} (h : may l = true) : l.length ≤ 1039 := by
  unfold may at h
  simp only [Bool.and_eq_true, decide_eq_true_eq, List.all_eq_true] at h
  have h1 := sum_le (split l) 64 (fun p hp => part_len (h.2 p hp))
  rw [split_sum] at h1
  have h2 : (split l).length * (64 + 1) ≤ 16 * 65 := Nat.mul_le_mul_right _ h.1
  omega
theorem under_may {l d : List UInt8} (h : under l d = true) : may l = true := by
  unfold under at h
  simp only [Bool.and_eq_true] at h
  exact h.1
end PS
namespace TS
theorem reads_all : ∀ (rs : List ReadD) (f : List UInt8 → Bool), readsErr f rs = 0 → ∀ r ∈ rs, PS.may r.path.data.toList = true
  | [], _, _, r, hr => by simp at hr
  | x :: l, f, h, r, hr => by
    unfold readsErr at h
    split at h
    · rename_i hm
      split at h
      · cases h
      · split at h
        · cases h
        · rcases List.mem_cons.1 hr with rfl | hr
          · exact hm
          · exact reads_all l _ h r hr
    · cases h
theorem outs_all : ∀ (ms : List MadeD) (q : Option ByteArray), outsErr q ms = 0 → ∀ m ∈ ms, PS.may m.path.data.toList = true
  | [], _, _, m, hm => by simp at hm
  | x :: l, none, h, m, hm => by
    unfold outsErr at h
    split at h
    · rename_i hu
      rcases List.mem_cons.1 hm with rfl | hm
      · exact PS.under_may hu
      · exact outs_all l _ h m hm
    · cases h
  | x :: l, some q, h, m, hm => by
    unfold outsErr at h
    split at h
    · rename_i hu
      split at h
      · cases h
      · split at h
        · cases h
        · rcases List.mem_cons.1 hm with rfl | hm
          · exact PS.under_may hu
          · exact outs_all l _ h m hm
    · cases h
theorem check_parts {t : TraceD} (h : checkErr t = 0) : t.reads.length ≤ 500 ∧ t.outs.length ≤ 1000 ∧ readsErr (fun _ => false) t.reads = 0 ∧ outsErr none t.outs = 0 := by
  unfold checkErr at h
  split at h
  · cases h
  · split at h
    · exact ⟨by omega, by omega, by assumption, h⟩
    · contradiction
theorem size_may {s : ByteArray} (h : PS.may s.data.toList = true) : s.size ≤ 1039 := by
  have := PS.may_len h
  rw [Array.length_toList] at this
  exact this
end TS
end Go.Proofs.YtcaookphoiopbaaDoor
