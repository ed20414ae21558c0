/- Plain facts on a text cut at its strokes: where the first stroke stands. No program in sight. -/
import Derived.Test.YtgbogkmbgedkkaaDoorPathSpec
import Derived.Lib.IndexLaws
import Derived.Lib.IndexBytes
namespace Go.Proofs.YtgbogkmbgedkkaaDoor
namespace PS

theorem split_none : ∀ {l : List UInt8}, Lib.indexByte l 47 < 0 → split l = [l]
  | [], _ => rfl
  | c :: r, h => by
    unfold Lib.indexByte at h
    have hg := Lib.indexByte_ge r 47
    by_cases hc : c = 47
    · subst hc; simp at h
    · have hc' : (c == 47) = false := by simpa using hc
      rw [hc'] at h
      simp only [Bool.false_eq_true, if_false] at h
      have hr : Lib.indexByte r 47 < 0 := by
        split at h
        · rename_i e; simp at e; omega
        · omega
      unfold split
      rw [if_neg hc, split_none hr]

theorem split_some : ∀ {l : List UInt8} {i : Nat}, Lib.indexByte l 47 = i → split l = l.take i :: split (l.drop (i + 1)) ∧ i < l.length
  | [], i, h => by simp [Lib.indexByte] at h
  | c :: r, i, h => by
    unfold Lib.indexByte at h
    by_cases hc : c = 47
    · subst hc
      simp at h
      obtain rfl : i = 0 := by omega
      simp [split]
    · have hc' : (c == 47) = false := by simpa using hc
      rw [hc'] at h
      simp only [Bool.false_eq_true, if_false] at h
      split at h
      · omega
      · obtain ⟨j, rfl⟩ : ∃ j, i = j + 1 := ⟨i - 1, by have := Lib.indexByte_ge r 47; rename_i e; simp at e; omega⟩
        obtain ⟨h1, h2⟩ := split_some (l := r) (i := j) (by omega)
        refine ⟨?_, by simp; omega⟩
        rw [split, if_neg hc, h1]
        simp

/-- The piece ahead of the first stroke, and what stands behind it, as the code cuts them. -/
theorem split_cut (r : ByteArray) {i : Int} (h : Lib.indexByte r.data.toList 47 = i) (h0 : 0 ≤ i) :
    i < r.size ∧ split r.data.toList = (r.extract 0 i.toNat).data.toList :: split (r.extract (i + 1).toNat r.size).data.toList := by
  obtain ⟨k, rfl⟩ := Int.eq_ofNat_of_zero_le h0
  obtain ⟨h1, h2⟩ := split_some h
  have h3 : k < r.size := by simpa using h2
  refine ⟨by omega, ?_⟩
  have e : ((k : Int) + 1).toNat = k + 1 := by omega
  rw [h1, e]
  congr 1
  · simp [ByteArray.extract, ByteArray.copySlice]
  · rw [Lib.extract_to_end]

theorem split_len : ∀ (l : List UInt8), ∀ p ∈ split l, p.length ≤ l.length
  | [], p, h => by simp [split] at h; subst h; simp
  | c :: r, p, h => by
    unfold split at h
    have ih := split_len r
    split at h
    · rcases List.mem_cons.1 h with rfl | h
      · simp
      · have := ih p h; simp; omega
    · split at h
      · rename_i e; exact absurd e (split_ne r)
      · rename_i q qs e
        rw [e] at ih
        rcases List.mem_cons.1 h with rfl | h
        · have := ih q (by simp); simp; omega
        · have := ih p (by simp [h]); simp; omega

end PS
end Go.Proofs.YtgbogkmbgedkkaaDoor
