/- Plain facts on decimal numerals and on rows of texts: a numeral has its number, a row has its texts. No program in sight. -/
import Derived.Test.YtcaookphoiopbaaDoorRow
import Derived.Lib.ItoaMem
namespace Go.Proofs.YtcaookphoiopbaaDoor
namespace PK

/-- The number that digits say. -/
def val : List UInt8 → Nat := fun l => l.foldl (fun a c => 10 * a + (c.toNat - 48)) 0
theorem val_snoc (l : List UInt8) (c : UInt8) : val (l ++ [c]) = 10 * val l + (c.toNat - 48) := by simp [val]
theorem digit_nat (d : Nat) (h : d < 10) : (UInt8.ofNat (48 + d)).toNat = 48 + d := by
  rw [UInt8.toNat_ofNat']; omega
theorem dec_val (u : Nat) : val (Lib.decDigits u) = u := by
  induction u using Nat.strongRecOn with
  | _ u ih =>
    by_cases h : u < 10
    · rw [Lib.decDigits_one h]
      simp only [val, List.foldl_cons, List.foldl_nil, digit_nat u h]
      omega
    · rw [Lib.decDigits, dif_neg h, val_snoc, ih (u / 10) (by omega), digit_nat _ (by omega)]
      omega
theorem dec_digits (u : Nat) : ∀ c ∈ Lib.decDigits u, 48 ≤ c.toNat ∧ c.toNat ≤ 57 := by
  induction u using Nat.strongRecOn with
  | _ u ih =>
    by_cases h : u < 10
    · rw [Lib.decDigits_one h]
      intro c hc
      simp only [List.mem_singleton] at hc
      subst hc
      rw [digit_nat u h]
      omega
    · rw [Lib.decDigits, dif_neg h]
      intro c hc
      rcases List.mem_append.1 hc with hc | hc
      · exact ih (u / 10) (by omega) c hc
      · simp only [List.mem_singleton] at hc
        subst hc
        rw [digit_nat _ (by omega)]
        omega
theorem dec_inj {u v : Nat} (h : Lib.decDigits u = Lib.decDigits v) : u = v := by rw [← dec_val u, h, dec_val]
theorem dec_ne (u : Nat) : Lib.decDigits u ≠ [] := by
  have h := Lib.decDigits_length u
  have h2 := Lib.nDigits_pos u
  intro e
  rw [e] at h
  simp at h
  omega
theorem itoa_nat (u : Nat) : Lib.itoa (u : Int) = Lib.decDigits u := Lib.itoa_nonneg u

/-- Digits, a colon: the digits can be told. -/
theorem colon_cut : ∀ (p q r s : List UInt8), (58 : UInt8) ∉ p → (58 : UInt8) ∉ q → p ++ 58 :: r = q ++ 58 :: s → p = q ∧ r = s
  | [], [], r, s, _, _, h => ⟨rfl, by simpa using h⟩
  | [], c :: q, r, s, _, hq, h => by
    simp only [List.nil_append, List.cons_append, List.cons.injEq] at h
    exact absurd (by simp [h.1]) hq
  | c :: p, [], r, s, hp, _, h => by
    simp only [List.nil_append, List.cons_append, List.cons.injEq] at h
    exact absurd (by simp [h.1]) hp
  | a :: p, b :: q, r, s, hp, hq, h => by
    simp only [List.cons_append, List.cons.injEq] at h
    obtain ⟨h1, h2⟩ := colon_cut p q r s (fun e => hp (by simp [e])) (fun e => hq (by simp [e])) h.2
    exact ⟨by rw [h.1, h1], h2⟩
theorem dec_colon (u : Nat) : (58 : UInt8) ∉ Lib.decDigits u := by
  intro h
  have := dec_digits u _ h
  have e : (58 : UInt8).toNat = 58 := rfl
  omega
theorem piece_cut {s t : List UInt8} {r q : List UInt8} (h : piece s ++ r = piece t ++ q) : s = t ∧ r = q := by
  unfold piece at h
  rw [itoa_nat, itoa_nat, List.append_assoc, List.append_assoc, List.cons_append, List.cons_append] at h
  obtain ⟨h1, h2⟩ := colon_cut _ _ _ _ (dec_colon _) (dec_colon _) h
  exact List.append_inj h2 (dec_inj h1)
theorem piece_ne (s : List UInt8) : piece s ≠ [] := by
  unfold piece
  rw [itoa_nat]
  intro h
  have := congrArg List.length h
  simp at this
theorem row_inj : ∀ {l m : List (List UInt8)}, row l = row m → l = m
  | [], [], _ => rfl
  | [], t :: m, h => by
    simp only [row, List.flatMap_nil, List.flatMap_cons] at h
    exact absurd (List.append_eq_nil_iff.1 h.symm).1 (piece_ne t)
  | s :: l, [], h => by
    simp only [row, List.flatMap_nil, List.flatMap_cons] at h
    exact absurd (List.append_eq_nil_iff.1 h).1 (piece_ne s)
  | s :: l, t :: m, h => by
    have h' : piece s ++ row l = piece t ++ row m := by simpa [row] using h
    obtain ⟨h1, h2⟩ := piece_cut h'
    rw [h1, row_inj h2]
end PK
end Go.Proofs.YtcaookphoiopbaaDoor
