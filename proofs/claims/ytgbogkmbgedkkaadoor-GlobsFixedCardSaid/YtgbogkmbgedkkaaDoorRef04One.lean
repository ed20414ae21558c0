/- The reference on patterns (layer 4), plainly: which beginnings of the one part go with which of the other: what a part matches. -/
import Derived.Test.YtgbogkmbgedkkaaDoorRef04Pure
namespace Go.Proofs.YtgbogkmbgedkkaaDoor
open Go.RowKit Go.Proofs.YtgbogkmbgedkkaaDoorW.PrintWords Go.Proofs.YtgbogkmbgedkkaaDoorW.PrintLast Go.Proofs.YtgbogkmbgedkkaaDoorW.PrintMore
namespace R04
open P R03

/-- A row of yes and no, told up to k. -/
def Row (next : Nat → Bool) (n k : Nat) : List Bool := (List.range k).map next ++ List.replicate (n + 1 - k) false
theorem row_len {next : Nat → Bool} {n k : Nat} (h : k ≤ n + 1) : (Row next n k).length = n + 1 := by simp [Row]; omega
theorem row_rd {next : Nat → Bool} {n k j : Nat} (hj : j < k) : rdOf false (Row next n k) (j : Int) = next j := by
  unfold rdOf Row
  rw [Int.toNat_natCast, List.getD_eq_getElem?_getD, List.getElem?_append_left (by simpa using hj)]
  simp [hj]
theorem row_set {next : Nat → Bool} {n k : Nat} {v : Bool} (hk : k ≤ n) (hv : v = next k) : (Row next n k).set ((k : Int)).toNat v = Row next n (k + 1) := by
  subst hv
  unfold Row
  rw [Int.toNat_natCast, List.set_append_right _ _ (by simp), show n + 1 - k = (n + 1 - (k + 1)) + 1 by omega, List.replicate_succ, List.range_succ]
  simp
theorem row_skip {next : Nat → Bool} {n k : Nat} (hk : k ≤ n) (hv : next k = false) : Row next n (k + 1) = Row next n k := by
  unfold Row
  rw [show n + 1 - k = (n + 1 - (k + 1)) + 1 by omega, List.replicate_succ, List.range_succ]
  simp [hv]
theorem row_zero (next : Nat → Bool) (n : Nat) : Row next n 0 = List.replicate (n + 1) false := rfl
theorem row_ext {f g : Nat → Bool} {n k : Nat} (h : ∀ j, j < k → f j = g j) : Row f n k = Row g n k := by
  unfold Row
  congr 1
  apply List.map_congr_left
  intro j hj
  exact h j (by simpa using hj)

/-- Does the beginning of i signs go with the beginning of k signs? -/
def goes (P S : List UInt8) (i k : Nat) : Bool := GS.one (P.take i) (S.take k)
theorem goes_zero (P S : List UInt8) (k : Nat) (hk : k ≤ S.length) : goes P S 0 k = decide (k = 0) := by
  unfold goes
  rw [List.take_zero, GS.one_nil]
  cases k with
  | zero => rfl
  | succ k =>
    cases S with
    | nil => simp at hk
    | cons => rfl
theorem goes_star {P S : List UInt8} {i k : Nat} (hi : i < P.length) (hk : k ≤ S.length) (hc : P[i] = 42) : goes P S (i + 1) k = (goes P S i k || (decide (0 < k) && goes P S (i + 1) (k - 1))) := by
  unfold goes
  rw [List.take_succ_eq_append_getElem hi, hc]
  cases k with
  | zero => rw [List.take_zero, GS.one_snoc_star0]; simp
  | succ k =>
    rw [List.take_succ_eq_append_getElem (show k < S.length by omega), GS.one_snoc_star]
    simp
theorem goes_sign {P S : List UInt8} {i k : Nat} (hi : i < P.length) (hk : k < S.length) (hc : P[i] ≠ 42) : goes P S (i + 1) (k + 1) = (goes P S i k && (P[i] == 63 || P[i] == S[k])) := by
  unfold goes
  rw [List.take_succ_eq_append_getElem hi, List.take_succ_eq_append_getElem hk, GS.one_snoc hc]
theorem goes_sign0 {P S : List UInt8} {i : Nat} (hi : i < P.length) (hc : P[i] ≠ 42) : goes P S (i + 1) 0 = false := by
  unfold goes
  rw [List.take_succ_eq_append_getElem hi, List.take_zero, GS.one_snoc0 hc]

theorem bl_get (s : ByteArray) (i : Nat) (h : i < s.size) : (bl s)[i]'(by rw [bl_len]; exact h) = s[i] := rfl

theorem rone_row (p s : ByteArray) (hp : p.size ≤ 1000000) (hs : s.size ≤ 1000000) (i : Nat) (hi : i < p.size) (d : Nat) : ∀ (K k : Nat), k ≤ s.size + 1 → s.size + 1 - k = d → d < K →
    bloomeryref04_one.l1 K p s (Row (goes (bl p) (bl s) i) s.size (s.size + 1)) (i : Int) (Row (goes (bl p) (bl s) (i + 1)) s.size k) (k : Int) =
      bloomeryref04_one.l0 (K - d - 1) p s (Row (goes (bl p) (bl s) (i + 1)) s.size (s.size + 1)) ((i + 1 : Nat) : Int) := by
  have hwi : wrap64 ((i : Int) + 1) = ((i + 1 : Nat) : Int) := by rw [wrap_step (n := p.size) (by omega) (by omega) (by omega)]; omega
  induction d with
  | zero =>
    intro K k hk hd hK
    obtain ⟨K, rfl⟩ : ∃ m, K = m + 1 := ⟨K - 1, by omega⟩
    obtain rfl : k = s.size + 1 := by omega
    rw [show K + 1 - 0 - 1 = K by omega]
    simp only [bloomeryref04_one.l1]
    rw [if_neg (by omega), hwi]
  | succ d ih =>
    intro K k hk hd hK
    obtain ⟨K, rfl⟩ : ∃ m, K = m + 1 := ⟨K - 1, by omega⟩
    have hkn : k ≤ s.size := by omega
    have hwk : wrap64 ((k : Int) + 1) = ((k + 1 : Nat) : Int) := by unfold wrap64; omega
    have hl5 : (Row (goes (bl p) (bl s) i) s.size (s.size + 1)).length = s.size + 1 := row_len (Nat.le_refl _)
    have hl7 : (Row (goes (bl p) (bl s) (i + 1)) s.size k).length = s.size + 1 := row_len (by omega)
    have hih := ih K (k + 1) (by omega) (by omega) (by omega)
    rw [show K + 1 - (d + 1) - 1 = K - d - 1 by omega]
    simp only [bloomeryref04_one.l1]
    rw [if_pos (by omega), if_pos (by omega), if_pos (by omega), hwk, hl5, hl7]
    have hb := bt_nat p i hi
    have hPi : i < (bl p).length := by rw [bl_len]; exact hi
    have hgi : (bl p)[i] = p[i] := rfl
    have h42 : bt p (i : Int) = 42 ↔ p[i] = 42 := by rw [hb]; exact byte42 _
    have h63 : bt p (i : Int) = 63 ↔ p[i] = 63 := by rw [hb]; exact byte63 _
    by_cases hc : p[i] = 42
    · rw [if_pos (h42.2 hc), if_pos (by omega), if_pos (by omega), row_rd (by omega)]
      have hg := goes_star (P := bl p) (S := bl s) (k := k) hPi (by rw [bl_len]; exact hkn) (by rw [hgi]; exact hc)
      by_cases h1 : goes (bl p) (bl s) i k = true
      · rw [if_pos h1, if_pos (by omega), row_set hkn (by rw [hg, h1]; rfl)]
        exact hih
      · rw [if_neg h1]
        have h1' : goes (bl p) (bl s) i k = false := by simpa using h1
        by_cases h0 : 0 < k
        · have hwk1 : wrap64 ((k : Int) - 1) = ((k - 1 : Nat) : Int) := by unfold wrap64; omega
          rw [if_pos (by omega), hwk1, if_pos (by omega), if_pos (by omega), if_pos (by omega), row_rd (by omega), row_set hkn (by rw [hg, h1', decide_eq_true h0]; simp)]
          exact hih
        · rw [if_neg (by omega), if_pos (by omega), row_set hkn (by rw [hg, h1', decide_eq_false h0]; simp)]
          exact hih
    · rw [if_neg (fun e => hc (h42.1 e))]
      have hc' : (bl p)[i] ≠ 42 := by rw [hgi]; exact hc
      by_cases h0 : 0 < k
      · have hwk1 : wrap64 ((k : Int) - 1) = ((k - 1 : Nat) : Int) := by unfold wrap64; omega
        have hb1 := bt_nat s (k - 1) (by omega)
        have hg := goes_sign (P := bl p) (S := bl s) (k := k - 1) hPi (by rw [bl_len]; omega) hc'
        rw [show k - 1 + 1 = k by omega] at hg
        have hgk : (bl s)[k - 1]'(by rw [bl_len]; omega) = s[k - 1] := rfl
        rw [hgi, hgk] at hg
        rw [if_pos (by omega), hwk1, if_pos (by omega), if_pos (by omega), row_rd (by omega)]
        by_cases h1 : goes (bl p) (bl s) i (k - 1) = true
        · rw [if_pos h1]
          by_cases hq : p[i] = 63
          · rw [if_pos (h63.2 hq), if_pos (by omega), if_pos (by omega), row_set hkn (by rw [hg, h1, hq]; rfl)]
            exact hih
          · rw [if_neg (fun e => hq (h63.1 e)), if_pos (by omega)]
            have hq' : (p[i] == 63) = false := by simpa using hq
            by_cases he : p[i] = s[k - 1]
            · rw [if_pos ((hb.trans (congrArg (fun c : UInt8 => (c.toNat : Int)) he)).trans hb1.symm), if_pos (by omega), if_pos (by omega), row_set hkn (by rw [hg, h1, he]; simp)]
              exact hih
            · have he' : (p[i] == s[k - 1]) = false := by simpa using he
              rw [if_neg (fun e => he (UInt8.toNat_inj.1 (Int.ofNat.inj ((hb.symm.trans e).trans hb1))))]
              rw [row_skip hkn (by rw [hg, h1, hq', he']; rfl)] at hih
              exact hih
        · rw [if_neg h1]
          have h1' : goes (bl p) (bl s) i (k - 1) = false := by simpa using h1
          rw [row_skip hkn (by rw [hg, h1']; rfl)] at hih
          exact hih
      · obtain rfl : k = 0 := by omega
        rw [if_neg (by omega)]
        rw [row_skip hkn (goes_sign0 hPi hc')] at hih
        exact hih

theorem rone_from (p s : ByteArray) (hp : p.size ≤ 1000000) (hs : s.size ≤ 1000000) (d : Nat) : ∀ (K i : Nat), i ≤ p.size → p.size - i = d → d * (s.size + 3) < K →
    bloomeryref04_one.l0 K p s (Row (goes (bl p) (bl s) i) s.size (s.size + 1)) (i : Int) = some (GS.one (bl p) (bl s)) := by
  induction d with
  | zero =>
    intro K i hi hd hK
    obtain ⟨K, rfl⟩ : ∃ m, K = m + 1 := ⟨K - 1, by omega⟩
    obtain rfl : i = p.size := by omega
    simp only [bloomeryref04_one.l0]
    rw [if_neg (by omega), if_pos (by omega), row_len (Nat.le_refl _), if_pos (by omega), row_rd (by omega)]
    unfold goes
    rw [List.take_of_length_le (by rw [bl_len]; exact Nat.le_refl _), List.take_of_length_le (by rw [bl_len]; exact Nat.le_refl _)]
  | succ d ih =>
    intro K i hi hd hK
    obtain ⟨K, rfl⟩ : ∃ m, K = m + 1 := ⟨K - 1, by omega⟩
    rw [Nat.succ_mul] at hK
    have hw : wrap64 ((s.size : Int) + 1) = ((s.size + 1 : Nat) : Int) := by unfold wrap64; omega
    have hrow := rone_row p s hp hs i (by omega) (s.size + 1) K 0 (by omega) (by omega) (by omega)
    rw [row_zero] at hrow
    simp only [bloomeryref04_one.l0]
    rw [if_pos (by omega), hw, Int.toNat_natCast, if_pos (by omega), if_pos (by omega)]
    rw [show ((0 : Int)) = ((0 : Nat) : Int) from rfl, hrow]
    exact ih _ (i + 1) (by omega) (by omega) (by omega)

theorem rone_eq (p s : ByteArray) (hp : p.size ≤ 1000000) (hs : s.size ≤ 1000000) (K : Nat) (hK : p.size * (s.size + 3) < K) : bloomeryref04_one.f K p s = some (GS.one (bl p) (bl s)) := by
  have hw : wrap64 ((s.size : Int) + 1) = ((s.size + 1 : Nat) : Int) := by unfold wrap64; omega
  unfold bloomeryref04_one.f
  rw [hw, if_pos (by omega), Int.toNat_natCast, if_pos (by omega), Option.bind_some, List.length_replicate, if_pos (by omega)]
  have h := rone_from p s hp hs p.size K 0 (by omega) (by omega) hK
  have e : (List.replicate (s.size + 1) false).set ((0 : Int)).toNat true = Row (goes (bl p) (bl s) 0) s.size (s.size + 1) := by
    rw [row_ext (g := fun k => decide (k = 0)) (fun j hj => goes_zero _ _ _ (by rw [bl_len]; omega))]
    unfold Row
    rw [show s.size + 1 - (s.size + 1) = 0 by omega, List.replicate_zero, List.append_nil]
    apply List.ext_getElem?
    intro j
    cases j with
    | zero => simp
    | succ j =>
      by_cases hj : j + 1 < s.size + 1
      · simp [hj]
      · rw [List.getElem?_eq_none (by simp; omega), List.getElem?_eq_none (by simp; omega)]
  rw [e]
  exact h
end R04
end Go.Proofs.YtgbogkmbgedkkaaDoor
