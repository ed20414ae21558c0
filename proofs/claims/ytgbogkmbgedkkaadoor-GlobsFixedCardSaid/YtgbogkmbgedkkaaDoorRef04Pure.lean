/- The reference on patterns (layer 4), plainly: its parts, its patterns, what a part matches, what is fixed. -/
import Derived.Test.YtgbogkmbgedkkaaDoorP04
import Derived.Test.YtgbogkmbgedkkaaDoorP04one
import Derived.Test.YtgbogkmbgedkkaaDoorP04fixed
import Derived.Test.YtgbogkmbgedkkaaDoorPlain
import Derived.Test.YtgbogkmbgedkkaaDoorRef03Pure
namespace Go.Proofs.YtgbogkmbgedkkaaDoor
open Go.RowKit Go.Proofs.YtgbogkmbgedkkaaDoorW.PrintWords Go.Proofs.YtgbogkmbgedkkaaDoorW.PrintLast Go.Proofs.YtgbogkmbgedkkaaDoorW.PrintMore
namespace R04
open P R03

theorem byte42 (c : UInt8) : ((c.toNat : Int) = 42) ↔ c = 42 := by
  constructor
  · intro e
    exact UInt8.toNat_inj.1 (show c.toNat = 42 by omega)
  · rintro rfl; rfl
theorem byte63 (c : UInt8) : ((c.toNat : Int) = 63) ↔ c = 63 := by
  constructor
  · intro e
    exact UInt8.toNat_inj.1 (show c.toNat = 63 by omega)
  · rintro rfl; rfl

/-! ### A part of a pattern -/
/-- From the i-th sign on. -/
def goodFrom (l : List UInt8) : Nat → List UInt8 → Bool
  | _, [] => true
  | i, c :: r => GS.signW c && !(decide (0 < i) && c == 42 && l[i - 1]? == some 42) && goodFrom l (i + 1) r

theorem sign_part (c : UInt8) (k : Nat) (hk : 4 ≤ k) : bloomeryref03_Part.f k ((⟨#[97]⟩ : ByteArray) ++ (⟨#[c]⟩ : ByteArray)) = some (PS.signOk c) := by
  have hsz : ((⟨#[97]⟩ : ByteArray) ++ (⟨#[c]⟩ : ByteArray)).size = 2 := by rw [ByteArray.size_append]; rfl
  rw [part_eq _ (by rw [hsz]; omega) k (by rw [hsz]; omega), bl_append]
  congr 1
  have e : bl (⟨#[97]⟩ : ByteArray) ++ bl (⟨#[c]⟩ : ByteArray) = [97, c] := rfl
  rw [e]
  have h97 : PS.signOk 97 = true := by decide
  simp [PS.partOk, h97]

theorem extract_one (s : ByteArray) (i : Nat) (h : i < s.size) : s.extract i (i + 1) = ⟨#[s[i]]⟩ := bl_inj (by rw [bl_one s i h]; rfl)

theorem rpart_from (s : ByteArray) (hs : s.size ≤ 1000000) (d : Nat) : ∀ (k i : Nat), i ≤ s.size → s.size - i = d → 4 * d + 8 < k → bloomeryref04_part.l0 k s (i : Int) = some (goodFrom (bl s) i ((bl s).drop i)) := by
  induction d with
  | zero =>
    intro k i hi hd hk
    obtain ⟨k, rfl⟩ : ∃ m, k = m + 1 := ⟨k - 1, by omega⟩
    simp only [bloomeryref04_part.l0]
    rw [if_neg (by omega), List.drop_eq_nil_of_le (by rw [bl_len]; omega)]
    rfl
  | succ d ih =>
    intro k i hi hd hk
    obtain ⟨k, rfl⟩ : ∃ m, k = m + 1 + 1 + 1 := ⟨k - 3, by omega⟩
    have hlt : i < s.size := by omega
    have hw : wrap64 ((i : Int) + 1) = ((i + 1 : Nat) : Int) := by rw [wrap_step (n := s.size) (by omega) (by omega) (by omega)]; omega
    have hb := bt_nat s i hlt
    have hdrop := drop_at s i hlt
    have hih := ih k (i + 1) (by omega) (by omega) (by omega)
    have h42 := byte42 s[i]
    have h63 := byte63 s[i]
    simp only [bloomeryref04_part.l0]
    rw [if_pos (by omega), if_pos (by omega), hb, hdrop]
    have hj3 : bloomeryref04_part.j3 (k + 1) s (i : Int) false = some (!(decide (0 < i) && s[i] == 42 && (bl s)[i - 1]? == some 42) && goodFrom (bl s) (i + 1) ((bl s).drop (i + 1))) := by
      simp only [bloomeryref04_part.j3, Bool.false_eq_true, if_false]
      rw [hb, hw, hih]
      by_cases h0 : 0 < i
      · have hw1 : wrap64 ((i : Int) - 1) = ((i - 1 : Nat) : Int) := by unfold wrap64; omega
        have hb1 := bt_nat s (i - 1) (by omega)
        have hget : (bl s)[i - 1]? = some s[i - 1] := by
          rw [List.getElem?_eq_getElem (by rw [bl_len]; omega)]; rfl
        have h42' := byte42 s[i - 1]
        rw [if_pos (by omega), if_pos (by omega), if_pos (by omega), hget]
        by_cases hc : s[i] = 42
        · rw [if_pos (h42.2 hc), hw1, hb1, if_pos (by omega), if_pos (by omega)]
          by_cases hc' : s[i - 1] = 42
          · rw [if_pos (h42'.2 hc')]; simp [h0, hc, hc']
          · rw [if_neg (fun e => hc' (h42'.1 e))]; simp [h0, hc, hc']
        · rw [if_neg (fun e => hc (h42.1 e))]; simp [hc]
      · rw [if_neg (by omega)]; simp [h0]
    unfold goodFrom
    by_cases hc : s[i] = 42
    · rw [if_pos (h42.2 hc)]
      simp only [bloomeryref04_part.j2, if_true]
      rw [hj3]
      have : GS.signW s[i] = true := by rw [hc]; decide
      rw [this, Bool.true_and]
    · rw [if_neg (fun e => hc (h42.1 e))]
      by_cases hq : s[i] = 63
      · have e : ((s[i].toNat : Int) == 63) = true := by simpa using h63.2 hq
        rw [e]
        simp only [bloomeryref04_part.j2, if_true]
        rw [hj3]
        have : GS.signW s[i] = true := by rw [hq]; decide
        rw [this, Bool.true_and]
      · have e : ((s[i].toNat : Int) == 63) = false := by rw [beq_eq_false_iff_ne]; exact fun e => hq (h63.1 e)
        rw [e]
        simp only [bloomeryref04_part.j2, Bool.false_eq_true, if_false]
        rw [if_pos (by omega), hw, if_pos (by omega), if_pos (by omega), Int.toNat_natCast, Int.toNat_natCast, extract_one s i hlt, if_pos (by show 1 + 1 ≤ _; omega), sign_part s[i] _ (by omega), Option.bind_some]
        have hsw : GS.signW s[i] = PS.signOk s[i] := by
          have e1 : (s[i] == 42) = false := by simpa using hc
          have e2 : (s[i] == 63) = false := by simpa using hq
          unfold GS.signW
          rw [e1, e2]; simp
        rw [hsw]
        cases PS.signOk s[i] with
        | true => simp only [Bool.not_true]; rw [hj3, Bool.true_and]
        | false => simp [bloomeryref04_part.j3]

theorem good_tail (l : List UInt8) : ∀ (r : List UInt8) (i : Nat) (a : UInt8), l.drop i = a :: r → goodFrom l (i + 1) r = (r.all GS.signW && GS.noStars (a :: r))
  | [], i, a, _ => by simp [goodFrom, GS.noStars]
  | b :: r, i, a, h => by
    have h1 : l.drop (i + 1) = b :: r := by rw [← List.tail_drop, h]; rfl
    have h2 : l[i]? = some a := by
      have := congrArg (fun x => x[0]?) h
      simpa using this
    unfold goodFrom
    rw [good_tail l r (i + 1) b h1, Nat.add_sub_cancel, h2]
    simp only [List.all_cons, GS.noStars, Nat.zero_lt_succ, decide_true, Bool.true_and]
    cases GS.signW b <;> simp
    cases (a == 42) <;> cases (b == 42) <;> simp
theorem good_all (l : List UInt8) : goodFrom l 0 l = (l.all GS.signW && GS.noStars l) := by
  cases l with
  | nil => rfl
  | cons a r =>
    unfold goodFrom
    rw [good_tail (a :: r) r 0 a rfl]
    simp only [List.all_cons, Nat.lt_irrefl, decide_false, Bool.false_and, Bool.not_false, Bool.and_true]
    cases GS.signW a <;> simp

theorem rpart_eq (s : ByteArray) (hs : s.size ≤ 1000000) (k : Nat) (hk : 4 * s.size + 20 < k) : bloomeryref04_part.f k s = some (GS.part (bl s)) := by
  obtain ⟨k, rfl⟩ : ∃ m, k = m + 1 := ⟨k - 1, by omega⟩
  have hf := rpart_from s hs s.size k 0 (by omega) (by omega) (by omega)
  rw [List.drop_zero, good_all] at hf
  have hl := bl_len s
  unfold bloomeryref04_part.f GS.part
  rw [toList_bl]
  by_cases h0 : bl s = [42, 42]
  · rw [if_pos h0, h0]; rfl
  rw [if_neg h0]
  have e0 : (bl s == [42, 42]) = false := by simpa using h0
  rw [e0, Bool.false_or]
  by_cases h1 : s.size = 0
  · have : bl s = [] := List.length_eq_zero_iff.1 (by rw [hl]; exact h1)
    rw [if_pos (by omega), this]; simp [bloomeryref04_part.j0]
  rw [if_neg (by omega)]
  have e1 : (bl s).isEmpty = false := by
    cases e : bl s with
    | nil => rw [e] at hl; simp at hl; omega
    | cons => rfl
  rw [e1]
  by_cases h2 : 64 < s.size
  · rw [if_pos (by omega), hl, decide_eq_false (by omega)]; simp [bloomeryref04_part.j0]
  rw [if_neg (by omega), hl, decide_eq_true (by omega)]
  by_cases h3 : bl s = [46]
  · rw [if_pos h3, h3]; simp [bloomeryref04_part.j0]
  rw [if_neg h3]
  have e3 : (bl s == [46]) = false := by simpa using h3
  rw [e3]
  cases h4 : (bl s == [46, 46]) with
  | true => simp [bloomeryref04_part.j0]
  | false =>
    simp only [bloomeryref04_part.j0, Bool.false_eq_true, if_false]
    rw [show ((0 : Int)) = ((0 : Nat) : Int) from rfl, hf]
    simp

/-! ### A pattern -/
theorem rmay_from (x3 x : List ByteArray) (N : Nat) (hN : N ≤ 1000000) (hx : ∀ y ∈ x, y.size ≤ N) (hl : x.length ≤ 8796093022208) (d : Nat) : ∀ (k i : Nat), i ≤ x.length → x.length - i = d → d + 4 * N + 22 < k →
    bloomeryref04_May.l0 k x3 x (x.length : Int) (i : Int) = some (((x.drop i).map bl).all GS.part && decide (x3.length ≤ 16)) := by
  induction d with
  | zero =>
    intro k i hi hd hk
    obtain ⟨k, rfl⟩ : ∃ m, k = m + 1 := ⟨k - 1, by omega⟩
    simp only [bloomeryref04_May.l0]
    rw [if_neg (by omega), List.drop_eq_nil_of_le (by omega)]
    simp only [List.map_nil, List.all_nil, Bool.true_and, Option.some.injEq, decide_eq_decide]
    omega
  | succ d ih =>
    intro k i hi hd hk
    obtain ⟨k, rfl⟩ : ∃ m, k = m + 1 := ⟨k - 1, by omega⟩
    have hlt : i < x.length := by omega
    have hw : wrap64 ((i : Int) + 1) = ((i + 1 : Nat) : Int) := by unfold wrap64; omega
    have hm := hx x[i] (List.getElem_mem hlt)
    simp only [bloomeryref04_May.l0]
    rw [if_pos (by omega), if_pos (by omega), if_pos (by omega), rd_at x i hlt, rpart_eq x[i] (by omega) k (by omega), Option.bind_some, hw, ih k (i + 1) (by omega) (by omega) (by omega)]
    rw [List.drop_eq_getElem_cons hlt, List.map_cons, List.all_cons]
    cases GS.part (bl x[i]) <;> simp

theorem rmay_eq (s : ByteArray) (hs : s.size ≤ 1000000) (k : Nat) (hk : 5 * s.size + 40 < k) : bloomeryref04_May.f k s = some (GS.may (bl s)) := by
  obtain ⟨r, h1, h2⟩ := parts_eq s (by omega) k (by omega)
  have hc := parts_count h2
  have h3 := rmay_from r r s.size hs (mem_len h2) (by omega) r.length k 0 (by omega) (by omega) (by omega)
  unfold bloomeryref04_May.f
  rw [h1, Option.bind_some]
  rw [show ((0 : Int)) = ((0 : Nat) : Int) from rfl, h3, List.drop_zero, h2]
  unfold GS.may
  rw [← h2, List.length_map, Bool.and_comm]

/-! ### What is fixed -/
theorem rfixed_from (s : ByteArray) (hs : s.size ≤ 1000000) (d : Nat) : ∀ (k i : Nat), i ≤ s.size → s.size - i = d → d < k → ∃ r, bloomeryref04_Fixed.l0 k s (i : Int) = some r ∧ bl r = (bl s).take i ++ GS.plainHead ((bl s).drop i) := by
  induction d with
  | zero =>
    intro k i hi hd hk
    obtain ⟨k, rfl⟩ : ∃ m, k = m + 1 := ⟨k - 1, by omega⟩
    refine ⟨s, by simp only [bloomeryref04_Fixed.l0]; rw [if_neg (by omega)], ?_⟩
    rw [List.drop_eq_nil_of_le (by rw [bl_len]; omega), List.take_of_length_le (by rw [bl_len]; omega)]
    simp [GS.plainHead]
  | succ d ih =>
    intro k i hi hd hk
    obtain ⟨k, rfl⟩ : ∃ m, k = m + 1 := ⟨k - 1, by omega⟩
    have hlt : i < s.size := by omega
    have hw : wrap64 ((i : Int) + 1) = ((i + 1 : Nat) : Int) := by rw [wrap_step (n := s.size) (by omega) (by omega) (by omega)]; omega
    have h42 := byte42 s[i]
    have h63 := byte63 s[i]
    have htk : bl (s.extract 0 i) = (bl s).take i := by simp [bl, ByteArray.data_extract, List.extract_eq_take_drop]
    simp only [bloomeryref04_Fixed.l0]
    rw [if_pos (by omega), if_pos (by omega), bt_nat s i hlt, drop_at s i hlt, Int.toNat_natCast, hw]
    by_cases hc : s[i] = 42
    · rw [if_pos (h42.2 hc), if_pos (by omega)]
      exact ⟨_, rfl, by rw [htk]; simp [GS.plainHead, hc]⟩
    rw [if_neg (fun e => hc (h42.1 e))]
    by_cases hq : s[i] = 63
    · rw [if_pos (h63.2 hq), if_pos (by omega)]
      exact ⟨_, rfl, by rw [htk]; simp [GS.plainHead, hq]⟩
    rw [if_neg (fun e => hq (h63.1 e))]
    obtain ⟨r, h1, h2⟩ := ih k (i + 1) (by omega) (by omega) (by omega)
    refine ⟨r, h1, ?_⟩
    rw [h2, GS.plainHead, if_neg (by simp [hc, hq])]
    have e : (bl s).take (i + 1) = (bl s).take i ++ [s[i]] := by
      rw [List.take_succ_eq_append_getElem (by rw [bl_len]; exact hlt)]; rfl
    rw [e]
    simp

theorem rfixed_eq (s : ByteArray) (hs : s.size ≤ 1000000) (k : Nat) (hk : 5 * s.size + 40 < k) : ∃ r, bloomeryref04_Fixed.f k s = some r ∧ bl r = GS.fixed (bl s) := by
  unfold bloomeryref04_Fixed.f GS.fixed
  rw [rmay_eq s hs k hk, Option.bind_some]
  cases GS.may (bl s) with
  | false => exact ⟨⟨#[]⟩, by simp, by simp [bl_empty]⟩
  | true =>
    obtain ⟨r, h1, h2⟩ := rfixed_from s hs s.size k 0 (by omega) (by omega) (by omega)
    exact ⟨r, by simp only [if_true]; exact h1, by simpa using h2⟩
end R04
end Go.Proofs.YtgbogkmbgedkkaaDoor
