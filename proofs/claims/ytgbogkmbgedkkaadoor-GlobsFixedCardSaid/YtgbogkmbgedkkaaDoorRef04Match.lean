/- The reference on patterns (layer 4), plainly: which beginnings of a pattern go with which of a path: what a pattern matches. -/
import Derived.Test.YtgbogkmbgedkkaaDoorP04match
import Derived.Test.YtgbogkmbgedkkaaDoorRef04One
import Derived.Test.YtgbogkmbgedkkaaDoorPlain
namespace Go.Proofs.YtgbogkmbgedkkaaDoor
open Go.RowKit Go.Proofs.YtgbogkmbgedkkaaDoorW.PrintWords Go.Proofs.YtgbogkmbgedkkaaDoorW.PrintLast Go.Proofs.YtgbogkmbgedkkaaDoorW.PrintMore
namespace R04
open P R03

noncomputable def dgoes (L M : List GS.Part) (i k : Nat) : Bool := GS.dm (L.take i) (M.take k)
/-- The rows as the reference fills them: the last two stars want one part at the least. -/
noncomputable def Fr (L M : List GS.Part) (i k : Nat) : Bool := if i = L.length ∧ L.getLast? = some GS.ss then (List.range k).any (dgoes L M (L.length - 1)) else dgoes L M i k

theorem any_range (f : Nat → Bool) (k : Nat) (h : 0 < k) : (List.range k).any f = (f (k - 1) || (List.range (k - 1)).any f) := by
  obtain ⟨k, rfl⟩ : ∃ m, k = m + 1 := ⟨k - 1, by omega⟩
  rw [List.range_succ, List.any_append]
  simp [Bool.or_comm]

theorem fr_next (L M : List GS.Part) (i : Nat) (hi : i < L.length) (k : Nat) (hk : k ≤ M.length) :
    Fr L M (i + 1) k = if L[i] = GS.ss then (if i = L.length - 1 then (decide (0 < k) && (Fr L M i (k - 1) || Fr L M (i + 1) (k - 1))) else (Fr L M i k || (decide (0 < k) && Fr L M (i + 1) (k - 1))))
      else (decide (0 < k) && Fr L M i (k - 1) && GS.one L[i] (M.getD (k - 1) [])) := by
  have hi0 : ∀ j, Fr L M i j = dgoes L M i j := fun j => by unfold Fr; rw [if_neg (by omega)]
  by_cases hx : L[i] = GS.ss
  · rw [if_pos hx]
    by_cases hlast : i = L.length - 1
    · rw [if_pos hlast]
      have hgl : L.getLast? = some GS.ss := by
        rw [List.getLast?_eq_getElem?, ← hlast, List.getElem?_eq_getElem hi, hx]
      have hF : ∀ j, Fr L M (i + 1) j = (List.range j).any (dgoes L M i) := fun j => by unfold Fr; rw [if_pos ⟨by omega, hgl⟩, ← hlast]
      rw [hF, hF, hi0]
      cases k with
      | zero => rfl
      | succ k => rw [any_range _ _ (Nat.succ_pos k)]; simp
    · rw [if_neg hlast]
      have hF : ∀ j, Fr L M (i + 1) j = dgoes L M (i + 1) j := fun j => by unfold Fr; rw [if_neg (by omega)]
      rw [hF, hF, hi0]
      unfold dgoes
      rw [List.take_succ_eq_append_getElem hi, hx]
      cases k with
      | zero => rw [List.take_zero, GS.dm_snoc_star0]; simp
      | succ k =>
        rw [List.take_succ_eq_append_getElem (show k < M.length by omega), GS.dm_snoc_star]
        simp
  · rw [if_neg hx]
    have hF : Fr L M (i + 1) k = dgoes L M (i + 1) k := by
      unfold Fr
      rw [if_neg]
      rintro ⟨h1, h2⟩
      rw [List.getLast?_eq_getElem?, ← h1, Nat.add_sub_cancel, List.getElem?_eq_getElem hi] at h2
      exact hx (Option.some.inj h2)
    rw [hF, hi0]
    unfold dgoes
    rw [List.take_succ_eq_append_getElem hi]
    cases k with
    | zero => rw [List.take_zero, GS.dm_snoc0 hx]; simp
    | succ k =>
      have hkm : k < M.length := by omega
      rw [List.take_succ_eq_append_getElem hkm, GS.dm_snoc hx]
      simp [List.getD_eq_getElem?_getD, List.getElem?_eq_getElem hkm]

theorem fr_zero (L M : List GS.Part) (hL : L ≠ []) (k : Nat) (hk : k ≤ M.length) : Fr L M 0 k = decide (k = 0) := by
  have : 0 < L.length := List.length_pos_iff.2 hL
  unfold Fr
  rw [if_neg (by omega)]
  unfold dgoes
  rw [List.take_zero, GS.dm_nil]
  cases k with
  | zero => rfl
  | succ k =>
    cases M with
    | nil => simp at hk
    | cons => rfl
theorem fr_end (L M : List GS.Part) : Fr L M L.length M.length = GS.deal L M := by
  rw [Bool.eq_iff_iff, GS.deal_full]
  unfold Fr GS.Full
  by_cases h : L.getLast? = some GS.ss
  · rw [if_pos ⟨rfl, h⟩, if_pos h, List.any_eq_true]
    unfold dgoes
    rw [← List.dropLast_eq_take]
    constructor
    · rintro ⟨j, hj, hd⟩
      rw [GS.dm_iff] at hd
      have hj' : j < M.length := List.mem_range.1 hj
      exact ⟨M.take j, M.drop j, (List.take_append_drop j M).symm, by intro e; have := congrArg List.length e; simp at this; omega, hd⟩
    · rintro ⟨a, b, e, hb, hd⟩
      have hbl : 0 < b.length := List.length_pos_iff.2 hb
      refine ⟨a.length, List.mem_range.2 (by rw [e, List.length_append]; omega), ?_⟩
      rw [GS.dm_iff, e, List.take_left']
      · exact hd
      · rfl
  · rw [if_neg (fun hh => h hh.2), if_neg h]
    unfold dgoes
    rw [List.take_length, List.take_length, GS.dm_iff]

theorem wrap_up (i : Nat) (h : i ≤ 4000000) : wrap64 ((i : Int) + 1) = ((i + 1 : Nat) : Int) := by unfold wrap64; omega
theorem wrap_dn (i : Nat) (h0 : 0 < i) (h : i ≤ 4000000) : wrap64 ((i : Int) - 1) = ((i - 1 : Nat) : Int) := by unfold wrap64; omega

theorem rdeal_row (r q : List ByteArray) (N : Nat) (hN : N ≤ 1000000) (hr : ∀ y ∈ r, y.size ≤ N) (hq : ∀ y ∈ q, y.size ≤ N) (hlr : r.length ≤ 1000001) (hlq : q.length ≤ 1000001) (i : Nat) (hi : i < r.length) (d : Nat) : ∀ (K k : Nat), k ≤ q.length + 1 → q.length + 1 - k = d → d + N * (N + 3) + 2 < K →
    bloomeryref04_Match.l1 K r q (Row (Fr (r.map bl) (q.map bl) i) q.length (q.length + 1)) (i : Int) r[i] (Row (Fr (r.map bl) (q.map bl) (i + 1)) q.length k) (k : Int) r (r.length : Int) (i : Int) =
      bloomeryref04_Match.l0 (K - d - 1) r q (Row (Fr (r.map bl) (q.map bl) (i + 1)) q.length (q.length + 1)) r (r.length : Int) ((i + 1 : Nat) : Int) := by
  induction d with
  | zero =>
    intro K k hk hd hK
    obtain ⟨K, rfl⟩ : ∃ m, K = m + 1 := ⟨K - 1, by omega⟩
    obtain rfl : k = q.length + 1 := by omega
    rw [show K + 1 - 0 - 1 = K by omega]
    simp only [bloomeryref04_Match.l1]
    rw [if_neg (by omega), wrap_up i (by omega)]
  | succ d ih =>
    intro K k hk hd hK
    obtain ⟨K, rfl⟩ : ∃ m, K = m + 1 := ⟨K - 1, by omega⟩
    have hkn : k ≤ q.length := by omega
    have hk1 : k ≤ q.length + 1 := by omega
    have hih := ih K (k + 1) (by omega) (by omega) (by omega)
    have hn := fr_next (r.map bl) (q.map bl) i (by simpa using hi) k (by simpa using hkn)
    rw [show (r.map bl)[i]'(by simpa using hi) = bl r[i] by simp, List.length_map] at hn
    rw [show K + 1 - (d + 1) - 1 = K - d - 1 by omega]
    have hKN : N * (N + 3) + 1 < K := by omega
    clear ih
    simp only [bloomeryref04_Match.l1]
    rw [if_pos (by omega), wrap_up k (by omega), row_len (next := Fr (r.map bl) (q.map bl) i) (Nat.le_refl (q.length + 1)), row_len (next := Fr (r.map bl) (q.map bl) (i + 1)) hk1, wrap_dn r.length (by omega) (by omega), toList_bl]
    by_cases hx : bl r[i] = [42, 42]
    · rw [if_pos hx]
      rw [if_pos (show bl r[i] = GS.ss from hx)] at hn
      by_cases hlast : i = r.length - 1
      · rw [if_pos (by omega)]
        rw [if_pos hlast] at hn
        by_cases h0 : 0 < k
        · rw [decide_eq_true h0, Bool.true_and] at hn
          rw [if_pos (by omega), wrap_dn k h0 (by omega), if_pos (by omega), if_pos (by omega), row_rd (by omega)]
          by_cases h1 : Fr (r.map bl) (q.map bl) i (k - 1) = true
          · rw [if_pos h1, if_pos (by omega), if_pos (by omega), row_set hkn (by rw [hn, h1]; rfl)]
            exact hih
          · have h1' : Fr (r.map bl) (q.map bl) i (k - 1) = false := by simpa using h1
            rw [if_neg h1, if_pos (by omega), if_pos (by omega), if_pos (by omega), row_rd (by omega), row_set hkn (by rw [hn, h1', Bool.false_or])]
            exact hih
        · rw [decide_eq_false h0, Bool.false_and] at hn
          rw [if_neg (by omega), if_pos (by omega), if_pos (by omega), row_set hkn hn.symm]
          exact hih
      · rw [if_neg (by omega)]
        rw [if_neg hlast] at hn
        rw [if_pos (by omega), if_pos (by omega), row_rd (by omega)]
        by_cases h1 : Fr (r.map bl) (q.map bl) i k = true
        · rw [if_pos h1, if_pos (by omega), row_set hkn (by rw [hn, h1]; rfl)]
          exact hih
        · have h1' : Fr (r.map bl) (q.map bl) i k = false := by simpa using h1
          rw [if_neg h1]
          by_cases h0 : 0 < k
          · rw [if_pos (by omega), wrap_dn k h0 (by omega), if_pos (by omega), if_pos (by omega), if_pos (by omega), row_rd (by omega), row_set hkn (by rw [hn, h1', decide_eq_true h0]; simp)]
            exact hih
          · rw [if_neg (by omega), if_pos (by omega), row_set hkn (by rw [hn, h1', decide_eq_false h0]; simp)]
            exact hih
    · rw [if_neg hx]
      rw [if_neg (show ¬ bl r[i] = GS.ss from hx)] at hn
      by_cases h0 : 0 < k
      · have hkq : k - 1 < q.length := by omega
        rw [decide_eq_true h0, Bool.true_and, show (q.map bl).getD (k - 1) [] = bl q[k - 1] by simp [List.getD_eq_getElem?_getD, hkq]] at hn
        rw [if_pos (by omega), wrap_dn k h0 (by omega), if_pos (by omega), if_pos (by omega), row_rd (by omega)]
        by_cases h1 : Fr (r.map bl) (q.map bl) i (k - 1) = true
        · have s1 := hr r[i] (List.getElem_mem hi)
          have s2 := hq q[k - 1] (List.getElem_mem hkq)
          have s3 : r[i].size * (q[k - 1].size + 3) ≤ N * (N + 3) := Nat.mul_le_mul s1 (by omega)
          rw [if_pos h1, if_pos (by omega), rd_at q (k - 1) hkq, rone_eq r[i] q[k - 1] (by omega) (by omega) K (by omega), Option.bind_some, if_pos (by omega), if_pos (by omega), row_set hkn (by rw [hn, h1, Bool.true_and])]
          exact hih
        · have h1' : Fr (r.map bl) (q.map bl) i (k - 1) = false := by simpa using h1
          rw [if_neg h1, if_pos (by omega), if_pos (by omega), row_set hkn (by rw [hn, h1', Bool.false_and])]
          exact hih
      · rw [decide_eq_false h0, Bool.false_and, Bool.false_and] at hn
        rw [if_neg (by omega), if_pos (by omega), if_pos (by omega), row_set hkn hn.symm]
        exact hih

theorem rdeal_from (r q : List ByteArray) (N : Nat) (hN : N ≤ 1000000) (hr : ∀ y ∈ r, y.size ≤ N) (hq : ∀ y ∈ q, y.size ≤ N) (hlr : r.length ≤ 1000001) (hlq : q.length ≤ 1000001) (d : Nat) : ∀ (K i : Nat), i ≤ r.length → r.length - i = d → d * (q.length + 3) + N * (N + 3) + 10 < K →
    bloomeryref04_Match.l0 K r q (Row (Fr (r.map bl) (q.map bl) i) q.length (q.length + 1)) r (r.length : Int) (i : Int) = some (GS.deal (r.map bl) (q.map bl)) := by
  induction d with
  | zero =>
    intro K i hi hd hK
    obtain ⟨K, rfl⟩ : ∃ m, K = m + 1 := ⟨K - 1, by omega⟩
    obtain rfl : i = r.length := by omega
    simp only [bloomeryref04_Match.l0]
    rw [if_neg (by omega), if_pos (by omega), row_len (Nat.le_refl _), if_pos (by omega), row_rd (by omega)]
    have h := fr_end (r.map bl) (q.map bl)
    rw [List.length_map, List.length_map] at h
    rw [h]
  | succ d ih =>
    intro K i hi hd hK
    obtain ⟨K, rfl⟩ : ∃ m, K = m + 1 := ⟨K - 1, by omega⟩
    rw [Nat.succ_mul] at hK
    have hir : i < r.length := by omega
    have hrow := rdeal_row r q N hN hr hq hlr hlq i hir (q.length + 1) K 0 (by omega) (by omega) (by omega)
    rw [row_zero] at hrow
    simp only [bloomeryref04_Match.l0]
    rw [if_pos (by omega), if_pos (by omega), if_pos (by omega), wrap_up q.length (by omega), Int.toNat_natCast, if_pos (by omega), if_pos (by omega), rd_at r i hir]
    rw [show ((0 : Int)) = ((0 : Nat) : Int) from rfl, hrow]
    exact ih _ (i + 1) (by omega) (by omega) (by omega)

theorem rmatch_eq (p s : ByteArray) (hp : p.size ≤ 1000000) (hs : s.size ≤ 1000000) : ∃ K, bloomeryref04_Match.f K p s = some (GS.matches_ (bl p) (bl s)) := by
  obtain ⟨N, hNp, hNs, hN⟩ : ∃ N, p.size ≤ N ∧ s.size ≤ N ∧ N ≤ 1000000 := ⟨max p.size s.size, by omega, by omega, by omega⟩
  refine ⟨(N + 1) * (N + 4) + N * (N + 3) + 10 * N + 100, ?_⟩
  generalize hK : (N + 1) * (N + 4) + N * (N + 3) + 10 * N + 100 = K
  have hmp := rmay_eq p hp K (by omega)
  have hms := may_eq s (by omega) K (by omega)
  unfold bloomeryref04_Match.f GS.matches_
  rw [hmp, Option.bind_some, hms, Option.bind_some]
  obtain ⟨K, rfl⟩ : ∃ m, K = m + 1 := ⟨K - 1, by omega⟩
  cases h1 : GS.may (bl p) with
  | false => simp [bloomeryref04_Match.j0]
  | true =>
    cases h2 : PS.may (bl s) with
    | false => simp [bloomeryref04_Match.j0]
    | true =>
      obtain ⟨r, hr1, hr2⟩ := parts_eq p (by omega) K (by omega)
      obtain ⟨q, hq1, hq2⟩ := parts_eq s (by omega) K (by omega)
      have c1 := parts_count hr2
      have c2 := parts_count hq2
      simp only [Bool.true_and, if_true, Bool.not_true, bloomeryref04_Match.j0, Bool.false_eq_true, if_false]
      rw [hr1, Option.bind_some, hq1, Option.bind_some, wrap_up q.length (by omega), if_pos (by omega), Int.toNat_natCast, if_pos (by omega), Option.bind_some, List.length_replicate, if_pos (by omega)]
      have hm : r.length * (q.length + 3) ≤ (N + 1) * (N + 4) := Nat.mul_le_mul (by omega) (by omega)
      have h := rdeal_from r q N hN (fun y hy => Nat.le_trans (mem_len hr2 y hy) hNp) (fun y hy => Nat.le_trans (mem_len hq2 y hy) hNs) (by omega) (by omega) r.length K 0 (by omega) (by omega) (by omega)
      have hne : r.map bl ≠ [] := by rw [hr2]; exact PS.split_ne _
      have e : (List.replicate (q.length + 1) false).set ((0 : Int)).toNat true = Row (Fr (r.map bl) (q.map bl) 0) q.length (q.length + 1) := by
        rw [row_ext (g := fun k => decide (k = 0)) (fun j hj => fr_zero _ _ hne _ (by rw [List.length_map]; omega))]
        unfold Row
        rw [show q.length + 1 - (q.length + 1) = 0 by omega, List.replicate_zero, List.append_nil]
        apply List.ext_getElem?
        intro j
        cases j with
        | zero => simp
        | succ j =>
          by_cases hj : j + 1 < q.length + 1
          · simp [hj]
          · rw [List.getElem?_eq_none (by simp; omega), List.getElem?_eq_none (by simp; omega)]
      rw [e, ← hr2, ← hq2]
      exact h
end R04
end Go.Proofs.YtgbogkmbgedkkaaDoor
