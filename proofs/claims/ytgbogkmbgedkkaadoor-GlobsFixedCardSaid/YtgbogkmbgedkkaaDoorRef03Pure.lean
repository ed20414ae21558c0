/- The reference on paths (layer 3), plainly: the parts of a text are the text cut at its strokes; which text is a path; its directory; what lies below a directory. -/
import Derived.Test.YtgbogkmbgedkkaaDoorP03
import Derived.Test.YtgbogkmbgedkkaaDoorPlain
namespace Go.Proofs.YtgbogkmbgedkkaaDoor
open Go.RowKit Go.Proofs.YtgbogkmbgedkkaaDoorW.PrintWords Go.Proofs.YtgbogkmbgedkkaaDoorW.PrintLast Go.Proofs.YtgbogkmbgedkkaaDoorW.PrintMore
namespace R03
open P

theorem wrap_step {i : Int} {n : Nat} (h0 : 0 ≤ i) (h : i < (n : Int)) (hn : n ≤ 8796093022207) : wrap64 (i + 1) = i + 1 := by
  unfold wrap64
  omega

def bl (s : ByteArray) : List UInt8 := s.data.toList
theorem bl_len (s : ByteArray) : (bl s).length = s.size := by unfold bl; rw [Array.length_toList]; rfl
theorem toList_bl (s : ByteArray) : s.toList = bl s := ByteArray.toList_eq s
theorem bl_append (s t : ByteArray) : bl (s ++ t) = bl s ++ bl t := by simp [bl]
theorem bl_empty : bl ⟨#[]⟩ = [] := rfl
theorem bl_inj {s t : ByteArray} (h : bl s = bl t) : s = t := by
  cases s; cases t; simp only [bl] at h; congr; exact Array.toList_inj.1 h
theorem drop_at (s : ByteArray) (i : Nat) (h : i < s.size) : (bl s).drop i = s[i] :: (bl s).drop (i + 1) := by
  rw [List.drop_eq_getElem_cons (by rw [bl_len]; exact h)]; rfl
theorem bl_one (s : ByteArray) (i : Nat) (h : i < s.size) : bl (s.extract i (i + 1)) = [s[i]] := by
  have h1 : bl (s.extract i (i + 1)) = ((bl s).drop i).take 1 := by
    simp [bl, ByteArray.data_extract, List.extract_eq_take_drop]
  rw [h1, drop_at s i h]; rfl
theorem bt_nat (s : ByteArray) (i : Nat) (h : i < s.size) : bt s (i : Int) = (s[i].toNat : Int) := by
  unfold bt
  simp [h]

/-- A row of texts, the last one going on with the first piece of what follows. -/
def glue (L : List (List UInt8)) : List (List UInt8) → List (List UInt8)
  | [] => L
  | p :: ps => L.dropLast ++ ((L.getLast?.getD []) ++ p) :: ps

theorem glue_nil (L : List (List UInt8)) (h : L ≠ []) : glue L [[]] = L := by
  obtain ⟨a, x, rfl⟩ : ∃ a x, L = a ++ [x] := ⟨L.dropLast, L.getLast h, (List.dropLast_concat_getLast h).symm⟩
  simp [glue]
theorem glue_stroke (L ps : List (List UInt8)) (h : L ≠ []) (hp : ps ≠ []) : glue (L ++ [[]]) ps = glue L ([] :: ps) := by
  obtain ⟨a, x, rfl⟩ : ∃ a x, L = a ++ [x] := ⟨L.dropLast, L.getLast h, (List.dropLast_concat_getLast h).symm⟩
  cases ps with
  | nil => exact absurd rfl hp
  | cons p ps => simp [glue]
theorem glue_sign (L ps : List (List UInt8)) (c : UInt8) (p : List UInt8) (h : L ≠ []) :
    glue (L.dropLast ++ [(L.getLast?.getD []) ++ [c]]) (p :: ps) = glue L ((c :: p) :: ps) := by
  obtain ⟨a, x, rfl⟩ : ∃ a x, L = a ++ [x] := ⟨L.dropLast, L.getLast h, (List.dropLast_concat_getLast h).symm⟩
  simp [glue]

theorem parts_from (s : ByteArray) (hs : s.size ≤ 8796093022207) (d : Nat) : ∀ (k i : Nat) (x : List ByteArray), i ≤ s.size → s.size - i = d → d < k → x ≠ [] → x.length ≤ i + 1 → (rdOf ByteArray.empty x ((x.length : Int) - 1)).size ≤ i →
    ∃ r, bloomeryref03_Parts.l0 k s x (i : Int) = some r ∧ r.map bl = glue (x.map bl) (PS.split ((bl s).drop i)) := by
  induction d with
  | zero =>
    intro k i x hi hd hk hx hl _
    obtain ⟨k, rfl⟩ : ∃ m, k = m + 1 := ⟨k - 1, by omega⟩
    refine ⟨x, by simp only [bloomeryref03_Parts.l0]; rw [if_neg (by omega)], ?_⟩
    rw [List.drop_eq_nil_of_le (by rw [bl_len]; omega)]
    rw [show PS.split [] = [[]] from rfl, glue_nil _ (by simpa using hx)]
  | succ d ih =>
    intro k i x hi hd hk hx hl hlast
    obtain ⟨k, rfl⟩ : ∃ m, k = m + 1 := ⟨k - 1, by omega⟩
    have hlt : i < s.size := by omega
    have hw : wrap64 ((i : Int) + 1) = ((i + 1 : Nat) : Int) := by rw [wrap_step (n := s.size) (by omega) (by omega) hs]; omega
    have hb := bt_nat s i hlt
    have hdrop := drop_at s i hlt
    simp only [bloomeryref03_Parts.l0]
    rw [if_pos (by omega), if_pos (by omega), hb, hw]
    by_cases hc : s[i] = 47
    · rw [if_pos (by rw [hc]; rfl), if_pos (by omega)]
      obtain ⟨r, h1, h2⟩ := ih k (i + 1) (x ++ [⟨#[]⟩]) (by omega) (by omega) (by omega) (by simp) (by simp; omega) (by
        have e : rdOf ByteArray.empty (x ++ [⟨#[]⟩]) (((x ++ [(⟨#[]⟩ : ByteArray)]).length : Int) - 1) = ⟨#[]⟩ := by
          unfold rdOf
          have : ((((x ++ [(⟨#[]⟩ : ByteArray)]).length : Nat) : Int) - 1).toNat = x.length := by simp
          rw [this]; simp
        rw [e]; exact Nat.zero_le _)
      refine ⟨r, h1, ?_⟩
      rw [h2, hdrop, hc]
      rw [show PS.split (47 :: (bl s).drop (i + 1)) = [] :: PS.split ((bl s).drop (i + 1)) by rw [PS.split, if_pos rfl]]
      rw [List.map_append, List.map_cons, List.map_nil, bl_empty, glue_stroke _ _ (by simpa using hx) (PS.split_ne _)]
    · have hne : ¬ ((s[i].toNat : Nat) : Int) = 47 := fun e => hc (UInt8.toNat_inj.1 (by simpa using (by omega : s[i].toNat = 47)))
      have hxl : 0 < x.length := List.length_pos_iff.2 hx
      have hwl : wrap64 ((x.length : Int) - 1) = (x.length : Int) - 1 := by unfold wrap64; omega
      have hext : (s.extract ((i : Int)).toNat ((i + 1 : Nat) : Int).toNat).size = 1 := by
        rw [ByteArray.size_extract, Int.toNat_natCast, Int.toNat_natCast]; omega
      rw [if_neg hne, hwl, if_pos (by omega), if_pos (by omega), if_pos (by omega), if_pos (by omega), if_pos (by rw [hext]; omega)]
      rw [Int.toNat_natCast, Int.toNat_natCast]
      have hj : ((x.length : Int) - 1).toNat = x.length - 1 := by omega
      obtain ⟨r, h1, h2⟩ := ih k (i + 1) (x.set ((x.length : Int) - 1).toNat (rdOf ByteArray.empty x ((x.length : Int) - 1) ++ s.extract i (i + 1))) (by omega) (by omega) (by omega) (by simpa using hx) (by simp; omega) (by
        have e : rdOf ByteArray.empty (x.set ((x.length : Int) - 1).toNat (rdOf ByteArray.empty x ((x.length : Int) - 1) ++ s.extract i (i + 1))) (((x.set ((x.length : Int) - 1).toNat (rdOf ByteArray.empty x ((x.length : Int) - 1) ++ s.extract i (i + 1))).length : Int) - 1) = rdOf ByteArray.empty x ((x.length : Int) - 1) ++ s.extract i (i + 1) := by
          generalize rdOf ByteArray.empty x ((x.length : Int) - 1) = y
          unfold rdOf
          rw [List.length_set, hj, List.getD_eq_getElem?_getD, List.getElem?_set_self (by omega)]
          rfl
        rw [e, ByteArray.size_append, ByteArray.size_extract]; omega)
      refine ⟨r, h1, ?_⟩
      rw [h2, hdrop, List.map_set]
      obtain ⟨p, ps, hps⟩ : ∃ p ps, PS.split ((bl s).drop (i + 1)) = p :: ps := by
        cases e : PS.split ((bl s).drop (i + 1)) with
        | nil => exact absurd e (PS.split_ne _)
        | cons p ps => exact ⟨p, ps, rfl⟩
      rw [hps, show PS.split (s[i] :: (bl s).drop (i + 1)) = (s[i] :: p) :: ps by rw [PS.split, if_neg hc, hps]]
      rw [← glue_sign _ _ _ _ (by simpa using hx)]
      congr 1
      obtain ⟨a, y, rfl⟩ : ∃ a y, x = a ++ [y] := ⟨x.dropLast, x.getLast hx, (List.dropLast_concat_getLast hx).symm⟩
      have hj2 : ((((a ++ [y]).length : Nat) : Int) - 1).toNat = a.length := by simp
      unfold rdOf
      rw [hj2, bl_append, bl_one s i hlt]
      simp

/-- THE PARTS OF A TEXT. -/
theorem parts_eq (s : ByteArray) (hs : s.size ≤ 8796093022207) (k : Nat) (hk : s.size < k) : ∃ r, bloomeryref03_Parts.f k s = some r ∧ r.map bl = PS.split (bl s) := by
  obtain ⟨r, h1, h2⟩ := parts_from s hs s.size k 0 [⟨#[]⟩] (by omega) (by omega) hk (by simp) (by simp) (Nat.zero_le _)
  refine ⟨r, h1, ?_⟩
  rw [h2, List.drop_zero]
  cases e : PS.split (bl s) with
  | nil => exact absurd e (PS.split_ne _)
  | cons p ps => simp [glue, bl_empty]

/-! ### A part -/
theorem part_step (b : Int) (A B : Option Bool) : (if b ≥ 97 then (if b ≤ 122 then A else (if b ≥ 65 then (if b ≤ 90 then A else (if b ≥ 48 then (if (b ≤ 57) then A else (if b = 95 then A else (if b = 46 then A else (if b = 45 then A else (if b = 43 then A else B))))) else (if b = 95 then A else (if b = 46 then A else (if b = 45 then A else (if b = 43 then A else B)))))) else (if b ≥ 48 then (if (b ≤ 57) then A else (if b = 95 then A else (if b = 46 then A else (if b = 45 then A else (if b = 43 then A else B))))) else (if b = 95 then A else (if b = 46 then A else (if b = 45 then A else (if b = 43 then A else B))))))) else (if b ≥ 65 then (if b ≤ 90 then A else (if b ≥ 48 then (if (b ≤ 57) then A else (if b = 95 then A else (if b = 46 then A else (if b = 45 then A else (if b = 43 then A else B))))) else (if b = 95 then A else (if b = 46 then A else (if b = 45 then A else (if b = 43 then A else B)))))) else (if b ≥ 48 then (if (b ≤ 57) then A else (if b = 95 then A else (if b = 46 then A else (if b = 45 then A else (if b = 43 then A else B))))) else (if b = 95 then A else (if b = 46 then A else (if b = 45 then A else (if b = 43 then A else B))))))) =
    if PS.signB b = true then A else B := by
  unfold PS.signB
  grind

theorem part_from (s : ByteArray) (hs : s.size ≤ 8796093022207) (d : Nat) : ∀ (k i : Nat), i ≤ s.size → s.size - i = d → d < k → bloomeryref03_Part.l0 k s (i : Int) = some (((bl s).drop i).all PS.signOk) := by
  induction d with
  | zero =>
    intro k i hi hd hk
    obtain ⟨k, rfl⟩ : ∃ m, k = m + 1 := ⟨k - 1, by omega⟩
    simp only [bloomeryref03_Part.l0]
    rw [if_neg (by omega), List.drop_eq_nil_of_le (by rw [bl_len]; omega)]
    rfl
  | succ d ih =>
    intro k i hi hd hk
    obtain ⟨k, rfl⟩ : ∃ m, k = m + 1 := ⟨k - 1, by omega⟩
    have hlt : i < s.size := by omega
    have hw : wrap64 ((i : Int) + 1) = ((i + 1 : Nat) : Int) := by rw [wrap_step (n := s.size) (by omega) (by omega) hs]; omega
    have hb := bt_nat s i hlt
    simp only [bloomeryref03_Part.l0]
    rw [if_pos (by omega), if_pos (by omega), hb, hw, ih k (i + 1) (by omega) (by omega) (by omega), part_step, drop_at s i hlt, List.all_cons]
    have e : PS.signOk s[i] = PS.signB (s[i].toNat : Int) := rfl
    rw [e]
    cases PS.signB (s[i].toNat : Int) <;> simp

theorem part_eq (s : ByteArray) (hs : s.size ≤ 8796093022207) (k : Nat) (hk : s.size + 1 < k) : bloomeryref03_Part.f k s = some (PS.partOk (bl s)) := by
  obtain ⟨k, rfl⟩ : ∃ m, k = m + 1 := ⟨k - 1, by omega⟩
  have hf := part_from s hs s.size k 0 (by omega) (by omega) (by omega)
  have hl := bl_len s
  unfold bloomeryref03_Part.f
  rw [toList_bl]
  unfold PS.partOk
  by_cases h1 : bl s = []
  · rw [if_pos h1, h1]; simp [bloomeryref03_Part.j0]
  rw [if_neg h1]
  by_cases h2 : bl s = [46]
  · rw [if_pos h2, h2]; simp [bloomeryref03_Part.j0]
  rw [if_neg h2]
  by_cases h3 : bl s = [46, 46]
  · rw [if_pos h3, h3]; simp [bloomeryref03_Part.j0]
  rw [if_neg h3]
  have e2 : (bl s == [46]) = false := by simpa using h2
  have e3 : (bl s == [46, 46]) = false := by simpa using h3
  have e1 : (bl s).isEmpty = false := by simpa using h1
  rw [e1, e2, e3]
  simp only [bloomeryref03_Part.j0]
  rw [show ((0 : Int)) = ((0 : Nat) : Int) from rfl, hf, List.drop_zero, hl]
  by_cases h4 : s.size ≤ 64
  · rw [decide_eq_false (by omega : ¬ ((s.size : Int) > 64)), decide_eq_true h4]; simp
  · rw [decide_eq_true (by omega : ((s.size : Int) > 64)), decide_eq_false h4]; simp

/-! ### A path -/
theorem rd_at (x : List ByteArray) (i : Nat) (h : i < x.length) : rdOf ByteArray.empty x (i : Int) = x[i] := by
  unfold rdOf
  simp [h]

theorem may_from (x : List ByteArray) (N : Nat) (hN : N ≤ 8796093022207) (hx : ∀ y ∈ x, y.size ≤ N) (hl : x.length ≤ 8796093022208) (d : Nat) : ∀ (k i : Nat), i ≤ x.length → x.length - i = d → d + N + 2 < k →
    bloomeryref03_May.l0 k x (i : Int) = some (((x.drop i).map bl).all PS.partOk && decide (x.length ≤ 16)) := by
  induction d with
  | zero =>
    intro k i hi hd hk
    obtain ⟨k, rfl⟩ : ∃ m, k = m + 1 := ⟨k - 1, by omega⟩
    simp only [bloomeryref03_May.l0]
    rw [if_neg (by omega), List.drop_eq_nil_of_le (by omega)]
    simp only [List.map_nil, List.all_nil, Bool.true_and, Option.some.injEq, decide_eq_decide]
    omega
  | succ d ih =>
    intro k i hi hd hk
    obtain ⟨k, rfl⟩ : ∃ m, k = m + 1 := ⟨k - 1, by omega⟩
    have hlt : i < x.length := by omega
    have hw : wrap64 ((i : Int) + 1) = ((i + 1 : Nat) : Int) := by unfold wrap64; omega
    have hm := hx x[i] (List.getElem_mem hlt)
    simp only [bloomeryref03_May.l0]
    rw [if_pos (by omega), if_pos (by omega), rd_at x i hlt, part_eq x[i] (by omega) k (by omega), Option.bind_some, hw, ih k (i + 1) (by omega) (by omega) (by omega)]
    rw [List.drop_eq_getElem_cons hlt, List.map_cons, List.all_cons]
    cases PS.partOk (bl x[i]) <;> simp

theorem mem_len {s : ByteArray} {r : List ByteArray} (h : r.map bl = PS.split (bl s)) : ∀ y ∈ r, y.size ≤ s.size := by
  intro y hy
  have h1 : bl y ∈ PS.split (bl s) := by rw [← h]; exact List.mem_map_of_mem hy
  have h2 := PS.split_len _ _ h1
  rw [bl_len, bl_len] at h2
  exact h2
theorem split_count (l : List UInt8) : (PS.split l).length ≤ l.length + 1 := by
  have h1 := PS.split_sum l
  have h2 : ∀ L : List (List UInt8), L.length ≤ (L.map fun p => p.length + 1).sum := by
    intro L
    induction L with
    | nil => simp
    | cons a L ih => simp only [List.length_cons, List.map_cons, List.sum_cons]; omega
  have := h2 (PS.split l)
  omega
theorem parts_count {s : ByteArray} {r : List ByteArray} (h : r.map bl = PS.split (bl s)) : r.length ≤ s.size + 1 := by
  have h1 := split_count (bl s)
  rw [← h, List.length_map, bl_len] at h1
  exact h1

theorem may_eq (s : ByteArray) (hs : s.size ≤ 8796093022207) (k : Nat) (hk : 2 * s.size + 10 < k) : bloomeryref03_May.f k s = some (PS.may (bl s)) := by
  obtain ⟨r, h1, h2⟩ := parts_eq s hs k (by omega)
  have hc := parts_count h2
  have h3 := may_from r s.size hs (mem_len h2) (by omega) r.length k 0 (by omega) (by omega) (by omega)
  unfold bloomeryref03_May.f
  rw [h1, Option.bind_some]
  rw [show ((0 : Int)) = ((0 : Nat) : Int) from rfl, h3, List.drop_zero, h2]
  unfold PS.may
  rw [← h2, List.length_map, Bool.and_comm]

end R03
end Go.Proofs.YtgbogkmbgedkkaaDoor
