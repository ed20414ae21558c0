/- The reference on paths (layer 3), plainly: the parts of a text are the text cut at its strokes; which text is a path; its directory; what lies below a directory. -/
import Derived.Test.YtcaookphoiopbaaDoorP03
import Derived.Test.YtcaookphoiopbaaDoorTracePure
namespace Go.Proofs.YtcaookphoiopbaaDoor
open Go.RowKit Go.Proofs.YtcaookphoiopbaaDoorW.PrintWords Go.Proofs.YtcaookphoiopbaaDoorW.PrintLast Go.Proofs.YtcaookphoiopbaaDoorW.PrintMore
namespace R03
open P

theorem wrap_step {i : Int} {n : Nat} (h0 : 0 ≤ i) (h : i < (n : Int)) (hn : n ≤ 8796093022207) : wrap64 (i + 1) = i + 1 := by
  unfold wrap64
  omega

def bl (s : ByteArray) : List UInt8 := s.data.toList
theorem bl_len (s : ByteArray) : (bl s).length = s.size := by unfold bl; rw [Array.length_toList]; rfl
theorem toList_bl (s : ByteArray) : s.toList = bl s := ByteArray.toList_eq s
theorem bl_append (s t : ByteArray) : bl (s ++ t) = bl s ++ bl t := by simp [bl]
theorem bl_empty : bl ⟨#[]⟩ = [] := rfl
theorem bl_inj {s t : ByteArray} (h : bl s = bl t) : s = t := by
  cases s; cases t; simp only [bl] at h; congr; exact Array.toList_inj.1 h
theorem drop_at (s : ByteArray) (i : Nat) (h : i < s.size) : (bl s).drop i = s[i] :: (bl s).drop (i + 1) := by
  rw [List.drop_eq_getElem_cons (by rw [bl_len]; exact h)]; rfl
theorem bl_one (s : ByteArray) (i : Nat) (h : i < s.size) : bl (s.extract i (i + 1)) = [s[i]] := by
  have h1 : bl (s.extract i (i + 1)) = ((bl s).drop i).take 1 := by
    simp [bl, ByteArray.data_extract, List.extract_eq_take_drop]
  rw [h1, drop_at s i h]; rfl
theorem bt_nat (s : ByteArray) (i : Nat) (h : i < s.size) : bt s (i : Int) = (s[i].toNat : Int) := by
  unfold bt
  simp [h]

/-- A row of texts, the last one going on with the first piece of what follows. -/
def glue (L : List (List UInt8)) : List (List UInt8) → List (List UInt8)
  | [] => L
  | p :: ps => L.dropLast ++ ((L.getLast?.getD []) ++ p) :: ps

theorem glue_nil (L : List (List UInt8)) (h : L ≠ []) : glue L [[]] = L := by
  obtain ⟨a, x, rfl⟩ : ∃ a x, L = a ++ [x] := ⟨L.dropLast, L.getLast h, (List.dropLast_concat_getLast h).symm⟩
  simp [glue]
theorem glue_stroke (L ps : List (List UInt8)) (h : L ≠ []) (hp : ps ≠ []) : glue (L ++ [[]]) ps = glue L ([] :: ps) := by
  obtain ⟨a, x, rfl⟩ : ∃ a x, L = a ++ [x] := ⟨L.dropLast, L.getLast h, (List.dropLast_concat_getLast h).symm⟩
  cases ps with
  | nil => exact absurd rfl hp
  | cons p ps => simp [glue]
theorem glue_sign (L ps : List (List UInt8)) (c : UInt8) (p : List UInt8) (h : L ≠ []) :
    glue (L.dropLast ++ [(L.getLast?.getD []) ++ [c]]) (p :: ps) = glue L ((c :: p) :: ps) := by
  obtain ⟨a, x, rfl⟩ : ∃ a x, L = a ++ [x] := ⟨L.dropLast, L.getLast h, (List.dropLast_concat_getLast h).symm⟩
  simp [glue]

theorem parts_from (s : ByteArray) (hs : s.size ≤ 8796093022207) (d : Nat) : ∀ (k i : Nat) (x : List ByteArray), i ≤ s.size → s.size - i = d → d < k → x ≠ [] → x.length ≤ i + 1 → (rdOf ByteArray.empty x ((x.length : Int) - 1)).size ≤ i →
    ∃ r, bloomeryref03_Parts.l0 k s x (i : Int) = some r ∧ r.map bl = glue (x.map bl) (PS.split ((bl s).drop i)) := by
  induction d with
  | zero =>
    intro k i x hi hd hk hx hl _
    obtain ⟨k, rfl⟩ : ∃ m, k = m + 1 := ⟨k - 1, by omega⟩
    refine ⟨x, by simp only [bloomeryref03_Parts.l0]; rw [if_neg (by omega)], ?_⟩
    rw [List.drop_eq_nil_of_le (by rw [bl_len]; omega)]
    rw [show PS.split [] = [[]] from rfl, glue_nil _ (by simpa using hx)]
  | succ d ih =>
    intro k i x hi hd hk hx hl hlast
    obtain ⟨k, rfl⟩ : ∃ m, k = m + 1 := ⟨k - 1, by omega⟩
    have hlt : i < s.size := by omega
    have hw : wrap64 ((i : Int) + 1) = ((i + 1 : Nat) : Int) := by rw [wrap_step (n := s.size) (by omega) (by omega) hs]; omega
    have hb := bt_nat s i hlt
    have hdrop := drop_at s i hlt
    simp only [bloomeryref03_Parts.l0]
    rw [if_pos (by omega), if_pos (by omega), hb, hw]
    by_cases hc : s[i] = 47
    · rw [if_pos (by rw [hc]; rfl), if_pos (by omega)]
      obtain ⟨r, h1, h2⟩ := ih k (i + 1) (x ++ [⟨#[]⟩]) (by omega) (by omega) (by omega) (by simp) (by simp; omega) (by
        have e : rdOf ByteArray.empty (x ++ [⟨#[]⟩]) (((x ++ [(⟨#[]⟩ : ByteArray)]).length : Int) - 1) = ⟨#[]⟩ := by
          unfold rdOf
          have : ((((x ++ [(⟨#[]⟩ : ByteArray)]).length : Nat) : Int) - 1).toNat = x.length := by simp
          rw [this]; simp
        rw [e]; exact Nat.zero_le _)
      refine ⟨r, h1, ?_⟩
      rw [h2, hdrop, hc]
      rw [show PS.split (47 :: (bl s).drop (i + 1)) = [] :: PS.split ((bl s).drop (i + 1)) by rw [PS.split, if_pos rfl]]
      rw [List.map_append, List.map_cons, List.map_nil, bl_empty, glue_stroke _ _ (by simpa using hx) (PS.split_ne _)]
    · have hne : ¬ ((s[i].toNat : Nat) : Int) = 47 := fun e => hc (UInt8.toNat_inj.1 (by simpa using (by omega : s[i].toNat = 47)))
      have hxl : 0 < x.length := List.length_pos_iff.2 hx
      have hwl : wrap64 ((x.length : Int) - 1) = (x.length : Int) - 1 := by unfold wrap64; omega
      have hext : (s.extract ((i : Int)).toNat ((i + 1 : Nat) : Int).toNat).size = 1 := by
        rw [ByteArray.size_extract, Int.toNat_natCast, Int.toNat_natCast]; omega
      rw [if_neg hne, hwl, if_pos (by omega), if_pos (by omega), if_pos (by omega), if_pos (by omega), if_pos (by rw [hext]; omega)]
      rw [Int.toNat_natCast, Int.toNat_natCast]
      have hj : ((x.length : Int) - 1).toNat = x.length - 1 := by omega
      obtain ⟨r, h1, h2⟩ := ih k (i + 1) (x.set ((x.length : Int) - 1).toNat (rdOf ByteArray.empty x ((x.length : Int) - 1) ++ s.extract i (i + 1))) (by omega) (by omega) (by omega) (by simpa using hx) (by simp; omega) (by
        have e : rdOf ByteArray.empty (x.set ((x.length : Int) - 1).toNat (rdOf ByteArray.empty x ((x.length : Int) - 1) ++ s.extract i (i + 1))) (((x.set ((x.length : Int) - 1).toNat (rdOf ByteArray.empty x ((x.length : Int) - 1) ++ s.extract i (i + 1))).length : Int) - 1) = rdOf ByteArray.empty x ((x.length : Int) - 1) ++ s.extract i (i + 1) := by
          generalize rdOf ByteArray.empty x ((x.length : Int) - 1) = y
          unfold rdOf
          rw [List.length_set, hj, List.getD_eq_getElem?_getD, List.getElem?_set_self (by omega)]
          rfl
        rw [e, ByteArray.size_append, ByteArray.size_extract]; omega)
      refine ⟨r, h1, ?_⟩
      rw [h2, hdrop, List.map_set]
      obtain ⟨p, ps, hps⟩ : ∃ p ps, PS.split ((bl s).drop (i + 1)) = p :: ps := by
        cases e : PS.split ((bl s).drop (i + 1)) with
        | nil => exact absurd e (PS.split_ne _)
        | cons p ps => exact ⟨p, ps, rfl⟩
      rw [hps, show PS.split (s[i] :: (bl s).drop (i + 1)) = (s[i] :: p) :: ps by rw [PS.split, if_neg hc, hps]]
      rw [← glue_sign _ _ _ _ (by simpa using hx)]
      congr 1
      obtain ⟨a, y, rfl⟩ : ∃ a y, x = a ++ [y] := ⟨x.dropLast, x.getLast hx, (List.dropLast_concat_getLast hx).symm⟩
      have hj2 : ((((a ++ [y]).length : Nat) : Int) - 1).toNat = a.length := by simp
      unfold rdOf
      rw [hj2, bl_append, bl_one s i hlt]
      simp

/-- THE PARTS OF A TEXT. -/
theorem parts_eq (s : ByteArray) (hs : s.size ≤ 8796093022207) (k : Nat) (hk : s.size < k) : ∃ r, bloomeryref03_Parts.f k s = some r ∧ r.map bl = PS.split (bl s) := by
  obtain ⟨r, h1, h2⟩ := parts_from s hs s.size k 0 [⟨#[]⟩] (by omega) (by omega) hk (by simp) (by simp) (Nat.zero_le _)
  refine ⟨r, h1, ?_⟩
  rw [h2, List.drop_zero]
  cases e : PS.split (bl s) with
  | nil => exact absurd e (PS.split_ne _)
  | cons p ps => simp [glue, bl_empty]

/-! ### A part -/
theorem part_step (b : Int) (A B : Option Bool) : (if b ≥ 97 then (if b ≤ 122 then A else (if b ≥ 65 then (if b ≤ 90 then A else (if b ≥ 48 then (if (b ≤ 57) then A else (if b = 95 then A else (if b = 46 then A else (if b = 45 then A else (if b = 43 then A else B))))) else (if b = 95 then A else (if b = 46 then A else (if b = 45 then A else (if b = 43 then A else B)))))) else (if b ≥ 48 then (if (b ≤ 57) then A else (if b = 95 then A else (if b = 46 then A else (if b = 45 then A else (if b = 43 then A else B))))) else (if b = 95 then A else (if b = 46 then A else (if b = 45 then A else (if b = 43 then A else B))))))) else (if b ≥ 65 then (if b ≤ 90 then A else (if b ≥ 48 then (if (b ≤ 57) then A else (if b = 95 then A else (if b = 46 then A else (if b = 45 then A else (if b = 43 then A else B))))) else (if b = 95 then A else (if b = 46 then A else (if b = 45 then A else (if b = 43 then A else B)))))) else (if b ≥ 48 then (if (b ≤ 57) then A else (if b = 95 then A else (if b = 46 then A else (if b = 45 then A else (if b = 43 then A else B))))) else (if b = 95 then A else (if b = 46 then A else (if b = 45 then A else (if b = 43 then A else B))))))) =
    if PS.signB b = true then A else B := by
  unfold PS.signB
  grind

theorem part_from (s : ByteArray) (hs : s.size ≤ 8796093022207) (d : Nat) : ∀ (k i : Nat), i ≤ s.size → s.size - i = d → d < k → bloomeryref03_Part.l0 k s (i : Int) = some (((bl s).drop i).all PS.signOk) := by
  induction d with
  | zero =>
    intro k i hi hd hk
    obtain ⟨k, rfl⟩ : ∃ m, k = m + 1 := ⟨k - 1, by omega⟩
    simp only [bloomeryref03_Part.l0]
    rw [if_neg (by omega), List.drop_eq_nil_of_le (by rw [bl_len]; omega)]
    rfl
  | succ d ih =>
    intro k i hi hd hk
    obtain ⟨k, rfl⟩ : ∃ m, k = m + 1 := ⟨k - 1, by omega⟩
    have hlt : i < s.size := by omega
    have hw : wrap64 ((i : Int) + 1) = ((i + 1 : Nat) : Int) := by rw [wrap_step (n := s.size) (by omega) (by omega) hs]; omega
    have hb := bt_nat s i hlt
    simp only [bloomeryref03_Part.l0]
    rw [if_pos (by omega), if_pos (by omega), hb, hw, ih k (i + 1) (by omega) (by omega) (by omega), part_step, drop_at s i hlt, List.all_cons]
    have e : PS.signOk s[i] = PS.signB (s[i].toNat : Int) := rfl
    rw [e]
    cases PS.signB (s[i].toNat : Int) <;> simp

theorem part_eq (s : ByteArray) (hs : s.size ≤ 8796093022207) (k : Nat) (hk : s.size + 1 < k) : bloomeryref03_Part.f k s = some (PS.partOk (bl s)) := by
  obtain ⟨k, rfl⟩ : ∃ m, k = m + 1 := ⟨k - 1, by omega⟩
  have hf := part_from s hs s.size k 0 (by omega) (by omega) (by omega)
  have hl := bl_len s
  unfold bloomeryref03_Part.f
  rw [toList_bl]
  unfold PS.partOk
  by_cases h1 : bl s = []
  · rw [if_pos h1, h1]; simp [bloomeryref03_Part.j0]
  rw [if_neg h1]
  by_cases h2 : bl s = [46]
  · rw [if_pos h2, h2]; simp [bloomeryref03_Part.j0]
  rw [if_neg h2]
  by_cases h3 : bl s = [46, 46]
  · rw [if_pos h3, h3]; simp [bloomeryref03_Part.j0]
  rw [if_neg h3]
  have e2 : (bl s == [46]) = false := by simpa using h2
  have e3 : (bl s == [46, 46]) = false := by simpa using h3
  have e1 : (bl s).isEmpty = false := by simpa using h1
  rw [e1, e2, e3]
  simp only [bloomeryref03_Part.j0]
  rw [show ((0 : Int)) = ((0 : Nat) : Int) from rfl, hf, List.drop_zero, hl]
  by_cases h4 : s.size ≤ 64
  · rw [decide_eq_false (by omega : ¬ ((s.size : Int) > 64)), decide_eq_true h4]; simp
  · rw [decide_eq_true (by omega : ((s.size : Int) > 64)), decide_eq_false h4]; simp

/-! ### A path -/
theorem rd_at (x : List ByteArray) (i : Nat) (h : i < x.length) : rdOf ByteArray.empty x (i : Int) = x[i] := by
  unfold rdOf
  simp [h]

theorem may_from (x : List ByteArray) (N : Nat) (hN : N ≤ 8796093022207) (hx : ∀ y ∈ x, y.size ≤ N) (hl : x.length ≤ 8796093022208) (d : Nat) : ∀ (k i : Nat), i ≤ x.length → x.length - i = d → d + N + 2 < k →
    bloomeryref03_May.l0 k x (i : Int) = some (((x.drop i).map bl).all PS.partOk && decide (x.length ≤ 16)) := by
  induction d with
  | zero =>
    intro k i hi hd hk
    obtain ⟨k, rfl⟩ : ∃ m, k = m + 1 := ⟨k - 1, by omega⟩
    simp only [bloomeryref03_May.l0]
    rw [if_neg (by omega), List.drop_eq_nil_of_le (by omega)]
    simp only [List.map_nil, List.all_nil, Bool.true_and, Option.some.injEq, decide_eq_decide]
    omega
  | succ d ih =>
    intro k i hi hd hk
    obtain ⟨k, rfl⟩ : ∃ m, k = m + 1 := ⟨k - 1, by omega⟩
    have hlt : i < x.length := by omega
    have hw : wrap64 ((i : Int) + 1) = ((i + 1 : Nat) : Int) := by unfold wrap64; omega
    have hm := hx x[i] (List.getElem_mem hlt)
    simp only [bloomeryref03_May.l0]
    rw [if_pos (by omega), if_pos (by omega), rd_at x i hlt, part_eq x[i] (by omega) k (by omega), Option.bind_some, hw, ih k (i + 1) (by omega) (by omega) (by omega)]
    rw [List.drop_eq_getElem_cons hlt, List.map_cons, List.all_cons]
    cases PS.partOk (bl x[i]) <;> simp

theorem mem_len {s : ByteArray} {r : List ByteArray} (h : r.map bl = PS.split (bl s)) : ∀ y ∈ r, y.size ≤ s.size := by
  intro y hy
  have h1 : bl y ∈ PS.split (bl s) := by rw [← h]; exact List.mem_map_of_mem hy
  have h2 := PS.split_len _ _ h1
  rw [bl_len, bl_len] at h2
  exact h2
theorem split_count (l : List UInt8) : (PS.split l).length ≤ l.length + 1 := by
  have h1 := PS.split_sum l
  have h2 : ∀ L : List (List UInt8), L.length ≤ (L.map fun p => p.length + 1).sum := by
    intro L
    induction L with
    | nil => simp
    | cons a L ih => simp only [List.length_cons, List.map_cons, List.sum_cons]; omega
  have := h2 (PS.split l)
  omega
theorem parts_count {s : ByteArray} {r : List ByteArray} (h : r.map bl = PS.split (bl s)) : r.length ≤ s.size + 1 := by
  have h1 := split_count (bl s)
  rw [← h, List.length_map, bl_len] at h1
  exact h1

theorem may_eq (s : ByteArray) (hs : s.size ≤ 8796093022207) (k : Nat) (hk : 2 * s.size + 10 < k) : bloomeryref03_May.f k s = some (PS.may (bl s)) := by
  obtain ⟨r, h1, h2⟩ := parts_eq s hs k (by omega)
  have hc := parts_count h2
  have h3 := may_from r s.size hs (mem_len h2) (by omega) r.length k 0 (by omega) (by omega) (by omega)
  unfold bloomeryref03_May.f
  rw [h1, Option.bind_some]
  rw [show ((0 : Int)) = ((0 : Nat) : Int) from rfl, h3, List.drop_zero, h2]
  unfold PS.may
  rw [← h2, List.length_map, Bool.and_comm]

/-! ### A directory -/
/-- Parts, a stroke between each two. -/
def joinL : List (List UInt8) → List UInt8
  | [] => []
  | p :: ps => p ++ ps.flatMap (fun q => 47 :: q)
def dirL (l : List UInt8) : List UInt8 := if PS.may l = true then (if (PS.split l).length = 1 then [] else joinL (PS.split l).dropLast) else []

theorem split_app : ∀ (p t : List UInt8), 47 ∉ p → PS.split (p ++ 47 :: t) = p :: PS.split t
  | [], t, _ => by rw [List.nil_append, PS.split, if_pos rfl]
  | c :: p, t, h => by
    have hc : c ≠ 47 := fun e => h (by simp [e])
    rw [List.cons_append, PS.split, if_neg hc, split_app p t (fun e => h (by simp [e]))]
theorem split_one : ∀ (p : List UInt8), 47 ∉ p → PS.split p = [p]
  | [], _ => rfl
  | c :: p, h => by
    have hc : c ≠ 47 := fun e => h (by simp [e])
    rw [PS.split, if_neg hc, split_one p (fun e => h (by simp [e]))]
theorem split_no : ∀ (l : List UInt8), ∀ p ∈ PS.split l, 47 ∉ p
  | [], p, h => by simp [PS.split] at h; subst h; simp
  | c :: r, p, h => by
    have ih := split_no r
    unfold PS.split at h
    split at h
    · rcases List.mem_cons.1 h with rfl | h
      · simp
      · exact ih p h
    · rename_i hc
      split at h
      · rename_i e; exact absurd e (PS.split_ne r)
      · rename_i q qs e
        rw [e] at ih
        rcases List.mem_cons.1 h with rfl | h
        · intro hm
          rcases List.mem_cons.1 hm with hm | hm
          · exact hc hm.symm
          · exact ih q (by simp) hm
        · exact ih p (by simp [h])
theorem join_cons (p q : List UInt8) (ps : List (List UInt8)) : joinL (p :: q :: ps) = p ++ 47 :: joinL (q :: ps) := by simp [joinL]
theorem split_join : ∀ (L : List (List UInt8)), L ≠ [] → (∀ p ∈ L, 47 ∉ p) → PS.split (joinL L) = L
  | [], h, _ => absurd rfl h
  | [p], _, h => by simp [joinL]; exact split_one p (h p (by simp))
  | p :: q :: ps, _, h => by
    rw [join_cons, split_app p _ (h p (by simp)), split_join (q :: ps) (by simp) (fun x hx => h x (by simp [hx]))]
theorem join_split : ∀ (l : List UInt8), joinL (PS.split l) = l
  | [] => rfl
  | c :: r => by
    have ih := join_split r
    unfold PS.split
    split
    · rename_i hc
      cases e : PS.split r with
      | nil => exact absurd e (PS.split_ne r)
      | cons p ps => rw [join_cons, ← e, ih, hc]; rfl
    · split
      · rename_i e; exact absurd e (PS.split_ne r)
      · rename_i p ps e
        rw [e] at ih
        rw [← ih]
        simp [joinL]
theorem join_last (L : List (List UInt8)) (p : List UInt8) (h : L ≠ []) : joinL (L ++ [p]) = joinL L ++ 47 :: p := by
  cases L with
  | nil => exact absurd rfl h
  | cons q L => simp [joinL]

theorem dir_from (x : List ByteArray) (hl : x.length ≤ 16) (hx : ∀ y ∈ x, y.size ≤ 64) (d : Nat) : ∀ (k i : Nat) (acc : ByteArray), 1 ≤ i → i + 1 ≤ x.length → x.length - 1 - i = d → d < k → acc.size ≤ i * 65 →
    ∃ r, bloomeryref03_Dir.l0 k x acc (i : Int) = some r ∧ bl r = bl acc ++ (((x.map bl).dropLast).drop i).flatMap (fun q => 47 :: q) := by
  induction d with
  | zero =>
    intro k i acc h1 hi hd hk _
    obtain ⟨k, rfl⟩ : ∃ m, k = m + 1 := ⟨k - 1, by omega⟩
    have hw : wrap64 ((x.length : Int) - 1) = (x.length : Int) - 1 := by unfold wrap64; omega
    refine ⟨acc, by simp only [bloomeryref03_Dir.l0]; rw [hw, if_neg (by omega)], ?_⟩
    rw [List.drop_eq_nil_of_le (by simp; omega)]
    simp
  | succ d ih =>
    intro k i acc h1 hi hd hk ha
    obtain ⟨k, rfl⟩ : ∃ m, k = m + 1 := ⟨k - 1, by omega⟩
    have hw : wrap64 ((x.length : Int) - 1) = (x.length : Int) - 1 := by unfold wrap64; omega
    have hw2 : wrap64 ((i : Int) + 1) = ((i + 1 : Nat) : Int) := by unfold wrap64; omega
    have hlt : i < x.length := by omega
    have hm := hx x[i] (List.getElem_mem hlt)
    have h47 : (acc ++ (⟨#[47]⟩ : ByteArray)).size = acc.size + 1 := by rw [ByteArray.size_append]; rfl
    simp only [bloomeryref03_Dir.l0]
    rw [hw, if_pos (by omega), if_pos (by omega), if_pos (by omega), if_pos (by omega), rd_at x i hlt, if_pos (by rw [h47]; omega), hw2]
    obtain ⟨r, hr1, hr2⟩ := ih k (i + 1) (acc ++ (⟨#[47]⟩ : ByteArray) ++ x[i]) (by omega) (by omega) (by omega) (by omega) (by rw [ByteArray.size_append, h47]; omega)
    refine ⟨r, hr1, ?_⟩
    rw [hr2, bl_append, bl_append]
    have hlt2 : i < ((x.map bl).dropLast).length := by simp; omega
    rw [List.drop_eq_getElem_cons hlt2, List.flatMap_cons]
    have e : ((x.map bl).dropLast)[i] = bl x[i] := by simp
    rw [e]
    simp [bl]

theorem dir_eq (s : ByteArray) (hs : s.size ≤ 8796093022207) (k : Nat) (hk : 2 * s.size + 20 < k) : ∃ r, bloomeryref03_Dir.f k s = some r ∧ bl r = dirL (bl s) := by
  obtain ⟨x, h1, h2⟩ := parts_eq s hs k (by omega)
  have h3 := may_eq s hs k (by omega)
  obtain ⟨k, rfl⟩ : ∃ m, k = m + 1 := ⟨k - 1, by omega⟩
  unfold bloomeryref03_Dir.f dirL
  rw [h1, Option.bind_some, h3, Option.bind_some]
  cases hm : PS.may (bl s) with
  | false => exact ⟨⟨#[]⟩, by simp [bloomeryref03_Dir.j0], by simp [bl_empty]⟩
  | true =>
    have hm2 := hm
    unfold PS.may at hm2
    simp only [Bool.and_eq_true, decide_eq_true_eq, List.all_eq_true] at hm2
    rw [if_pos rfl, if_pos rfl]
    have hlen : (PS.split (bl s)).length = x.length := by rw [← h2, List.length_map]
    by_cases h4 : x.length = 1
    · rw [if_pos (by omega)]
      refine ⟨⟨#[]⟩, ?_, bl_empty⟩
      rw [h4]
      rfl
    · rw [if_neg (by omega)]
      have hne : x ≠ [] := fun e => PS.split_ne (bl s) (by rw [← h2, e]; rfl)
      have hpos : 0 < x.length := List.length_pos_iff.2 hne
      have hsz : ∀ y ∈ x, y.size ≤ 64 := fun y hy => by
        rw [← bl_len]
        exact PS.part_len (hm2.2 _ (by rw [← h2]; exact List.mem_map_of_mem hy))
      obtain ⟨r, hr1, hr2⟩ := dir_from x (by omega) hsz (x.length - 1 - 1) k 1 x[0] (Nat.le_refl _) (by omega) rfl (by omega) (by have := hsz x[0] (List.getElem_mem hpos); omega)
      refine ⟨r, ?_, ?_⟩
      · simp only [bloomeryref03_Dir.j0]
        rw [if_neg (by simp; omega), if_pos (by omega)]
        rw [show rdOf ByteArray.empty x 0 = x[0] from rd_at x 0 hpos]
        exact hr1
      · rw [hr2, ← h2]
        obtain ⟨a, y, z, rfl⟩ : ∃ a y z, x = a :: y :: z := by
          match x, hpos, h4 with
          | a :: y :: z, _, _ => exact ⟨a, y, z, rfl⟩
        simp [joinL]

/-! ### Below -/
theorem prefix_last : ∀ (d u p : List UInt8), 47 ∉ p → (d ++ [47]).isPrefixOf (u ++ 47 :: p) = (u == d || (d ++ [47]).isPrefixOf u)
  | [], [], p, _ => by simp
  | [], a :: u, p, _ => by simp [List.isPrefixOf]
  | x :: d, [], p, h => by
    have h1 : (d ++ [47]).isPrefixOf p = false := by
      rw [Bool.eq_false_iff]
      intro e
      exact h ((List.isPrefixOf_iff_prefix.1 e).subset (by simp))
    simp [List.isPrefixOf_cons_cons, h1]
  | x :: d, a :: u, p, h => by
    have ih := prefix_last d u p h
    simp only [List.cons_append, List.isPrefixOf_cons_cons, ih]
    by_cases e : x = a
    · subst e; simp
    · have e1 : (x == a) = false := by simpa using e
      have e2 : (a :: u == x :: d) = false := by simp; intro h; exact absurd h.symm e
      rw [e1, e2]; simp
theorem prefix_none {d l : List UInt8} (h : 47 ∉ l) : (d ++ [47]).isPrefixOf l = false := by
  rw [Bool.eq_false_iff]
  intro e
  exact h ((List.isPrefixOf_iff_prefix.1 e).subset (by simp))

def underL (l d : List UInt8) : Bool := PS.may l && (d.isEmpty || (d ++ [47]).isPrefixOf l)

theorem dir_parts {l : List UInt8} (h : PS.may l = true) (h1 : (PS.split l).length ≠ 1) : ∃ u p, dirL l = u ∧ l = u ++ 47 :: p ∧ 47 ∉ p ∧ PS.may u = true ∧ u ≠ [] := by
  unfold dirL
  rw [if_pos h, if_neg h1]
  have hne := PS.split_ne l
  have hm := h
  unfold PS.may at hm
  simp only [Bool.and_eq_true, decide_eq_true_eq, List.all_eq_true] at hm
  obtain ⟨L, p, hL⟩ : ∃ L p, PS.split l = L ++ [p] := ⟨_, _, (List.dropLast_concat_getLast hne).symm⟩
  have hno := split_no l
  rw [hL] at hno h1 hm ⊢
  have hLn : L ≠ [] := fun e => h1 (by simp [e])
  have hsj : PS.split (joinL L) = L := split_join L hLn (fun q hq => hno q (by simp [hq]))
  refine ⟨joinL L, p, by simp, ?_, hno p (by simp), ?_, ?_⟩
  · rw [← join_last L p hLn, ← hL, join_split]
  · unfold PS.may
    rw [hsj]
    simp only [Bool.and_eq_true, decide_eq_true_eq, List.all_eq_true]
    exact ⟨by have := hm.1; simp at this; omega, fun q hq => hm.2 q (by simp [hq])⟩
  · intro e
    rw [e] at hsj
    have h2 : PS.partOk [] = true := hm.2 [] (by rw [← hsj]; simp [PS.split])
    exact absurd h2 (by decide)

theorem under_eq (n : Nat) : ∀ (s d : ByteArray), s.size = n → s.size ≤ 8796093022207 → ∀ k, 3 * s.size + 30 < k → bloomeryref03_Under.f k s d = some (underL (bl s) (bl d)) := by
  induction n using Nat.strongRecOn with
  | _ n ih =>
  intro s d hn hs k hk
  obtain ⟨k, rfl⟩ : ∃ m, k = m + 1 := ⟨k - 1, by omega⟩
  simp only [bloomeryref03_Under.f]
  rw [may_eq s hs k (by omega), Option.bind_some, toList_bl]
  unfold underL
  cases hm : PS.may (bl s) with
  | false => simp
  | true =>
    rw [if_pos rfl, Bool.true_and]
    by_cases hd : bl d = []
    · rw [if_pos hd, hd]; rfl
    rw [if_neg hd]
    have hde : (bl d).isEmpty = false := by simpa using hd
    rw [hde, Bool.false_or]
    obtain ⟨up, h1, h2⟩ := dir_eq s hs k (by omega)
    rw [h1, Option.bind_some, toList_bl, h2]
    by_cases h3 : (PS.split (bl s)).length = 1
    · have hz : dirL (bl s) = [] := by unfold dirL; rw [if_pos hm, if_pos h3]
      rw [hz, if_pos rfl]
      have hno : 47 ∉ bl s := by
        obtain ⟨p, hp⟩ := List.length_eq_one_iff.1 h3
        have := split_no (bl s) p (by rw [hp]; simp)
        have hj := join_split (bl s)
        rw [hp] at hj
        simp [joinL] at hj
        rwa [← hj]
      rw [prefix_none hno]
    · obtain ⟨u, p, hu, hl, hp, hmu, hun⟩ := dir_parts hm h3
      rw [hu, if_neg hun]
      have hsz : up.size < s.size := by
        rw [← bl_len, ← bl_len s, h2, hu, hl]; simp
      have hr := ih up.size (by omega) up d rfl (by omega) k (by omega)
      have hpre : (bl d ++ [47]).isPrefixOf (bl s) = (u == bl d || (bl d ++ [47]).isPrefixOf u) := by
        rw [hl]; exact prefix_last _ _ _ hp
      rw [hpre]
      by_cases he : u = bl d
      · rw [if_pos he, he]; simp
      · rw [if_neg he, hr, Option.bind_some]
        have he2 : (u == bl d) = false := by simpa using he
        unfold underL
        rw [h2, hu, hmu, hde, he2]
        simp

theorem underL_under {l d : List UInt8} (hd : PS.may d = true) : underL l d = PS.under l d := by
  unfold underL PS.under
  rw [hd, Bool.true_and]

end R03
end Go.Proofs.YtcaookphoiopbaaDoor
