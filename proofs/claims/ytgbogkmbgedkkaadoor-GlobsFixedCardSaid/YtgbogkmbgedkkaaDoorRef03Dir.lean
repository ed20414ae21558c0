/- The reference on paths (layer 3), plainly: a path's directory; what lies below a directory. -/
import Derived.Test.YtgbogkmbgedkkaaDoorP03b
import Derived.Test.YtgbogkmbgedkkaaDoorRef03Pure
namespace Go.Proofs.YtgbogkmbgedkkaaDoor
open Go.RowKit Go.Proofs.YtgbogkmbgedkkaaDoorW.PrintWords Go.Proofs.YtgbogkmbgedkkaaDoorW.PrintLast Go.Proofs.YtgbogkmbgedkkaaDoorW.PrintMore
namespace R03
open P

/-! ### A directory -/
/-- Parts, a stroke between each two. -/
def joinL : List (List UInt8) → List UInt8
  | [] => []
  | p :: ps => p ++ ps.flatMap (fun q => 47 :: q)
def dirL (l : List UInt8) : List UInt8 := if PS.may l = true then (if (PS.split l).length = 1 then [] else joinL (PS.split l).dropLast) else []

theorem split_app : ∀ (p t : List UInt8), 47 ∉ p → PS.split (p ++ 47 :: t) = p :: PS.split t
  | [], t, _ => by rw [List.nil_append, PS.split, if_pos rfl]
  | c :: p, t, h => by
    have hc : c ≠ 47 := fun e => h (by simp [e])
    rw [List.cons_append, PS.split, if_neg hc, split_app p t (fun e => h (by simp [e]))]
theorem split_one : ∀ (p : List UInt8), 47 ∉ p → PS.split p = [p]
  | [], _ => rfl
  | c :: p, h => by
    have hc : c ≠ 47 := fun e => h (by simp [e])
    rw [PS.split, if_neg hc, split_one p (fun e => h (by simp [e]))]
theorem split_no : ∀ (l : List UInt8), ∀ p ∈ PS.split l, 47 ∉ p
  | [], p, h => by simp [PS.split] at h; subst h; simp
  | c :: r, p, h => by
    have ih := split_no r
    unfold PS.split at h
    split at h
    · rcases List.mem_cons.1 h with rfl | h
      · simp
      · exact ih p h
    · rename_i hc
      split at h
      · rename_i e; exact absurd e (PS.split_ne r)
      · rename_i q qs e
        rw [e] at ih
        rcases List.mem_cons.1 h with rfl | h
        · intro hm
          rcases List.mem_cons.1 hm with hm | hm
          · exact hc hm.symm
          · exact ih q (by simp) hm
        · exact ih p (by simp [h])
theorem join_cons (p q : List UInt8) (ps : List (List UInt8)) : joinL (p :: q :: ps) = p ++ 47 :: joinL (q :: ps) := by simp [joinL]
theorem split_join : ∀ (L : List (List UInt8)), L ≠ [] → (∀ p ∈ L, 47 ∉ p) → PS.split (joinL L) = L
  | [], h, _ => absurd rfl h
  | [p], _, h => by simp [joinL]; exact split_one p (h p (by simp))
  | p :: q :: ps, _, h => by
    rw [join_cons, split_app p _ (h p (by simp)), split_join (q :: ps) (by simp) (fun x hx => h x (by simp [hx]))]
theorem join_split : ∀ (l : List UInt8), joinL (PS.split l) = l
  | [] => rfl
  | c :: r => by
    have ih := join_split r
    unfold PS.split
    split
    · rename_i hc
      cases e : PS.split r with
      | nil => exact absurd e (PS.split_ne r)
      | cons p ps => rw [join_cons, ← e, ih, hc]; rfl
    · split
      · rename_i e; exact absurd e (PS.split_ne r)
      · rename_i p ps e
        rw [e] at ih
        rw [← ih]
        simp [joinL]
theorem join_last (L : List (List UInt8)) (p : List UInt8) (h : L ≠ []) : joinL (L ++ [p]) = joinL L ++ 47 :: p := by
  cases L with
  | nil => exact absurd rfl h
  | cons q L => simp [joinL]

theorem dir_from (x : List ByteArray) (hl : x.length ≤ 16) (hx : ∀ y ∈ x, y.size ≤ 64) (d : Nat) : ∀ (k i : Nat) (acc : ByteArray), 1 ≤ i → i + 1 ≤ x.length → x.length - 1 - i = d → d < k → acc.size ≤ i * 65 →
    ∃ r, bloomeryref03_Dir.l0 k x acc (i : Int) = some r ∧ bl r = bl acc ++ (((x.map bl).dropLast).drop i).flatMap (fun q => 47 :: q) := by
  induction d with
  | zero =>
    intro k i acc h1 hi hd hk _
    obtain ⟨k, rfl⟩ : ∃ m, k = m + 1 := ⟨k - 1, by omega⟩
    have hw : wrap64 ((x.length : Int) - 1) = (x.length : Int) - 1 := by unfold wrap64; omega
    refine ⟨acc, by simp only [bloomeryref03_Dir.l0]; rw [hw, if_neg (by omega)], ?_⟩
    rw [List.drop_eq_nil_of_le (by simp; omega)]
    simp
  | succ d ih =>
    intro k i acc h1 hi hd hk ha
    obtain ⟨k, rfl⟩ : ∃ m, k = m + 1 := ⟨k - 1, by omega⟩
    have hw : wrap64 ((x.length : Int) - 1) = (x.length : Int) - 1 := by unfold wrap64; omega
    have hw2 : wrap64 ((i : Int) + 1) = ((i + 1 : Nat) : Int) := by unfold wrap64; omega
    have hlt : i < x.length := by omega
    have hm := hx x[i] (List.getElem_mem hlt)
    have h47 : (acc ++ (⟨#[47]⟩ : ByteArray)).size = acc.size + 1 := by rw [ByteArray.size_append]; rfl
    simp only [bloomeryref03_Dir.l0]
    rw [hw, if_pos (by omega), if_pos (by omega), if_pos (by omega), if_pos (by omega), rd_at x i hlt, if_pos (by rw [h47]; omega), hw2]
    obtain ⟨r, hr1, hr2⟩ := ih k (i + 1) (acc ++ (⟨#[47]⟩ : ByteArray) ++ x[i]) (by omega) (by omega) (by omega) (by omega) (by rw [ByteArray.size_append, h47]; omega)
    refine ⟨r, hr1, ?_⟩
    rw [hr2, bl_append, bl_append]
    have hlt2 : i < ((x.map bl).dropLast).length := by simp; omega
    rw [List.drop_eq_getElem_cons hlt2, List.flatMap_cons]
    have e : ((x.map bl).dropLast)[i] = bl x[i] := by simp
    rw [e]
    simp [bl]

theorem dir_eq (s : ByteArray) (hs : s.size ≤ 8796093022207) (k : Nat) (hk : 2 * s.size + 20 < k) : ∃ r, bloomeryref03_Dir.f k s = some r ∧ bl r = dirL (bl s) := by
  obtain ⟨x, h1, h2⟩ := parts_eq s hs k (by omega)
  have h3 := may_eq s hs k (by omega)
  obtain ⟨k, rfl⟩ : ∃ m, k = m + 1 := ⟨k - 1, by omega⟩
  unfold bloomeryref03_Dir.f dirL
  rw [h1, Option.bind_some, h3, Option.bind_some]
  cases hm : PS.may (bl s) with
  | false => exact ⟨⟨#[]⟩, by simp [bloomeryref03_Dir.j0], by simp [bl_empty]⟩
  | true =>
    have hm2 := hm
    unfold PS.may at hm2
    simp only [Bool.and_eq_true, decide_eq_true_eq, List.all_eq_true] at hm2
    rw [if_pos rfl, if_pos rfl]
    have hlen : (PS.split (bl s)).length = x.length := by rw [← h2, List.length_map]
    by_cases h4 : x.length = 1
    · rw [if_pos (by omega)]
      refine ⟨⟨#[]⟩, ?_, bl_empty⟩
      rw [h4]
      rfl
    · rw [if_neg (by omega)]
      have hne : x ≠ [] := fun e => PS.split_ne (bl s) (by rw [← h2, e]; rfl)
      have hpos : 0 < x.length := List.length_pos_iff.2 hne
      have hsz : ∀ y ∈ x, y.size ≤ 64 := fun y hy => by
        rw [← bl_len]
        exact PS.part_len (hm2.2 _ (by rw [← h2]; exact List.mem_map_of_mem hy))
      obtain ⟨r, hr1, hr2⟩ := dir_from x (by omega) hsz (x.length - 1 - 1) k 1 x[0] (Nat.le_refl _) (by omega) rfl (by omega) (by have := hsz x[0] (List.getElem_mem hpos); omega)
      refine ⟨r, ?_, ?_⟩
      · simp only [bloomeryref03_Dir.j0]
        rw [if_neg (by simp; omega), if_pos (by omega)]
        rw [show rdOf ByteArray.empty x 0 = x[0] from rd_at x 0 hpos]
        exact hr1
      · rw [hr2, ← h2]
        obtain ⟨a, y, z, rfl⟩ : ∃ a y z, x = a :: y :: z := by
          match x, hpos, h4 with
          | a :: y :: z, _, _ => exact ⟨a, y, z, rfl⟩
        simp [joinL]

/-! ### Below -/
theorem prefix_last : ∀ (d u p : List UInt8), 47 ∉ p → (d ++ [47]).isPrefixOf (u ++ 47 :: p) = (u == d || (d ++ [47]).isPrefixOf u)
  | [], [], p, _ => by simp
  | [], a :: u, p, _ => by simp [List.isPrefixOf]
  | x :: d, [], p, h => by
    have h1 : (d ++ [47]).isPrefixOf p = false := by
      rw [Bool.eq_false_iff]
      intro e
      exact h ((List.isPrefixOf_iff_prefix.1 e).subset (by simp))
    simp [List.isPrefixOf_cons_cons, h1]
  | x :: d, a :: u, p, h => by
    have ih := prefix_last d u p h
    simp only [List.cons_append, List.isPrefixOf_cons_cons, ih]
    by_cases e : x = a
    · subst e; simp
    · have e1 : (x == a) = false := by simpa using e
      have e2 : (a :: u == x :: d) = false := by simp; intro h; exact absurd h.symm e
      rw [e1, e2]; simp
theorem prefix_none {d l : List UInt8} (h : 47 ∉ l) : (d ++ [47]).isPrefixOf l = false := by
  rw [Bool.eq_false_iff]
  intro e
  exact h ((List.isPrefixOf_iff_prefix.1 e).subset (by simp))

def underL (l d : List UInt8) : Bool := PS.may l && (d.isEmpty || (d ++ [47]).isPrefixOf l)

theorem dir_parts {l : List UInt8} (h : PS.may l = true) (h1 : (PS.split l).length ≠ 1) : ∃ u p, dirL l = u ∧ l = u ++ 47 :: p ∧ 47 ∉ p ∧ PS.may u = true ∧ u ≠ [] := by
  unfold dirL
  rw [if_pos h, if_neg h1]
  have hne := PS.split_ne l
  have hm := h
  unfold PS.may at hm
  simp only [Bool.and_eq_true, decide_eq_true_eq, List.all_eq_true] at hm
  obtain ⟨L, p, hL⟩ : ∃ L p, PS.split l = L ++ [p] := ⟨_, _, (List.dropLast_concat_getLast hne).symm⟩
  have hno := split_no l
  rw [hL] at hno h1 hm ⊢
  have hLn : L ≠ [] := fun e => h1 (by simp [e])
  have hsj : PS.split (joinL L) = L := split_join L hLn (fun q hq => hno q (by simp [hq]))
  refine ⟨joinL L, p, by simp, ?_, hno p (by simp), ?_, ?_⟩
  · rw [← join_last L p hLn, ← hL, join_split]
  · unfold PS.may
    rw [hsj]
    simp only [Bool.and_eq_true, decide_eq_true_eq, List.all_eq_true]
    exact ⟨by have := hm.1; simp at this; omega, fun q hq => hm.2 q (by simp [hq])⟩
  · intro e
    rw [e] at hsj
    have h2 : PS.partOk [] = true := hm.2 [] (by rw [← hsj]; simp [PS.split])
    exact absurd h2 (by decide)

theorem under_eq (n : Nat) : ∀ (s d : ByteArray), s.size = n → s.size ≤ 8796093022207 → ∀ k, 3 * s.size + 30 < k → bloomeryref03_Under.f k s d = some (underL (bl s) (bl d)) := by
  induction n using Nat.strongRecOn with
  | _ n ih =>
  intro s d hn hs k hk
  obtain ⟨k, rfl⟩ : ∃ m, k = m + 1 := ⟨k - 1, by omega⟩
  simp only [bloomeryref03_Under.f]
  rw [may_eq s hs k (by omega), Option.bind_some, toList_bl]
  unfold underL
  cases hm : PS.may (bl s) with
  | false => simp
  | true =>
    rw [if_pos rfl, Bool.true_and]
    by_cases hd : bl d = []
    · rw [if_pos hd, hd]; rfl
    rw [if_neg hd]
    have hde : (bl d).isEmpty = false := by simpa using hd
    rw [hde, Bool.false_or]
    obtain ⟨up, h1, h2⟩ := dir_eq s hs k (by omega)
    rw [h1, Option.bind_some, toList_bl, h2]
    by_cases h3 : (PS.split (bl s)).length = 1
    · have hz : dirL (bl s) = [] := by unfold dirL; rw [if_pos hm, if_pos h3]
      rw [hz, if_pos rfl]
      have hno : 47 ∉ bl s := by
        obtain ⟨p, hp⟩ := List.length_eq_one_iff.1 h3
        have := split_no (bl s) p (by rw [hp]; simp)
        have hj := join_split (bl s)
        rw [hp] at hj
        simp [joinL] at hj
        rwa [← hj]
      rw [prefix_none hno]
    · obtain ⟨u, p, hu, hl, hp, hmu, hun⟩ := dir_parts hm h3
      rw [hu, if_neg hun]
      have hsz : up.size < s.size := by
        rw [← bl_len, ← bl_len s, h2, hu, hl]; simp
      have hr := ih up.size (by omega) up d rfl (by omega) k (by omega)
      have hpre : (bl d ++ [47]).isPrefixOf (bl s) = (u == bl d || (bl d ++ [47]).isPrefixOf u) := by
        rw [hl]; exact prefix_last _ _ _ hp
      rw [hpre]
      by_cases he : u = bl d
      · rw [if_pos he, he]; simp
      · rw [if_neg he, hr, Option.bind_some]
        have he2 : (u == bl d) = false := by simpa using he
        unfold underL
        rw [h2, hu, hmu, hde, he2]
        simp

theorem underL_under {l d : List UInt8} (hd : PS.may d = true) : underL l d = PS.under l d := by
  unfold underL PS.under
  rw [hd, Bool.true_and]

end R03
end Go.Proofs.YtgbogkmbgedkkaaDoor
