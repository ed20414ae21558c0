/- globs.May: which text is a pattern. -/
import Derived.Test.YtgbogkmbgedkkaaDoorGlobPart
import Derived.Lib.SplitLaws
namespace Go.Proofs.YtgbogkmbgedkkaaDoor
open Go.RowKit Go.Shelf

theorem index_stroke (s : ByteArray) : Lib.indexB s ⟨#[47]⟩ = Lib.indexByte s.data.toList 47 := by
  unfold Lib.indexB
  first | rfl | exact Lib.index_one _ _ | simp [Lib.index]
theorem split_stroke : ∀ (k : Nat) (s : ByteArray), Lib.countB s ⟨#[47]⟩ = k → (Lib.splitB ⟨#[47]⟩ 0 k s).map (fun t => t.data.toList) = PS.split s.data.toList
  | 0, s, h => by
    have hm : Lib.indexB s ⟨#[47]⟩ = -1 := by
      by_cases hi : Lib.indexB s ⟨#[47]⟩ < 0
      · have := Lib.indexByte_ge s.data.toList 47
        rw [index_stroke] at hi ⊢
        omega
      · obtain ⟨i, e⟩ := Int.eq_ofNat_of_zero_le (show 0 ≤ Lib.indexB s ⟨#[47]⟩ by omega)
        rw [Lib.countB_hit s ⟨#[47]⟩ i (Nat.le_refl _) e] at h
        omega
    rw [Lib.splitB_zero, PS.split_none (by rw [← index_stroke, hm]; decide)]
    rfl
  | k + 1, s, h => by
    by_cases hi : Lib.indexB s ⟨#[47]⟩ < 0
    · have hm : Lib.indexB s ⟨#[47]⟩ = -1 := by
        have := Lib.indexByte_ge s.data.toList 47
        rw [index_stroke] at hi ⊢
        omega
      rw [Lib.countB_miss s _ hm] at h
      omega
    · obtain ⟨i, e⟩ := Int.eq_ofNat_of_zero_le (show 0 ≤ Lib.indexB s ⟨#[47]⟩ by omega)
      have h1 := Lib.countB_hit s ⟨#[47]⟩ i (Nat.le_refl _) e
      rw [Lib.splitB_hit _ _ _ _ i e, List.map_cons, split_stroke k _ (by
        have e1 : (⟨#[47]⟩ : ByteArray).size = 1 := rfl
        rw [e1] at h1
        show Lib.countB (s.extract (i + 1) s.size) ⟨#[47]⟩ = k
        omega)]
      have h2 := PS.split_cut s (i := (i : Int)) (by rw [← index_stroke]; exact e) (by omega)
      rw [h2.2]
      have e2 : ((i : Int) + 1).toNat = i + 1 := by omega
      rw [e2]
      rfl

def encT (s : ByteArray) : List Value := [.string s]

theorem gpart1_any (s : ByteArray) (w : World) (hs : s.size ≤ 281474976710656) :
    Calls Tryd.prog 26 #[.string s] w fun e w' => e = .returned (.bool (!GS.part s.data.toList)) ∧ Below w.heap.size w w' := by
  go_enter Tryd.func26, Tryd.ntmps26
  go_wp2_with fail
  refine (gpart_any s _ hs).mono ?_
  rintro e w1 ⟨rfl, hb⟩
  go_wp2_with fail
  go_ret
  exact ⟨rfl, hb⟩

/-- The first of some texts that a predicate says yes to. -/
def findP (p : List UInt8 → Bool) : List ByteArray → Nat → Int
  | [], _ => -1
  | s :: l, k => if p s.data.toList = true then (k : Int) else findP p l (k + 1)
theorem findP_any (p : List UInt8 → Bool) : ∀ (l : List ByteArray) (k : Nat), decide (0 ≤ findP p l k) = l.any (fun s => p s.data.toList)
  | [], k => by simp [findP]
  | s :: l, k => by
    unfold findP
    rw [List.any_cons]
    cases h : p s.data.toList with
    | true =>
      rw [if_pos rfl, Bool.true_or]
      simp
    | false =>
      rw [if_neg (by simp), findP_any p l (k + 1), Bool.false_or]

/-- Texts that lie in a block of their own. -/
theorem texts_at (W : World) (ls : List ByteArray) (c : Nat) (hc : ls.length ≤ c) (T : TypeId) : Elems encT 1 (W.alloc (.cells (ls.map Value.string).toArray T)) (some ⟨W.heap.size, 0, none⟩) ls.length c ls :=
  ⟨rfl, hc, fun _ => ⟨W.heap.size, 0, rfl, by simp, fun j x hx => fun i v hv => by
    have hi : i = 0 := by
      have := (List.getElem?_eq_some_iff.1 hv).1
      simp [encT] at this
      exact this
    subst hi
    have hv' : v = .string x := by simpa [encT] using hv.symm
    subst hv'
    have := range_new W (ls.map Value.string) T j (.string x) (by rw [List.getElem?_map, hx]; rfl)
    simpa using this⟩⟩

set_option maxHeartbeats 1000000 in
theorem findPart_any (A : Option Addr) (n c : Nat) (ls : List ByteArray) (w : World) (hE : Elems encT 1 w A n c ls) (hn : n ≤ 1000000000) (hs : ∀ s ∈ ls, s.size ≤ 281474976710656) :
    Calls Tryd.prog 46 #[.slice A n c, .func (.func 26) #[] #[]] w fun e w' => e = .returned (.int .i64 (findP (fun x => !GS.part x) ls 0)) ∧ Below w.heap.size w w' := by
  go_enter Tryd.func46, Tryd.ntmps46
  go_wp2
  go_loopw [8] (fun i wr => ∃ k : Nat, k ≤ n ∧ i = .int .i64 k ∧ Below w.heap.size w wr ∧ findP (fun x => !GS.part x) ls 0 = findP (fun x => !GS.part x) (ls.drop k) k) (fun i _ => n - (intOf i).toNat)
  case atStart => exact ⟨0, by omega, rfl, Below.refl _ _, rfl⟩
  case round =>
    obtain ⟨k, hk, rfl, hbW, hsp⟩ := hrel
    by_cases hlt : k < n
    · obtain ⟨b, o, rfl, hbl, hel⟩ := hE.at_ (by omega)
      have hlen := hE.len
      obtain ⟨r, hm⟩ : ∃ r, ls[k]? = some r := ⟨ls[k], by simp⟩
      have hc0 := range_low hbW hbl (hel k r hm) 0 (.string r) rfl
      have hstep : findP (fun x => !GS.part x) (ls.drop k) k = if (!GS.part r.data.toList) = true then (k : Int) else findP (fun x => !GS.part x) (ls.drop (k + 1)) (k + 1) := by
        obtain ⟨hk', rfl⟩ := List.getElem?_eq_some_iff.1 hm
        rw [List.drop_eq_getElem_cons hk']
        rfl
      have cc := fun W => gpart1_any r W (hs r (List.mem_of_getElem? hm))
      obtain ⟨q, hq⟩ : ∃ q, (!GS.part r.data.toList) = q := ⟨_, rfl⟩
      rw [hq] at hstep cc
      rw [Nat.mul_one, Nat.add_zero] at hc0
      have HS := Lib.hid (hsp.trans hstep)
      have CC := Lib.hid cc
      clear hsp hstep cc hel hm hq hlen
      go_wp2_with fail
      refine (CC.out _).mono ?_
      rintro e w1 ⟨rfl, hb1⟩
      have H1 := Lib.hid (below_then hbW hbW.size hb1)
      clear hb1
      cases q with
      | true =>
        go_wp2_with fail
        go_ret
        exact ⟨retI (by rw [HS.out]; rfl), H1.out⟩
      | false =>
        go_wp2_with fail
        go_roundw
        case rel => exact ⟨k + 1, by omega, by go_num, H1.out, by rw [HS.out]; rfl⟩
        case measure => simp [intOf]; omega
    · obtain rfl : k = n := by omega
      have hfin : findP (fun x => !GS.part x) ls 0 = -1 := by
        rw [hsp, List.drop_of_length_le (by rw [hE.len]; omega)]
        rfl
      have HF := Lib.hid hfin
      clear hsp hfin
      go_wp2_with fail
      go_ret
      exact ⟨retI HF.out.symm, hbW⟩

theorem anyPart_any (A : Option Addr) (n c : Nat) (ls : List ByteArray) (w : World) (hE : Elems encT 1 w A n c ls) (hn : n ≤ 1000000000) (hs : ∀ s ∈ ls, s.size ≤ 281474976710656) :
    Calls Tryd.prog 25 #[.slice A n c, .func (.func 26) #[] #[]] w fun e w' => e = .returned (.bool (ls.any fun s => !GS.part s.data.toList)) ∧ Below w.heap.size w w' := by
  have hfa := findP_any (fun x => !GS.part x) ls 0
  have cc := findPart_any A n c ls w hE hn hs
  obtain ⟨i, hi⟩ : ∃ i, findP (fun x => !GS.part x) ls 0 = i := ⟨_, rfl⟩
  rw [hi] at hfa cc
  have HF := Lib.hid hfa
  have CC := Lib.hid cc
  clear hfa cc hi
  go_enter Tryd.func25, Tryd.ntmps25
  go_wp2_with fail
  refine CC.out.mono ?_
  rintro e w1 ⟨rfl, hb⟩
  go_wp2_with fail
  go_ret
  exact ⟨retB HF.out, hb⟩

theorem mem_splitB {s : ByteArray} (t : ByteArray) (ht : t ∈ Lib.splitB ⟨#[47]⟩ 0 (Lib.countB s ⟨#[47]⟩) s) : t.size ≤ s.size := by
  have h1 : t.data.toList ∈ PS.split s.data.toList := by
    rw [← split_stroke _ s rfl]
    exact List.mem_map_of_mem ht
  have h2 := PS.split_len _ _ h1
  rw [Array.length_toList, Array.length_toList] at h2
  exact h2

set_option maxHeartbeats 1000000 in
theorem gmay_any (s : ByteArray) (m : Int) (w : World) (hs : s.size ≤ 1000000) (hm : w.cell? ⟨0, 0, none⟩ = some (.int .i64 m)) :
    Calls Tryd.prog 9 #[.string s] w fun e w' => e = .returned (.bool (GS.may s.data.toList)) ∧ Below w.heap.size w w' := by
  have cs := Tryd.strings_Split s ⟨#[47]⟩ m w (by omega) hm (Nat.le_refl _)
  have hsp := split_stroke _ s rfl
  have hms := mem_splitB (s := s)
  have hlen := Lib.splitB_all ⟨#[47]⟩ (Nat.le_refl _) 0 _ s rfl
  have hcl := Lib.countB_le ⟨#[47]⟩ (Nat.le_refl _) s.size s (Nat.le_refl _)
  obtain ⟨ls, hls⟩ : ∃ ls, Lib.splitB ⟨#[47]⟩ 0 (Lib.countB s ⟨#[47]⟩) s = ls := ⟨_, rfl⟩
  rw [hls] at cs hsp hms hlen
  rw [← hlen] at cs
  have hmay : GS.may s.data.toList = (decide (ls.length ≤ 16) && !(ls.any fun s => !GS.part s.data.toList)) := by
    unfold GS.may
    rw [← hsp, List.length_map, List.all_map, ← List.all_eq_not_any_not]
    rfl
  have hE := texts_at w ls ls.length (Nat.le_refl _) 9
  have hb0 := below_box (w := w) (.cells (ls.map Value.string).toArray 9)
  have ca := fun W (h : Below (w.alloc (.cells (ls.map Value.string).toArray 9)).heap.size (w.alloc (.cells (ls.map Value.string).toArray 9)) W) => anyPart_any _ _ _ ls W (hE.below h) (by omega) (fun t ht => by have := hms t ht; omega)
  obtain ⟨R, hR⟩ : ∃ R, GS.may s.data.toList = R := ⟨_, rfl⟩
  obtain ⟨q, hq⟩ : ∃ q, (ls.any fun s => !GS.part s.data.toList) = q := ⟨_, rfl⟩
  rw [hR, hq] at hmay
  rw [hq] at ca
  rw [hR]
  obtain ⟨X, hX⟩ : ∃ X, w.alloc (.cells (ls.map Value.string).toArray 9) = X := ⟨_, rfl⟩
  rw [hX] at cs ca hb0
  obtain ⟨n, hn⟩ : ∃ n, ls.length = n := ⟨_, rfl⟩
  rw [hn] at cs ca hmay
  have CS := Lib.hid cs
  have CA := Lib.hid ca
  have HM := Lib.hid hmay
  have HB := Lib.hid hb0
  clear cs ca hmay hb0 hE hms hlen hcl hsp hX hR hq hn hls hm
  go_enter Tryd.func9, Tryd.ntmps9
  go_wp2_with fail
  refine CS.out.mono ?_
  rintro e w1 ⟨rfl, rfl⟩
  by_cases h16 : n ≤ 16
  · have h16' : (n : Int) ≤ 16 := by omega
    go_wp2_with fail
    refine (CA.out _ (Below.refl _ _)).mono ?_
    rintro e w2 ⟨rfl, hb2⟩
    have H2 := Lib.hid (below_then HB.out HB.out.size hb2)
    clear hb2
    cases q with
    | true =>
      go_wp2_with fail
      go_ret
      exact ⟨retB (by rw [HM.out]; simp), H2.out⟩
    | false =>
      go_wp2_with fail
      go_ret
      exact ⟨retB (by rw [HM.out, decide_eq_true h16]; rfl), H2.out⟩
  · have h16' : ¬ (n : Int) ≤ 16 := by omega
    go_wp2_with fail
    go_ret
    exact ⟨retB (by rw [HM.out, decide_eq_false h16]; rfl), HB.out⟩
end Go.Proofs.YtgbogkmbgedkkaaDoor
