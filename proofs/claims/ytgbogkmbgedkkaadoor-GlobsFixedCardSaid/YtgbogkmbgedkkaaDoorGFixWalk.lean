/- The law GlobsFixed, walked: it says yes of any three texts. -/
import Derived.Test.YtgbogkmbgedkkaaDoorGlobRef
import Derived.Test.YtgbogkmbgedkkaaDoorGFixPure
import Derived.Test.YtgbogkmbgedkkaaDoorBelowWalk
namespace Go.Proofs.YtgbogkmbgedkkaaDoor
open Go.RowKit

theorem last_of (u t : List UInt8) (ht : 47 ∉ t) : GS.lastPart (u ++ 47 :: t) = t := by
  unfold GS.lastPart
  have h : PS.split (u ++ 47 :: t) = PS.split u ++ [t] := by rw [GS.split_mid, R03.split_one t ht]
  simp [h]
theorem last_one (t : List UInt8) (ht : 47 ∉ t) : GS.lastPart t = t := by
  unfold GS.lastPart
  simp [R03.split_one t ht]
theorem last_cut (s : ByteArray) : -1 ≤ Lib.lastIndexByte s 47 ∧ Lib.lastIndexByte s 47 < s.size ∧ s.data.toList.drop (Lib.lastIndexByte s 47 + 1).toNat = GS.lastPart s.data.toList := by
  have hlen : s.data.toList.length = s.size := Array.length_toList
  have hget : ∀ j, j < s.size → s.data[j]! = s.data.toList[j]! := fun j h => by
    rw [getElem!_pos s.data j h, getElem!_pos s.data.toList j (by rw [hlen]; exact h)]
    rfl
  rcases Lib.lastIndexByte_spec s 47 with ⟨h, hn⟩ | ⟨i, hi, h, hc, hn⟩
  · rw [h]
    refine ⟨by omega, by omega, ?_⟩
    rw [last_one]
    · simp
    · intro hm
      obtain ⟨j, hj, e⟩ := List.mem_iff_getElem.1 hm
      have := hn j (by omega)
      rw [hget j (by omega), getElem!_pos s.data.toList j hj, e] at this
      exact this rfl
  · rw [h]
    refine ⟨by omega, by omega, ?_⟩
    have e : s.data.toList = s.data.toList.take i ++ 47 :: s.data.toList.drop (i + 1) := by
      have h1 : s.data.toList[i]'(by omega) = 47 := by
        rw [hget i hi, getElem!_pos s.data.toList i (by omega)] at hc
        exact UInt8.toNat_inj.1 (by have : (UInt8.toNat 47 : Int) = 47 := rfl; omega)
      rw [← h1, ← List.drop_eq_getElem_cons, List.take_append_drop]
    conv => rhs; rw [e]
    rw [last_of]
    · congr 1
    · intro hm
      obtain ⟨j, hj, e⟩ := List.mem_iff_getElem.1 hm
      rw [List.length_drop] at hj
      have := hn (i + 1 + j) (by omega) (by omega)
      rw [List.getElem_drop] at e
      rw [hget _ (by omega), getElem!_pos s.data.toList (i + 1 + j) (by omega), e] at this
      exact this rfl
theorem glast_any (s : ByteArray) (w : World) (hs : s.size ≤ 1000000) :
    Calls Tryd.prog 20 #[.string s] w fun e w' => (∃ r, e = .returned (.string r) ∧ r.data.toList = GS.lastPart s.data.toList) ∧ Below w.heap.size w w' := by
  have hc := fun W => Tryd.strings_LastIndexByte s 47 (by omega) W
  obtain ⟨h1, h2, h3⟩ := last_cut s
  obtain ⟨q, hq⟩ : ∃ q, Lib.lastIndexByte s 47 = q := ⟨_, rfl⟩
  rw [hq] at hc h1 h2 h3
  have HC := Lib.hid hc
  have H3 := Lib.hid h3
  clear hc hq h3
  go_enter Tryd.func20, Tryd.ntmps20
  go_wp2_with (go_at_call 39; refine (HC.out _).mono ?_; rintro e w1 ⟨rfl, rfl⟩)
  go_ret
  exact ⟨⟨_, rfl, by rw [← H3.out, ByteArray.data_extract, Array.toList_extract, List.extract_eq_take_drop, List.take_of_length_le (by rw [List.length_drop]; exact Nat.le_of_eq rfl)]⟩, Below.refl _ _⟩
theorem pre_is (s r : List UInt8) : Lib.hasPrefix s r = r.isPrefixOf s := rfl

set_option maxHeartbeats 8000000 in
set_option maxRecDepth 100000 in
theorem gfixed_law (p s o : ByteArray) (m : Int) (w : World) (hp : p.size ≤ 9223372036854775807) (hs : s.size ≤ 9223372036854775807) (ho : o.size ≤ 9223372036854775807) (hm : w.cell? ⟨0, 0, none⟩ = some (.int .i64 m)) :
    Calls Tryd.prog 5 #[.string p, .string s, .string o] w fun e w' => e = .returned (.bool true) ∧ Below w.heap.size w w' := by
  have ca := galive_any m w hm
  have CA := Lib.hid ca
  clear ca
  by_cases h1 : 500 < p.size
  · clear hm
    go_enter Tryd.func5, Tryd.ntmps5
    go_wp2_with (first | (go_at_call 8; refine CA.out.mono ?_; rintro e w1 ⟨rfl, hb⟩; have HB := Lib.hid hb; clear hb CA))
    go_ret
    exact ⟨rfl, HB.out⟩
  by_cases h2 : 500 < s.size
  · clear hm
    go_enter Tryd.func5, Tryd.ntmps5
    go_wp2_with (first | (go_at_call 8; refine CA.out.mono ?_; rintro e w1 ⟨rfl, hb⟩; have HB := Lib.hid hb; clear hb CA))
    go_ret
    exact ⟨rfl, HB.out⟩
  by_cases h3 : 500 < o.size
  · clear hm
    go_enter Tryd.func5, Tryd.ntmps5
    go_wp2_with (first | (go_at_call 8; refine CA.out.mono ?_; rintro e w1 ⟨rfl, hb⟩; have HB := Lib.hid hb; clear hb CA))
    go_ret
    exact ⟨rfl, HB.out⟩
  have D0 := Lib.hid (fun W (h : Below w.heap.size w W) => match_any p s m W (by omega) (by omega) (cell_below h hm))
  have D9 := D0
  have E1 := Lib.hid (fun W => refMay_any s W (by omega))
  have E2 := Lib.hid (fun W (h : Below w.heap.size w W) => fixed_any p m W (by omega) (cell_below h hm))
  have D1 := Lib.hid (fun W (h : Below w.heap.size w W) => gmay_any s m W (by omega) (cell_below h hm))
  have D2 := Lib.hid (fun W (h : Below w.heap.size w W) => match_any s s m W (by omega) (by omega) (cell_below h hm))
  have D3 := Lib.hid (fun W (h : Below w.heap.size w W) => match_any s o m W (by omega) (by omega) (cell_below h hm))
  have D4 := Lib.hid (fun W (h : Below w.heap.size w W) => fixed_any s m W (by omega) (cell_below h hm))
  have D5 := Lib.hid (fun W (h : Below w.heap.size w W) => match_any ⟨#[42, 42]⟩ s m W (by decide) (by omega) (cell_below h hm))
  have D6 := Lib.hid (fun W => glast_any s W (by omega))
  have lsz : (GS.lastPart s.data.toList).length ≤ s.size := by
    have := PS.split_len s.data.toList _ (GS.last_mem s.data.toList)
    simpa using this
  obtain ⟨t, ht⟩ : ∃ t : ByteArray, t.data.toList = GS.lastPart s.data.toList := ⟨⟨(GS.lastPart s.data.toList).toArray⟩, rfl⟩
  have tsz : t.size ≤ s.size := by
    have : t.size = t.data.toList.length := Array.length_toList.symm
    rw [this, ht]; exact lsz
  have D7 := Lib.hid (fun W (h : Below w.heap.size w W) => match_any ((⟨#[42, 42, 47]⟩ : ByteArray) ++ t) s m W (by rw [ByteArray.size_append]; show 3 + t.size ≤ _; omega) (by omega) (cell_below h hm))
  have D8 := Lib.hid (fun W => Tryd.strings_Count_one s 47 W)
  have LT := Lib.hid ht
  have t5 : t.size ≤ 500 := by omega
  clear ht lsz tsz hm
  obtain ⟨a, ha⟩ : ∃ a, GS.matches_ p.data.toList s.data.toList = a := ⟨_, rfl⟩
  obtain ⟨b, hb0⟩ : ∃ b, PS.may s.data.toList = b := ⟨_, rfl⟩
  rw [ha] at D0 D9
  rw [hb0] at E1
  cases b with
  | false =>
    rw [GS.match_may hb0] at ha
    subst ha
    clear hb0 D1 D2 D3 D4 D5 D6 D7 D8 LT E2
    go_enter Tryd.func5, Tryd.ntmps5
    go_wp2_with (first | (go_at_call 8; refine CA.out.mono ?_; rintro e w1 ⟨rfl, hb⟩; have HB := Lib.hid hb; clear hb CA) | (go_at_call 11; (with_reducible refine (D0.out _ HB.out).mono ?_); rintro e w1 ⟨rfl, hb⟩; have HN := Lib.hid (below_then HB.out HB.out.size hb); clear HB hb; have HB := HN; clear HN; clear D0) | (go_at_call 15; (with_reducible refine (E1.out _).mono ?_); rintro e w1 ⟨rfl, hb⟩; have HN := Lib.hid (below_then HB.out HB.out.size hb); clear HB hb; have HB := HN; clear HN; clear E1) | (go_at_call 11; (with_reducible refine (D9.out _ HB.out).mono ?_); rintro e w1 ⟨rfl, hb⟩; have HN := Lib.hid (below_then HB.out HB.out.size hb); clear HB hb; have HB := HN; clear HN; clear D9))
    go_ret
    exact ⟨rfl, HB.out⟩
  | true =>
    have hn := count_parts s.data.toList
    have hn2 := GS.strokes hb0
    have FS := Lib.hid (show s.data.toList = GS.fixed s.data.toList from (GS.fixed_self hb0).symm)
    rw [GS.may_path hb0] at D1
    rw [GS.match_self hb0, beq_self_eq_true] at D2
    rw [GS.match_self hb0] at D3
    rw [show GS.matches_ (⟨#[42, 42]⟩ : ByteArray).data.toList s.data.toList = true from GS.match_all hb0] at D5
    rw [show GS.matches_ ((⟨#[42, 42, 47]⟩ : ByteArray) ++ t).data.toList s.data.toList = true by rw [ByteArray.data_append, Array.toList_append, LT.out]; exact GS.match_last hb0] at D7
    obtain ⟨n, hn3⟩ : ∃ n, Lib.countByte s.data.toList 47 = n := ⟨_, rfl⟩
    rw [hn3] at D8 hn
    have hn4 : n < 16 := by omega
    have hn5 : decide ((n : Int) < 16) = true := by simp; omega
    clear hn hn2 hn3 hb0
    cases a with
    | false =>
      clear ha E2 D9
      rcases Classical.em (s = o) with he | he
      rotate_left
      · have hq0 : (s.data.toList == o.data.toList) = false := by
          rw [beq_eq_false_iff_ne]
          exact fun h => he (ByteArray.ext (Array.ext' h))
        have hq : (s.toList == o.toList) = false := by
          rw [ByteArray.toList_eq, ByteArray.toList_eq]
          exact hq0
        rw [hq0] at D3
        clear hq0 he
        go_enter Tryd.func5, Tryd.ntmps5
        go_wp2_with (first | (go_at_call 8; refine CA.out.mono ?_; rintro e w1 ⟨rfl, hb⟩; have HB := Lib.hid hb; clear hb CA) | (go_at_call 11; (with_reducible refine (D0.out _ HB.out).mono ?_); rintro e w1 ⟨rfl, hb⟩; have HN := Lib.hid (below_then HB.out HB.out.size hb); clear HB hb; have HB := HN; clear HN; clear D0) | (go_at_call 15; (with_reducible refine (E1.out _).mono ?_); rintro e w1 ⟨rfl, hb⟩; have HN := Lib.hid (below_then HB.out HB.out.size hb); clear HB hb; have HB := HN; clear HN; clear E1) | (go_at_call 9; (with_reducible refine (D1.out _ HB.out).mono ?_); rintro e w1 ⟨rfl, hb⟩; have HN := Lib.hid (below_then HB.out HB.out.size hb); clear HB hb; have HB := HN; clear HN; clear D1) | (go_at_call 11; (with_reducible refine (D2.out _ HB.out).mono ?_); rintro e w1 ⟨rfl, hb⟩; have HN := Lib.hid (below_then HB.out HB.out.size hb); clear HB hb; have HB := HN; clear HN; clear D2) | (go_at_call 11; (with_reducible refine (D3.out _ HB.out).mono ?_); rintro e w1 ⟨rfl, hb⟩; have HN := Lib.hid (below_then HB.out HB.out.size hb); clear HB hb; have HB := HN; clear HN; clear D3) | (go_at_call 13; (with_reducible refine (D4.out _ HB.out).mono ?_); rintro e w1 ⟨⟨r1, rfl, hr⟩, hb⟩; have HN := Lib.hid (below_then HB.out HB.out.size hb); clear HB hb; have HB := HN; clear HN; obtain rfl := same_text hr FS.out; clear hr; clear D4) | (go_at_call 11; (with_reducible refine (D5.out _ HB.out).mono ?_); rintro e w1 ⟨rfl, hb⟩; have HN := Lib.hid (below_then HB.out HB.out.size hb); clear HB hb; have HB := HN; clear HN; clear D5) | (go_at_call 20; (with_reducible refine (D6.out _).mono ?_); rintro e w1 ⟨⟨t, rfl, ht⟩, hb⟩; have HN := Lib.hid (below_then HB.out HB.out.size hb); clear HB hb; have HB := HN; clear HN; obtain rfl := same_text ht LT.out; clear ht; clear D6) | (go_at_call 11; (with_reducible refine (D7.out _ HB.out).mono ?_); rintro e w1 ⟨rfl, hb⟩; have HN := Lib.hid (below_then HB.out HB.out.size hb); clear HB hb; have HB := HN; clear HN; clear D7) | (go_at_call 16; (with_reducible refine (D8.out _).mono ?_); rintro e w1 ⟨rfl, rfl⟩; clear D8))
        go_ret
        exact ⟨rfl, HB.out⟩
      · subst he
        rw [beq_self_eq_true] at D3
        go_enter Tryd.func5, Tryd.ntmps5
        go_wp2_with (first | (go_at_call 8; refine CA.out.mono ?_; rintro e w1 ⟨rfl, hb⟩; have HB := Lib.hid hb; clear hb CA) | (go_at_call 11; (with_reducible refine (D0.out _ HB.out).mono ?_); rintro e w1 ⟨rfl, hb⟩; have HN := Lib.hid (below_then HB.out HB.out.size hb); clear HB hb; have HB := HN; clear HN; clear D0) | (go_at_call 15; (with_reducible refine (E1.out _).mono ?_); rintro e w1 ⟨rfl, hb⟩; have HN := Lib.hid (below_then HB.out HB.out.size hb); clear HB hb; have HB := HN; clear HN; clear E1) | (go_at_call 9; (with_reducible refine (D1.out _ HB.out).mono ?_); rintro e w1 ⟨rfl, hb⟩; have HN := Lib.hid (below_then HB.out HB.out.size hb); clear HB hb; have HB := HN; clear HN; clear D1) | (go_at_call 11; (with_reducible refine (D2.out _ HB.out).mono ?_); rintro e w1 ⟨rfl, hb⟩; have HN := Lib.hid (below_then HB.out HB.out.size hb); clear HB hb; have HB := HN; clear HN; clear D2) | (go_at_call 11; (with_reducible refine (D3.out _ HB.out).mono ?_); rintro e w1 ⟨rfl, hb⟩; have HN := Lib.hid (below_then HB.out HB.out.size hb); clear HB hb; have HB := HN; clear HN; clear D3) | (go_at_call 13; (with_reducible refine (D4.out _ HB.out).mono ?_); rintro e w1 ⟨⟨r1, rfl, hr⟩, hb⟩; have HN := Lib.hid (below_then HB.out HB.out.size hb); clear HB hb; have HB := HN; clear HN; obtain rfl := same_text hr FS.out; clear hr; clear D4) | (go_at_call 11; (with_reducible refine (D5.out _ HB.out).mono ?_); rintro e w1 ⟨rfl, hb⟩; have HN := Lib.hid (below_then HB.out HB.out.size hb); clear HB hb; have HB := HN; clear HN; clear D5) | (go_at_call 20; (with_reducible refine (D6.out _).mono ?_); rintro e w1 ⟨⟨t, rfl, ht⟩, hb⟩; have HN := Lib.hid (below_then HB.out HB.out.size hb); clear HB hb; have HB := HN; clear HN; obtain rfl := same_text ht LT.out; clear ht; clear D6) | (go_at_call 11; (with_reducible refine (D7.out _ HB.out).mono ?_); rintro e w1 ⟨rfl, hb⟩; have HN := Lib.hid (below_then HB.out HB.out.size hb); clear HB hb; have HB := HN; clear HN; clear D7) | (go_at_call 16; (with_reducible refine (D8.out _).mono ?_); rintro e w1 ⟨rfl, rfl⟩; clear D8))
        go_ret
        exact ⟨rfl, HB.out⟩
    | true =>
      have PR := Lib.hid (GS.match_head ha)
      have E3 := Lib.hid (fun (r : ByteArray) (h : r.data.toList = GS.fixed p.data.toList) W => (show Calls Tryd.prog 19 #[.string s, .string r] W fun e w' => e = .returned (.bool true) ∧ w' = W from by
        have := Tryd.strings_HasPrefix s r W
        rwa [h, pre_is, PR.out] at this))
      clear ha D9 PR
      rcases Classical.em (s = o) with he | he
      rotate_left
      · have hq0 : (s.data.toList == o.data.toList) = false := by
          rw [beq_eq_false_iff_ne]
          exact fun h => he (ByteArray.ext (Array.ext' h))
        have hq : (s.toList == o.toList) = false := by
          rw [ByteArray.toList_eq, ByteArray.toList_eq]
          exact hq0
        rw [hq0] at D3
        clear hq0 he
        go_enter Tryd.func5, Tryd.ntmps5
        go_wp2_with (first | (go_at_call 8; refine CA.out.mono ?_; rintro e w1 ⟨rfl, hb⟩; have HB := Lib.hid hb; clear hb CA) | (go_at_call 11; (with_reducible refine (D0.out _ HB.out).mono ?_); rintro e w1 ⟨rfl, hb⟩; have HN := Lib.hid (below_then HB.out HB.out.size hb); clear HB hb; have HB := HN; clear HN; clear D0) | (go_at_call 13; (with_reducible refine (E2.out _ HB.out).mono ?_); rintro e w1 ⟨⟨r0, rfl, hr0⟩, hb⟩; have HN := Lib.hid (below_then HB.out HB.out.size hb); clear HB hb; have HB := HN; clear HN; have HR := Lib.hid hr0; clear hr0; clear E2) | (go_at_call 19; refine (E3.out _ HR.out _).mono ?_; rintro e w1 ⟨rfl, rfl⟩; clear E3 HR) | (go_at_call 15; (with_reducible refine (E1.out _).mono ?_); rintro e w1 ⟨rfl, hb⟩; have HN := Lib.hid (below_then HB.out HB.out.size hb); clear HB hb; have HB := HN; clear HN; clear E1) | (go_at_call 9; (with_reducible refine (D1.out _ HB.out).mono ?_); rintro e w1 ⟨rfl, hb⟩; have HN := Lib.hid (below_then HB.out HB.out.size hb); clear HB hb; have HB := HN; clear HN; clear D1) | (go_at_call 11; (with_reducible refine (D2.out _ HB.out).mono ?_); rintro e w1 ⟨rfl, hb⟩; have HN := Lib.hid (below_then HB.out HB.out.size hb); clear HB hb; have HB := HN; clear HN; clear D2) | (go_at_call 11; (with_reducible refine (D3.out _ HB.out).mono ?_); rintro e w1 ⟨rfl, hb⟩; have HN := Lib.hid (below_then HB.out HB.out.size hb); clear HB hb; have HB := HN; clear HN; clear D3) | (go_at_call 13; (with_reducible refine (D4.out _ HB.out).mono ?_); rintro e w1 ⟨⟨r1, rfl, hr⟩, hb⟩; have HN := Lib.hid (below_then HB.out HB.out.size hb); clear HB hb; have HB := HN; clear HN; obtain rfl := same_text hr FS.out; clear hr; clear D4) | (go_at_call 11; (with_reducible refine (D5.out _ HB.out).mono ?_); rintro e w1 ⟨rfl, hb⟩; have HN := Lib.hid (below_then HB.out HB.out.size hb); clear HB hb; have HB := HN; clear HN; clear D5) | (go_at_call 20; (with_reducible refine (D6.out _).mono ?_); rintro e w1 ⟨⟨t, rfl, ht⟩, hb⟩; have HN := Lib.hid (below_then HB.out HB.out.size hb); clear HB hb; have HB := HN; clear HN; obtain rfl := same_text ht LT.out; clear ht; clear D6) | (go_at_call 11; (with_reducible refine (D7.out _ HB.out).mono ?_); rintro e w1 ⟨rfl, hb⟩; have HN := Lib.hid (below_then HB.out HB.out.size hb); clear HB hb; have HB := HN; clear HN; clear D7) | (go_at_call 16; (with_reducible refine (D8.out _).mono ?_); rintro e w1 ⟨rfl, rfl⟩; clear D8))
        go_ret
        exact ⟨rfl, HB.out⟩
      · subst he
        rw [beq_self_eq_true] at D3
        go_enter Tryd.func5, Tryd.ntmps5
        go_wp2_with (first | (go_at_call 8; refine CA.out.mono ?_; rintro e w1 ⟨rfl, hb⟩; have HB := Lib.hid hb; clear hb CA) | (go_at_call 11; (with_reducible refine (D0.out _ HB.out).mono ?_); rintro e w1 ⟨rfl, hb⟩; have HN := Lib.hid (below_then HB.out HB.out.size hb); clear HB hb; have HB := HN; clear HN; clear D0) | (go_at_call 13; (with_reducible refine (E2.out _ HB.out).mono ?_); rintro e w1 ⟨⟨r0, rfl, hr0⟩, hb⟩; have HN := Lib.hid (below_then HB.out HB.out.size hb); clear HB hb; have HB := HN; clear HN; have HR := Lib.hid hr0; clear hr0; clear E2) | (go_at_call 19; refine (E3.out _ HR.out _).mono ?_; rintro e w1 ⟨rfl, rfl⟩; clear E3 HR) | (go_at_call 15; (with_reducible refine (E1.out _).mono ?_); rintro e w1 ⟨rfl, hb⟩; have HN := Lib.hid (below_then HB.out HB.out.size hb); clear HB hb; have HB := HN; clear HN; clear E1) | (go_at_call 9; (with_reducible refine (D1.out _ HB.out).mono ?_); rintro e w1 ⟨rfl, hb⟩; have HN := Lib.hid (below_then HB.out HB.out.size hb); clear HB hb; have HB := HN; clear HN; clear D1) | (go_at_call 11; (with_reducible refine (D2.out _ HB.out).mono ?_); rintro e w1 ⟨rfl, hb⟩; have HN := Lib.hid (below_then HB.out HB.out.size hb); clear HB hb; have HB := HN; clear HN; clear D2) | (go_at_call 11; (with_reducible refine (D3.out _ HB.out).mono ?_); rintro e w1 ⟨rfl, hb⟩; have HN := Lib.hid (below_then HB.out HB.out.size hb); clear HB hb; have HB := HN; clear HN; clear D3) | (go_at_call 13; (with_reducible refine (D4.out _ HB.out).mono ?_); rintro e w1 ⟨⟨r1, rfl, hr⟩, hb⟩; have HN := Lib.hid (below_then HB.out HB.out.size hb); clear HB hb; have HB := HN; clear HN; obtain rfl := same_text hr FS.out; clear hr; clear D4) | (go_at_call 11; (with_reducible refine (D5.out _ HB.out).mono ?_); rintro e w1 ⟨rfl, hb⟩; have HN := Lib.hid (below_then HB.out HB.out.size hb); clear HB hb; have HB := HN; clear HN; clear D5) | (go_at_call 20; (with_reducible refine (D6.out _).mono ?_); rintro e w1 ⟨⟨t, rfl, ht⟩, hb⟩; have HN := Lib.hid (below_then HB.out HB.out.size hb); clear HB hb; have HB := HN; clear HN; obtain rfl := same_text ht LT.out; clear ht; clear D6) | (go_at_call 11; (with_reducible refine (D7.out _ HB.out).mono ?_); rintro e w1 ⟨rfl, hb⟩; have HN := Lib.hid (below_then HB.out HB.out.size hb); clear HB hb; have HB := HN; clear HN; clear D7) | (go_at_call 16; (with_reducible refine (D8.out _).mono ?_); rintro e w1 ⟨rfl, rfl⟩; clear D8))
        go_ret
        exact ⟨rfl, HB.out⟩
end Go.Proofs.YtgbogkmbgedkkaaDoor
