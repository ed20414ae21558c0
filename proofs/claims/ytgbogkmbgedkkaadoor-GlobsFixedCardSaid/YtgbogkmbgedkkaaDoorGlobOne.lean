/- globs.one: what a part of a pattern matches. -/
import Derived.Test.YtgbogkmbgedkkaaDoorGlobPart
import Derived.Test.YtgbogkmbgedkkaaDoorPlain
import Derived.Lib.TrimByte
namespace Go.Proofs.YtgbogkmbgedkkaaDoor
open Go.RowKit Go.Shelf

theorem drop_all (q : UInt8 → Bool) : ∀ l : List UInt8, l.dropWhile q = [] ↔ ∀ c ∈ l, q c = true
  | [] => by simp
  | a :: l => by
    rw [List.dropWhile_cons]
    by_cases h : q a = true
    · rw [if_pos h, drop_all q l]; simp [h]
    · rw [if_neg h]; simp [h]
theorem trim_stars (l : List UInt8) : (Lib.trimB l 42 = []) ↔ ∀ c ∈ l, c = 42 := by
  unfold Lib.trimB Lib.trimLeftB Lib.trimRightB
  rw [drop_all]
  constructor
  · intro h c hc
    by_cases hall : ∀ d ∈ l.reverse, (d == 42) = true
    · simpa using hall c (by simpa using hc)
    · have hne : l.reverse.dropWhile (· == 42) ≠ [] := fun e => hall ((drop_all _ _).1 e)
      have hhd := List.head_dropWhile_not (· == 42) hne
      have := h _ (List.mem_reverse.2 (List.head_mem hne))
      rw [this] at hhd
      cases hhd
  · intro h c hc
    have : l.reverse.dropWhile (· == 42) = [] := (drop_all _ _).2 (fun d hd => by simpa using h d (by simpa using hd))
    rw [this] at hc
    simp at hc

theorem drewn {w wr : World} (h : ∃ d, wr = w.drewN d) (n : Nat) : ∃ d, wr.drewN n = w.drewN d := by
  obtain ⟨d, rfl⟩ := h
  exact ⟨d + n, by simp [World.drewN, Nat.add_assoc]⟩
theorem byte_eq_int (a b : UInt8) : ((a.toNat : Int) == (b.toNat : Int)) = (a == b) := by
  rw [Bool.eq_iff_iff, beq_iff_eq, beq_iff_eq]
  exact ⟨fun h => UInt8.toNat_inj.1 (by omega), fun h => by rw [h]⟩

set_option maxHeartbeats 2000000 in
set_option maxRecDepth 100000 in
theorem one_quiet (p s : ByteArray) (w : World) (hp : p.size ≤ 1000000) (hs : s.size ≤ 1000000) :
    Calls Tryd.prog 32 #[.string p, .string s] w fun e w' => e = .returned (.bool (GS.one p.data.toList s.data.toList)) ∧ ∃ d, w' = w.drewN d := by
  have lp : p.data.toList.length = p.size := Array.length_toList
  have ls : s.data.toList.length = s.size := Array.length_toList
  obtain ⟨R, hR⟩ : ∃ R, GS.one p.data.toList s.data.toList = R := ⟨_, rfl⟩
  rw [hR]
  have HR := Lib.hid hR
  have LP := Lib.hid lp
  have LS := Lib.hid ls
  clear hR lp ls
  go_enter Tryd.func32, Tryd.ntmps32
  go_wp2
  go_loopw [5, 6, 7, 8] (fun vi vk vs va wr => ∃ (i k : Nat) (star : Int) (at_ : Nat), vi = .int .i64 i ∧ vk = .int .i64 k ∧ vs = .int .i64 star ∧ va = .int .i64 at_ ∧ GS.Inv p.data.toList s.data.toList i k star at_ ∧ -1 ≤ star ∧ star ≤ i ∧ ∃ d, wr = w.drewN d) (fun vi _ _ va _ => (s.size - (intOf va).toNat) * (p.size + 1) + (p.size - (intOf vi).toNat))
  case atStart => exact ⟨0, 0, -1, 0, rfl, rfl, rfl, rfl, GS.inv_start _ _, by omega, by omega, 0, rfl⟩
  case round =>
    obtain ⟨i, k, star, at_, rfl, rfl, rfl, rfl, hinv, hs0, hs1, hbW⟩ := hrel
    have b1 := hinv.1
    have b2 := hinv.2.1
    have b3 := hinv.2.2.1
    rw [LP.out] at b1
    rw [LS.out] at b2
    have HI := Lib.hid hinv
    have HB := Lib.hid hbW
    clear hinv hbW
    by_cases hk : k < s.size
    · obtain ⟨x, hx⟩ : ∃ x, s[k] = x := ⟨_, rfl⟩
      have hxi : ∀ h : k < s.size, (s[k].toNat : Int) = (x.toNat : Int) := fun _ => by rw [hx]
      have hS : s.data.toList[k]'(by rw [LS.out]; exact hk) = x := hx
      have HS := Lib.hid hS
      clear hx hS
      by_cases hi : i < p.size
      · obtain ⟨c, hc⟩ : ∃ c, p[i] = c := ⟨_, rfl⟩
        have hci : ∀ h : i < p.size, (p[i].toNat : Int) = (c.toNat : Int) := fun _ => by rw [hc]
        have hP : p.data.toList[i]'(by rw [LP.out]; exact hi) = c := hc
        have HP := Lib.hid hP
        clear hc hP
        have e42 : ((c.toNat : Int) == 42) = (c == 42) := byte_eq_int c 42
        have e63 : ((c.toNat : Int) == 63) = (c == 63) := byte_eq_int c 63
        have ex := byte_eq_int c x
        by_cases h42 : c = 42
        · have q42 : (c == 42) = true := by simpa using h42
          rw [q42] at e42
          have hst := GS.inv_star HI.out (by rw [LP.out]; exact hi) (by rw [HP.out]; exact h42)
          have HST := Lib.hid hst
          clear hst h42 q42 e63 ex
          go_wp2_with fail
          go_roundw
          case rel => exact ⟨i + 1, k, i, k, by go_num, rfl, rfl, rfl, HST.out, by omega, by omega, HB.out⟩
          case measure =>
            simp only [intOf]
            have hm : (s.size - k) * (p.size + 1) ≤ (s.size - at_) * (p.size + 1) := Nat.mul_le_mul_right _ (by omega)
            have e1 : ((k : Int)).toNat = k := by omega
            have e2 : ((at_ : Int)).toNat = at_ := by omega
            have e3 : ((i : Int) + 1).toNat = i + 1 := by omega
            have e4 : ((i : Int)).toNat = i := by omega
            rw [e1, e2, e3, e4]
            omega
        · have q42 : (c == 42) = false := by simpa using h42
          rw [q42] at e42
          by_cases hon : c = 63 ∨ c = x
          · have hst := GS.inv_sign HI.out (by rw [LP.out]; exact hi) (by rw [LS.out]; exact hk) (by rw [HP.out]; exact h42) (by rw [HP.out, HS.out]; exact hon)
            have HST := Lib.hid hst
            clear hst h42 q42
            by_cases h63 : c = 63
            · have q63 : (c == 63) = true := by simpa using h63
              rw [q63] at e63
              clear q63 h63 hon ex
              go_wp2_with fail
              go_quiet (fail)
              go_wp2_with fail
              go_roundw
              case rel => exact ⟨i + 1, k + 1, star, at_, by go_num, by go_num, rfl, rfl, HST.out, by omega, by omega, by exact drewn HB.out _⟩
              case measure =>
                simp only [intOf]
                have e3 : ((i : Int) + 1).toNat = i + 1 := by omega
                have e4 : ((i : Int)).toNat = i := by omega
                rw [e3, e4]
                omega
            · have q63 : (c == 63) = false := by simpa using h63
              have qx : (c == x) = true := by simpa [h63] using hon
              rw [q63] at e63
              rw [qx] at ex
              clear q63 h63 hon qx
              go_wp2_with fail
              go_quiet (fail)
              go_wp2_with fail
              go_roundw
              case rel => exact ⟨i + 1, k + 1, star, at_, by go_num, by go_num, rfl, rfl, HST.out, by omega, by omega, by exact drewn HB.out _⟩
              case measure =>
                simp only [intOf]
                have e3 : ((i : Int) + 1).toNat = i + 1 := by omega
                have e4 : ((i : Int)).toNat = i := by omega
                rw [e3, e4]
                omega
          · have hno := GS.not_on (P := p.data.toList) (S := s.data.toList) (i := i) (by rw [LS.out]; exact hk) (fun h => by rw [HP.out, HS.out]; exact ⟨h42, fun e => hon (Or.inl e), fun e => hon (Or.inr e)⟩)
            have q63 : (c == 63) = false := by rw [beq_eq_false_iff_ne]; exact fun e => hon (Or.inl e)
            have qx : (c == x) = false := by rw [beq_eq_false_iff_ne]; exact fun e => hon (Or.inr e)
            rw [q63] at e63
            rw [qx] at ex
            have HNO := Lib.hid hno
            clear q63 qx hon h42 q42 hno
            by_cases hst : star < 0
            · have hfal := GS.inv_none HI.out hst HNO.out
              rw [HR.out] at hfal
              have HF := Lib.hid hfal
              clear hfal
              go_wp2_with fail
              go_quiet (fail)
              go_wp2_with fail
              go_ret
              exact ⟨retB HF.out.symm, (by exact drewn HB.out _)⟩
            · obtain ⟨j, rfl⟩ : ∃ j : Nat, star = (j : Int) := ⟨star.toNat, by omega⟩
              have hbk := GS.inv_back HI.out (by omega) (by rw [LS.out]; exact hk) HNO.out
              rw [Int.toNat_natCast] at hbk
              have hji := hbk.1
              have HBK := Lib.hid hbk.2
              clear hbk
              go_wp2_with fail
              go_quiet (fail)
              go_wp2_with fail
              go_roundw
              case rel => exact ⟨j + 1, at_ + 1, j, at_ + 1, by go_num, by go_num, rfl, by go_num, HBK.out, by omega, by omega, (by exact drewn HB.out _)⟩
              case measure =>
                simp only [intOf]
                have e1 : ((at_ : Int) + 1).toNat = at_ + 1 := by omega
                have e2 : ((at_ : Int)).toNat = at_ := by omega
                have e3 : ((j : Int) + 1).toNat = j + 1 := by omega
                have e4 : ((i : Int)).toNat = i := by omega
                have hm : (s.size - at_) * (p.size + 1) = (s.size - (at_ + 1)) * (p.size + 1) + (p.size + 1) := by
                  rw [show s.size - at_ = (s.size - (at_ + 1)) + 1 by omega, Nat.add_mul, Nat.one_mul]
                rw [e1, e2, e3, e4]
                omega
      · have hno := GS.not_on (P := p.data.toList) (S := s.data.toList) (i := i) (k := k) (by rw [LS.out]; exact hk) (fun h => absurd (by rw [LP.out] at h; exact h) hi)
        have HNO := Lib.hid hno
        clear hno
        by_cases hst : star < 0
        · have hfal := GS.inv_none HI.out hst HNO.out
          rw [HR.out] at hfal
          have HF := Lib.hid hfal
          clear hfal
          go_wp2_with fail
          go_quiet (fail)
          go_wp2_with fail
          go_ret
          exact ⟨retB HF.out.symm, (by exact drewn HB.out _)⟩
        · obtain ⟨j, rfl⟩ : ∃ j : Nat, star = (j : Int) := ⟨star.toNat, by omega⟩
          have hbk := GS.inv_back HI.out (by omega) (by rw [LS.out]; exact hk) HNO.out
          rw [Int.toNat_natCast] at hbk
          have hji := hbk.1
          have HBK := Lib.hid hbk.2
          clear hbk
          go_wp2_with fail
          go_quiet (fail)
          go_wp2_with fail
          go_roundw
          case rel => exact ⟨j + 1, at_ + 1, j, at_ + 1, by go_num, by go_num, rfl, by go_num, HBK.out, by omega, by omega, (by exact drewn HB.out _)⟩
          case measure =>
            simp only [intOf]
            have e1 : ((at_ : Int) + 1).toNat = at_ + 1 := by omega
            have e2 : ((at_ : Int)).toNat = at_ := by omega
            have e3 : ((j : Int) + 1).toNat = j + 1 := by omega
            have e4 : ((i : Int)).toNat = i := by omega
            have hm : (s.size - at_) * (p.size + 1) = (s.size - (at_ + 1)) * (p.size + 1) + (p.size + 1) := by
              rw [show s.size - at_ = (s.size - (at_ + 1)) + 1 by omega, Nat.add_mul, Nat.one_mul]
            rw [e1, e2, e3, e4]
            omega
    · obtain rfl : k = s.size := by omega
      have hi' := HI.out
      rw [← LS.out] at hi'
      have hen := GS.inv_end hi'
      rw [HR.out, ← trim_stars] at hen
      have hext : (p.extract i p.size).data.toList = p.data.toList.drop i := Lib.extract_to_end p i
      have hsz2 : (p.extract i p.size).size ≤ 9223372036854775807 := by
        have e : (p.extract i p.size).data.toList.length = (p.data.toList.drop i).length := by rw [hext]
        rw [List.length_drop, Array.length_toList, Array.length_toList] at e
        have e2 : (p.extract i p.size).size = p.size - i := e
        omega
      have ct := fun W => Tryd.strings_Trim_one (p.extract i p.size) 42 (by decide) W hsz2
      rw [hext] at ct
      obtain ⟨T, hT⟩ : ∃ T, Lib.trimB (p.data.toList.drop i) 42 = T := ⟨_, rfl⟩
      rw [hT] at ct hen
      have CT := Lib.hid ct
      have HE := Lib.hid hen
      clear ct hen hT hext hi' hsz2
      go_wp2_with fail
      refine (CT.out _).mono ?_
      rintro e w1 ⟨rfl, hw⟩
      have HW := Lib.hid hw
      clear hw
      go_wp2_with fail
      go_ret
      refine ⟨retB ?_, ?_⟩
      · rw [Bool.eq_iff_iff, List.isEmpty_iff]
        exact HE.out.symm
      · rcases HW.out with rfl | rfl
        · exact HB.out
        · exact drewn HB.out 1
theorem one_any (p s : ByteArray) (w : World) (hp : p.size ≤ 1000000) (hs : s.size ≤ 1000000) :
    Calls Tryd.prog 32 #[.string p, .string s] w fun e w' => e = .returned (.bool (GS.one p.data.toList s.data.toList)) ∧ Below w.heap.size w w' :=
  (one_quiet p s w hp hs).mono fun _ _ ⟨he, d, hd⟩ => ⟨he, by rw [hd]; exact below_draws (Below.refl _ _) d⟩
end Go.Proofs.YtgbogkmbgedkkaaDoor
