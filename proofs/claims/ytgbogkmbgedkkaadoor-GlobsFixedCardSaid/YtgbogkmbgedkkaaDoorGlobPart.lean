/- globs.plain, globs.part: which signs may stand in a part, which text is a part of a pattern. -/
import Derived.Test.YtgbogkmbgedkkaaDoorPlain
import Derived.Test.YtgbogkmbgedkkaaDoorPathMay
import Derived.Laws.BytesArg
import Derived.Lib.ConvBytes
import Derived.Lib.Strings
namespace Go.Proofs.YtgbogkmbgedkkaaDoor
open Go.RowKit Go.Shelf

theorem conv_one (c : Int) (W : World) : (convert 60 9 (.slice (some ⟨W.heap.size, 0, none⟩) 1 1)).run Tryd.prog (W.alloc (.cells #[.int .u8 c] 5)) = .ok (.string ⟨#[UInt8.ofNat c.toNat]⟩) (W.alloc (.cells #[.int .u8 c] 5)) := by
  have h := run_convert_bytes_arg (P := Tryd.prog) (W.alloc (.cells #[.int .u8 c] 5)) 60 5 Tryd.underlying60 Tryd.underlying5 W.heap.size 0 1 1 [c] rfl (fun i hi => by
    obtain rfl : i = 0 := by omega
    simp) 9 Tryd.underlying9
  exact h

theorem may_three (c : UInt8) : (PS.may [97, c, 97] && !(c == 47)) = PS.signOk c := by
  have h97 : PS.signOk 97 = true := by decide
  by_cases hc : c = 47
  · subst hc; decide
  · have e : PS.split [97, c, 97] = [[97, c, 97]] := by simp [PS.split, hc]
    have hc' : (c == 47) = false := by simpa using hc
    unfold PS.may
    rw [e, hc']
    simp [PS.partOk, h97]

theorem plain_any (c : UInt8) (w : World) :
    Calls Tryd.prog 47 #[.int .u8 (c.toNat : Int)] w fun e w' => e = .returned (.bool (PS.signOk c)) ∧ Below w.heap.size w w' := by
  have hcv := conv_one (c.toNat : Int) w
  rw [Int.toNat_natCast, show UInt8.ofNat c.toNat = c by simp] at hcv
  have hm := may_three c
  have cm := fun W => may_any ((⟨#[97]⟩ : ByteArray) ++ (⟨#[c]⟩ : ByteArray) ++ (⟨#[97]⟩ : ByteArray)) W (by rw [ByteArray.size_append, ByteArray.size_append]; show 1 + 1 + 1 ≤ _; omega)
  have e : ((⟨#[97]⟩ : ByteArray) ++ (⟨#[c]⟩ : ByteArray) ++ (⟨#[97]⟩ : ByteArray)).data.toList = [97, c, 97] := by simp [ByteArray.data_append]
  rw [e] at cm
  obtain ⟨q, hq⟩ : ∃ q, PS.may [97, c, 97] = q := ⟨_, rfl⟩
  rw [hq] at cm hm
  have h47 : ((c.toNat : Int) != 47) = !(c == 47) := by
    rw [Bool.eq_iff_iff]
    simp only [bne_iff_ne, ne_eq, Bool.not_eq_true', beq_eq_false_iff_ne]
    constructor
    · rintro h rfl; exact h rfl
    · intro h h'; exact h (UInt8.toNat_inj.1 (show c.toNat = 47 by omega))
  have CM := Lib.hid cm
  have HM := Lib.hid hm
  have H47 := Lib.hid h47
  clear cm hm h47 e hq
  go_enter Tryd.func47, Tryd.ntmps47
  go_wp2_with fail
  refine (CM.out _).mono ?_
  rintro e w1 ⟨rfl, hb1⟩
  have hb := (below_box (w := w) (.cells #[.int .u8 (c.toNat : Int)] 5)).trans (hb1.mono (by simp))
  clear hb1
  cases q with
  | false =>
    go_wp2_with fail
    go_ret
    exact ⟨retB (by rw [← HM.out]; rfl), hb⟩
  | true =>
    go_wp2_with fail
    go_ret
    exact ⟨retB (by rw [← HM.out, H47.out, Bool.true_and]), hb⟩

/-- What the loop over a part's signs tells. -/
def GS.good (l : List UInt8) : Bool := l.all GS.signW && GS.noStars l
theorem good_step (c : UInt8) (r : List UInt8) : GS.good (c :: r) = (GS.signW c && !([42, 42].isPrefixOf (c :: r)) && GS.good r) := by
  cases r with
  | nil => unfold GS.good; simp [GS.noStars, List.isPrefixOf]
  | cons b r =>
    unfold GS.good
    simp only [List.all_cons, GS.noStars, List.isPrefixOf_cons_cons, List.isPrefixOf_nil_left, Bool.and_true]
    rw [Bool.eq_iff_iff]
    simp only [Bool.and_eq_true, Bool.not_eq_true', Bool.and_eq_false_iff, beq_eq_false_iff_ne, ne_eq]
    constructor
    · rintro ⟨⟨h1, h2, h3⟩, h4, h5⟩
      exact ⟨⟨h1, by rcases h4 with h | h; exact Or.inl (fun e => h e.symm); exact Or.inr (fun e => h e.symm)⟩, ⟨h2, h3⟩, h5⟩
    · rintro ⟨⟨h1, h4⟩, ⟨h2, h3⟩, h5⟩
      exact ⟨⟨h1, h2, h3⟩, by rcases h4 with h | h; exact Or.inl (fun e => h e.symm); exact Or.inr (fun e => h e.symm), h5⟩
theorem part_good (l : List UInt8) : GS.part l = (l == [42, 42] || (GS.good l && (!l.isEmpty && decide (l.length ≤ 64) && !(l == [46]) && !(l == [46, 46])))) := by
  unfold GS.part GS.good
  rw [Bool.and_comm (l.all GS.signW && GS.noStars l)]

set_option maxHeartbeats 1000000 in
theorem gpart_any (s : ByteArray) (w : World) (hs : s.size ≤ 281474976710656) :
    Calls Tryd.prog 27 #[.string s] w fun e w' => e = .returned (.bool (GS.part s.data.toList)) ∧ Below w.heap.size w w' := by
  have hsz : s.data.toList.length = s.size := Array.length_toList
  have hpg := part_good s.data.toList
  obtain ⟨R, hR⟩ : ∃ R, GS.part s.data.toList = R := ⟨_, rfl⟩
  rw [hR] at hpg ⊢
  rw [← ByteArray.toList_eq] at hpg
  have HPG := Lib.hid hpg
  clear hR hpg
  cases hss : (s.toList == [42, 42]) with
  | true =>
    have hss2 : s.toList = [42, 42] := by simpa using hss
    go_enter Tryd.func27, Tryd.ntmps27
    go_wp2
    go_ret
    exact ⟨retB (by rw [HPG.out, hss]; rfl), Below.refl _ _⟩
  | false =>
    have hss2 : ¬ s.toList = [42, 42] := by simpa using hss
    have HR : Hid (R = (GS.good s.data.toList && (!s.toList.isEmpty && decide (s.size ≤ 64) && !(s.toList == [46]) && !(s.toList == [46, 46])))) := Lib.hid (by rw [HPG.out, hss, Bool.false_or, ByteArray.toList_eq, hsz])
    have HSZ := Lib.hid hsz
    clear HPG hsz
    go_enter Tryd.func27, Tryd.ntmps27
    go_wp2
    go_loopw [8] (fun i wr => ∃ k : Nat, k ≤ s.size ∧ i = .int .i64 k ∧ Below w.heap.size w wr ∧ GS.good s.data.toList = GS.good (s.data.toList.drop k)) (fun i _ => s.size - (intOf i).toNat)
    case atStart => exact ⟨0, by omega, rfl, Below.refl _ _, rfl⟩
    case round =>
      obtain ⟨k, hk, rfl, hbW, hgd⟩ := hrel
      by_cases hlt : k < s.size
      · have hdr : s.data.toList.drop k = s[k] :: s.data.toList.drop (k + 1) := by
          rw [List.drop_eq_getElem_cons (by rw [HSZ.out]; exact hlt)]; rfl
        obtain ⟨c, hc⟩ : ∃ c, s[k] = c := ⟨_, rfl⟩
        have hst := good_step s[k] (s.data.toList.drop (k + 1))
        rw [← hdr, ← hgd, hc] at hst
        have hidx : ∀ h : k < s.size, (s[k].toNat : Int) = (c.toNat : Int) := fun _ => by rw [hc]
        have hext : (s.extract k s.size).data.toList = s.data.toList.drop k := Lib.extract_to_end s k
        have cp := plain_any c
        have ch := Tryd.strings_HasPrefix (s.extract k s.size) ⟨#[42, 42]⟩
        rw [show Lib.hasPrefix (s.extract k s.size).data.toList (⟨#[42, 42]⟩ : ByteArray).data.toList = [42, 42].isPrefixOf (s.data.toList.drop k) by rw [hext]; rfl] at ch
        obtain ⟨pf, hpf⟩ : ∃ pf, [42, 42].isPrefixOf (s.data.toList.drop k) = pf := ⟨_, rfl⟩
        rw [hpf] at ch hst
        obtain ⟨sg, hsg⟩ : ∃ sg, PS.signOk c = sg := ⟨_, rfl⟩
        rw [hsg] at cp
        have hsw : GS.signW c = (sg || c == 42 || c == 63) := by rw [← hsg]; rfl
        have HST := Lib.hid hst
        have HSW := Lib.hid hsw
        have CP := Lib.hid cp
        have CH := Lib.hid ch
        have HB := Lib.hid hbW
        clear hst hsw cp ch hbW hgd hdr hext hpf hsg
        go_wp2_with fail
        refine (CP.out _).mono ?_
        rintro e w1 ⟨rfl, hb1⟩
        have HB1 := Lib.hid (below_then HB.out HB.out.size hb1)
        clear hb1
        have h42 : ((c.toNat : Int) != 42) = !(c == 42) := by
          rw [Bool.eq_iff_iff]
          simp only [bne_iff_ne, ne_eq, Bool.not_eq_true', beq_eq_false_iff_ne]
          exact ⟨fun h e => h (by rw [e]; rfl), fun h e => h (UInt8.toNat_inj.1 (show c.toNat = 42 by omega))⟩
        have h63 : ((c.toNat : Int) != 63) = !(c == 63) := by
          rw [Bool.eq_iff_iff]
          simp only [bne_iff_ne, ne_eq, Bool.not_eq_true', beq_eq_false_iff_ne]
          exact ⟨fun h e => h (by rw [e]; rfl), fun h e => h (UInt8.toNat_inj.1 (show c.toNat = 63 by omega))⟩
        obtain ⟨q42, hq42⟩ : ∃ q, (c == 42) = q := ⟨_, rfl⟩
        obtain ⟨q63, hq63⟩ : ∃ q, (c == 63) = q := ⟨_, rfl⟩
        rw [hq42] at h42 HSW
        rw [hq63] at h63 HSW
        clear hq42 hq63 hc
        obtain ⟨sw, hsw⟩ : ∃ sw, (sg || q42 || q63) = sw := ⟨_, rfl⟩
        cases hv : (sg || q42 || q63) with
        | false =>
          have hsg : sg = false := by cases sg <;> simp_all
          have h4 : q42 = false := by cases q42 <;> simp_all
          have h6 : q63 = false := by cases q63 <;> simp_all
          subst hsg h4 h6
          clear hv hsw
          go_wp2_with fail
          go_ret
          exact ⟨retB (by rw [HR.out, HST.out, HSW.out]; simp), HB1.out⟩
        | true =>
          have hsw2 : GS.signW c = true := by rw [HSW.out]; exact hv
          have HSW2 := Lib.hid hsw2
          clear hsw2 HSW
          have key : ∀ (X : World → Prop), True := fun _ => trivial
          clear key
          cases sg with
          | true =>
            clear hv hsw h42 h63
            go_wp2_with fail
            refine (CH.out _).mono ?_
            rintro e w2 ⟨rfl, rfl⟩
            cases pf with
            | true =>
              go_wp2_with fail
              go_ret
              exact ⟨retB (by rw [HR.out, HST.out]; simp), HB1.out⟩
            | false =>
              go_wp2_with fail
              go_roundw
              case rel => exact ⟨k + 1, by omega, by go_num, HB1.out, by rw [HST.out, HSW2.out]; simp⟩
              case measure => simp [intOf]; omega
          | false =>
            cases q42 with
            | true =>
              clear hv hsw
              cases q63 with
              | true =>
                go_wp2_with fail
                refine (CH.out _).mono ?_
                rintro e w2 ⟨rfl, rfl⟩
                cases pf with
                | true =>
                  go_wp2_with fail
                  go_ret
                  exact ⟨retB (by rw [HR.out, HST.out]; simp), HB1.out⟩
                | false =>
                  go_wp2_with fail
                  go_roundw
                  case rel => exact ⟨k + 1, by omega, by go_num, HB1.out, by rw [HST.out, HSW2.out]; simp⟩
                  case measure => simp [intOf]; omega
              | false =>
                go_wp2_with fail
                refine (CH.out _).mono ?_
                rintro e w2 ⟨rfl, rfl⟩
                cases pf with
                | true =>
                  go_wp2_with fail
                  go_ret
                  exact ⟨retB (by rw [HR.out, HST.out]; simp), HB1.out⟩
                | false =>
                  go_wp2_with fail
                  go_roundw
                  case rel => exact ⟨k + 1, by omega, by go_num, HB1.out, by rw [HST.out, HSW2.out]; simp⟩
                  case measure => simp [intOf]; omega
            | false =>
              have h6 : q63 = true := by simpa using hv
              subst h6
              clear hv hsw
              go_wp2_with fail
              refine (CH.out _).mono ?_
              rintro e w2 ⟨rfl, rfl⟩
              cases pf with
              | true =>
                go_wp2_with fail
                go_ret
                exact ⟨retB (by rw [HR.out, HST.out]; simp), HB1.out⟩
              | false =>
                go_wp2_with fail
                go_roundw
                case rel => exact ⟨k + 1, by omega, by go_num, HB1.out, by rw [HST.out, HSW2.out]; simp⟩
                case measure => simp [intOf]; omega
      · obtain rfl : k = s.size := by omega
        have hfin : GS.good s.data.toList = true := by
          rw [hgd, List.drop_of_length_le (by rw [HSZ.out]; exact Nat.le_refl _)]
          rfl
        have HR2 : Hid (R = (!s.toList.isEmpty && decide (s.size ≤ 64) && !(s.toList == [46]) && !(s.toList == [46, 46]))) := Lib.hid (by rw [HR.out, hfin, Bool.true_and])
        have hemp : s.toList.isEmpty = decide (s.size = 0) := by
          rw [Bool.eq_iff_iff, List.isEmpty_iff, decide_eq_true_eq, ByteArray.toList_eq, ← List.length_eq_zero_iff, HSZ.out]
        have HE := Lib.hid hemp
        clear hgd hfin HR hemp
        by_cases h1 : s.size = 0
        · have h1' : ¬ (1 : Int) ≤ s.size := by omega
          have h1'' : ¬ 1 ≤ s.size := by omega
          go_wp2_with fail
          go_ret
          exact ⟨retB (by rw [HR2.out, HE.out, decide_eq_true h1]; rfl), hbW⟩
        · have h1' : (1 : Int) ≤ s.size := by omega
          have h1'' : 1 ≤ s.size := by omega
          have HN := Lib.hid h1
          clear h1
          by_cases h2 : s.size ≤ 64
          · have h2' : (s.size : Int) ≤ 64 := by omega
            cases h3 : (s.toList == [46]) with
            | true =>
              have h3' : s.toList = [46] := by simpa using h3
              go_wp2_with fail
              go_ret
              exact ⟨retB (by rw [HR2.out, h3]; simp), hbW⟩
            | false =>
              have h3' : ¬ s.toList = [46] := by simpa using h3
              cases h4 : (s.toList == [46, 46]) with
              | true =>
                have h4' : s.toList = [46, 46] := by simpa using h4
                go_wp2_with fail
                go_ret
                exact ⟨retB (by rw [HR2.out, h4]; simp), hbW⟩
              | false =>
                have h4' : ¬ s.toList = [46, 46] := by simpa using h4
                go_wp2_with fail
                go_ret
                exact ⟨retB (by rw [HR2.out, h3, h4, HE.out, decide_eq_false HN.out, decide_eq_true h2]; rfl), hbW⟩
          · have h2' : ¬ (s.size : Int) ≤ 64 := by omega
            go_wp2_with fail
            go_ret
            exact ⟨retB (by rw [HR2.out, decide_eq_false h2]; simp), hbW⟩
end Go.Proofs.YtgbogkmbgedkkaaDoor
