/- The law GlobsBelow, walked: it says yes of any two texts. -/
import Derived.Test.YtgbogkmbgedkkaaDoorGlobRef
import Derived.Test.YtgbogkmbgedkkaaDoorBelowPure
import Derived.Test.YtgbogkmbgedkkaaDoorRef03
namespace Go.Proofs.YtgbogkmbgedkkaaDoor
open Go.RowKit

theorem refDir_any (s : ByteArray) (w : World) (hs : s.size ≤ 8796093022207) :
    Calls Tryd.prog 18 #[.string s] w fun e w' => (∃ r, e = .returned (.string r) ∧ r.data.toList = R03.dirL s.data.toList) ∧ Below w.heap.size w w' := by
  obtain ⟨r, hr, hb⟩ := R03.dir_eq s hs (2 * s.size + 21) (by omega)
  exact (P.bloomeryref03_Dir.calls _ s _ w hr).mono fun _ _ ⟨he, hw⟩ => ⟨⟨r, he, hb⟩, hw⟩
theorem count_parts : ∀ l : List UInt8, (PS.split l).length = Lib.countByte l 47 + 1
  | [] => rfl
  | c :: l => by
    have ih := count_parts l
    by_cases hc : c = 47
    · subst hc
      rw [GS.split_stroke0, List.length_cons, ih]
      simp [Lib.countByte]
    · cases e : PS.split l with
      | nil => exact absurd e (PS.split_ne l)
      | cons p ps =>
        rw [GS.split_sign hc e, List.length_cons, ← List.length_cons (a := p), ← e, ih]
        simp [Lib.countByte, hc]

set_option maxHeartbeats 4000000 in
set_option maxRecDepth 100000 in
theorem gbelow_law (d s : ByteArray) (m : Int) (w : World) (hd : d.size ≤ 9223372036854775807) (hs : s.size ≤ 9223372036854775807) (hm : w.cell? ⟨0, 0, none⟩ = some (.int .i64 m)) :
    Calls Tryd.prog 4 #[.string d, .string s] w fun e w' => e = .returned (.bool true) ∧ Below w.heap.size w w' := by
  have ca := galive_any m w hm
  have CA := Lib.hid ca
  clear ca
  by_cases h1 : 500 < d.size
  · clear hm
    go_enter Tryd.func4, Tryd.ntmps4
    go_wp2_with (first | (go_at_call 8; refine CA.out.mono ?_; rintro e w1 ⟨rfl, hb1⟩; have H1 := Lib.hid hb1; clear hb1))
    go_ret
    exact ⟨rfl, H1.out⟩
  by_cases h2 : 500 < s.size
  · clear hm
    go_enter Tryd.func4, Tryd.ntmps4
    go_wp2_with (first | (go_at_call 8; refine CA.out.mono ?_; rintro e w1 ⟨rfl, hb1⟩; have H1 := Lib.hid hb1; clear hb1))
    go_ret
    exact ⟨rfl, H1.out⟩
  have cm := fun W => refMay_any d W (by omega)
  obtain ⟨a, ha⟩ : ∃ a, PS.may d.data.toList = a := ⟨_, rfl⟩
  rw [ha] at cm
  have CM := Lib.hid cm
  clear cm
  cases a with
  | false =>
    clear hm ha
    go_enter Tryd.func4, Tryd.ntmps4
    go_wp2_with (first | (go_at_call 8; refine CA.out.mono ?_; rintro e w1 ⟨rfl, hb1⟩; have H1 := Lib.hid hb1; clear hb1) | (go_at_call 15; (with_reducible refine (CM.out _).mono ?_); rintro e w2 ⟨rfl, hb2⟩; have H2 := Lib.hid (below_then H1.out H1.out.size hb2); clear hb2))
    go_ret
    exact ⟨rfl, H2.out⟩
  | true =>
  have cc := fun W => Tryd.strings_Count_one d 47 W
  have hcp := count_parts d.data.toList
  obtain ⟨n, hn⟩ : ∃ n, Lib.countByte d.data.toList 47 = n := ⟨_, rfl⟩
  rw [hn] at cc hcp
  have CC := Lib.hid cc
  clear cc hn
  by_cases h3 : 14 < n
  · clear hm ha
    go_enter Tryd.func4, Tryd.ntmps4
    go_wp2_with (first | (go_at_call 8; refine CA.out.mono ?_; rintro e w1 ⟨rfl, hb1⟩; have H1 := Lib.hid hb1; clear hb1) | (go_at_call 15; (with_reducible refine (CM.out _).mono ?_); rintro e w2 ⟨rfl, hb2⟩; have H2 := Lib.hid (below_then H1.out H1.out.size hb2); clear hb2) | (go_at_call 16; (with_reducible refine (CC.out _).mono ?_); rintro e w3 ⟨rfl, rfl⟩))
    go_ret
    exact ⟨rfl, H2.out⟩
  have sz1 : (d ++ (⟨#[47, 42, 42]⟩ : ByteArray)).size ≤ 1000000 := by rw [ByteArray.size_append]; show d.size + 3 ≤ _; omega
  have sz2 : (d ++ (⟨#[47, 42]⟩ : ByteArray)).size ≤ 1000000 := by rw [ByteArray.size_append]; show d.size + 2 ≤ _; omega
  have c1 := fun W (h : Below w.heap.size w W) => match_any (d ++ (⟨#[47, 42, 42]⟩ : ByteArray)) s m W sz1 (by omega) (cell_below h hm)
  have c3 := fun W (h : Below w.heap.size w W) => match_any (d ++ (⟨#[47, 42]⟩ : ByteArray)) s m W sz2 (by omega) (cell_below h hm)
  have c2 := fun W => refUnder_any s d W (by omega) ha
  have c4 := fun W => refDir_any s W (by omega)
  have e1 : GS.matches_ (d ++ (⟨#[47, 42, 42]⟩ : ByteArray)).data.toList s.data.toList = PS.under s.data.toList d.data.toList := by
    rw [ByteArray.data_append, Array.toList_append]
    exact GS.below_two ha (by rw [hcp]; omega)
  have e2 : GS.matches_ (d ++ (⟨#[47, 42]⟩ : ByteArray)).data.toList s.data.toList = (PS.under s.data.toList d.data.toList && (R03.dirL s.data.toList == d.data.toList)) := by
    rw [ByteArray.data_append, Array.toList_append]
    exact GS.below_one ha (by rw [hcp]; omega)
  rw [e1] at c1
  rw [e2] at c3
  obtain ⟨u, hu⟩ : ∃ u, PS.under s.data.toList d.data.toList = u := ⟨_, rfl⟩
  rw [hu] at c1 c2 c3
  obtain ⟨D, hD⟩ : ∃ D, R03.dirL s.data.toList = D := ⟨_, rfl⟩
  rw [hD] at c3 c4
  cases u with
  | false =>
    rw [Bool.false_and] at c3
    have C1 := Lib.hid c1
    have C2 := Lib.hid c2
    have C3 := Lib.hid c3
    clear c1 c2 c3 c4 sz1 sz2 e1 e2 hu hD ha hm hcp
    go_enter Tryd.func4, Tryd.ntmps4
    go_wp2_with (first | (go_at_call 8; refine CA.out.mono ?_; rintro e w1 ⟨rfl, hb1⟩; have H1 := Lib.hid hb1; clear hb1) | (go_at_call 15; (with_reducible refine (CM.out _).mono ?_); rintro e w2 ⟨rfl, hb2⟩; have H2 := Lib.hid (below_then H1.out H1.out.size hb2); clear hb2) | (go_at_call 16; (with_reducible refine (CC.out _).mono ?_); rintro e w3 ⟨rfl, rfl⟩) | (go_at_call 11; (with_reducible refine (C1.out _ H2.out).mono ?_); rintro e w4 ⟨rfl, hb⟩; have H4 := Lib.hid (below_then H2.out H2.out.size hb); clear hb) | (go_at_call 17; (with_reducible refine (C2.out w4).mono ?_); rintro e w5 ⟨rfl, hb⟩; have H5 := Lib.hid (below_then H4.out H4.out.size hb); clear hb) | (go_at_call 11; (with_reducible refine (C3.out w5 H5.out).mono ?_); rintro e w6 ⟨rfl, hb⟩; have H6 := Lib.hid (below_then H5.out H5.out.size hb); clear hb) | (go_at_call 17; (with_reducible refine (C2.out w6).mono ?_); rintro e w7 ⟨rfl, hb⟩; have H7 := Lib.hid (below_then H6.out H6.out.size hb); clear hb))
    go_ret
    exact ⟨rfl, H7.out⟩
  | true =>
    have C1 := Lib.hid c1
    have C2 := Lib.hid c2
    have C4 := Lib.hid c4
    by_cases hv : D = d.data.toList
    · rw [show (D == d.data.toList) = true by simpa using hv, Bool.true_and] at c3
      have C3 := Lib.hid c3
      have HV := Lib.hid hv
      clear c1 c2 c3 c4 sz1 sz2 e1 e2 hu hD ha hm hcp hv
      go_enter Tryd.func4, Tryd.ntmps4
      go_wp2_with (first | (go_at_call 8; refine CA.out.mono ?_; rintro e w1 ⟨rfl, hb1⟩; have H1 := Lib.hid hb1; clear hb1) | (go_at_call 15; (with_reducible refine (CM.out _).mono ?_); rintro e w2 ⟨rfl, hb2⟩; have H2 := Lib.hid (below_then H1.out H1.out.size hb2); clear hb2) | (go_at_call 16; (with_reducible refine (CC.out _).mono ?_); rintro e w3 ⟨rfl, rfl⟩) | (go_at_call 11; (with_reducible refine (C1.out _ H2.out).mono ?_); rintro e w4 ⟨rfl, hb⟩; have H4 := Lib.hid (below_then H2.out H2.out.size hb); clear hb) | (go_at_call 17; (with_reducible refine (C2.out w4).mono ?_); rintro e w5 ⟨rfl, hb⟩; have H5 := Lib.hid (below_then H4.out H4.out.size hb); clear hb) | (go_at_call 11; (with_reducible refine (C3.out w5 H5.out).mono ?_); rintro e w6 ⟨rfl, hb⟩; have H6 := Lib.hid (below_then H5.out H5.out.size hb); clear hb) | (go_at_call 17; (with_reducible refine (C2.out w6).mono ?_); rintro e w7 ⟨rfl, hb⟩; have H7 := Lib.hid (below_then H6.out H6.out.size hb); clear hb) | (go_at_call 18; (with_reducible refine (C4.out _).mono ?_); rintro e w8 ⟨⟨r, rfl, hr⟩, hb⟩; have H8 := Lib.hid (below_then H7.out H7.out.size hb); clear hb; obtain rfl := same_text hr HV.out.symm; clear hr))
      go_ret
      exact ⟨rfl, H8.out⟩
    · rw [show (D == d.data.toList) = false by simpa using hv, Bool.true_and] at c3
      have C3 := Lib.hid c3
      have HV := Lib.hid hv
      clear c1 c2 c3 c4 sz1 sz2 e1 e2 hu hD ha hm hcp hv
      go_enter Tryd.func4, Tryd.ntmps4
      go_wp2_with (first | (go_at_call 8; refine CA.out.mono ?_; rintro e w1 ⟨rfl, hb1⟩; have H1 := Lib.hid hb1; clear hb1) | (go_at_call 15; (with_reducible refine (CM.out _).mono ?_); rintro e w2 ⟨rfl, hb2⟩; have H2 := Lib.hid (below_then H1.out H1.out.size hb2); clear hb2) | (go_at_call 16; (with_reducible refine (CC.out _).mono ?_); rintro e w3 ⟨rfl, rfl⟩) | (go_at_call 11; (with_reducible refine (C1.out _ H2.out).mono ?_); rintro e w4 ⟨rfl, hb⟩; have H4 := Lib.hid (below_then H2.out H2.out.size hb); clear hb) | (go_at_call 17; (with_reducible refine (C2.out w4).mono ?_); rintro e w5 ⟨rfl, hb⟩; have H5 := Lib.hid (below_then H4.out H4.out.size hb); clear hb) | (go_at_call 11; (with_reducible refine (C3.out w5 H5.out).mono ?_); rintro e w6 ⟨rfl, hb⟩; have H6 := Lib.hid (below_then H5.out H5.out.size hb); clear hb) | (go_at_call 17; (with_reducible refine (C2.out w6).mono ?_); rintro e w7 ⟨rfl, hb⟩; have H7 := Lib.hid (below_then H6.out H6.out.size hb); clear hb) | (go_at_call 18; (with_reducible refine (C4.out _).mono ?_); rintro e w8 ⟨⟨r, rfl, hr⟩, hb⟩; have H8 := Lib.hid (below_then H7.out H7.out.size hb); clear hb; have hne : (r.toList == d.toList) = false := (by rw [ByteArray.toList_eq, ByteArray.toList_eq, hr]; simpa using HV.out); clear hr))
      go_ret
      exact ⟨rfl, H8.out⟩
end Go.Proofs.YtgbogkmbgedkkaaDoor
