/- path.Under: which texts lie below a directory. -/
import Derived.Test.YtcaookphoiopbaaDoorPathMay
import Derived.Lib.Strings
namespace Go.Proofs.YtcaookphoiopbaaDoor
open Go.RowKit Go.Shelf

theorem prefix_slash (s d : ByteArray) : Lib.hasPrefix s.data.toList (d ++ ⟨#[47]⟩ : ByteArray).data.toList = (d.data.toList ++ [47]).isPrefixOf s.data.toList := by
  unfold Lib.hasPrefix
  rw [ByteArray.data_append]
  simp

set_option maxHeartbeats 400000 in
theorem under_any (s d : ByteArray) (w : World) (hs : s.size ≤ 281474976710656) (hd : d.size ≤ 281474976710656) :
    Calls Tryd.prog 61 #[.string s, .string d] w fun e w' => e = .returned (.bool (PS.under s.data.toList d.data.toList)) ∧ Below w.heap.size w w' := by
  obtain ⟨q, hq⟩ : ∃ q, PS.may s.data.toList = q := ⟨_, rfl⟩
  obtain ⟨r, hr⟩ : ∃ r, PS.may d.data.toList = r := ⟨_, rfl⟩
  obtain ⟨p, hp⟩ : ∃ p, PS.under s.data.toList d.data.toList = p := ⟨_, rfl⟩
  have c1 := may_any s w hs
  have c2 := fun W => may_any d W hd
  rw [hq] at c1
  simp only [hr] at c2
  rw [hp]
  have hpre : (d.data.toList ++ [47]).isPrefixOf s.data.toList = Lib.hasPrefix s.data.toList (d ++ ⟨#[47]⟩ : ByteArray).data.toList := (prefix_slash s d).symm
  have hu : p = (q && (d.toList.isEmpty || (r && Lib.hasPrefix s.data.toList (d ++ ⟨#[47]⟩ : ByteArray).data.toList))) := by
    rw [← hp, ← hq, ← hr, ← hpre, ByteArray.toList_eq]; rfl
  have c3 := Tryd.strings_HasPrefix s (d ++ ⟨#[47]⟩)
  obtain ⟨b, hb⟩ : ∃ b, Lib.hasPrefix s.data.toList (d ++ ⟨#[47]⟩ : ByteArray).data.toList = b := ⟨_, rfl⟩
  rw [hb] at c3 hu
  have C1 := Lib.hid c1
  have C2 := Lib.hid c2
  have C3 := Lib.hid c3
  have HU := Lib.hid hu
  clear c1 c2 c3 hu hq hr hp hpre hb
  cases q with
  | false =>
    go_enter Tryd.func61, Tryd.ntmps61
    go_wp2_with (go_at_call 60; refine C1.out.mono ?_; rintro e w' ⟨rfl, hb⟩)
    go_ret
    exact ⟨by rw [HU.out]; rfl, hb⟩
  | true =>
    by_cases he : d.toList = []
    · go_enter Tryd.func61, Tryd.ntmps61
      go_wp2_with (go_at_call 60; refine C1.out.mono ?_; rintro e w' ⟨rfl, hb⟩)
      go_ret
      exact ⟨by rw [HU.out, he]; rfl, hb⟩
    · have he2 : d.toList.isEmpty = false := by simpa using he
      go_enter Tryd.func61, Tryd.ntmps61
      go_wp2_with fail
      refine C1.out.mono ?_
      rintro e w1 ⟨rfl, hb1⟩
      go_wp2_with fail
      refine (C2.out _).mono ?_
      rintro e w2 ⟨rfl, hb2⟩
      cases r with
      | false =>
        go_wp2_with fail
        go_ret
        exact ⟨by rw [HU.out, he2]; rfl, hb1.trans (hb2.mono hb1.size)⟩
      | true =>
        go_wp2_with (go_at_call 80; refine (C3.out _).mono ?_; rintro e w' ⟨rfl, hw⟩; obtain rfl := hw.symm)
        go_ret
        exact ⟨by rw [HU.out, he2]; simp, hb1.trans (hb2.mono hb1.size)⟩

end Go.Proofs.YtcaookphoiopbaaDoor
