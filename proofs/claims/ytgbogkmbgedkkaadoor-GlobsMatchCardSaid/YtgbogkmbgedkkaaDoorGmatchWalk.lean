/- The law GlobsMatch, walked: it says yes of any two texts. -/
import Derived.Test.YtgbogkmbgedkkaaDoorGlobRef
namespace Go.Proofs.YtgbogkmbgedkkaaDoor
open Go.RowKit

set_option maxHeartbeats 2000000 in
set_option maxRecDepth 100000 in
theorem gmatch_law (p s : ByteArray) (m : Int) (w : World) (hp : p.size ≤ 9223372036854775807) (hs : s.size ≤ 9223372036854775807) (hm : w.cell? ⟨0, 0, none⟩ = some (.int .i64 m)) :
    Calls Tryd.prog 3 #[.string p, .string s] w fun e w' => e = .returned (.bool true) ∧ Below w.heap.size w w' := by
  have ca := galive_any m w hm
  have CA := Lib.hid ca
  clear ca
  by_cases h1 : 1500 < p.size
  · have HM := Lib.hid hm
    clear hm
    go_enter Tryd.func3, Tryd.ntmps3
    go_wp2_with (first | (go_at_call 8; refine CA.out.mono ?_; rintro e w1 ⟨rfl, hb1⟩))
    go_ret
    exact ⟨rfl, hb1⟩
  by_cases h2 : 1500 < s.size
  · have HM := Lib.hid hm
    clear hm
    go_enter Tryd.func3, Tryd.ntmps3
    go_wp2_with (first | (go_at_call 8; refine CA.out.mono ?_; rintro e w1 ⟨rfl, hb1⟩))
    go_ret
    exact ⟨rfl, hb1⟩
  have cm := fun W (h : Below w.heap.size w W) => gmay_any p m W (by omega) (cell_below h hm)
  have cn := fun W => refGMay_any p W (by omega)
  have cg := fun W (h : Below w.heap.size w W) => match_any p s m W (by omega) (by omega) (cell_below h hm)
  have ch := fun W => refGMatch_any p s W (by omega) (by omega)
  have cf := fun W (h : Below w.heap.size w W) => fixed_any p m W (by omega) (cell_below h hm)
  have ck := fun W => refGFixed_any p W (by omega)
  obtain ⟨a, ha⟩ : ∃ a, GS.may p.data.toList = a := ⟨_, rfl⟩
  obtain ⟨b, hb⟩ : ∃ b, GS.matches_ p.data.toList s.data.toList = b := ⟨_, rfl⟩
  rw [ha] at cm cn
  rw [hb] at cg ch
  have C1 := Lib.hid cm
  have C2 := Lib.hid cn
  have C3 := Lib.hid cg
  have C4 := Lib.hid ch
  have C5 := Lib.hid cf
  have C6 := Lib.hid ck
  clear cm cn cg ch cf ck ha hb hm
  go_enter Tryd.func3, Tryd.ntmps3
  go_wp2_with (first | (go_at_call 8; refine CA.out.mono ?_; rintro e w1 ⟨rfl, hb1⟩; have H1 := Lib.hid hb1; clear hb1) | (go_at_call 9; refine (C1.out _ H1.out).mono ?_; rintro e w2 ⟨rfl, hb2⟩; have H2 := Lib.hid (below_then H1.out H1.out.size hb2); clear hb2) | (go_at_call 10; refine (C2.out _).mono ?_; rintro e w3 ⟨rfl, hb3⟩; have H3 := Lib.hid (below_then H2.out H2.out.size hb3); clear hb3) | (go_at_call 11; refine (C3.out _ H3.out).mono ?_; rintro e w4 ⟨rfl, hb4⟩; have H4 := Lib.hid (below_then H3.out H3.out.size hb4); clear hb4) | (go_at_call 12; refine (C4.out _).mono ?_; rintro e w5 ⟨rfl, hb5⟩; have H5 := Lib.hid (below_then H4.out H4.out.size hb5); clear hb5) | (go_at_call 13; refine (C5.out _ H5.out).mono ?_; rintro e w6 ⟨⟨r, rfl, hr⟩, hb6⟩; have HR := Lib.hid hr; have H6 := Lib.hid (below_then H5.out H5.out.size hb6); clear hb6 hr) | (go_at_call 14; refine (C6.out _).mono ?_; rintro e w7 ⟨⟨r', rfl, hr⟩, hb7⟩; obtain rfl := same_text HR.out hr; have H7 := Lib.hid (below_then H6.out H6.out.size hb7); clear hb7 hr))
  go_ret
  exact ⟨rfl, H7.out⟩
end Go.Proofs.YtgbogkmbgedkkaaDoor
