/- The reference's May, Match and Fixed (layer 4): contracts in plain words; the chapter's examples. -/
import Derived.Test.YtgbogkmbgedkkaaDoorP04fixed
import Derived.Test.YtgbogkmbgedkkaaDoorRef04Pure
import Derived.Test.YtgbogkmbgedkkaaDoorRef04Match
import Derived.Test.YtgbogkmbgedkkaaDoorGlobMatch
import Derived.Test.YtgbogkmbgedkkaaDoorGlobFixed
namespace Go.Proofs.YtgbogkmbgedkkaaDoor
open Go.RowKit

theorem refGMay_any (s : ByteArray) (w : World) (hs : s.size ≤ 1000000) :
    Calls Tryd.prog 10 #[.string s] w fun e w' => e = .returned (.bool (GS.may s.data.toList)) ∧ Below w.heap.size w w' :=
  P.bloomeryref04_May.calls (5 * s.size + 41) s _ w (R04.rmay_eq s hs _ (by omega))
theorem refGMatch_any (p s : ByteArray) (w : World) (hp : p.size ≤ 1000000) (hs : s.size ≤ 1000000) :
    Calls Tryd.prog 12 #[.string p, .string s] w fun e w' => e = .returned (.bool (GS.matches_ p.data.toList s.data.toList)) ∧ Below w.heap.size w w' := by
  obtain ⟨K, hK⟩ := R04.rmatch_eq p s hp hs
  exact P.bloomeryref04_Match.calls K p s _ w hK
theorem refGFixed_any (s : ByteArray) (w : World) (hs : s.size ≤ 1000000) :
    Calls Tryd.prog 14 #[.string s] w fun e w' => (∃ r, e = .returned (.string r) ∧ r.data.toList = GS.fixed s.data.toList) ∧ Below w.heap.size w w' := by
  obtain ⟨r, hr, hb⟩ := R04.rfixed_eq s hs (5 * s.size + 41) (by omega)
  exact (P.bloomeryref04_Fixed.calls _ s _ w hr).mono fun _ _ ⟨he, hw⟩ => ⟨⟨r, he, hb⟩, hw⟩

theorem ex_pat : GS.may [97, 47, 42, 42, 47, 99] = true ∧ PS.split [97, 47, 42, 42, 47, 99] = [[97], [42, 42], [99]] := by decide
theorem ex1 : GS.matches_ [97, 47, 42, 42, 47, 99] [97, 47, 99] = true := by
  unfold GS.matches_
  rw [ex_pat.1, ex_pat.2, show PS.may [97, 47, 99] = true by decide, show PS.split [97, 47, 99] = [[97], [99]] by decide]
  simp [GS.deal, GS.one, GS.ss]
theorem ex2 : GS.matches_ [97, 47, 42, 42, 47, 99] [97, 47, 98, 47, 98, 47, 99] = true := by
  unfold GS.matches_
  rw [ex_pat.1, ex_pat.2, show PS.may [97, 47, 98, 47, 98, 47, 99] = true by decide, show PS.split [97, 47, 98, 47, 98, 47, 99] = [[97], [98], [98], [99]] by decide]
  simp [GS.deal, GS.one, GS.ss]
theorem ex3 : GS.matches_ [97, 47, 42, 42, 47, 99] [97] = false := by
  unfold GS.matches_
  rw [ex_pat.1, ex_pat.2, show PS.may [97] = true by decide, show PS.split [97] = [[97]] by decide]
  simp [GS.deal, GS.one, GS.ss]
theorem ex4 : GS.fixed [97, 47, 98, 42, 46, 99] = [97, 47, 98] := by decide
theorem same_text {r t : ByteArray} {l : List UInt8} (h : r.data.toList = l) (k : t.data.toList = l) : r = t := ByteArray.ext (Array.ext' (h.trans k.symm))


set_option maxHeartbeats 1000000 in
set_option maxRecDepth 100000 in
theorem galive_any (m : Int) (w : World) (hm : w.cell? ⟨0, 0, none⟩ = some (.int .i64 m)) :
    Calls Tryd.prog 8 #[] w fun e w' => e = .returned (.bool true) ∧ Below w.heap.size w w' := by
  have c1 := match_any ⟨#[97, 47, 42, 42, 47, 99]⟩ ⟨#[97, 47, 99]⟩ m w (by decide) (by decide) hm
  have c2 := fun W (h : Below w.heap.size w W) => match_any ⟨#[97, 47, 42, 42, 47, 99]⟩ ⟨#[97, 47, 98, 47, 98, 47, 99]⟩ m W (by decide) (by decide) (cell_below h hm)
  have c3 := fun W (h : Below w.heap.size w W) => match_any ⟨#[97, 47, 42, 42, 47, 99]⟩ ⟨#[97]⟩ m W (by decide) (by decide) (cell_below h hm)
  have c4 := fun W (h : Below w.heap.size w W) => fixed_any ⟨#[97, 47, 98, 42, 46, 99]⟩ m W (by decide) (cell_below h hm)
  rw [show GS.matches_ (⟨#[97, 47, 42, 42, 47, 99]⟩ : ByteArray).data.toList (⟨#[97, 47, 99]⟩ : ByteArray).data.toList = true from ex1] at c1
  rw [show GS.matches_ (⟨#[97, 47, 42, 42, 47, 99]⟩ : ByteArray).data.toList (⟨#[97, 47, 98, 47, 98, 47, 99]⟩ : ByteArray).data.toList = true from ex2] at c2
  rw [show GS.matches_ (⟨#[97, 47, 42, 42, 47, 99]⟩ : ByteArray).data.toList (⟨#[97]⟩ : ByteArray).data.toList = false from ex3] at c3
  rw [show GS.fixed (⟨#[97, 47, 98, 42, 46, 99]⟩ : ByteArray).data.toList = [97, 47, 98] from ex4] at c4
  have C1 := Lib.hid c1
  have C2 := Lib.hid c2
  have C3 := Lib.hid c3
  have C4 := Lib.hid c4
  clear c1 c2 c3 c4 hm
  go_enter Tryd.func8, Tryd.ntmps8
  go_wp2_with (first | (go_at_call 11; with_reducible refine C1.out.mono ?_; rintro e w1 ⟨rfl, hb1⟩) | (go_at_call 11; with_reducible refine (C2.out w1 hb1).mono ?_; rintro e w2 ⟨rfl, hb2⟩; have hb12 := below_then hb1 hb1.size hb2; have H12 := Lib.hid hb12) | (go_at_call 11; with_reducible refine (C3.out w2 H12.out).mono ?_; rintro e w3 ⟨rfl, hb3⟩; have H13 := Lib.hid (below_then H12.out H12.out.size hb3)) | (go_at_call 13; with_reducible refine (C4.out w3 H13.out).mono ?_; rintro e w4 ⟨⟨r, rfl, hr⟩, hb4⟩; obtain rfl : r = ⟨#[97, 47, 98]⟩ := same_text hr rfl))
  go_ret
  exact ⟨rfl, below_then H13.out H13.out.size hb4⟩
end Go.Proofs.YtgbogkmbgedkkaaDoor
