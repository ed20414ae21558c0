/- The reference's May and Under (layer 3): contracts in plain words. -/
import Derived.Test.YtgbogkmbgedkkaaDoorRef03Dir
namespace Go.Proofs.YtgbogkmbgedkkaaDoor
open Go.RowKit

theorem refMay_any (s : ByteArray) (w : World) (hs : s.size ≤ 8796093022207) :
    Calls Tryd.prog 15 #[.string s] w fun e w' => e = .returned (.bool (PS.may s.data.toList)) ∧ Below w.heap.size w w' :=
  P.bloomeryref03_May.calls (2 * s.size + 11) s _ w (R03.may_eq s hs _ (by omega))
theorem refUnder_any (s d : ByteArray) (w : World) (hs : s.size ≤ 8796093022207) (hd : PS.may d.data.toList = true) :
    Calls Tryd.prog 17 #[.string s, .string d] w fun e w' => e = .returned (.bool (PS.under s.data.toList d.data.toList)) ∧ Below w.heap.size w w' := by
  have h := R03.under_eq s.size s d rfl hs (3 * s.size + 31) (by omega)
  rw [R03.underL_under (l := R03.bl s) (d := R03.bl d) hd] at h
  exact P.bloomeryref03_Under.calls (3 * s.size + 31) s d _ w h
end Go.Proofs.YtgbogkmbgedkkaaDoor
