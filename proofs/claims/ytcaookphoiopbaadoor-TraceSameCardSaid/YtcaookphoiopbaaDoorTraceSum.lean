/- trace.sum: a digest's bytes as a text. -/
import Derived.Test.YtcaookphoiopbaaDoorTraceSpec
import Derived.Test.YtcaookphoiopbaaDoorProg
import Derived.Laws.BytesArg
import Derived.Lib.ConvBytes
namespace Go.Proofs.YtcaookphoiopbaaDoor
open Go.RowKit

def Dig.str (d : Dig) : ByteArray := ⟨d.bs.toArray⟩

theorem strOf (d : Dig) : strOfNums (d.bs.map fun b => (b.toNat : Int)) = d.str := by
  unfold strOfNums Dig.str
  congr 1
  simp [Function.comp_def]

theorem dig_conv (d : Dig) (b o : Nat) (W : World) (h : W.rangeAt b o d.enc) (cap : Nat) :
    (convert 64 9 (.slice (some ⟨b, o, none⟩) 32 cap)).run Tryd.prog W = .ok (.string d.str) W := by
  have := run_convert_bytes_arg (P := Tryd.prog) W 64 5 Tryd.underlying64 Tryd.underlying5 b o 32 cap (d.bs.map fun b => (b.toNat : Int)) (by simp [d.len]) (fun i hi => by
    have hl : i < d.bs.length := by rw [d.len]; exact hi
    have := h i (.int .u8 (d.bs[i].toNat : Int)) (by simp [Dig.enc, List.getElem?_eq_getElem hl])
    rw [this]
    simp [List.getD_eq_getElem?_getD, List.getElem?_eq_getElem hl]) 9 Tryd.underlying9
  rw [this, strOf]

set_option maxHeartbeats 400000 in
set_option maxRecDepth 100000 in
theorem sum_any (d : Dig) (w : World) :
    Calls Tryd.prog 41 #[.agg d.enc.toArray] w fun e w' => e = .returned (.string d.str) ∧ Below w.heap.size w w' := by
  have hcv := dig_conv d w.heap.size 0 (w.alloc (.cells d.enc.toArray 25)) (range_new w d.enc _) 32
  obtain ⟨cs, hcs⟩ : ∃ cs, d.enc = cs := ⟨_, rfl⟩
  rw [hcs] at hcv ⊢
  clear hcs
  go_enter Tryd.func41, Tryd.ntmps41
  go_wp2_with fail
  go_ret
  exact ⟨rfl, below_box _⟩
end Go.Proofs.YtcaookphoiopbaaDoor
