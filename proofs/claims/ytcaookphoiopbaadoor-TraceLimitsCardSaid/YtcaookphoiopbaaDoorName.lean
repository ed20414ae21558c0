/- name: of numbers from 0 on names that rise. -/
import Derived.Test.YtcaookphoiopbaaDoorBase
import Derived.Test.YtcaookphoiopbaaDoorProg
import Derived.Test.YtcaookphoiopbaaDoorPathSpec
import Derived.Laws.BytesArg
namespace Go.Proofs.YtcaookphoiopbaaDoor
open Go.RowKit

namespace NM
/-- The last k digits of a number. -/
def acc (n : Nat) : Nat → List UInt8
  | 0 => []
  | k + 1 => (48 + UInt8.ofNat (n / 10 ^ k % 10)) :: acc n k
def name (n : Nat) : List UInt8 := acc n 4
end NM

theorem acc_len (n k : Nat) : (NM.acc n k).length = k := by
  induction k with
  | zero => rfl
  | succ k ih => rw [NM.acc, List.length_cons, ih]

theorem conv_one (c : Int) (W : World) : (convert 64 9 (.slice (some ⟨W.heap.size, 0, none⟩) 1 1)).run Tryd.prog (W.alloc (.cells #[.int .u8 c] 5)) = .ok (.string ⟨#[UInt8.ofNat c.toNat]⟩) (W.alloc (.cells #[.int .u8 c] 5)) := by
  have h := run_convert_bytes_arg (P := Tryd.prog) (W.alloc (.cells #[.int .u8 c] 5)) 64 5 Tryd.underlying64 Tryd.underlying5 W.heap.size 0 1 1 [c] rfl (fun i hi => by
    obtain rfl : i = 0 := by omega
    simp) 9 Tryd.underlying9
  exact h

theorem acc_step (n k : Nat) (s : ByteArray) (h : s.data.toList = NM.acc n k) : ((⟨#[48 + UInt8.ofNat (n / 10 ^ k % 10)]⟩ : ByteArray) ++ s).data.toList = NM.acc n (k + 1) := by
  rw [ByteArray.data_append]
  simp [NM.acc, h]

set_option maxHeartbeats 2000000 in
set_option maxRecDepth 100000 in
theorem name_any (n : Nat) (hn : n ≤ 9999) (w : World) :
    Calls Tryd.prog 12 #[.int .i64 n] w fun e w' => e = .returned (.string ⟨(NM.name n).toArray⟩) ∧ Below w.heap.size w w' := by
  obtain ⟨res, hres⟩ : ∃ res, (⟨(NM.name n).toArray⟩ : ByteArray) = res := ⟨_, rfl⟩
  rw [hres]
  have HRES := Lib.hid hres
  clear hres
  go_enter Tryd.func12, Tryd.ntmps12
  go_wp2
  go_loopw [0, 3, 4] (fun m s i wr => ∃ (k : Nat) (t : ByteArray), k ≤ 4 ∧ i = .int .i64 k ∧ m = .int .i64 ((n / 10 ^ k : Nat) : Int) ∧ s = .string t ∧ t.data.toList = NM.acc n k ∧ Below w.heap.size w wr) (fun _ _ i _ => 4 - (intOf i).toNat)
  case atStart => exact ⟨0, ⟨#[]⟩, by omega, rfl, by simp, rfl, rfl, Below.refl _ _⟩
  case round =>
    obtain ⟨k, t, hk, rfl, rfl, rfl, ht, hb⟩ := hrel
    have hcv := conv_one
    obtain ⟨q, hq⟩ : ∃ q, n / 10 ^ k = q := ⟨_, rfl⟩
    have hq9 : q ≤ 9999 := by rw [← hq]; exact Nat.le_trans (Nat.div_le_self _ _) hn
    have hts : t.size ≤ 4 := by
      have e : t.size = t.data.toList.length := rfl
      rw [e, ht, acc_len]
      exact hk
    rw [hq]
    have HQ := Lib.hid hq
    have HT := Lib.hid ht
    clear hq ht
    by_cases hlt : k < 4
    · go_wp2
      refine ⟨⟨k + 1, ⟨#[48 + UInt8.ofNat (q % 10)]⟩ ++ t, by omega, by simp, ?_, rfl, ?_, ?_⟩, ?_⟩
      · have e : n / 10 ^ (k + 1) = q / 10 := by rw [← HQ.out, Nat.pow_succ, Nat.div_div_eq_div_mul]
        rw [e]
        simp
      · have := acc_step n k t HT.out
        rw [HQ.out] at this
        exact this
      · exact hb.alloc hb.size _
      · simp only [intOf]
        omega
    · obtain rfl : k = 4 := by omega
      go_wp2
      go_ret
      have e : t = res := by
        rw [← HRES.out]
        exact congrArg ByteArray.mk (Array.toList_inj.mp HT.out)
      exact ⟨by rw [← e]; rfl, hb⟩
end Go.Proofs.YtcaookphoiopbaaDoor
