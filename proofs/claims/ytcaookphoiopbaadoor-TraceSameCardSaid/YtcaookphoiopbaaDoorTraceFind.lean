/- The first read of a path among those that are known: slices.IndexFunc with the closure of trace.Holds. -/
import Derived.Test.YtcaookphoiopbaaDoorTraceSpec
import Derived.Test.YtcaookphoiopbaaDoorProg
namespace Go.Proofs.YtcaookphoiopbaaDoor
open Go.RowKit
namespace TS
/-- The place of the first read of a path, from place k on; -1. -/
def find (p : ByteArray) : List ReadD → Nat → Int
  | [], _ => -1
  | x :: l, k => if (x.path.toList == p.toList) = true then k else find p l (k + 1)
end TS

set_option maxHeartbeats 400000 in
set_option maxRecDepth 100000 in
theorem isPath_any (x : ReadD) (p : ByteArray) (b : Nat) (w : World) (hr : w.cell? ⟨b, 0, none⟩ = some (.string p)) :
    Calls Tryd.prog 36 #[.agg x.enc.toArray, .pointer (some ⟨b, 0, none⟩)] w fun e w' => e = .returned (.bool (x.path.toList == p.toList)) ∧ Below w.heap.size w w' := by
  have h0 := box_cell 32 (show x.enc[0]? = some (.string x.path) from rfl)
  have hb := cell_below (below_box (w := w) (.cells x.enc.toArray 32)) hr
  obtain ⟨cs, hcs⟩ : ∃ cs, x.enc = cs := ⟨_, rfl⟩
  rw [hcs] at h0 hb ⊢
  clear hcs
  go_enter Tryd.func36, Tryd.ntmps36
  go_wp2_with fail
  go_ret
  exact ⟨rfl, below_box _⟩

set_option maxHeartbeats 1000000 in
set_option maxRecDepth 100000 in
theorem find_any (A : Option Addr) (n c : Nat) (rs : List ReadD) (p : ByteArray) (br : Nat) (w : World) (hE : Elems ReadD.enc 34 w A n c rs) (hn : n ≤ 1000000000) (hr : w.cell? ⟨br, 0, none⟩ = some (.string p)) :
    Calls Tryd.prog 35 #[.slice A n c, .func (.func 36) #[] #[.pointer (some ⟨br, 0, none⟩)]] w fun e w' => e = .returned (.int .i64 (TS.find p rs 0)) ∧ Below w.heap.size w w' := by
  go_enter Tryd.func35, Tryd.ntmps35
  go_wp2
  go_loopw [8] (fun i wr => ∃ k : Nat, k ≤ n ∧ i = .int .i64 k ∧ Below w.heap.size w wr ∧ TS.find p rs 0 = TS.find p (rs.drop k) k) (fun i _ => n - (intOf i).toNat)
  case atStart => exact ⟨0, by omega, rfl, Below.refl _ _, rfl⟩
  case round =>
    obtain ⟨k, hk, rfl, hbW, hsp⟩ := hrel
    by_cases hlt : k < n
    · obtain ⟨b, o, rfl, hbl, hel⟩ := hE.at_ (by omega)
      have hlen := hE.len
      obtain ⟨r, hm⟩ : ∃ r, rs[k]? = some r := ⟨rs[k], by simp⟩
      have hrg := range_low hbW hbl (hel k r hm)
      have hrw := cell_below hbW hr
      have hstep : TS.find p (rs.drop k) k = if (r.path.toList == p.toList) = true then (k : Int) else TS.find p (rs.drop (k + 1)) (k + 1) := by
        obtain ⟨hk', rfl⟩ := List.getElem?_eq_some_iff.1 hm
        rw [List.drop_eq_getElem_cons hk']
        rfl
      obtain ⟨q, hq⟩ : ∃ q, (r.path.toList == p.toList) = q := ⟨_, rfl⟩
      have cc := isPath_any r p br
      rw [hq] at hstep cc
      have HR := Lib.hid hrg
      have HS := Lib.hid (hsp.trans hstep)
      have CC := Lib.hid cc
      clear hrg hsp hstep cc hel hm hq hlen
      cases q with
      | true =>
        go_wp2_with (first | (refine wpList_load_mid rfl 32 _ rfl b (o + k * 34) rfl r.enc _ HR.out Tryd.underlying32 rfl (by rw [r.enc_len]; kernel_rfl) ?_) | (go_at_call 36; refine (CC.out _ hrw).mono ?_; rintro e w1 ⟨rfl, hb1⟩))
        go_ret
        exact ⟨retI (by rw [HS.out]; rfl), below_then hbW hbW.size hb1⟩
      | false =>
        go_wp2_with (first | (refine wpList_load_mid rfl 32 _ rfl b (o + k * 34) rfl r.enc _ HR.out Tryd.underlying32 rfl (by rw [r.enc_len]; kernel_rfl) ?_) | (go_at_call 36; refine (CC.out _ hrw).mono ?_; rintro e w1 ⟨rfl, hb1⟩))
        go_roundw
        case rel => exact ⟨k + 1, by omega, by go_num, below_then hbW hbW.size hb1, by rw [HS.out]; rfl⟩
        case measure => simp [intOf]; omega
    · obtain rfl : k = n := by omega
      have hfin : TS.find p rs 0 = -1 := by
        rw [hsp, List.drop_of_length_le (by rw [hE.len]; omega)]
        rfl
      have HF := Lib.hid hfin
      clear hsp hfin
      go_wp2_with fail
      go_ret
      exact ⟨retI HF.out.symm, hbW⟩
end Go.Proofs.YtcaookphoiopbaaDoor
