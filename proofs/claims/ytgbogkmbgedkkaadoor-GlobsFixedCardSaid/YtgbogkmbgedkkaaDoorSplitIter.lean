/- The iterator of strings.SplitSeq at the stroke: what it does, whatever the loop's body, as long as that keeps the iterator's own variables. -/
import Derived.Test.YtgbogkmbgedkkaaDoorProg
import Derived.Test.YtgbogkmbgedkkaaDoorPlain
import Derived.Test.YtgbogkmbgedkkaaDoorShelf
import Derived.OneCell
import Derived.Lib.Hide
namespace Go.Proofs.YtgbogkmbgedkkaaDoor
open Go.RowKit Go.Shelf
attribute [local go_sem] Oper.semAt_some

/-- The blocks of the iterator's variables lie as they lay. -/
def KeepB (b1 b2 b3 : Nat) (W W' : World) : Prop := W'.heap[b1]? = W.heap[b1]? ∧ W'.heap[b2]? = W.heap[b2]? ∧ W'.heap[b3]? = W.heap[b3]?

set_option maxHeartbeats 400000 in
set_option maxRecDepth 100000 in
theorem splitIter_calls (n l b1 b2 b3 : Nat) (s : ByteArray) (J Jx : List (List UInt8) → World → Prop) (W : World)
    (hn : 1 ≤ n) (hsz : s.size ≤ 281474976710656) (h12 : b1 ≠ b2) (h32 : b3 ≠ b2)
    (hb1 : W.heap[b1]? = some (.cells #[.string ⟨#[47]⟩] 9 (0, 0))) (hb2 : W.heap[b2]? = some (.cells #[.string s] 9 (0, 0))) (hb3 : W.heap[b3]? = some (.cells #[.int .i64 0] 3 (0, 0)))
    (hset : ∀ pre W1 (r : ByteArray), J pre W1 → J pre (W1.setCell ⟨b2, 0, none⟩ (.string r)))
    (hY : ∀ (pre : List (List UInt8)) (x : ByteArray) (rest : List (List UInt8)) (W1 : World), PS.split s.data.toList = pre ++ x.data.toList :: rest → J pre W1 → YieldAt Fence.wide (n - 1) Tryd.prog l #[.string x] W1 fun e W' =>
      (e = .returned (.bool true) ∧ J (pre ++ [x.data.toList]) W' ∧ KeepB b1 b2 b3 W1 W') ∨ (e = .returned (.bool false) ∧ Jx (pre ++ [x.data.toList]) W'))
    (h0 : J [] W) :
    CallsIn Fence.wide n Tryd.prog 84 #[.func (.yield l) #[] #[], .pointer (some ⟨b1, 0, none⟩), .pointer (some ⟨b2, 0, none⟩), .pointer (some ⟨b3, 0, none⟩)] W fun e W' =>
      (∃ v, e = .returned v) ∧ (J (PS.split s.data.toList) W' ∨ ∃ pre rest, PS.split s.data.toList = pre ++ rest ∧ Jx pre W') := by
  have hc1 := cell_of_one hb1
  have hc2 := cell_of_one hb2
  refine callsIn_of_wp Tryd.func84 rfl trivial ?_ rfl
  simp only [Tryd.ntmps84, List.size_toArray, List.length_cons, List.length_nil, Nat.reduceAdd, Nat.reduceSub, Array.replicate_succ, Array.replicate_zero, List.push_toArray, List.append_toArray, List.nil_append, List.cons_append]
  gi_wp2
  gi_loopw [7] (fun _ wr => ∃ (pre : List (List UInt8)) (r : ByteArray), PS.split s.data.toList = pre ++ PS.split r.data.toList ∧ r.size ≤ s.size ∧ wr.heap[b1]? = some (.cells #[.string ⟨#[47]⟩] 9 (0, 0)) ∧ wr.heap[b2]? = some (.cells #[.string r] 9 (0, 0)) ∧ wr.heap[b3]? = some (.cells #[.int .i64 0] 3 (0, 0)) ∧ J pre wr)
    (fun _ wr => match wr.cell? ⟨b2, 0, none⟩ with | some (.string r) => r.size | _ => 0)
  case atStart => exact ⟨[], s, rfl, Nat.le_refl _, hb1, hb2, hb3, h0⟩
  case round =>
    obtain ⟨pre, r, hsp, hrs, hB1, hB2, hB3, hJ⟩ := hrel
    have hC1 := cell_of_one hB1
    have hC2 := cell_of_one hB2
    have hC3 := cell_of_one hB3
    have hF2 := free_of_one hB2
    clear hb1 hb2 hb3 hc1 hc2 h0
    obtain ⟨i, hi⟩ : ∃ i, Lib.indexByte r.data.toList 47 = i := ⟨_, rfl⟩
    have hIdx := Tryd.strings_Index_one r 47
    rw [hi] at hIdx
    have HIdx := Lib.hid hIdx
    clear hIdx
    by_cases hneg : i < 0
    · have hone := PS.split_none (l := r.data.toList) (by rw [hi]; exact hneg)
      have hsp2 : PS.split s.data.toList = pre ++ [r.data.toList] := by rw [hsp, hone]
      obtain ⟨fn, tmps, assign, body, hy, hR⟩ := hY pre r [] wr hsp2 hJ
      have HSP := Lib.hid hsp2
      clear hsp hone hsp2 hset hY hi hB1 hB2 hB3
      gi_wp2_with (refine ⟨trivial, ?_⟩; gi_at_call 37; refine (callsIn_wide.2 (HIdx.out _)).mono ?_; rintro e w' ⟨rfl, hw⟩; obtain rfl := hw.symm)
      refine hR.mono ?_
      rintro e W3 (⟨rfl, hJ3, _⟩ | ⟨rfl, hJ3⟩)
      · rw [← HSP.out] at hJ3
        gi_wp2
        go_end0
        exact ⟨⟨_, rfl⟩, .inl hJ3⟩
      · have HQ := HSP.out
        gi_wp2
        go_end0
        exact ⟨⟨_, rfl⟩, .inr ⟨_, [], by rw [List.append_nil]; exact HQ, hJ3⟩⟩
    · obtain ⟨hlt, hcut⟩ := PS.split_cut r hi (by omega)
      have hsp2 : PS.split s.data.toList = pre ++ (r.extract 0 i.toNat).data.toList :: PS.split (r.extract (i + 1).toNat r.size).data.toList := by rw [hsp, hcut]
      obtain ⟨fn, tmps, assign, body, hy, hR⟩ := hY pre (r.extract 0 i.toNat) _ wr hsp2 hJ
      have HSP := Lib.hid hsp2
      have HB := Lib.hid (And.intro hB1 (And.intro hB2 hB3))
      have hi0 : 0 ≤ i := by omega
      have h1 : 1 ≤ n := hn
      clear hsp hsp2 hY hi hB1 hB2 hB3 hcut hneg
      gi_wp2_with (refine ⟨trivial, ?_⟩; gi_at_call 37; refine (callsIn_wide.2 (HIdx.out _)).mono ?_; rintro e w' ⟨rfl, hw⟩; obtain rfl := hw.symm)
      refine hR.mono ?_
      rintro e W3 (⟨rfl, hJ3, hk1, hk2, hk3⟩ | ⟨rfl, hJ3⟩)
      · obtain ⟨hB1, hB2, hB3⟩ := HB.out
        have hC1' := cell_of_one (hk1.trans hB1)
        have hC2' := cell_of_one (hk2.trans hB2)
        have hF2' := free_of_one (hk2.trans hB2)
        have HK := Lib.hid (And.intro (hk1.trans hB1) (And.intro (hk2.trans hB2) (hk3.trans hB3)))
        clear hk1 hk2 hk3 hB1 hB2 hB3
        gi_wp2
        obtain ⟨hB1, hB2, hB3⟩ := HK.out
        have hN := one_setCell (u := .string (r.extract (i + 1).toNat r.size)) hB2
        go_roundw
        case rel =>
          exact ⟨pre ++ [(r.extract 0 i.toNat).data.toList], r.extract (i + 1).toNat r.size, by rw [HSP.out]; simp, by rw [ByteArray.size_extract]; omega,
            (Below.heap_setCell _ _ _ _ h12).trans hB1, hN, (Below.heap_setCell _ _ _ _ h32).trans hB3, hset _ _ _ hJ3⟩
        case measure =>
          rw [cell_of_one hN, hC2]
          simp only [ByteArray.size_extract]
          omega
      · have HQ := HSP.out
        gi_wp2
        refine bodyPost_ret (results_none rfl _ _ _) rfl ?_
        exact ⟨⟨_, rfl⟩, .inr ⟨_, _, by rw [HQ, List.append_cons], hJ3⟩⟩
end Go.Proofs.YtgbogkmbgedkkaaDoor
