/- The laws' small helpers on traces: wide, empty, knows. -/
import Derived.Test.YtcaookphoiopbaaDoorTraceSpec
import Derived.Test.YtcaookphoiopbaaDoorProg
namespace Go.Proofs.YtcaookphoiopbaaDoor
open Go.RowKit
namespace TS
def widthR (rs : List ReadD) : Nat := (rs.map fun r => min r.path.size 3000).sum
def widthM (ms : List MadeD) : Nat := (ms.map fun r => min r.path.size 3000).sum
/-- Too wide for the laws. -/
def wide (t : TraceD) : Bool := decide (60 < t.reads.length) || decide (60 < t.outs.length) || decide (3000 < widthR t.reads + widthM t.outs)
def knows (rs : List ReadD) (p : ByteArray) : Bool := rs.any fun r => r.path.toList == p.toList
theorem widthR_take {rs : List ReadD} {k : Nat} {r : ReadD} (h : rs[k]? = some r) : widthR (rs.take (k + 1)) = widthR (rs.take k) + min r.path.size 3000 := by
  unfold widthR
  rw [List.take_add_one, h]
  simp
theorem widthM_take {rs : List MadeD} {k : Nat} {r : MadeD} (h : rs[k]? = some r) : widthM (rs.take (k + 1)) = widthM (rs.take k) + min r.path.size 3000 := by
  unfold widthM
  rw [List.take_add_one, h]
  simp
theorem widthR_le : ∀ (rs : List ReadD), widthR rs ≤ rs.length * 3000
  | [] => by simp [widthR]
  | r :: l => by
    have := widthR_le l
    have h : widthR (r :: l) = min r.path.size 3000 + widthR l := by simp [widthR]
    rw [h, List.length_cons, Nat.succ_mul]
    omega
theorem widthM_le : ∀ (rs : List MadeD), widthM rs ≤ rs.length * 3000
  | [] => by simp [widthM]
  | r :: l => by
    have := widthM_le l
    have h : widthM (r :: l) = min r.path.size 3000 + widthM l := by simp [widthM]
    rw [h, List.length_cons, Nat.succ_mul]
    omega
theorem widthR_mem : ∀ {rs : List ReadD} {r : ReadD}, r ∈ rs → min r.path.size 3000 ≤ widthR rs
  | x :: l, r, h => by
    have e : widthR (x :: l) = min x.path.size 3000 + widthR l := by simp [widthR]
    rw [e]
    rcases List.mem_cons.1 h with rfl | h
    · omega
    · have := widthR_mem h
      omega
theorem widthM_mem : ∀ {rs : List MadeD} {r : MadeD}, r ∈ rs → min r.path.size 3000 ≤ widthM rs
  | x :: l, r, h => by
    have e : widthM (x :: l) = min x.path.size 3000 + widthM l := by simp [widthM]
    rw [e]
    rcases List.mem_cons.1 h with rfl | h
    · omega
    · have := widthM_mem h
      omega
end TS

set_option maxHeartbeats 2000000 in
set_option maxRecDepth 100000 in
theorem wide_any (t : TraceD) (A : Option Addr) (c : Nat) (A' : Option Addr) (c' : Nat) (w : World) (hR : Elems ReadD.enc 34 w A t.reads.length c t.reads) (hO : Elems MadeD.enc 33 w A' t.outs.length c' t.outs) :
    Calls Tryd.prog 14 #[.agg (t.cells A c A' c').toArray] w fun e w' => e = .returned (.bool (TS.wide t)) ∧ Below w.heap.size w w' := by
  obtain ⟨cs, hcs⟩ : ∃ cs, t.cells A c A' c' = cs := ⟨_, rfl⟩
  have h32 := box_cell 29 (t.cell32 A c A' c')
  have h33 := box_cell 29 (t.cell33 A c A' c')
  rw [hcs] at h32 h33 ⊢
  clear hcs
  obtain ⟨z, hz⟩ : ∃ z, TS.wide t = z := ⟨_, rfl⟩
  unfold TS.wide at hz
  have HZ := Lib.hid hz
  rw [show TS.wide t = z from hz]
  obtain ⟨rs, hrs⟩ : ∃ rs, t.reads = rs := ⟨_, rfl⟩
  obtain ⟨ms, hms⟩ : ∃ ms, t.outs = ms := ⟨_, rfl⟩
  rw [hrs] at hR h32 HZ
  rw [hms] at hO h33 HZ
  clear hrs hms hz
  by_cases h1 : 60 < rs.length
  · have hz1 : z = true := by rw [← HZ.out]; simp [h1]
    subst hz1
    go_enter Tryd.func14, Tryd.ntmps14
    go_wp2
    go_ret
    exact ⟨rfl, below_box _⟩
  by_cases h2 : 60 < ms.length
  · have hz1 : z = true := by rw [← HZ.out]; simp [h2]
    subst hz1
    have h1' : rs.length ≤ 60 := by omega
    go_enter Tryd.func14, Tryd.ntmps14
    go_wp2
    all_goals first
      | (exfalso; omega)
      | (go_ret; exact ⟨rfl, below_box _⟩)
  have h1' : rs.length ≤ 60 := by omega
  have h2' : ms.length ≤ 60 := by omega
  have hz1 : z = decide (3000 < TS.widthR rs + TS.widthM ms) := by rw [← HZ.out]; simp [h1, h2]
  have HZ1 := Lib.hid hz1
  clear HZ hz1 h1 h2
  go_enter Tryd.func14, Tryd.ntmps14
  go_wp2
  obtain ⟨N, hN⟩ : ∃ N, w.heap.size = N := ⟨_, rfl⟩
  obtain ⟨X0, hX0⟩ : ∃ X0, w.alloc (.cells cs.toArray 29) = X0 := ⟨_, rfl⟩
  have g32 := h32 w
  have g33 := h33 w
  have hb0 : Below w.heap.size w X0 := by rw [← hX0]; exact below_box _
  rw [hX0, hN] at g32 g33
  rw [hX0, hN]
  clear h32 h33 hX0
  go_loopw [3, 4] (fun s i wr => ∃ k : Nat, k ≤ rs.length ∧ i = .int .i64 k ∧ s = .int .i64 (TS.widthR (rs.take k)) ∧ wr = X0) (fun _ i _ => rs.length - (intOf i).toNat)
  case atStart => exact ⟨0, by omega, rfl, rfl, rfl⟩
  case round =>
    obtain ⟨k, hk, rfl, rfl, rfl⟩ := hrel
    by_cases hlt : k < rs.length
    · obtain ⟨b, o, rfl, hbl, hel⟩ := hR.at_ (by omega)
      obtain ⟨r, hm⟩ : ∃ r, rs[k]? = some r := ⟨rs[k], by simp⟩
      have hrc := (ReadD.cells (range_low hb0 hbl (hel k r hm))).1
      have hst := TS.widthR_take hm
      have hle := TS.widthR_le (rs.take k)
      rw [List.length_take] at hle
      obtain ⟨q, hq⟩ : ∃ q, TS.widthR (rs.take k) = q := ⟨_, rfl⟩
      rw [hq] at hst hle ⊢
      have HS := Lib.hid hst
      have hq9 : q ≤ 180000 := by omega
      clear hel hm hq hst hle
      go_wp2_with fail
      refine ⟨⟨k + 1, by omega, by go_num, ?_, trivial⟩, by simp only [intOf]; omega⟩
      rw [HS.out]
      congr 1
      omega
    · obtain rfl : k = rs.length := by omega
      rw [List.take_of_length_le (Nat.le_refl _)]
      obtain ⟨q, hq⟩ : ∃ q, TS.widthR rs = q := ⟨_, rfl⟩
      have hle := TS.widthR_le rs
      rw [hq] at hle HZ1 ⊢
      have hq9 : q ≤ 180000 := by omega
      clear hq hle
      go_wp2_with fail
      go_loopw [3, 5] (fun s i w2 => ∃ k : Nat, k ≤ ms.length ∧ i = .int .i64 k ∧ s = .int .i64 ((q + TS.widthM (ms.take k) : Nat) : Int) ∧ w2 = wr) (fun _ i _ => ms.length - (intOf i).toNat)
      case atStart => exact ⟨0, by omega, rfl, rfl, rfl⟩
      case round =>
        obtain ⟨k, hk, rfl, rfl, rfl⟩ := hrel
        by_cases hlt : k < ms.length
        · obtain ⟨b, o, rfl, hbl, hel⟩ := hO.at_ (by omega)
          obtain ⟨r, hm⟩ : ∃ r, ms[k]? = some r := ⟨ms[k], by simp⟩
          have hrc := (MadeD.cells (range_low hb0 hbl (hel k r hm))).1
          have hst := TS.widthM_take hm
          have hle := TS.widthM_le (ms.take k)
          rw [List.length_take] at hle
          obtain ⟨q', hq'⟩ : ∃ q', q + TS.widthM (ms.take k) = q' := ⟨_, rfl⟩
          rw [hq']
          have hst' : q + TS.widthM (ms.take (k + 1)) = q' + min r.path.size 3000 := by omega
          have HS := Lib.hid hst'
          have hq9' : q' ≤ 360000 := by omega
          clear hel hm hq' hst hle hst'
          go_wp2_with fail
          refine ⟨⟨k + 1, by omega, by go_num, ?_, trivial⟩, by simp only [intOf]; omega⟩
          rw [HS.out]
          congr 1
          omega
        · obtain rfl : k = ms.length := by omega
          rw [List.take_of_length_le (Nat.le_refl _)]
          have hle := TS.widthM_le ms
          obtain ⟨q', hq'⟩ : ∃ q', q + TS.widthM ms = q' := ⟨_, rfl⟩
          rw [hq'] at HZ1 ⊢
          have hq9' : q' ≤ 360000 := by omega
          clear hle hq'
          go_wp2_with fail
          go_ret
          exact ⟨retB (by rw [HZ1.out]; exact decide_eq_decide.mpr (by omega)), hb0⟩

set_option maxHeartbeats 1000000 in
set_option maxRecDepth 100000 in
theorem empty_any (t : TraceD) (A : Option Addr) (c : Nat) (A' : Option Addr) (c' : Nat) (w : World) (hR : Elems ReadD.enc 34 w A t.reads.length c t.reads) (hn : t.reads.length ≤ 1000000000) :
    Calls Tryd.prog 17 #[.agg (t.cells A c A' c').toArray] w fun e w' => e = .returned (.bool (t.reads.any fun r => r.path.toList == [])) ∧ Below w.heap.size w w' := by
  obtain ⟨cs, hcs⟩ : ∃ cs, t.cells A c A' c' = cs := ⟨_, rfl⟩
  have h32 := box_cell 29 (t.cell32 A c A' c')
  rw [hcs] at h32 ⊢
  clear hcs
  obtain ⟨rs, hrs⟩ : ∃ rs, t.reads = rs := ⟨_, rfl⟩
  rw [hrs] at hR h32 hn ⊢
  clear hrs
  obtain ⟨z, hz⟩ : ∃ z, (rs.any fun r => r.path.toList == []) = z := ⟨_, rfl⟩
  rw [hz]
  have HZ := Lib.hid hz
  clear hz
  go_enter Tryd.func17, Tryd.ntmps17
  go_wp2
  obtain ⟨N, hN⟩ : ∃ N, w.heap.size = N := ⟨_, rfl⟩
  obtain ⟨X0, hX0⟩ : ∃ X0, w.alloc (.cells cs.toArray 29) = X0 := ⟨_, rfl⟩
  have g32 := h32 w
  have hb0 : Below w.heap.size w X0 := by rw [← hX0]; exact below_box _
  rw [hX0, hN] at g32
  rw [hX0, hN]
  clear h32 hX0
  go_loopw [3] (fun i wr => ∃ k : Nat, k ≤ rs.length ∧ i = .int .i64 k ∧ z = ((rs.drop k).any fun r => r.path.toList == []) ∧ wr = X0) (fun i _ => rs.length - (intOf i).toNat)
  case atStart => exact ⟨0, by omega, rfl, HZ.out.symm, rfl⟩
  case round =>
    obtain ⟨k, hk, rfl, hz, rfl⟩ := hrel
    by_cases hlt : k < rs.length
    · obtain ⟨b, o, rfl, hbl, hel⟩ := hR.at_ (by omega)
      obtain ⟨r, hm⟩ : ∃ r, rs[k]? = some r := ⟨rs[k], by simp⟩
      have hrc := (ReadD.cells (range_low hb0 hbl (hel k r hm))).1
      have hst : z = ((r.path.toList == []) || ((rs.drop (k + 1)).any fun r => r.path.toList == [])) := by
        obtain ⟨hk', rfl⟩ := List.getElem?_eq_some_iff.1 hm
        rw [hz, List.drop_eq_getElem_cons hk', List.any_cons]
      have HS := Lib.hid hst
      clear hel hm hst hz HZ
      cases hq : (r.path.toList == []) with
      | true =>
        have hq' : r.path.toList = [] := by simpa using hq
        rw [hq] at HS
        go_wp2_with fail
        go_ret
        exact ⟨retB (by rw [HS.out]; rfl), hb0⟩
      | false =>
        have hq' : ¬ r.path.toList = [] := by simpa using hq
        rw [hq] at HS
        go_wp2_with fail
        go_roundw
        case rel => exact ⟨k + 1, by omega, by go_num, by rw [HS.out]; rfl, trivial⟩
        case measure => simp only [intOf]; omega
    · obtain rfl : k = rs.length := by omega
      have hfin : z = false := by rw [hz, List.drop_of_length_le (Nat.le_refl _)]; rfl
      have HF := Lib.hid hfin
      clear hz hfin HZ
      go_wp2_with fail
      go_ret
      exact ⟨retB HF.out.symm, hb0⟩

set_option maxHeartbeats 1000000 in
set_option maxRecDepth 100000 in
theorem knows_any (A : Option Addr) (n c : Nat) (rs : List ReadD) (p : ByteArray) (w : World) (hR : Elems ReadD.enc 34 w A n c rs) (hn : n ≤ 1000000000) :
    Calls Tryd.prog 18 #[.slice A n c, .string p] w fun e w' => e = .returned (.bool (TS.knows rs p)) ∧ Below w.heap.size w w' := by
  obtain ⟨z, hz⟩ : ∃ z, TS.knows rs p = z := ⟨_, rfl⟩
  rw [hz]
  unfold TS.knows at hz
  obtain rfl := hR.len
  have HZ := Lib.hid hz
  clear hz
  go_enter Tryd.func18, Tryd.ntmps18
  go_wp2
  go_loopw [5] (fun i wr => ∃ k : Nat, k ≤ rs.length ∧ i = .int .i64 k ∧ z = ((rs.drop k).any fun r => r.path.toList == p.toList) ∧ wr = w) (fun i _ => rs.length - (intOf i).toNat)
  case atStart => exact ⟨0, by omega, rfl, HZ.out.symm, rfl⟩
  case round =>
    obtain ⟨k, hk, rfl, hz, rfl⟩ := hrel
    by_cases hlt : k < rs.length
    · obtain ⟨b, o, rfl, hbl, hel⟩ := hR.at_ (by omega)
      obtain ⟨r, hm⟩ : ∃ r, rs[k]? = some r := ⟨rs[k], by simp⟩
      have hrc := (ReadD.cells (hel k r hm)).1
      have hst : z = ((r.path.toList == p.toList) || ((rs.drop (k + 1)).any fun r => r.path.toList == p.toList)) := by
        obtain ⟨hk', rfl⟩ := List.getElem?_eq_some_iff.1 hm
        rw [hz, List.drop_eq_getElem_cons hk', List.any_cons]
      have HS := Lib.hid hst
      clear hel hm hst hz HZ
      cases hq : (r.path.toList == p.toList) with
      | true =>
        rw [hq] at HS
        go_wp2_with fail
        go_ret
        exact ⟨retB (by rw [HS.out]; rfl), Below.refl _ _⟩
      | false =>
        rw [hq] at HS
        go_wp2_with fail
        go_roundw
        case rel => exact ⟨k + 1, by omega, by go_num, by rw [HS.out]; rfl, trivial⟩
        case measure => simp only [intOf]; omega
    · obtain rfl : k = rs.length := by omega
      have hfin : z = false := by rw [hz, List.drop_of_length_le (Nat.le_refl _)]; rfl
      have HF := Lib.hid hfin
      clear hz hfin HZ
      go_wp2_with fail
      go_ret
      exact ⟨retB HF.out.symm, Below.refl _ _⟩
end Go.Proofs.YtcaookphoiopbaaDoor
