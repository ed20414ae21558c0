/- trace.reads: what is wrong with the reads of a trace. -/
import Derived.Test.YtcaookphoiopbaaDoorTraceSpec
import Derived.Test.YtcaookphoiopbaaDoorPathMay
namespace Go.Proofs.YtcaookphoiopbaaDoor
open Go.RowKit Go.Shelf Go.Maps

theorem strKey : Keyed Tryd.prog 9 := string_keyed Tryd.underlying9
theorem zeroBool (w : World) : (zeroValue 4).run Tryd.prog w = .ok (.bool false) w := by kernel_rfl
theorem keyStr {s : ByteArray} (h : s.size ≤ 281474976710656) : keyOf Tryd.prog 9 (.string s) = some (.string s.data.toList) := Go.WideMaps.keyOf_string_mk Tryd.underlying9 (by unfold maxLen; omega)
theorem size1 (w : World) : (sizeOf 5).run Tryd.prog w = .ok 1 w := by kernel_rfl
theorem noGuard : Tryd.prog.eqGuardType Tryd.prog.depth 25 = false := by kernel_rfl
theorem neq_zero (d : Dig) (w : World) : (binOp .neq 25 (.agg d.enc.toArray) (.agg #[Value.int .u8 0, Value.int .u8 0, Value.int .u8 0, Value.int .u8 0, Value.int .u8 0, Value.int .u8 0, Value.int .u8 0, Value.int .u8 0, Value.int .u8 0, Value.int .u8 0, Value.int .u8 0, Value.int .u8 0, Value.int .u8 0, Value.int .u8 0, Value.int .u8 0, Value.int .u8 0, Value.int .u8 0, Value.int .u8 0, Value.int .u8 0, Value.int .u8 0, Value.int .u8 0, Value.int .u8 0, Value.int .u8 0, Value.int .u8 0, Value.int .u8 0, Value.int .u8 0, Value.int .u8 0, Value.int .u8 0, Value.int .u8 0, Value.int .u8 0, Value.int .u8 0, Value.int .u8 0])).run Tryd.prog w = .ok (.bool (!(d.bs == Dig.zero.bs))) w :=
  Dig.neq 25 5 Tryd.underlying25 Tryd.underlying5 size1 d Dig.zero w

theorem met_step {rs : List ReadD} {k : Nat} {r : ReadD} (h : rs[k]? = some r) : TS.met rs (k + 1) = fun x => x == r.path.data.toList || TS.met rs k x := by
  simp [TS.met, h]
theorem reads_step_bad {rs : List ReadD} {k : Nat} {r : ReadD} {f : List UInt8 → Bool} (hm : rs[k]? = some r) (hq : PS.may r.path.data.toList = false) : TS.readsErr f (rs.drop k) = 1 := by
  obtain ⟨hk, rfl⟩ := List.getElem?_eq_some_iff.1 hm
  rw [List.drop_eq_getElem_cons hk]
  simp [TS.readsErr, hq]
theorem reads_step_twice {rs : List ReadD} {k : Nat} {r : ReadD} {f : List UInt8 → Bool} (hm : rs[k]? = some r) (hq : PS.may r.path.data.toList = true) (h8 : f r.path.data.toList = true) : TS.readsErr f (rs.drop k) = 8 := by
  obtain ⟨hk, rfl⟩ := List.getElem?_eq_some_iff.1 hm
  rw [List.drop_eq_getElem_cons hk]
  simp [TS.readsErr, hq, h8]
theorem reads_step_sum {rs : List ReadD} {k : Nat} {r : ReadD} {f : List UInt8 → Bool} (hm : rs[k]? = some r) (hq : PS.may r.path.data.toList = true) (h8 : f r.path.data.toList = false) (h5 : (!r.is_ && !(r.sum.bs == Dig.zero.bs)) = true) : TS.readsErr f (rs.drop k) = 5 := by
  obtain ⟨hk, rfl⟩ := List.getElem?_eq_some_iff.1 hm
  rw [List.drop_eq_getElem_cons hk]
  simp only [TS.readsErr, hq, h8, h5, if_true, Bool.false_eq_true, if_false]
theorem reads_step_on {rs : List ReadD} {k : Nat} {r : ReadD} (hm : rs[k]? = some r) (hq : PS.may r.path.data.toList = true) (h8 : TS.met rs k r.path.data.toList = false) (h5 : (!r.is_ && !(r.sum.bs == Dig.zero.bs)) = false) :
    TS.readsErr (TS.met rs k) (rs.drop k) = TS.readsErr (TS.met rs (k + 1)) (rs.drop (k + 1)) := by
  rw [met_step hm]
  obtain ⟨hk, rfl⟩ := List.getElem?_eq_some_iff.1 hm
  rw [List.drop_eq_getElem_cons hk]
  simp only [TS.readsErr, hq, h8, h5, if_true, Bool.false_eq_true, if_false]

set_option maxHeartbeats 8000000 in
set_option maxRecDepth 100000 in
theorem reads_any (A : Option Addr) (n c : Nat) (rs : List ReadD) (w : World) (hE : Elems ReadD.enc 34 w A n c rs) (hn : n ≤ 1000000) (hp : ∀ r ∈ rs, r.path.size ≤ 281474976710656) :
    Calls Tryd.prog 33 #[.slice A n c] w fun e w' => e = .returned (.int .i64 (TS.readsErr (fun _ => false) rs)) ∧ Below w.heap.size w w' := by
  have hmm := @run_makeMap Tryd.prog
  go_enter Tryd.func33, Tryd.ntmps33
  go_wp2
  clear hmm
  go_loopw [9] (fun i wr => ∃ k : Nat, k ≤ n ∧ i = .int .i64 k ∧ OwnsSet wr Tryd.prog 9 4 w.heap.size k (TS.met rs k) ∧ Below w.heap.size w wr ∧ TS.readsErr (fun _ => false) rs = TS.readsErr (TS.met rs k) (rs.drop k)) (fun i _ => n - (intOf i).toNat)
  case atStart => exact ⟨0, by omega, rfl, OwnsSet.made _ _ _ _, (Below.refl _ _).alloc (Nat.le_refl _) _, rfl⟩
  case round =>
    obtain ⟨k, hk, rfl, hset, hbW, hsp⟩ := hrel
    by_cases hlt : k < n
    · obtain ⟨b, o, rfl, hbl, hel⟩ := hE.at_ (by omega)
      have hlen := hE.len
      obtain ⟨r, hm⟩ : ∃ r, rs[k]? = some r := ⟨rs[k], by simp⟩
      have hr := range_low hbW hbl (hel k r hm)
      have hps := hp r (List.mem_of_getElem? hm)
      have HR := Lib.hid hr
      have HSP := Lib.hid hsp
      have HEL := Lib.hid hel
      have HM := Lib.hid hm
      clear hr hsp hel hm hlen
      obtain ⟨q, hq⟩ : ∃ q, PS.may r.path.data.toList = q := ⟨_, rfl⟩
      have cm := fun W => may_any r.path W hps
      simp only [hq] at cm
      obtain ⟨q8, hq8⟩ : ∃ q8, TS.met rs k r.path.data.toList = q8 := ⟨_, rfl⟩
      obtain ⟨z, hz⟩ : ∃ z, (r.sum.bs == Dig.zero.bs) = z := ⟨_, rfl⟩
      obtain ⟨is, his⟩ : ∃ is, r.is_ = is := ⟨_, rfl⟩
      have hneq := neq_zero r.sum
      rw [hz] at hneq
      have CM := Lib.hid cm
      have HQ := Lib.hid hq
      have HM8 := Lib.hid hq8
      have HZ := Lib.hid hz
      have HIS := Lib.hid his
      clear cm hq hq8 hz his
      cases q with
      | false =>
        clear hneq
        go_wp2_with (first | (refine wpList_load_mid rfl 32 _ rfl b (o + k * 34) rfl r.enc _ HR.out Tryd.underlying32 rfl (by rw [r.enc_len]; kernel_rfl) ?_) | (refine wpList_store_new rfl 32 _ _ rfl _ r.enc rfl rfl (by simp [r.enc_len]) (by rw [r.enc_len]; kernel_rfl) r.enc_one ?_; refine wpList_name ?_; intro X hX; obtain ⟨hbX, hsX, hrX⟩ := box_facts hX; have hc0 := (ReadD.cells hrX).1; have HRX := Lib.hid hrX; clear hX hrX) | (go_at_call 60; refine (CM.out _).mono ?_; rintro e X2 ⟨rfl, hb2⟩; have hcs := ReadD.cells (range_below hb2 HRX.out); have hc2 := hcs.1; have hc3 := hcs.2.1; have HC4 := Lib.hid hcs.2.2; have hbX2 := below_then (below_then hbW hbW.size hbX) (Nat.le_trans hbW.size hbX.size) hb2; have hset2 := (hset.below hbX).below hb2; have HSET := Lib.hid hset2; have HB := Lib.hid hbX2; clear hbX hsX hb2 hc0 hbX2 hset2 hcs))
        go_ret
        exact ⟨retI (by rw [HSP.out, reads_step_bad HM.out HQ.out]), HB.out⟩
      | true =>
        cases q8 with
        | true =>
          clear hneq
          go_wp2_with (first | (refine wpList_load_mid rfl 32 _ rfl b (o + k * 34) rfl r.enc _ HR.out Tryd.underlying32 rfl (by rw [r.enc_len]; kernel_rfl) ?_) | (refine wpList_store_new rfl 32 _ _ rfl _ r.enc rfl rfl (by simp [r.enc_len]) (by rw [r.enc_len]; kernel_rfl) r.enc_one ?_; refine wpList_name ?_; intro X hX; obtain ⟨hbX, hsX, hrX⟩ := box_facts hX; have hc0 := (ReadD.cells hrX).1; have HRX := Lib.hid hrX; clear hX hrX) | (go_at_call 60; refine (CM.out _).mono ?_; rintro e X2 ⟨rfl, hb2⟩; have hcs := ReadD.cells (range_below hb2 HRX.out); have hc2 := hcs.1; have hc3 := hcs.2.1; have HC4 := Lib.hid hcs.2.2; have hbX2 := below_then (below_then hbW hbW.size hbX) (Nat.le_trans hbW.size hbX.size) hb2; have hset2 := (hset.below hbX).below hb2; have hlk := hset2.has (P := Tryd.prog) (t := 99) strKey Tryd.underlying99 Tryd.underlying4 (zeroBool _) (keyStr hps); rw [HM8.out] at hlk; have HSET := Lib.hid hset2; have HB := Lib.hid hbX2; clear hbX hsX hb2 hc0 hbX2 hset2 hcs))
          go_ret
          exact ⟨retI (by rw [HSP.out, reads_step_twice HM.out HQ.out HM8.out]), HB.out⟩
        | false =>
          cases is with
          | true =>
            clear hneq
            go_wp2_with (first | (refine wpList_load_mid rfl 32 _ rfl b (o + k * 34) rfl r.enc _ HR.out Tryd.underlying32 rfl (by rw [r.enc_len]; kernel_rfl) ?_) | (refine wpList_store_new rfl 32 _ _ rfl _ r.enc rfl rfl (by simp [r.enc_len]) (by rw [r.enc_len]; kernel_rfl) r.enc_one ?_; refine wpList_name ?_; intro X hX; obtain ⟨hbX, hsX, hrX⟩ := box_facts hX; have hc0 := (ReadD.cells hrX).1; have HRX := Lib.hid hrX; clear hX hrX) | (go_at_call 60; refine (CM.out _).mono ?_; rintro e X2 ⟨rfl, hb2⟩; have hcs := ReadD.cells (range_below hb2 HRX.out); have hc2 := hcs.1; have hc3 := hcs.2.1; have HC4 := Lib.hid hcs.2.2; have hbX2 := below_then (below_then hbW hbW.size hbX) (Nat.le_trans hbW.size hbX.size) hb2; have hset2 := (hset.below hbX).below hb2; have hlk := hset2.has (P := Tryd.prog) (t := 99) strKey Tryd.underlying99 Tryd.underlying4 (zeroBool _) (keyStr hps); rw [HM8.out] at hlk; rw [HIS.out] at hc3; have HSET := Lib.hid hset2; have HB := Lib.hid hbX2; clear hbX hsX hb2 hc0 hbX2 hset2 hcs) | (at_mapUpdate; refine wpList_set_put rfl _ _ _ 99 rfl 9 4 strKey Tryd.underlying99 Tryd.underlying4 w.heap.size k (TS.met rs k) rfl (by exact HSET.out) (by unfold maxLen; omega) r.path rfl rfl (keyStr hps) ?_; intro X3 hset3 hg3))
            go_roundw
            case rel => exact ⟨k + 1, by omega, by go_num, by rw [met_step HM.out]; exact hset3, HB.out.grown hg3 HB.out.size (fun j e => by cases e; exact Nat.le_refl _), by rw [HSP.out]; exact reads_step_on HM.out HQ.out HM8.out (by rw [HIS.out]; rfl)⟩
            case measure => simp [intOf]; omega
          | false =>
            have hng := noGuard
            cases z with
            | true =>
              go_wp2_with (first | (refine wpList_load_mid rfl 32 _ rfl b (o + k * 34) rfl r.enc _ HR.out Tryd.underlying32 rfl (by rw [r.enc_len]; kernel_rfl) ?_) | (refine wpList_store_new rfl 32 _ _ rfl _ r.enc rfl rfl (by simp [r.enc_len]) (by rw [r.enc_len]; kernel_rfl) r.enc_one ?_; refine wpList_name ?_; intro X hX; obtain ⟨hbX, hsX, hrX⟩ := box_facts hX; have hc0 := (ReadD.cells hrX).1; have HRX := Lib.hid hrX; clear hX hrX) | (go_at_call 60; refine (CM.out _).mono ?_; rintro e X2 ⟨rfl, hb2⟩; have hcs := ReadD.cells (range_below hb2 HRX.out); have hc2 := hcs.1; have hc3 := hcs.2.1; have HC4 := Lib.hid hcs.2.2; have hbX2 := below_then (below_then hbW hbW.size hbX) (Nat.le_trans hbW.size hbX.size) hb2; have hset2 := (hset.below hbX).below hb2; have hlk := hset2.has (P := Tryd.prog) (t := 99) strKey Tryd.underlying99 Tryd.underlying4 (zeroBool _) (keyStr hps); rw [HM8.out] at hlk; rw [HIS.out] at hc3; have HSET := Lib.hid hset2; have HB := Lib.hid hbX2; clear hbX hsX hb2 hc0 hbX2 hset2 hcs) | (refine wpList_load_mid_g 25 _ rfl rfl wr.heap.size 2 rfl r.sum.enc _ HC4.out Tryd.underlying25 rfl (by rw [r.sum.enc_len]; kernel_rfl) ?_) | (at_mapUpdate; refine wpList_set_put rfl _ _ _ 99 rfl 9 4 strKey Tryd.underlying99 Tryd.underlying4 w.heap.size k (TS.met rs k) rfl (by exact HSET.out) (by unfold maxLen; omega) r.path rfl rfl (keyStr hps) ?_; intro X3 hset3 hg3))
              go_roundw
              case rel => exact ⟨k + 1, by omega, by go_num, by rw [met_step HM.out]; exact hset3, HB.out.grown hg3 HB.out.size (fun j e => by cases e; exact Nat.le_refl _), by rw [HSP.out]; exact reads_step_on HM.out HQ.out HM8.out (by rw [HIS.out, HZ.out]; rfl)⟩
              case measure => simp [intOf]; omega
            | false =>
              go_wp2_with (first | (refine wpList_load_mid rfl 32 _ rfl b (o + k * 34) rfl r.enc _ HR.out Tryd.underlying32 rfl (by rw [r.enc_len]; kernel_rfl) ?_) | (refine wpList_store_new rfl 32 _ _ rfl _ r.enc rfl rfl (by simp [r.enc_len]) (by rw [r.enc_len]; kernel_rfl) r.enc_one ?_; refine wpList_name ?_; intro X hX; obtain ⟨hbX, hsX, hrX⟩ := box_facts hX; have hc0 := (ReadD.cells hrX).1; have HRX := Lib.hid hrX; clear hX hrX) | (go_at_call 60; refine (CM.out _).mono ?_; rintro e X2 ⟨rfl, hb2⟩; have hcs := ReadD.cells (range_below hb2 HRX.out); have hc2 := hcs.1; have hc3 := hcs.2.1; have HC4 := Lib.hid hcs.2.2; have hbX2 := below_then (below_then hbW hbW.size hbX) (Nat.le_trans hbW.size hbX.size) hb2; have hset2 := (hset.below hbX).below hb2; have hlk := hset2.has (P := Tryd.prog) (t := 99) strKey Tryd.underlying99 Tryd.underlying4 (zeroBool _) (keyStr hps); rw [HM8.out] at hlk; rw [HIS.out] at hc3; have HSET := Lib.hid hset2; have HB := Lib.hid hbX2; clear hbX hsX hb2 hc0 hbX2 hset2 hcs) | (refine wpList_load_mid_g 25 _ rfl rfl wr.heap.size 2 rfl r.sum.enc _ HC4.out Tryd.underlying25 rfl (by rw [r.sum.enc_len]; kernel_rfl) ?_))
              go_ret
              exact ⟨retI (by rw [HSP.out, reads_step_sum HM.out HQ.out HM8.out (by rw [HIS.out, HZ.out]; rfl)]), HB.out⟩
    · obtain rfl : k = n := by omega
      have hfin : TS.readsErr (fun _ => false) rs = 0 := by
        rw [hsp, List.drop_of_length_le (by rw [hE.len]; omega)]
        rfl
      have HF := Lib.hid hfin
      clear hsp hfin
      go_wp2_with fail
      go_ret
      exact ⟨retI HF.out.symm, hbW⟩

end Go.Proofs.YtcaookphoiopbaaDoor
