/- trace.outs: what is wrong with the outs of a trace. -/
import Derived.Test.YtcaookphoiopbaaDoorTraceSpec
import Derived.Test.YtcaookphoiopbaaDoorPathUnder
namespace Go.Proofs.YtcaookphoiopbaaDoor
open Go.RowKit Go.Shelf

def outBytes : ByteArray := ⟨#[111, 117, 116]⟩

theorem outs_step_bad {ms : List MadeD} {k : Nat} {m : MadeD} (hm : ms[k]? = some m) (hq : PS.under m.path.data.toList TS.outS = false) : TS.outsErr (TS.prev ms k) (ms.drop k) = 1 := by
  obtain ⟨hk, rfl⟩ := List.getElem?_eq_some_iff.1 hm
  rw [List.drop_eq_getElem_cons hk]
  cases TS.prev ms k <;> simp [TS.outsErr, hq]

theorem outs_step_first {ms : List MadeD} {k : Nat} {m : MadeD} (h0 : k = 0) (hm : ms[k]? = some m) (hq : PS.under m.path.data.toList TS.outS = true) :
    TS.outsErr (TS.prev ms k) (ms.drop k) = TS.outsErr (TS.prev ms (k + 1)) (ms.drop (k + 1)) := by
  subst h0
  obtain ⟨hk, rfl⟩ := List.getElem?_eq_some_iff.1 hm
  rw [List.drop_eq_getElem_cons hk]
  simp [TS.prev, TS.outsErr, hq, List.getElem?_eq_getElem hk]
theorem outs_prev {ms : List MadeD} {k : Nat} {m' : MadeD} (h0 : 0 < k) (hm : ms[k - 1]? = some m') : TS.prev ms k = some m'.path := by
  unfold TS.prev
  rw [if_neg (by omega), hm]
  rfl

theorem outs_step_same {ms : List MadeD} {k : Nat} {m : MadeD} {q : ByteArray} (hm : ms[k]? = some m) (hq : PS.under m.path.data.toList TS.outS = true) (h8 : (m.path.toList == q.toList) = true) :
    TS.outsErr (some q) (ms.drop k) = 8 := by
  obtain ⟨hk, rfl⟩ := List.getElem?_eq_some_iff.1 hm
  rw [List.drop_eq_getElem_cons hk]
  simp only [TS.outsErr, hq, h8, if_true]
theorem outs_step_less {ms : List MadeD} {k : Nat} {m : MadeD} {q : ByteArray} (hm : ms[k]? = some m) (hq : PS.under m.path.data.toList TS.outS = true) (h8 : (m.path.toList == q.toList) = false)
    (h2 : Op.bytesLess m.path.toList q.toList = true) : TS.outsErr (some q) (ms.drop k) = 2 := by
  obtain ⟨hk, rfl⟩ := List.getElem?_eq_some_iff.1 hm
  rw [List.drop_eq_getElem_cons hk]
  simp only [TS.outsErr, hq, h8, h2, if_true, Bool.false_eq_true, if_false]
theorem outs_step_on {ms : List MadeD} {k : Nat} {m : MadeD} {q : ByteArray} (hm : ms[k]? = some m) (hq : PS.under m.path.data.toList TS.outS = true) (h8 : (m.path.toList == q.toList) = false)
    (h2 : Op.bytesLess m.path.toList q.toList = false) : TS.outsErr (some q) (ms.drop k) = TS.outsErr (TS.prev ms (k + 1)) (ms.drop (k + 1)) := by
  obtain ⟨hk, rfl⟩ := List.getElem?_eq_some_iff.1 hm
  rw [List.drop_eq_getElem_cons hk]
  simp [TS.prev, TS.outsErr, hq, h8, h2, List.getElem?_eq_getElem hk]

set_option maxHeartbeats 400000 in
set_option maxRecDepth 100000 in
theorem outs_any (A : Option Addr) (n c : Nat) (ms : List MadeD) (w : World) (hE : Elems MadeD.enc 33 w A n c ms) (hn : n ≤ 1000000) (hp : ∀ m ∈ ms, m.path.size ≤ 281474976710656) :
    Calls Tryd.prog 34 #[.slice A n c] w fun e w' => e = .returned (.int .i64 (TS.outsErr none ms)) ∧ Below w.heap.size w w' := by
  go_enter Tryd.func34, Tryd.ntmps34
  go_wp2
  go_loopw [7] (fun i wr => ∃ k : Nat, k ≤ n ∧ i = .int .i64 k ∧ Below w.heap.size w wr ∧ TS.outsErr none ms = TS.outsErr (TS.prev ms k) (ms.drop k)) (fun i _ => n - (intOf i).toNat)
  case atStart => exact ⟨0, by omega, rfl, Below.refl _ _, rfl⟩
  case round =>
    obtain ⟨k, hk, rfl, hbW, hsp⟩ := hrel
    by_cases hlt : k < n
    · obtain ⟨b, o, rfl, hbl, hel⟩ := hE.at_ (by omega)
      have hlen := hE.len
      obtain ⟨m, hm⟩ : ∃ m, ms[k]? = some m := ⟨ms[k], by simp⟩
      have hr := range_low hbW hbl (hel k m hm)
      have HR := Lib.hid hr
      have HSP := Lib.hid hsp
      have HEL := Lib.hid hel
      have HM := Lib.hid hm
      clear hr hsp hel hm hlen
      obtain ⟨q, hq⟩ : ∃ q, PS.under m.path.data.toList TS.outS = q := ⟨_, rfl⟩
      have cu := fun W => under_any m.path ⟨#[111, 117, 116]⟩ W (hp m (List.mem_of_getElem? HM.out)) (by decide)
      rw [show (ByteArray.mk #[111, 117, 116]).data.toList = TS.outS from rfl, hq] at cu
      have CU := Lib.hid cu
      have HQ := Lib.hid hq
      clear cu hq
      cases q with
      | false =>
        go_wp2_with (first | (refine wpList_load_mid rfl 34 _ rfl b (o + k * 33) rfl m.enc _ HR.out Tryd.underlying34 rfl (by rw [m.enc_len]; kernel_rfl) ?_) | (refine wpList_store_new rfl 34 _ _ rfl _ m.enc rfl rfl (by simp [m.enc_len]) (by rw [m.enc_len]; kernel_rfl) m.enc_one ?_; refine wpList_name ?_; intro X hX; obtain ⟨hbX, hsX, hrX⟩ := box_facts hX; have hc0 := (MadeD.cells hrX).1; clear hX hrX) | (go_at_call 61; refine (CU.out _).mono ?_; rintro e X2 ⟨rfl, hb2⟩; have hc2 := cell_below hb2 hc0; have hbX2 := below_then (below_then hbW hbW.size hbX) (Nat.le_trans hbW.size hbX.size) hb2; have HB := Lib.hid hbX2; clear hbX hsX hb2 hc0 hbX2))
        go_ret
        exact ⟨retI (by rw [HSP.out, outs_step_bad HM.out HQ.out]), HB.out⟩
      | true =>
        rcases Nat.eq_zero_or_pos k with hk0 | hk0
        · have hg : decide (0 < (k : Int)) = false := by simp; omega
          have hg2 : decide (0 < k) = false := by simp; omega
          have HK := Lib.hid hk0
          clear hk0
          go_wp2_with (first | (refine wpList_load_mid rfl 34 _ rfl b (o + k * 33) rfl m.enc _ HR.out Tryd.underlying34 rfl (by rw [m.enc_len]; kernel_rfl) ?_) | (refine wpList_store_new rfl 34 _ _ rfl _ m.enc rfl rfl (by simp [m.enc_len]) (by rw [m.enc_len]; kernel_rfl) m.enc_one ?_; refine wpList_name ?_; intro X hX; obtain ⟨hbX, hsX, hrX⟩ := box_facts hX; have hc0 := (MadeD.cells hrX).1; clear hX hrX) | (go_at_call 61; refine (CU.out _).mono ?_; rintro e X2 ⟨rfl, hb2⟩; have hc2 := cell_below hb2 hc0; have hbX2 := below_then (below_then hbW hbW.size hbX) (Nat.le_trans hbW.size hbX.size) hb2; have HB := Lib.hid hbX2; clear hbX hsX hb2 hc0 hbX2))
          go_quiet (fail)
          go_wp2_with fail
          go_quiet (fail)
          go_wp2_with fail
          go_roundw
          case rel => exact ⟨k + 1, by omega, by go_num, by first | exact below_draws HB.out _ | exact below_draws (below_draws HB.out _) _, by rw [HSP.out]; exact outs_step_first HK.out HM.out HQ.out⟩
          case measure => simp [intOf]; omega
        · obtain ⟨m', hm'⟩ : ∃ m', ms[k - 1]? = some m' := ⟨ms[k - 1]'(by have := hE.len; omega), by simp⟩
          have hpv := outs_prev hk0 hm'
          have hr' : w.rangeAt b (o + (k - 1) * 33) m'.enc := HEL.out _ _ hm'
          have HPV := Lib.hid hpv
          have hcp := (MadeD.cells hr').1
          have HCP := Lib.hid hcp
          have hg : decide (0 < (k : Int)) = true := by simp; omega
          have hg2 : decide (0 < k) = true := by simp; omega
          have hkm : ((k : Int) - 1).toNat = k - 1 := by omega
          have hk1 : 0 ≤ (k : Int) - 1 := by omega
          have hk2 : 1 ≤ k := by omega
          have hkn : (k : Int) - 1 < n := by omega
          clear hpv hr' hm' hcp hk0
          obtain ⟨e8, he8⟩ : ∃ e8, (m.path.toList == m'.path.toList) = e8 := ⟨_, rfl⟩
          obtain ⟨e2, he2⟩ : ∃ e2, Op.bytesLess m.path.toList m'.path.toList = e2 := ⟨_, rfl⟩
          have HE8 := Lib.hid he8
          have HE2 := Lib.hid he2
          go_wp2_with (first | (refine wpList_load_mid rfl 34 _ rfl b (o + k * 33) rfl m.enc _ HR.out Tryd.underlying34 rfl (by rw [m.enc_len]; kernel_rfl) ?_) | (refine wpList_store_new rfl 34 _ _ rfl _ m.enc rfl rfl (by simp [m.enc_len]) (by rw [m.enc_len]; kernel_rfl) m.enc_one ?_; refine wpList_name ?_; intro X hX; obtain ⟨hbX, hsX, hrX⟩ := box_facts hX; have hc0 := (MadeD.cells hrX).1; clear hX hrX) | (go_at_call 61; refine (CU.out _).mono ?_; rintro e X2 ⟨rfl, hb2⟩; have hc2 := cell_below hb2 hc0; have hbX2 := below_then (below_then hbW hbW.size hbX) (Nat.le_trans hbW.size hbX.size) hb2; have hcm := (hbX2.cell (p := ⟨b, o + (k - 1) * 33, none⟩) hbl).trans HCP.out; have HB := Lib.hid hbX2; clear hbX hsX hb2 hc0 hbX2))
          clear he2 he8
          go_quiet (fail)
          have he8 := HE8.out
          rw [he8]
          clear he8
          cases e8 with
          | true =>
            go_wp2_with fail
            go_ret
            exact ⟨retI (by rw [HSP.out, HPV.out, outs_step_same HM.out HQ.out HE8.out]), by first | exact below_draws HB.out _ | exact below_draws (below_draws HB.out _) _⟩
          | false =>
            go_wp2_with fail
            go_quiet (fail)
            have he2 := HE2.out
            rw [he2]
            clear he2
            cases e2 with
            | true =>
              go_wp2_with fail
              go_ret
              exact ⟨retI (by rw [HSP.out, HPV.out, outs_step_less HM.out HQ.out HE8.out HE2.out]), by first | exact below_draws HB.out _ | exact below_draws (below_draws HB.out _) _⟩
            | false =>
              go_wp2_with fail
              go_roundw
              case rel => exact ⟨k + 1, by omega, by go_num, by first | exact below_draws HB.out _ | exact below_draws (below_draws HB.out _) _, by rw [HSP.out, HPV.out]; exact outs_step_on HM.out HQ.out HE8.out HE2.out⟩
              case measure => simp [intOf]; omega
    · obtain rfl : k = n := by omega
      have hfin : TS.outsErr none ms = 0 := by
        rw [hsp, List.drop_of_length_le (by rw [hE.len]; omega)]
        cases TS.prev ms k <;> rfl
      have HF := Lib.hid hfin
      clear hsp hfin
      go_wp2_with fail
      go_ret
      exact ⟨retI HF.out.symm, hbW⟩

end Go.Proofs.YtcaookphoiopbaaDoor
