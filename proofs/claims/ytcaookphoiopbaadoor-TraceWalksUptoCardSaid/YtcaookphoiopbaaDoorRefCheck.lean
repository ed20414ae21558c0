/- The reference's Check of a trace: what is wrong with it. -/
import Derived.Test.YtcaookphoiopbaaDoorRef03
import Derived.Test.YtcaookphoiopbaaDoorTraceReads
import Derived.Test.YtcaookphoiopbaaDoorTraceOuts
namespace Go.Proofs.YtcaookphoiopbaaDoor
open Go.RowKit

theorem met_mono {rs : List ReadD} {x : List UInt8} {q : Nat} : ∀ {k : Nat}, q ≤ k → TS.met rs q x = true → TS.met rs k x = true := by
  intro k hk h
  induction k with
  | zero =>
    obtain rfl : q = 0 := by omega
    exact h
  | succ k ih =>
    by_cases e : q = k + 1
    · exact e ▸ h
    · have := ih (by omega)
      unfold TS.met
      cases rs[k]? with
      | some r => simp [this]
      | none => exact this
theorem eq_lists (s t : ByteArray) : (t.toList == s.toList) = (s.data.toList == t.data.toList) := by
  rw [ByteArray.toList_eq, ByteArray.toList_eq, Bool.eq_iff_iff, beq_iff_eq, beq_iff_eq]
  exact eq_comm

theorem less_flip : ∀ (a b : List UInt8), (a == b) = false → Op.bytesLess a b = !Op.bytesLess b a
  | [], [], h => by simp at h
  | [], b :: y, _ => by simp [Op.bytesLess]
  | a :: x, [], _ => by simp [Op.bytesLess]
  | a :: x, b :: y, h => by
    unfold Op.bytesLess
    by_cases e : a = b
    · subst e
      have hx : (x == y) = false := by simpa using h
      have := less_flip x y hx
      have hl : ¬ a < a := UInt8.lt_irrefl a
      simp [hl, this]
    · have e1 : (a == b) = false := by simpa using e
      have e2 : (b == a) = false := by simpa using fun h => e h.symm
      rw [e1, e2]
      have hn : a.toNat ≠ b.toNat := fun h => e (UInt8.toNat_inj.1 h)
      simp only [Bool.false_and, Bool.or_false, UInt8.lt_iff_toNat_lt]
      by_cases hl : a.toNat < b.toNat
      · rw [decide_eq_true hl, decide_eq_false (by omega)]; rfl
      · rw [decide_eq_false hl, decide_eq_true (by omega)]; rfl

set_option maxHeartbeats 8000000 in
set_option maxRecDepth 100000 in
theorem refCheck_any (t : TraceD) (A : Option Addr) (c : Nat) (A' : Option Addr) (c' : Nat) (w : World) (hR : Elems ReadD.enc 34 w A t.reads.length c t.reads) (hO : Elems MadeD.enc 33 w A' t.outs.length c' t.outs)
    (hr : ∀ r ∈ t.reads, r.path.size ≤ 8796093022207) (ho : ∀ m ∈ t.outs, m.path.size ≤ 8796093022207) :
    Calls Tryd.prog 19 #[.agg (t.cells A c A' c').toArray] w fun e w' => e = .returned (.int .i64 (TS.checkErr t)) ∧ Below w.heap.size w w' := by
  obtain ⟨cs, hcs⟩ : ∃ cs, t.cells A c A' c' = cs := ⟨_, rfl⟩
  have h32 := box_cell 29 (t.cell32 A c A' c')
  have h33 := box_cell 29 (t.cell33 A c A' c')
  rw [hcs] at h32 h33 ⊢
  clear hcs
  have hchk : TS.checkErr t = if 500 < t.reads.length ∨ 1000 < t.outs.length then 6 else if TS.readsErr (fun _ => false) t.reads = 0 then TS.outsErr none t.outs else TS.readsErr (fun _ => false) t.reads := rfl
  obtain ⟨R, hRR⟩ : ∃ R, TS.checkErr t = R := ⟨_, rfl⟩
  rw [hRR] at hchk ⊢
  clear hRR
  obtain ⟨rs, hrs⟩ : ∃ rs, t.reads = rs := ⟨_, rfl⟩
  obtain ⟨ms, hms⟩ : ∃ ms, t.outs = ms := ⟨_, rfl⟩
  rw [hrs] at hR h32 hr hchk
  rw [hms] at hO h33 ho hchk
  clear hrs hms
  have HC := Lib.hid hchk
  clear hchk
  by_cases h5 : 500 < rs.length
  · go_enter Tryd.func19, Tryd.ntmps19
    go_wp2
    go_ret
    exact ⟨retI (by rw [HC.out, if_pos (Or.inl h5)]), below_box _⟩
  by_cases h10 : 1000 < ms.length
  · have h5' : rs.length ≤ 500 := by omega
    clear h5
    go_enter Tryd.func19, Tryd.ntmps19
    go_wp2
    go_ret
    exact ⟨retI (by rw [HC.out, if_pos (Or.inr h10)]), below_box _⟩
  have h5' : rs.length ≤ 500 := by omega
  have h10' : ms.length ≤ 1000 := by omega
  have HC2 : Hid (R = if TS.readsErr (fun _ => false) rs = 0 then TS.outsErr none ms else TS.readsErr (fun _ => false) rs) := Lib.hid (by rw [HC.out, if_neg (by omega)])
  clear HC h5 h10
  obtain ⟨X0, hX0⟩ : ∃ X0, w.alloc (.cells cs.toArray 29) = X0 := ⟨_, rfl⟩
  have hb0 : Below w.heap.size w X0 := by rw [← hX0]; exact below_box _
  have hs0 : X0.heap.size = w.heap.size + 1 := by rw [← hX0]; simp
  have h32' : X0.cell? ⟨w.heap.size, 32, none⟩ = some (.slice A rs.length c) := by rw [← hX0]; exact h32 w
  have h33' : X0.cell? ⟨w.heap.size, 33, none⟩ = some (.slice A' ms.length c') := by rw [← hX0]; exact h33 w
  have H0 := Lib.hid (And.intro hb0 (And.intro hs0 (And.intro h32' h33')))
  clear h32 h33 hb0 hs0
  go_enter Tryd.func19, Tryd.ntmps19
  go_wp2
  go_loopw [3] (fun i wr => ∃ k : Nat, k ≤ rs.length ∧ i = .int .i64 k ∧ Below X0.heap.size X0 wr ∧ TS.readsErr (fun _ => false) rs = TS.readsErr (TS.met rs k) (rs.drop k)) (fun i _ => rs.length - (intOf i).toNat)
  case atStart => exact ⟨0, by omega, rfl, Below.refl _ _, rfl⟩
  case round =>
    clear h32' h33' hX0
    obtain ⟨wo, rfl⟩ : ∃ wo : World, wo = wr := ⟨_, rfl⟩
    obtain ⟨k, hk, rfl, hbW, hsp⟩ := hrel
    have hcW := cell_below hbW H0.out.2.2.1
    by_cases hlt : k < rs.length
    · obtain ⟨b, o, rfl, hbl, hel⟩ := hR.at_ (by omega)
      obtain ⟨r, hm⟩ : ∃ r, rs[k]? = some r := ⟨rs[k], by simp⟩
      have hbw : Below w.heap.size w wo := below_then H0.out.1 H0.out.1.size hbW
      have hrg := range_low hbw hbl (hel k r hm)
      have hsz := hr r (List.mem_of_getElem? hm)
      obtain ⟨q, hq⟩ : ∃ q, PS.may r.path.data.toList = q := ⟨_, rfl⟩
      have cm := fun W => refMay_any r.path W hsz
      rw [hq] at cm
      have HR := Lib.hid hrg
      have HS := Lib.hid hsp
      have HEL := Lib.hid hel
      have HM := Lib.hid hm
      have HQ := Lib.hid hq
      have CM := Lib.hid cm
      have HB := Lib.hid (And.intro hbW hbw)
      clear hrg hsp hel hm hq cm hsz hbW hbw
      go_wp2_with (first | (refine wpList_load_mid rfl 32 _ rfl b (o + k * 34) rfl r.enc _ HR.out Tryd.underlying32 rfl (by rw [r.enc_len]; kernel_rfl) ?_) | (refine wpList_store_new rfl 32 _ _ rfl _ r.enc rfl rfl (by simp [r.enc_len]) (by rw [r.enc_len]; kernel_rfl) r.enc_one ?_; refine wpList_name ?_; intro X hX; obtain ⟨hbX, hsX, hrX⟩ := box_facts hX; have hc0 := (ReadD.cells hrX).1; have HRX := Lib.hid hrX; have HBX := Lib.hid (And.intro hbX hsX); clear hX hrX hbX hsX))
      refine (CM.out _).mono ?_
      rintro e X2 ⟨rfl, hb2⟩
      have hcs := ReadD.cells (range_below hb2 HRX.out)
      have hc2 := hcs.1
      have hc3 := hcs.2.1
      have HC4 := Lib.hid hcs.2.2
      have hbX2 : Below X0.heap.size X0 X2 := below_then (below_then HB.out.1 HB.out.1.size HBX.out.1) (Nat.le_trans HB.out.1.size HBX.out.1.size) hb2
      have hc32 := cell_below hbX2 H0.out.2.2.1
      have H2 := Lib.hid (And.intro hbX2 (below_then H0.out.1 H0.out.1.size hbX2))
      clear hb2 hc0 hbX2 hcs hcW HRX HBX
      cases q with
      | false =>
        go_wp2_with fail
        go_ret
        have hbad := reads_step_bad (f := TS.met rs k) HM.out HQ.out
        exact ⟨retI (by rw [HC2.out, HS.out, hbad]; rfl), H2.out.2⟩
      | true =>
        go_wp2_with fail
        go_loopw [5] (fun i wi => ∃ q : Nat, q ≤ k ∧ i = .int .i64 q ∧ TS.met rs q r.path.data.toList = false ∧ Below X2.heap.size X2 wi) (fun i _ => k - (intOf i).toNat)
        case atStart => exact ⟨0, by omega, rfl, rfl, Below.refl _ _⟩
        case round =>
          obtain ⟨q, hqk, rfl, hmet, hbI⟩ := hrel
          have HMET := Lib.hid hmet
          clear hmet
          have hbi := below_then H2.out.2 H2.out.2.size hbI
          by_cases hlq : q < k
          · obtain ⟨y, hy⟩ : ∃ y, rs[q]? = some y := ⟨rs[q], by simp⟩
            have hcy := (ReadD.cells (range_low hbi hbl (HEL.out q y hy))).1
            have hcr := cell_below hbI hc2
            have hcs := cell_below hbI hc32
            have HY := Lib.hid hy
            have HBI := Lib.hid (And.intro hbI hbi)
            obtain ⟨z, hz⟩ : ∃ z, (y.path.toList == r.path.toList) = z := ⟨_, rfl⟩
            have HZ := Lib.hid hz
            clear hy hz hbi hbI hc2 hc3 hc32
            go_wp2_with fail
            go_quiet (fail)
            have hz := HZ.out
            rw [hz]
            clear hz
            cases z with
            | true =>
              go_wp2_with fail
              go_ret
              have h8 : TS.met rs k r.path.data.toList = true := met_mono (q := q + 1) (by omega) (by rw [met_step HY.out]; simp only [← eq_lists, HZ.out, Bool.true_or])
              have htw := reads_step_twice (f := TS.met rs k) HM.out HQ.out h8
              exact ⟨retI (by rw [HC2.out, HS.out, htw]; rfl), by first | exact below_draws HBI.out.2 _ | exact below_draws (below_draws HBI.out.2 _) _⟩
            | false =>
              go_wp2_with fail
              go_roundw
              case rel => exact ⟨q + 1, by omega, by go_num, by rw [met_step HY.out]; simp only [← eq_lists, HZ.out, HMET.out, Bool.false_or], by first | exact below_draws HBI.out.1 _ | exact below_draws (below_draws HBI.out.1 _) _⟩
              case measure => simp [intOf]; omega
          · obtain rfl : q = k := by omega
            have hc3' := cell_below hbI hc3
            have HCI := Lib.hid (range_below hbI HC4.out)
            have HBI := Lib.hid (And.intro (below_then H2.out.1 H2.out.1.size hbI) hbi)
            obtain ⟨is, his⟩ : ∃ is, r.is_ = is := ⟨_, rfl⟩
            obtain ⟨z, hz⟩ : ∃ z, (r.sum.bs == Dig.zero.bs) = z := ⟨_, rfl⟩
            have hneq := neq_zero r.sum
            rw [hz] at hneq
            rw [his] at hc3'
            have HIS := Lib.hid his
            have HZ := Lib.hid hz
            clear his hz hbi hbI hc2 hc3 hc32
            cases is with
            | true =>
              clear hneq
              go_wp2_with fail
              go_roundw
              case rel => exact ⟨q + 1, by omega, by go_num, HBI.out.1, by rw [HS.out]; exact reads_step_on HM.out HQ.out HMET.out (by rw [HIS.out]; rfl)⟩
              case measure => simp [intOf]; omega
            | false =>
              have hng := noGuard
              cases z with
              | true =>
                go_wp2_with (refine wpList_load_mid_g 25 _ rfl rfl wo.heap.size 2 rfl r.sum.enc _ HCI.out Tryd.underlying25 rfl (by rw [r.sum.enc_len]; kernel_rfl) ?_)
                go_roundw
                case rel => exact ⟨q + 1, by omega, by go_num, HBI.out.1, by rw [HS.out]; exact reads_step_on HM.out HQ.out HMET.out (by rw [HIS.out, HZ.out]; rfl)⟩
                case measure => simp [intOf]; omega
              | false =>
                go_wp2_with (refine wpList_load_mid_g 25 _ rfl rfl wo.heap.size 2 rfl r.sum.enc _ HCI.out Tryd.underlying25 rfl (by rw [r.sum.enc_len]; kernel_rfl) ?_)
                go_ret
                have h5 := reads_step_sum (f := TS.met rs q) HM.out HQ.out HMET.out (by rw [HIS.out, HZ.out]; rfl)
                exact ⟨retI (by rw [HC2.out, HS.out, h5]; rfl), HBI.out.2⟩
    · obtain rfl : k = rs.length := by omega
      have hfin : TS.readsErr (fun _ => false) rs = 0 := by
        rw [hsp, List.drop_of_length_le (by omega)]
        rfl
      have HC3 : Hid (R = TS.outsErr none ms) := Lib.hid (by rw [HC2.out, if_pos hfin])
      clear hsp hfin HC2
      have hc33 := cell_below hbW H0.out.2.2.2
      have hbw : Below w.heap.size w wo := below_then H0.out.1 H0.out.1.size hbW
      have H1 := Lib.hid (And.intro hbw hc33)
      clear hbW hbw
      go_wp2_with fail
      clear hc33 hcW
      go_loopw [6] (fun i wi => ∃ k : Nat, k ≤ ms.length ∧ i = .int .i64 k ∧ Below wo.heap.size wo wi ∧ TS.outsErr none ms = TS.outsErr (TS.prev ms k) (ms.drop k)) (fun i _ => ms.length - (intOf i).toNat)
      case atStart => exact ⟨0, by omega, rfl, Below.refl _ _, rfl⟩
      case round =>
        obtain ⟨k, hk, rfl, hbI, hsp⟩ := hrel
        have hci := cell_below hbI H1.out.2
        have hbi := below_then H1.out.1 H1.out.1.size hbI
        by_cases hlt : k < ms.length
        · obtain ⟨b, o, rfl, hbl, hel⟩ := hO.at_ (by omega)
          obtain ⟨m, hm⟩ : ∃ m, ms[k]? = some m := ⟨ms[k], by simp⟩
          have hcm := (MadeD.cells (range_low hbi hbl (hel k m hm))).1
          have hsz := ho m (List.mem_of_getElem? hm)
          obtain ⟨q, hq⟩ : ∃ q, PS.under m.path.data.toList TS.outS = q := ⟨_, rfl⟩
          have cu := fun W => refUnder_any m.path ⟨#[111, 117, 116]⟩ W hsz (by decide)
          rw [show (ByteArray.mk #[111, 117, 116]).data.toList = TS.outS from rfl, hq] at cu
          have CU := Lib.hid cu
          have HQ := Lib.hid hq
          have HSP := Lib.hid hsp
          have HEL := Lib.hid hel
          have HM := Lib.hid hm
          have HB := Lib.hid (And.intro hbI hbi)
          clear cu hq hsp hel hm hbI hbi hsz
          go_wp2_with fail
          refine (CU.out _).mono ?_
          rintro e X2 ⟨rfl, hb2⟩
          have hb2w := below_then HB.out.2 HB.out.2.size hb2
          have hc2 := cell_below hb2 hci
          have H2 := Lib.hid (And.intro (below_then HB.out.1 HB.out.1.size hb2) hb2w)
          clear hb2 hci hcm
          cases q with
          | false =>
            clear hb2w
            go_wp2_with fail
            go_ret
            exact ⟨retI (by rw [HC3.out, HSP.out, outs_step_bad HM.out HQ.out]), H2.out.2⟩
          | true =>
            rcases Nat.eq_zero_or_pos k with hk0 | hk0
            · have hg : decide (0 < (k : Int)) = false := by simp; omega
              have hg2 : decide (0 < k) = false := by simp; omega
              have HK := Lib.hid hk0
              clear hk0 hb2w
              go_wp2_with fail
              go_roundw
              case rel => exact ⟨k + 1, by omega, by go_num, H2.out.1, by rw [HSP.out]; exact outs_step_first HK.out HM.out HQ.out⟩
              case measure => simp [intOf]; omega
            · obtain ⟨m', hm'⟩ : ∃ m', ms[k - 1]? = some m' := ⟨ms[k - 1]'(by omega), by simp⟩
              have hpv := outs_prev hk0 hm'
              have HPV := Lib.hid hpv
              have hcp := (MadeD.cells (range_low hb2w hbl (HEL.out _ _ hm'))).1
              have hg : decide (0 < (k : Int)) = true := by simp; omega
              have hg2 : decide (0 < k) = true := by simp; omega
              have hkm : ((k : Int) - 1).toNat = k - 1 := by omega
              have hk1 : 0 ≤ (k : Int) - 1 := by omega
              have hk2 : 1 ≤ k := by omega
              have hkn : (k : Int) - 1 < ms.length := by omega
              clear hpv hm' hk0 hb2w
              obtain ⟨e8, he8⟩ : ∃ e8, (m'.path.toList == m.path.toList) = e8 := ⟨_, rfl⟩
              obtain ⟨e2, he2⟩ : ∃ e2, Op.bytesLess m.path.toList m'.path.toList = e2 := ⟨_, rfl⟩
              have HE8 := Lib.hid he8
              have HE2 := Lib.hid he2
              have e8' : (m.path.toList == m'.path.toList) = e8 := by rw [← he8, Bool.eq_iff_iff, beq_iff_eq, beq_iff_eq]; exact eq_comm
              have HE8' := Lib.hid e8'
              clear e8'
              cases e8 with
              | true =>
                clear he2
                go_wp2_with fail
                go_ret
                exact ⟨retI (by rw [HC3.out, HSP.out, HPV.out, outs_step_same HM.out HQ.out HE8'.out]), H2.out.2⟩
              | false =>
                have he3 : Op.bytesLess m'.path.toList m.path.toList = !e2 := by rw [less_flip _ _ he8, he2]
                clear he2
                cases e2 with
                | true =>
                  simp only [Bool.not_true] at he3
                  go_wp2_with fail
                  go_ret
                  exact ⟨retI (by rw [HC3.out, HSP.out, HPV.out, outs_step_less HM.out HQ.out HE8'.out HE2.out]), H2.out.2⟩
                | false =>
                  simp only [Bool.not_false] at he3
                  go_wp2_with fail
                  go_roundw
                  case rel => exact ⟨k + 1, by omega, by go_num, H2.out.1, by rw [HSP.out, HPV.out]; exact outs_step_on HM.out HQ.out HE8'.out HE2.out⟩
                  case measure => simp [intOf]; omega
        · obtain rfl : k = ms.length := by omega
          have hfin : TS.outsErr none ms = 0 := by
            rw [hsp, List.drop_of_length_le (by omega)]
            cases TS.prev ms _ <;> rfl
          have HF := Lib.hid hfin
          clear hsp hfin
          go_wp2_with fail
          go_ret
          exact ⟨retI (by rw [HC3.out, HF.out]), hbi⟩
end Go.Proofs.YtcaookphoiopbaaDoor
