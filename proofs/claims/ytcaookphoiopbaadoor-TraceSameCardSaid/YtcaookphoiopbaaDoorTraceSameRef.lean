/- The reference's Same: are two traces alike. -/
import Derived.Test.YtcaookphoiopbaaDoorTraceSame
namespace Go.Proofs.YtcaookphoiopbaaDoor
open Go.RowKit

set_option maxHeartbeats 16000000 in
set_option maxRecDepth 100000 in
theorem sameRef_any (a b : TraceD) (A : Option Addr) (c : Nat) (A' : Option Addr) (c' : Nat) (B : Option Addr) (d : Nat) (B' : Option Addr) (d' : Nat) (w : World)
    (hR : Elems ReadD.enc 34 w A a.reads.length c a.reads) (hO : Elems MadeD.enc 33 w A' a.outs.length c' a.outs) (hR2 : Elems ReadD.enc 34 w B b.reads.length d b.reads) (hO2 : Elems MadeD.enc 33 w B' b.outs.length d' b.outs)
    (n1 : a.reads.length ≤ 1000000000) (n2 : a.outs.length ≤ 1000000000) (n3 : b.reads.length ≤ 1000000000) (n4 : b.outs.length ≤ 1000000000) :
    Calls Tryd.prog 21 #[.agg (a.cells A c A' c').toArray, .agg (b.cells B d B' d').toArray] w fun e w' => e = .returned (.bool (TS.sameT a b)) ∧ Below w.heap.size w w' := by
  have heq := neq_dig a.key b.key
  have hng := digGuard
  obtain ⟨cs, hcs⟩ : ∃ cs, a.cells A c A' c' = cs := ⟨_, rfl⟩
  obtain ⟨ds, hds⟩ : ∃ ds, b.cells B d B' d' = ds := ⟨_, rfl⟩
  obtain ⟨X, hX, hb, hz, h1, h2⟩ := two_boxes w (a.cells A c A' c') (b.cells B d B' d') 29
  have k1 := TraceD.cells_key h1
  have k2 := TraceD.cells_key h2
  have c1 := h1 32 _ (a.cell32 A c A' c')
  have c2 := h1 33 _ (a.cell33 A c A' c')
  have c3 := h2 32 _ (b.cell32 B d B' d')
  have c4 := h2 33 _ (b.cell33 B d B' d')
  rw [hcs, hds] at hX
  rw [hcs, hds]
  simp only [Nat.zero_add] at c1 c2 c3 c4
  have hsp : TS.sameT a b = ((a.key.bs == b.key.bs) && (TS.eqL ReadD.same a.reads b.reads && TS.eqL MadeD.same a.outs b.outs)) := rfl
  obtain ⟨R, hRR⟩ : ∃ R, TS.sameT a b = R := ⟨_, rfl⟩
  rw [hRR] at hsp ⊢
  obtain ⟨q, hq⟩ : ∃ q, (a.key.bs == b.key.bs) = q := ⟨_, rfl⟩
  rw [hq] at heq hsp
  have HSP := Lib.hid hsp
  have HX := Lib.hid hX
  have HB := Lib.hid hb
  have K1 := Lib.hid k1
  have K2 := Lib.hid k2
  have CC := Lib.hid (And.intro c1 (And.intro c2 (And.intro c3 c4)))
  clear hcs hds h1 h2 hRR hq hsp hX hb hz k1 k2 c1 c2 c3 c4
  have e1 : ((w.alloc (.cells cs.toArray 29)).alloc (.cells ds.toArray 29)).cell? ⟨w.heap.size, 32, none⟩ = some (.slice A a.reads.length c) := by rw [HX.out]; exact CC.out.1
  have e3 : ((w.alloc (.cells cs.toArray 29)).alloc (.cells ds.toArray 29)).cell? ⟨w.heap.size + 1, 32, none⟩ = some (.slice B b.reads.length d) := by rw [HX.out]; exact CC.out.2.2.1
  have e2 : ((w.alloc (.cells cs.toArray 29)).alloc (.cells ds.toArray 29)).cell? ⟨w.heap.size, 33, none⟩ = some (.slice A' a.outs.length c') := by rw [HX.out]; exact CC.out.2.1
  have e4 : ((w.alloc (.cells cs.toArray 29)).alloc (.cells ds.toArray 29)).cell? ⟨w.heap.size + 1, 33, none⟩ = some (.slice B' b.outs.length d') := by rw [HX.out]; exact CC.out.2.2.2
  cases q with
  | false =>
    clear e1 e2 e3 e4
    go_enter Tryd.func21, Tryd.ntmps21
    go_wp2_with (first | (refine wpList_load_mid rfl 25 _ rfl w.heap.size 0 rfl a.key.enc _ (by rw [HX.out]; exact K1.out) Tryd.underlying25 rfl (by rw [a.key.enc_len]; kernel_rfl) ?_) | (refine wpList_load_mid rfl 25 _ rfl (w.heap.size + 1) 0 rfl b.key.enc _ (by rw [HX.out]; exact K2.out) Tryd.underlying25 rfl (by rw [b.key.enc_len]; kernel_rfl) ?_))
    go_ret
    exact ⟨retB (by rw [HSP.out, Bool.false_and]), by rw [HX.out]; exact HB.out⟩
  | true =>
    have HSP2 : Hid (R = (TS.eqL ReadD.same a.reads b.reads && TS.eqL MadeD.same a.outs b.outs)) := Lib.hid (by rw [HSP.out, Bool.true_and])
    clear HSP
    obtain ⟨rs, hrs⟩ : ∃ rs, a.reads = rs := ⟨_, rfl⟩
    obtain ⟨ms, hms⟩ : ∃ ms, a.outs = ms := ⟨_, rfl⟩
    obtain ⟨rs', hrs'⟩ : ∃ rs', b.reads = rs' := ⟨_, rfl⟩
    obtain ⟨ms', hms'⟩ : ∃ ms', b.outs = ms' := ⟨_, rfl⟩
    rw [hrs] at hR n1 HSP2 e1 CC
    rw [hms] at hO n2 HSP2 e2 CC
    rw [hrs'] at hR2 n3 HSP2 e3 CC
    rw [hms'] at hO2 n4 HSP2 e4 CC
    clear hrs hms hrs' hms'
    by_cases hl1 : rs.length = rs'.length
    · have t1 : ((rs.length : Int) != (rs'.length : Int)) = false := by rw [hl1]; simp
      have t1' : (rs.length != rs'.length) = false := by rw [hl1]; simp
      have l1 : rs.length ≤ rs'.length := by omega
      by_cases hl2 : ms.length = ms'.length
      · have t2 : ((ms.length : Int) != (ms'.length : Int)) = false := by rw [hl2]; simp
        have t2' : (ms.length != ms'.length) = false := by rw [hl2]; simp
        have l2 : ms.length ≤ ms'.length := by omega
        have HL := Lib.hid (And.intro hl1 hl2)
        clear hl1 hl2
        go_enter Tryd.func21, Tryd.ntmps21
        go_wp2_with (first | (refine wpList_load_mid rfl 25 _ rfl w.heap.size 0 rfl a.key.enc _ (by rw [HX.out]; exact K1.out) Tryd.underlying25 rfl (by rw [a.key.enc_len]; kernel_rfl) ?_) | (refine wpList_load_mid rfl 25 _ rfl (w.heap.size + 1) 0 rfl b.key.enc _ (by rw [HX.out]; exact K2.out) Tryd.underlying25 rfl (by rw [b.key.enc_len]; kernel_rfl) ?_))
        have hX := HX.out
        rw [hX]
        clear hX e1 e2 e3 e4 t1 t1' t2 t2' heq
        go_loopw [5] (fun i wr => ∃ k : Nat, k ≤ rs.length ∧ i = .int .i64 k ∧ Below X.heap.size X wr ∧ R = (TS.eqL ReadD.same (rs.drop k) (rs'.drop k) && TS.eqL MadeD.same ms ms')) (fun i _ => rs.length - (intOf i).toNat)
        case atStart => exact ⟨0, by omega, rfl, Below.refl _ _, HSP2.out⟩
        case round =>
          obtain ⟨wo, rfl⟩ : ∃ wo : World, wo = wr := ⟨_, rfl⟩
          obtain ⟨k, hk, rfl, hbW, hsp⟩ := hrel
          clear HSP2
          have g1 := cell_below hbW CC.out.1
          have hbw := below_then HB.out HB.out.size hbW
          by_cases hlt : k < rs.length
          · obtain ⟨p, o, rfl, hbl, hel⟩ := hR.at_ (by omega)
            obtain ⟨p', o', rfl, hbl', hel'⟩ := hR2.at_ (by omega)
            have g3 := cell_below hbW CC.out.2.2.1
            obtain ⟨x, hx⟩ : ∃ x, rs[k]? = some x := ⟨rs[k], by simp⟩
            obtain ⟨y, hy⟩ : ∃ y, rs'[k]? = some y := ⟨rs'[k]'(by omega), by simp⟩
            have hst := TS.eqL_drop (same := ReadD.same) hx hy
            obtain ⟨z, hz⟩ : ∃ z, x.same y = z := ⟨_, rfl⟩
            have hne := neq_read x y
            rw [hz] at hne hst
            rw [hst] at hsp
            have HNE := Lib.hid hne
            have HST := Lib.hid hsp
            have HE := Lib.hid (hel k x hx)
            have HE' := Lib.hid (hel' k y hy)
            have HBW := Lib.hid (And.intro hbW hbw)
            have hl1 := fun nn => load_read (below_draws HBW.out.2 nn) hbl HE.out
            have hl2 := fun nn => load_read (below_draws HBW.out.2 nn) hbl' HE'.out
            have q1 : (k : Int) < rs'.length := by omega
            clear hz hx hy hel hel' hne hst hsp hbW hbw
            go_wp2_with fail
            refine wp_region_quiet_lit (by kernel_rfl) (by kernel_rfl) ?_
            repeat (go_big_quiet_step (fail))
            refine wpQuiet_load 32 _ rfl rfl _ _ rfl (fun w' ⟨nn, hw⟩ => by rw [hw]; exact hl1 nn) _ rfl ?_
            simp [Act.put]
            repeat (go_big_quiet_step (fail))
            refine wpQuiet_load 32 _ rfl rfl _ _ rfl (fun w' ⟨nn, hw⟩ => by rw [hw]; exact hl2 nn) _ rfl ?_
            simp [Act.put]
            refine wpQuiet_binop .neq 32 32 _ _ rfl rfl _ _ _ rfl rfl (fun w => run_eqGuard_agg w .neq 32 _ _ _ _ readGuard) HNE.out _ rfl ?_
            simp [Act.put]
            refine wpQuiet_nil ?_
            intro nq
            cases z with
            | true =>
              go_wp2_with fail
              go_roundw
              case rel => exact ⟨k + 1, by omega, by go_num, below_draws HBW.out.1 _, by rw [HST.out, Bool.true_and]⟩
              case measure => simp [intOf]; omega
            | false =>
              go_wp2_with fail
              go_ret
              exact ⟨retB (by rw [HST.out, Bool.false_and, Bool.false_and]), by first | exact below_draws HBW.out.2 _ | exact below_draws (below_draws HBW.out.2 _) _⟩
          · obtain rfl : k = rs.length := by omega
            have hfin : R = TS.eqL MadeD.same ms ms' := by
              rw [hsp, List.drop_of_length_le (Nat.le_refl _), List.drop_of_length_le (by rw [HL.out.1]; exact Nat.le_refl _)]
              rfl
            have HF := Lib.hid hfin
            have g2 := cell_below hbW CC.out.2.1
            have g4 := cell_below hbW CC.out.2.2.2
            have GG := Lib.hid (And.intro g2 g4)
            have HBO := Lib.hid (And.intro hbW hbw)
            clear hsp hfin g2 g4 hbW hbw
            go_wp2_with fail
            clear g1
            go_loopw [6] (fun i wr => ∃ k : Nat, k ≤ ms.length ∧ i = .int .i64 k ∧ Below wo.heap.size wo wr ∧ R = TS.eqL MadeD.same (ms.drop k) (ms'.drop k)) (fun i _ => ms.length - (intOf i).toNat)
            case atStart => exact ⟨0, by omega, rfl, Below.refl _ _, HF.out⟩
            case round =>
              obtain ⟨k, hk, rfl, hbW, hsp⟩ := hrel
              clear HF
              have g2 := cell_below hbW GG.out.1
              have hbw := below_then HBO.out.2 HBO.out.2.size hbW
              by_cases hlt : k < ms.length
              · obtain ⟨p, o, rfl, hbl, hel⟩ := hO.at_ (by omega)
                obtain ⟨p', o', rfl, hbl', hel'⟩ := hO2.at_ (by omega)
                have g4 := cell_below hbW GG.out.2
                obtain ⟨x, hx⟩ : ∃ x, ms[k]? = some x := ⟨ms[k], by simp⟩
                obtain ⟨y, hy⟩ : ∃ y, ms'[k]? = some y := ⟨ms'[k]'(by omega), by simp⟩
                have hst := TS.eqL_drop (same := MadeD.same) hx hy
                obtain ⟨z, hz⟩ : ∃ z, x.same y = z := ⟨_, rfl⟩
                have hne := neq_made x y
                rw [hz] at hne hst
                rw [hst] at hsp
                have HNE := Lib.hid hne
                have HST := Lib.hid hsp
                have HE := Lib.hid (hel k x hx)
                have HE' := Lib.hid (hel' k y hy)
                have HBW := Lib.hid (And.intro hbW hbw)
                have hl1 := fun nn => load_made (below_draws HBW.out.2 nn) hbl HE.out
                have hl2 := fun nn => load_made (below_draws HBW.out.2 nn) hbl' HE'.out
                have q1 : (k : Int) < ms'.length := by omega
                clear hz hx hy hel hel' hne hst hsp hbW hbw
                go_wp2_with fail
                refine wp_region_quiet_lit (by kernel_rfl) (by kernel_rfl) ?_
                repeat (go_big_quiet_step (fail))
                refine wpQuiet_load 34 _ rfl rfl _ _ rfl (fun w' ⟨nn, hw⟩ => by rw [hw]; exact hl1 nn) _ rfl ?_
                simp [Act.put]
                repeat (go_big_quiet_step (fail))
                refine wpQuiet_load 34 _ rfl rfl _ _ rfl (fun w' ⟨nn, hw⟩ => by rw [hw]; exact hl2 nn) _ rfl ?_
                simp [Act.put]
                refine wpQuiet_binop .neq 34 34 _ _ rfl rfl _ _ _ rfl rfl (fun w => run_eqGuard_agg w .neq 34 _ _ _ _ madeGuard) HNE.out _ rfl ?_
                simp [Act.put]
                refine wpQuiet_nil ?_
                intro nq
                cases z with
                | true =>
                  go_wp2_with fail
                  go_roundw
                  case rel => exact ⟨k + 1, by omega, by go_num, below_draws HBW.out.1 _, by rw [HST.out, Bool.true_and]⟩
                  case measure => simp [intOf]; omega
                | false =>
                  go_wp2_with fail
                  go_ret
                  exact ⟨retB (by rw [HST.out, Bool.false_and]), by first | exact below_draws HBW.out.2 _ | exact below_draws (below_draws HBW.out.2 _) _⟩
              · obtain rfl : k = ms.length := by omega
                have hfin : R = true := by
                  rw [hsp, List.drop_of_length_le (Nat.le_refl _), List.drop_of_length_le (by rw [HL.out.2]; exact Nat.le_refl _)]
                  rfl
                have HF := Lib.hid hfin
                clear hsp hfin
                go_wp2_with fail
                go_ret
                exact ⟨retB HF.out.symm, hbw⟩
      · have t2 : ((ms.length : Int) != (ms'.length : Int)) = true := by rw [bne_iff_ne]; omega
        have t2' : (ms.length != ms'.length) = true := by rw [bne_iff_ne]; omega
        have HF : Hid (R = false) := Lib.hid (by rw [HSP2.out, TS.eqL_len (l := ms) hl2, Bool.and_false])
        clear hl1 hl2 HSP2
        go_enter Tryd.func21, Tryd.ntmps21
        go_wp2_with (first | (refine wpList_load_mid rfl 25 _ rfl w.heap.size 0 rfl a.key.enc _ (by rw [HX.out]; exact K1.out) Tryd.underlying25 rfl (by rw [a.key.enc_len]; kernel_rfl) ?_) | (refine wpList_load_mid rfl 25 _ rfl (w.heap.size + 1) 0 rfl b.key.enc _ (by rw [HX.out]; exact K2.out) Tryd.underlying25 rfl (by rw [b.key.enc_len]; kernel_rfl) ?_))
        go_ret
        exact ⟨retB HF.out.symm, by rw [HX.out]; exact HB.out⟩
    · have t1 : ((rs.length : Int) != (rs'.length : Int)) = true := by rw [bne_iff_ne]; omega
      have t1' : (rs.length != rs'.length) = true := by rw [bne_iff_ne]; omega
      have HF : Hid (R = false) := Lib.hid (by rw [HSP2.out, TS.eqL_len (l := rs) hl1, Bool.false_and])
      clear hl1 HSP2
      go_enter Tryd.func21, Tryd.ntmps21
      go_wp2_with (first | (refine wpList_load_mid rfl 25 _ rfl w.heap.size 0 rfl a.key.enc _ (by rw [HX.out]; exact K1.out) Tryd.underlying25 rfl (by rw [a.key.enc_len]; kernel_rfl) ?_) | (refine wpList_load_mid rfl 25 _ rfl (w.heap.size + 1) 0 rfl b.key.enc _ (by rw [HX.out]; exact K2.out) Tryd.underlying25 rfl (by rw [b.key.enc_len]; kernel_rfl) ?_))
      go_ret
      exact ⟨retB HF.out.symm, by rw [HX.out]; exact HB.out⟩
end Go.Proofs.YtcaookphoiopbaaDoor
