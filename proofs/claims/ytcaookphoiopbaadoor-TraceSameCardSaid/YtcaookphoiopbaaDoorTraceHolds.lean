/- trace.Holds: does a trace hold, by what is known. -/
import Derived.Test.YtcaookphoiopbaaDoorTraceFind
import Derived.Test.YtcaookphoiopbaaDoorTraceEq
namespace Go.Proofs.YtcaookphoiopbaaDoor
open Go.RowKit
namespace TS
def holds (known : List ReadD) : List ReadD → Bool × ByteArray
  | [] => (true, ⟨#[]⟩)
  | r :: l => if find r.path known 0 < 0 then (false, r.path)
      else match known[(find r.path known 0).toNat]? with
        | some x => if x.same r = true then holds known l else (false, ⟨#[]⟩)
        | none => (true, ⟨#[]⟩)
theorem find_at (p : ByteArray) : ∀ (l : List ReadD) (k : Nat), 0 ≤ find p l k → ∃ j x, l[j]? = some x ∧ find p l k = ((k + j : Nat) : Int) ∧ (x.path.toList == p.toList) = true
  | [], k, h => by simp [find] at h
  | x :: l, k, h => by
    unfold find at h ⊢
    by_cases e : (x.path.toList == p.toList) = true
    · rw [if_pos e]
      exact ⟨0, x, rfl, by simp, e⟩
    · rw [if_neg e] at h ⊢
      obtain ⟨j, y, h1, h2, h3⟩ := find_at p l (k + 1) h
      exact ⟨j + 1, y, by simpa using h1, by rw [h2]; omega, h3⟩
end TS

theorem load_read {B b o : Nat} {w X : World} {r : ReadD} (hb : Below B w X) (hlt : b < B) (h : w.rangeAt b o r.enc) :
    (Instr.loadAt 32 (.pointer (some ⟨b, o, none⟩))).run Tryd.prog X = .ok (.agg r.enc.toArray) X :=
  run_loadAt_mid X b o 32 r.enc _ (range_low hb hlt h) Tryd.underlying32 rfl (by rw [r.enc_len]; kernel_rfl)
theorem load_read2 {b o : Nat} {X : World} {r : ReadD} (nn : Nat) (h : X.rangeAt b o r.enc) :
    (Instr.loadAt 32 (.pointer (some ⟨b, o, none⟩))).run Tryd.prog (X.drewN nn) = .ok (.agg r.enc.toArray) (X.drewN nn) :=
  run_loadAt_mid _ b o 32 r.enc _ (range_below (below_draws (Below.refl _ X) nn) h) Tryd.underlying32 rfl (by rw [r.enc_len]; kernel_rfl)

set_option maxHeartbeats 1000000 in
set_option maxRecDepth 100000 in
theorem holds_any (t : TraceD) (A : Option Addr) (c : Nat) (A' : Option Addr) (c' : Nat) (K : Option Addr) (n d : Nat) (known : List ReadD) (w : World) (hR : Elems ReadD.enc 34 w A t.reads.length c t.reads)
    (hK : Elems ReadD.enc 34 w K n d known) (hn : n ≤ 1000000000) (ht : t.reads.length ≤ 1000000000) :
    Calls Tryd.prog 15 #[.agg (t.cells A c A' c').toArray, .slice K n d] w fun e w' => e = .returned (.tuple #[.bool (TS.holds known t.reads).1, .string (TS.holds known t.reads).2]) ∧ Below w.heap.size w w' := by
  obtain ⟨cs, hcs⟩ : ∃ cs, t.cells A c A' c' = cs := ⟨_, rfl⟩
  have h32 := box_cell 29 (t.cell32 A c A' c')
  rw [hcs] at h32 ⊢
  clear hcs
  obtain ⟨rs, hrs⟩ : ∃ rs, t.reads = rs := ⟨_, rfl⟩
  rw [hrs] at hR h32 ht ⊢
  clear hrs
  obtain ⟨H, hH⟩ : ∃ H, TS.holds known rs = H := ⟨_, rfl⟩
  rw [hH]
  have HH := Lib.hid hH
  clear hH
  go_enter Tryd.func15, Tryd.ntmps15
  go_wp2
  go_loopw [12] (fun i wr => ∃ k : Nat, k ≤ rs.length ∧ i = .int .i64 k ∧ Below w.heap.size w wr ∧ H = TS.holds known (rs.drop k)) (fun i _ => rs.length - (intOf i).toNat)
  case atStart => exact ⟨0, by omega, rfl, below_box _, HH.out.symm⟩
  case round =>
    obtain ⟨k, hk, rfl, hbW, hsp⟩ := hrel
    clear h32 HH
    by_cases hlt : k < rs.length
    · obtain ⟨b, o, rfl, hbl, hel⟩ := hR.at_ (by omega)
      obtain ⟨r, hm⟩ : ∃ r, rs[k]? = some r := ⟨rs[k], by simp⟩
      have hrg := range_low hbW hbl (hel k r hm)
      have hstep : H = TS.holds known (r :: rs.drop (k + 1)) := by
        obtain ⟨hk', rfl⟩ := List.getElem?_eq_some_iff.1 hm
        rw [hsp, List.drop_eq_getElem_cons hk']
      obtain ⟨q, hq⟩ : ∃ q, TS.find r.path known 0 = q := ⟨_, rfl⟩
      have hKr := hK.below hbW
      have cf := fun W h => find_any K n d known r.path wr.heap.size W h hn
      rw [hq] at cf
      have CF := Lib.hid cf
      have HR := Lib.hid hrg
      have HS := Lib.hid hstep
      have HQ := Lib.hid hq
      clear cf hrg hsp hel hm hq hstep
      by_cases hq0 : q < 0
      · go_wp2_with (first | (refine wpList_load_mid rfl 32 _ rfl b (o + k * 34) rfl r.enc _ HR.out Tryd.underlying32 rfl (by rw [r.enc_len]; kernel_rfl) ?_) | (refine wpList_store_new rfl 32 _ _ rfl _ r.enc rfl rfl (by simp [r.enc_len]) (by rw [r.enc_len]; kernel_rfl) r.enc_one ?_; refine wpList_name ?_; intro X hX; obtain ⟨hbX, hsX, hrX⟩ := box_facts hX; have hc0 := (ReadD.cells hrX).1; clear hX hrX) | (go_at_call 35; refine (CF.out _ (hKr.below hbX) hc0).mono ?_; rintro e w1 ⟨rfl, hb1⟩; have hc1 := cell_below hb1 hc0))
        go_quiet (fail)
        go_wp2_with fail
        go_ret2
        exact ⟨retBS (by rw [HS.out, TS.holds, HQ.out, if_pos hq0]) (by rw [HS.out, TS.holds, HQ.out, if_pos hq0]), below_draws (below_then (below_then hbW hbW.size hbX) (Nat.le_trans hbW.size hbX.size) hb1) _⟩
      · obtain ⟨j, x, hx, hj, hpx⟩ := TS.find_at r.path known 0 (by rw [HQ.out]; omega)
        rw [HQ.out, Nat.zero_add] at hj
        subst hj
        have hjn : j < n := by rw [← hK.len]; exact (List.getElem?_eq_some_iff.1 hx).1
        obtain ⟨kb, ko, rfl, hkb, hkel⟩ := hK.at_ (by omega)
        have HX := Lib.hid (hkel j x hx)
        obtain ⟨z, hz⟩ : ∃ z, x.same r = z := ⟨_, rfl⟩
        have hne := neq_read x r
        rw [hz] at hne
        have HNE := Lib.hid hne
        have HZ := Lib.hid hz
        have HJ := Lib.hid hx
        clear hz hx hpx hkel hne
        go_wp2_with (first | (refine wpList_load_mid rfl 32 _ rfl b (o + k * 34) rfl r.enc _ HR.out Tryd.underlying32 rfl (by rw [r.enc_len]; kernel_rfl) ?_) | (refine wpList_store_new rfl 32 _ _ rfl _ r.enc rfl rfl (by simp [r.enc_len]) (by rw [r.enc_len]; kernel_rfl) r.enc_one ?_; refine wpList_name ?_; intro X hX; obtain ⟨hbX, hsX, hrX⟩ := box_facts hX; have hc0 := (ReadD.cells hrX).1; have HRX := Lib.hid hrX; clear hX hrX) | (go_at_call 35; refine (CF.out _ (hKr.below hbX) hc0).mono ?_; rintro e w1 ⟨rfl, hb1⟩; have HB := Lib.hid (below_then (below_then hbW hbW.size hbX) (Nat.le_trans hbW.size hbX.size) hb1); have hl1 := fun nn => load_read (below_draws HB.out nn) hkb HX.out; have hl2 := fun nn => load_read2 nn (range_below hb1 HRX.out); clear hbX hsX hb1 hc0))
        refine wp_region_quiet_lit (by kernel_rfl) (by kernel_rfl) ?_
        repeat (go_big_quiet_step (fail))
        refine wpQuiet_load 32 _ rfl rfl _ _ rfl (fun w' ⟨nn, hw⟩ => by rw [hw]; exact hl1 nn) _ rfl ?_
        simp [Act.put]
        refine wpQuiet_load 32 _ rfl rfl _ _ rfl (fun w' ⟨nn, hw⟩ => by rw [hw]; exact hl2 nn) _ rfl ?_
        simp [Act.put]
        refine wpQuiet_binop .neq 32 32 _ _ rfl rfl _ _ _ rfl rfl (fun w => run_eqGuard_agg w .neq 32 _ _ _ _ readGuard) HNE.out _ rfl ?_
        simp [Act.put]
        repeat (go_big_quiet_step (fail))
        refine wpQuiet_nil ?_
        intro nq
        cases z with
        | true =>
          go_wp2_with fail
          go_roundw
          case rel => exact ⟨k + 1, by omega, by go_num, below_draws HB.out _, by rw [HS.out, TS.holds, HQ.out, if_neg (by omega)]; simp [HJ.out, HZ.out]⟩
          case measure => simp [intOf]; omega
        | false =>
          go_wp2_with fail
          go_ret2
          exact ⟨retBS (by rw [HS.out, TS.holds, HQ.out, if_neg (by omega)]; simp [HJ.out, HZ.out]) (by rw [HS.out, TS.holds, HQ.out, if_neg (by omega)]; simp [HJ.out, HZ.out]), by first | exact below_draws HB.out _ | exact below_draws (below_draws HB.out _) _⟩
    · obtain rfl : k = rs.length := by omega
      have hfin : H = (true, ⟨#[]⟩) := by
        rw [hsp, List.drop_of_length_le (by omega)]
        rfl
      have HF := Lib.hid hfin
      clear hsp hfin
      go_wp2_with fail
      go_ret2
      exact ⟨retBS (by rw [HF.out]) (by rw [HF.out]), hbW⟩
end Go.Proofs.YtcaookphoiopbaaDoor
