/- ref.Holds: does a trace hold, by what is known, in the plain reading. -/
import Derived.Test.YtcaookphoiopbaaDoorTraceHolds
namespace Go.Proofs.YtcaookphoiopbaaDoor
open Go.RowKit

theorem find_step {known : List ReadD} {k : Nat} {x : ReadD} (p : ByteArray) (h : known[k]? = some x) : TS.find p (known.drop k) k = if (x.path.toList == p.toList) = true then (k : Int) else TS.find p (known.drop (k + 1)) (k + 1) := by
  obtain ⟨hk', rfl⟩ := List.getElem?_eq_some_iff.1 h
  rw [List.drop_eq_getElem_cons hk']
  rfl

set_option maxHeartbeats 2000000 in
set_option maxRecDepth 100000 in
theorem refHolds_any (t : TraceD) (A : Option Addr) (c : Nat) (A' : Option Addr) (c' : Nat) (K : Option Addr) (n d : Nat) (known : List ReadD) (w : World) (hR : Elems ReadD.enc 34 w A t.reads.length c t.reads)
    (hK : Elems ReadD.enc 34 w K n d known) (hn : n ≤ 1000000000) (ht : t.reads.length ≤ 1000000000) :
    Calls Tryd.prog 16 #[.agg (t.cells A c A' c').toArray, .slice K n d] w fun e w' => e = .returned (.tuple #[.bool (TS.holds known t.reads).1, .string (TS.holds known t.reads).2]) ∧ Below w.heap.size w w' := by
  obtain ⟨cs, hcs⟩ : ∃ cs, t.cells A c A' c' = cs := ⟨_, rfl⟩
  have h32 := box_cell 29 (t.cell32 A c A' c')
  rw [hcs] at h32 ⊢
  clear hcs
  obtain ⟨rs, hrs⟩ : ∃ rs, t.reads = rs := ⟨_, rfl⟩
  rw [hrs] at hR h32 ht ⊢
  clear hrs
  obtain ⟨H, hH⟩ : ∃ H, TS.holds known rs = H := ⟨_, rfl⟩
  rw [hH]
  have HH := Lib.hid hH
  obtain ⟨X0, hX0⟩ : ∃ X0, w.alloc (.cells cs.toArray 29) = X0 := ⟨_, rfl⟩
  have hb0 : Below w.heap.size w X0 := by rw [← hX0]; exact below_box _
  have hs0 : X0.heap.size = w.heap.size + 1 := by rw [← hX0]; simp
  have h32' : X0.cell? ⟨w.heap.size, 32, none⟩ = some (.slice A rs.length c) := by rw [← hX0]; exact h32 w
  clear hH
  go_enter Tryd.func16, Tryd.ntmps16
  go_wp2
  go_loopw [6] (fun i wr => ∃ k : Nat, k ≤ rs.length ∧ i = .int .i64 k ∧ Below X0.heap.size X0 wr ∧ H = TS.holds known (rs.drop k)) (fun i _ => rs.length - (intOf i).toNat)
  case atStart => exact ⟨0, by omega, rfl, Below.refl _ _, HH.out.symm⟩
  case round =>
    obtain ⟨k, hk, rfl, hbW, hsp⟩ := hrel
    have hcW := cell_below hbW h32'
    clear h32 HH hX0
    by_cases hlt : k < rs.length
    · obtain ⟨b, o, rfl, hbl, hel⟩ := hR.at_ (by omega)
      obtain ⟨r, hm⟩ : ∃ r, rs[k]? = some r := ⟨rs[k], by simp⟩
      have hbw : Below w.heap.size w wr := below_then hb0 hb0.size hbW
      have hrg := range_low hbw hbl (hel k r hm)
      have hrc := (ReadD.cells hrg).1
      have hstep : H = TS.holds known (r :: rs.drop (k + 1)) := by
        obtain ⟨hk', rfl⟩ := List.getElem?_eq_some_iff.1 hm
        rw [hsp, List.drop_eq_getElem_cons hk']
      have HR := Lib.hid hrg
      have HS := Lib.hid hstep
      have HKN := Lib.hid hK.len
      have HEL := Lib.hid hel
      have HM := Lib.hid hm
      clear hrg hrc hsp hel hm hstep
      go_wp2_with fail
      go_loopw [7, 8] (fun a i wi => ∃ (q : Nat) (j : Int), q ≤ n ∧ j = (q : Int) - 1 ∧ i = .int .i64 j ∧ a = .int .i64 (TS.find r.path (known.drop q) q) ∧ Below X0.heap.size X0 wi) (fun _ i _ => (intOf i + 1).toNat)
      case atStart => exact ⟨n, (n : Int) - 1, by omega, rfl, rfl, by rw [List.drop_of_length_le (by rw [HKN.out]; omega)]; rfl, hbW⟩
      case round =>
        obtain ⟨q, j, hq, hj, rfl, rfl, hbI⟩ := hrel
        have hbi : Below w.heap.size w _ := below_then hb0 hb0.size hbI
        have hcI := cell_below hbI h32'
        have hri := range_low hbi hbl (HEL.out k r HM.out)
        have hrc := (ReadD.cells hri).1
        have HRI := Lib.hid hri
        clear hri
        by_cases hq0 : q = 0
        · subst hq0
          obtain rfl : j = -1 := by omega
          rw [List.drop_zero]
          obtain ⟨f, hf⟩ : ∃ f, TS.find r.path known 0 = f := ⟨_, rfl⟩
          rw [hf]
          have HF := Lib.hid hf
          clear hf hj hq
          by_cases hf0 : f < 0
          · go_wp2_with fail
            go_quiet (fail)
            go_wp2_with fail
            go_ret2
            exact ⟨retBS (by rw [HS.out, TS.holds, HF.out, if_pos hf0]) (by rw [HS.out, TS.holds, HF.out, if_pos hf0]), below_draws hbi _⟩
          · obtain ⟨p, x, hx, hp, _⟩ := TS.find_at r.path known 0 (by rw [HF.out]; omega)
            rw [HF.out, Nat.zero_add] at hp
            subst hp
            have hpn : p < n := by rw [← HKN.out]; exact (List.getElem?_eq_some_iff.1 hx).1
            obtain ⟨kb, ko, rfl, hkb, hkel⟩ := hK.at_ (by omega)
            have HX := Lib.hid (hkel p x hx)
            obtain ⟨z, hz⟩ : ∃ z, x.same r = z := ⟨_, rfl⟩
            have hne := neq_read x r
            rw [hz] at hne
            have HNE := Lib.hid hne
            have HZ := Lib.hid hz
            have HJ := Lib.hid hx
            have hl1 := fun nn => load_read (below_draws hbi nn) hkb HX.out
            have hl2 := fun nn => load_read2 nn HRI.out
            clear hz hx hkel hne
            go_wp2_with fail
            refine wp_region_quiet_lit (by kernel_rfl) (by kernel_rfl) ?_
            repeat (go_big_quiet_step (fail))
            refine wpQuiet_load 32 _ rfl rfl _ _ rfl (fun w' ⟨nn, hw⟩ => by rw [hw]; exact hl1 nn) _ rfl ?_
            simp [Act.put]
            repeat (go_big_quiet_step (fail))
            refine wpQuiet_load 32 _ rfl rfl _ _ rfl (fun w' ⟨nn, hw⟩ => by rw [hw]; exact hl2 nn) _ rfl ?_
            simp [Act.put]
            refine wpQuiet_binop .neq 32 32 _ _ rfl rfl _ _ _ rfl rfl (fun w => run_eqGuard_agg w .neq 32 _ _ _ _ readGuard) HNE.out _ rfl ?_
            simp [Act.put]
            repeat (go_big_quiet_step (fail))
            refine wpQuiet_nil ?_
            intro nq
            cases z with
            | true =>
              go_wp2_with fail
              exact ⟨⟨k + 1, by omega, by go_num, below_draws hbI _, by rw [HS.out, TS.holds, HF.out, if_neg (by omega)]; simp [HJ.out, HZ.out]⟩, by simp only [intOf]; omega⟩
            | false =>
              go_wp2_with fail
              go_ret2
              exact ⟨retBS (by rw [HS.out, TS.holds, HF.out, if_neg (by omega)]; simp [HJ.out, HZ.out]) (by rw [HS.out, TS.holds, HF.out, if_neg (by omega)]; simp [HJ.out, HZ.out]), by first | exact below_draws hbi _ | exact below_draws (below_draws hbi _) _⟩
        · obtain ⟨p, rfl⟩ : ∃ p, q = p + 1 := ⟨q - 1, by omega⟩
          obtain rfl : j = (p : Int) := by omega
          obtain ⟨x, hx⟩ : ∃ x, known[p]? = some x := ⟨known[p]'(by rw [HKN.out]; omega), by simp⟩
          obtain ⟨kb, ko, rfl, hkb, hkel⟩ := hK.at_ (by omega)
          have hkr := range_low hbi hkb (hkel p x hx)
          have hkc := (ReadD.cells hkr).1
          have hst := find_step r.path hx
          obtain ⟨y, hy⟩ : ∃ y, TS.find r.path (known.drop (p + 1)) (p + 1) = y := ⟨_, rfl⟩
          rw [hy] at hst ⊢
          have HST := Lib.hid hst
          clear hst hy hx hkel hkr hj
          cases hz : (x.path.toList == r.path.toList) with
          | true =>
            rw [hz] at HST
            go_wp2_with fail
            go_quiet (fail)
            go_wp2_with fail
            exact ⟨⟨p, (p : Int) - 1, by omega, rfl, rfl, by rw [HST.out]; rfl, below_draws hbI _⟩, by simp only [intOf]; omega⟩
          | false =>
            rw [hz] at HST
            go_wp2_with fail
            go_quiet (fail)
            go_wp2_with fail
            exact ⟨⟨p, (p : Int) - 1, by omega, rfl, rfl, by rw [HST.out]; rfl, below_draws hbI _⟩, by simp only [intOf]; omega⟩
    · obtain rfl : k = rs.length := by omega
      have hfin : H = (true, ⟨#[]⟩) := by
        rw [hsp, List.drop_of_length_le (by omega)]
        rfl
      have HF := Lib.hid hfin
      clear hsp hfin
      go_wp2_with fail
      go_ret2
      exact ⟨retBS (by rw [HF.out]) (by rw [HF.out]), below_then hb0 hb0.size hbW⟩
end Go.Proofs.YtcaookphoiopbaaDoor
