/- trace.Check: what is wrong with a trace. -/
import Derived.Test.YtcaookphoiopbaaDoorTraceReads
import Derived.Test.YtcaookphoiopbaaDoorTraceOuts
namespace Go.Proofs.YtcaookphoiopbaaDoor
open Go.RowKit Go.Shelf

set_option maxHeartbeats 2000000 in
set_option maxRecDepth 100000 in
theorem check_any (t : TraceD) (A : Option Addr) (c : Nat) (A' : Option Addr) (c' : Nat) (w : World) (hR : Elems ReadD.enc 34 w A t.reads.length c t.reads) (hO : Elems MadeD.enc 33 w A' t.outs.length c' t.outs) (hs : t.small) :
    Calls Tryd.prog 13 #[.agg (t.cells A c A' c').toArray] w fun e w' => e = .returned (.int .i64 (TS.checkErr t)) ∧ Below w.heap.size w w' := by
  obtain ⟨cs, hcs⟩ : ∃ cs, t.cells A c A' c' = cs := ⟨_, rfl⟩
  have h32 := box_cell 29 (t.cell32 A c A' c')
  have h33 := box_cell 29 (t.cell33 A c A' c')
  rw [hcs] at h32 h33 ⊢
  clear hcs
  obtain ⟨e, he⟩ : ∃ e, TS.checkErr t = e := ⟨_, rfl⟩
  rw [he]
  have HE := Lib.hid he
  clear he
  by_cases hn : 500 < t.reads.length
  · go_enter Tryd.func13, Tryd.ntmps13
    go_wp2_with fail
    go_ret
    exact ⟨retI (by rw [← HE.out]; simp [TS.checkErr, hn]), below_box _⟩
  · by_cases hm : 1000 < t.outs.length
    · go_enter Tryd.func13, Tryd.ntmps13
      go_wp2_with fail
      go_ret
      exact ⟨retI (by rw [← HE.out]; simp [TS.checkErr, hm]), below_box _⟩
    · have hcr := fun W h => reads_any A t.reads.length c t.reads W h (by omega) hs.1
      have hco := fun W h => outs_any A' t.outs.length c' t.outs W h (by omega) hs.2
      obtain ⟨e1, he1⟩ : ∃ e1, TS.readsErr (fun _ => false) t.reads = e1 := ⟨_, rfl⟩
      obtain ⟨e2, he2⟩ : ∃ e2, TS.outsErr none t.outs = e2 := ⟨_, rfl⟩
      simp only [he1] at hcr
      simp only [he2] at hco
      have hfin : e = if e1 = 0 then e2 else e1 := by
        rw [← HE.out, TS.checkErr, if_neg (by omega), he1, he2]
      have HF := Lib.hid hfin
      have CR := Lib.hid hcr
      have CO := Lib.hid hco
      have hn' : t.reads.length ≤ 500 := by omega
      have hm' : t.outs.length ≤ 1000 := by omega
      clear hcr hco hfin he1 he2 hn hm
      by_cases h0 : e1 = 0
      · subst h0
        go_enter Tryd.func13, Tryd.ntmps13
        go_wp2_with (first | (go_at_call 33; refine (CR.out _ (hR.below (below_box _))).mono ?_; rintro e' w1 ⟨rfl, hb1⟩; have hc1 := cell_below hb1 (h33 w)) | (go_at_call 34; refine (CO.out _ ((hO.below (below_box _)).below hb1)).mono ?_; rintro e' w2 ⟨rfl, hb2⟩))
        go_ret
        exact ⟨retI (by rw [HF.out]; simp), below_then (below_then (below_box _) (by simp) hb1) (Nat.le_trans (by simp) hb1.size) hb2⟩
      · have hne : (e1 != 0) = true := by simpa using h0
        go_enter Tryd.func13, Tryd.ntmps13
        go_wp2_with (first | (go_at_call 33; refine (CR.out _ (hR.below (below_box _))).mono ?_; rintro e' w1 ⟨rfl, hb1⟩))
        go_ret
        exact ⟨retI (by rw [HF.out, if_neg h0]), below_then (below_box _) (by simp) hb1⟩

end Go.Proofs.YtcaookphoiopbaaDoor
