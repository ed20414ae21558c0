/- The law on a trace that is told what it asks for, where what it reads is of bulk at most 1048576: the row's claim, and its card. -/
import Derived.Test.YtcaookphoiopbaaDoorWalksWalk
import Derived.Test.YtcaookphoiopbaaDoorOpenBulk
import Derived.Test.YtcaookphoiopbaaDoorRowBase2
namespace Go.Proofs.YtcaookphoiopbaaDoor
open Go.ChangeShapes Go.WideShapes Go.ChangeAt Go.RowKit

def zeroDig {H : Type} : DataW H := .agg (List.replicate 32 (.lit (.int .u8 0)))
theorem walks_reads (os : Os) {H : Type} (enc : TypeId × Value → H) : ∃ places, DataW.whole enc Tryd.prog ((World.laidAll Tryd.prog os Rows.traceWalksUptoRow.laid).forCall (fun _ _ => 0) ⟨#[], #[.agg ((⟨Dig.zero, [], []⟩ : TraceD).cells none 0 none 0).toArray], []⟩).memory Tryd.f5.params.toList Rows.traceWalksSpec.vars false
    #[Value.agg ((⟨Dig.zero, [], []⟩ : TraceD).cells none 0 none 0).toArray].toList 8 = some ([.agg [zeroDig, .nil, .nil]], [], places) :=
  ⟨[], by kernel_rfl⟩

set_option maxRecDepth 100000 in
theorem walks_lifted (os : Os) (started : os.Started) (H : Type) (enc : TypeId × Value → H) (F : Stop.Interp) :
    ReturnsInHanded {} Tryd.checked os 5 .any ((Rows.OpenSpec.upto Rows.traceWalksSpec).preRow enc Tryd.prog Tryd.f5 Rows.traceWalksUptoRow.domain false Rows.traceWalksUptoRow.laid)
      (((Rows.OpenSpec.upto Rows.traceWalksSpec).at F).post enc Tryd.prog Tryd.f5 false true false false) := by
  obtain ⟨places, hx⟩ := walks_reads os enc
  refine returnsInHanded_of_row (C := Tryd.checked) (s := Rows.OpenSpec.upto Rows.traceWalksSpec) own started (by kernel_rfl) Tryd.func5
    (witness_row_shaped (enc := enc) (C := Tryd.checked) (World.laidAll Tryd.prog os Rows.traceWalksUptoRow.laid) #[.agg ((⟨Dig.zero, [], []⟩ : TraceD).cells none 0 none 0).toArray] (World.laidAll_os _ _ _)
      (World.shaped_of_ZipB (by kernel_rfl) (by kernel_rfl)) (by kernel_rfl)
      (OpenSpec.preRow_of_cond 8 hx (by kernel_rfl) (fun k hk => by cases hk; kernel_rfl) (by kernel_rfl)
        (by rw [MakeChecks.laidMetH_plain _ _ _ (by kernel_rfl)]; exact laidMet_laidAll _ (by kernel_rfl) (by kernel_rfl)))) ?_
  intro W base args ds gs before hval0 hW _ hcond _ hL _ _
  have hval : ∀ (j : Nat) t v, Tryd.f5.params[j]? = some t → args[j]? = some v → Value.okWide Tryd.prog W .any base t v := hval0
  have hk : Rows.uptoSmall H (ds ++ gs) = true := hcond _ rfl
  have hW' := hW
  obtain ⟨p, q, hA0, hV, rfl, _, _⟩ := hW
  have hA : DataW.TrodAll enc Tryd.prog W 0 (fun _ => true) true Tryd.f5.params.toList args.toList ds p := hA0
  rw [Tryd.params5] at hA hval
  obtain ⟨v0, vs0, d0, ds0, p0, q0, hargs, rfl, rfl, h0, r0⟩ := trodAll_cons hA
  obtain ⟨rfl, rfl, rfl⟩ := trodAll_nil r0
  obtain rfl : args = #[v0] := by cases args; simp_all
  obtain ⟨rfl, rfl⟩ := trodVars_none hV
  have k0 := h0
  obtain ⟨t, A, c, A', c', rfl, hR, hO, b1, b2⟩ := open_trace_b (hval 0 29 v0 rfl rfl) h0
  have hb : Rows.uptoBulk d0 ≤ 1048576 := by
    have h1 := bulks.bound hk
    simp only [List.append_nil, Rows.uptoBulkAll] at h1
    omega
  rw [MakeChecks.laidMetH_plain _ _ _ (by kernel_rfl)] at hL
  have hp := pow_of_laid hL
  simp only [List.append_nil] at hW'
  refine (traceWalks_any t A c A' c' W hR hO hp (fun r hr => by have := b1 r hr; omega) (fun m hm => by have := b2 m hm; omega)).mono fun e W' ⟨he, hbe⟩ => ?_
  subst he
  have g0 := Below.trod laidOut (by kernel_rfl) (of_decide_eq_true (by kernel_rfl)) k0 hbe (fun x hx => by
    have := hW'.lt x (by simpa using hx)
    simpa using this)
  exact ⟨_, rfl, post_below2 (pa := p0 ++ []) (pv := []) hW' (fun _ _ _ => trodAll_mk1 (shut_bool Tryd.underlying4 _)) (trodAll_cons_mk g0 trodAll_mk0) rfl hbe⟩

theorem walks_row : Rows.TraceWalksUptoSaid :=
  OpenClaim.holds_of_cond 5 Tryd.f5 rfl rfl rfl rfl rfl rfl rfl ⟨rfl, rfl, rfl, rfl, rfl⟩ rfl rfl rfl rfl rfl (by kernel_rfl) Tryd.func5 (by kernel_rfl)
    (of_decide_eq_true (by kernel_rfl)) (by unfold Func.isWrapper; first | (rw [if_pos (by decide +kernel)]; kernel_rfl) | (rw [if_neg (by decide +kernel)]; exact ⟨rfl, rfl⟩))
    (fun os started H enc _ F => by rw [OpenClaim.pre_eq_preRow]; exact walks_lifted os started H enc F)
theorem walks_card : Rows.TraceWalksUptoCardSaid :=
  Claim7.holds_tied_plain_at .later [] _ _ _ _ walks_row (fun _ h => by cases h) (by kernel_rfl) (fun _ h => by cases h) traceWalksUpto_row_tie rfl ⟨rfl, rfl⟩ (by kernel_rfl) rfl
    (fun f fn hf hfn => by
      obtain rfl : f = 5 := Option.some.inj ((show Tryd.prog.funcNamed "bloomery/bloomerylaw23.TraceWalks" = some 5 by kernel_rfl).symm.trans hf) |>.symm
      obtain rfl : fn = Tryd.f5 := (Option.some.inj (Tryd.func5.symm.trans hfn)).symm
      exact ⟨by kernel_rfl, fun j t ht => by
        rw [Tryd.params5] at ht
        have hm : t ∈ [29] := by simpa using Array.mem_of_getElem? ht
        have hall : ([29].all fun u => !Tryd.prog.wantsStandIn u) = true := by kernel_rfl
        exact (show Tryd.prog.wantsStandIn t = false by simpa using List.all_eq_true.1 hall t hm)⟩)
    (by kernel_rfl)
#print axioms walks_card
end Go.Proofs.YtcaookphoiopbaaDoor
