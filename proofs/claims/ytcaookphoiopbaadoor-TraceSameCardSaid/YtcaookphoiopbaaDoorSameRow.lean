/- The law on traces that are alike: the row's claim, and its card. -/
import Derived.Test.YtcaookphoiopbaaDoorSameWalk
import Derived.Test.YtcaookphoiopbaaDoorHeir
import Derived.Test.YtcaookphoiopbaaDoorRowBase2
namespace Go.Proofs.YtcaookphoiopbaaDoor
open Go.ChangeShapes Go.WideShapes Go.ChangeAt Go.RowKit

theorem tsame_reads (os : Os) {H : Type} (enc : TypeId × Value → H) : ∃ places, DataW.whole enc Tryd.prog ((World.laidAll Tryd.prog os Rows.traceSameRow.laid).forCall (fun _ _ => 0) ⟨#[], #[.agg ((⟨Dig.zero, [], []⟩ : TraceD).cells none 0 none 0).toArray, .agg ((⟨Dig.zero, [], []⟩ : TraceD).cells none 0 none 0).toArray], []⟩).memory Tryd.f6.params.toList Rows.traceSameSpec.vars false
    (#[.agg ((⟨Dig.zero, [], []⟩ : TraceD).cells none 0 none 0).toArray, .agg ((⟨Dig.zero, [], []⟩ : TraceD).cells none 0 none 0).toArray] : Array Value).toList 8 = some ([.agg [zeroDig, .nil, .nil], .agg [zeroDig, .nil, .nil]], [], places) :=
  ⟨[], by kernel_rfl⟩

set_option maxRecDepth 100000 in
theorem tsame_lifted (os : Os) (started : os.Started) (H : Type) (enc : TypeId × Value → H) (F : Stop.Interp) :
    ReturnsInHanded {} Tryd.checked os 6 .any ((OpenSpec.ofChange Rows.traceSameSpec).preRow enc Tryd.prog Tryd.f6 Rows.traceSameRow.domain false Rows.traceSameRow.laid)
      (((OpenSpec.ofChange Rows.traceSameSpec).at F).post enc Tryd.prog Tryd.f6 false true false false) := by
  obtain ⟨places, hx⟩ := tsame_reads os enc
  refine returnsInHanded_of_row (C := Tryd.checked) (s := OpenSpec.ofChange Rows.traceSameSpec) own started (by kernel_rfl) Tryd.func6
    (witness_row_shaped (enc := enc) (C := Tryd.checked) (World.laidAll Tryd.prog os Rows.traceSameRow.laid) #[.agg ((⟨Dig.zero, [], []⟩ : TraceD).cells none 0 none 0).toArray, .agg ((⟨Dig.zero, [], []⟩ : TraceD).cells none 0 none 0).toArray] (World.laidAll_os _ _ _)
      (World.shaped_of_ZipB (by kernel_rfl) (by kernel_rfl)) (by kernel_rfl)
      (OpenSpec.preRow_of_cond 8 hx (by kernel_rfl) (fun k hk => by cases hk) (by kernel_rfl)
        (by rw [MakeChecks.laidMetH_plain _ _ _ (by kernel_rfl)]; exact laidMet_laidAll _ (by kernel_rfl) (by kernel_rfl)))) ?_
  intro W base args ds gs before hval0 hW _ hcond hwt hL _ _
  have hval : ∀ (j : Nat) t v, Tryd.f6.params[j]? = some t → args[j]? = some v → Value.okWide Tryd.prog W .any base t v := hval0
  clear hcond
  have hW' := hW
  obtain ⟨p, q, hA0, hV, rfl, _, _⟩ := hW
  have hA : DataW.TrodAll enc Tryd.prog W 0 (fun _ => true) true Tryd.f6.params.toList args.toList ds p := hA0
  rw [Tryd.params6] at hA hval hwt
  obtain ⟨v0, vs0, d0, ds0, p0, q0, hargs0, rfl, rfl, h0, r0⟩ := trodAll_cons hA
  obtain ⟨v1, vs1, d1, ds1, p1, q1, hargs1, rfl, rfl, h1, r1⟩ := trodAll_cons r0
  obtain ⟨rfl, rfl, rfl⟩ := trodAll_nil r1
  obtain rfl : args = #[v0, v1] := by cases args; simp_all
  obtain ⟨rfl, rfl⟩ := trodVars_none hV
  have k0 := h0
  have k1 := h1
  have ok0 := weights_of hwt (j := 0) rfl rfl
  have ok1 := weights_of hwt (j := 1) rfl rfl
  obtain ⟨t, A, c, A', c', rfl, hR, hO, b1, b2⟩ := open_trace_h (heir_weights Tryd.prog reachBytes) (hval 0 29 v0 rfl rfl) h0 ok0
  obtain ⟨u, B, d, B', d', rfl, hR2, hO2, b3, b4⟩ := open_trace_h (heir_weights Tryd.prog reachBytes) (hval 1 29 v1 rfl rfl) h1 ok1
  rw [MakeChecks.laidMetH_plain _ _ _ (by kernel_rfl)] at hL
  simp only [List.append_nil] at hW'
  refine (traceSame_any t u A c A' c' B d B' d' W hR hO hR2 hO2 (pow_of_laid hL) ⟨fun r hr => by have := b1 r hr; unfold reachBytes at this; omega, fun r hr => by have := b2 r hr; unfold reachBytes at this; omega⟩ ⟨fun r hr => by have := b3 r hr; unfold reachBytes at this; omega, fun r hr => by have := b4 r hr; unfold reachBytes at this; omega⟩).mono fun e W' ⟨he, hbe⟩ => ?_
  subst he
  have lt : ∀ x ∈ p0 ++ (p1), x.block < W.heap.size := fun x hx => by
    have := hW'.lt x (by simpa using hx)
    simpa using this
  have g0 := Below.trod laidOut (by kernel_rfl) (of_decide_eq_true (by kernel_rfl)) k0 hbe (fun x hx => lt x (by simp [hx]))
  have g1 := Below.trod laidOut (by kernel_rfl) (of_decide_eq_true (by kernel_rfl)) k1 hbe (fun x hx => lt x (by simp [hx]))
  exact ⟨_, rfl, post_below2 (pa := p0 ++ (p1 ++ [])) (pv := []) hW' (fun _ _ _ => trodAll_mk1 (shut_bool Tryd.underlying4 _)) (trodAll_cons_mk g0 (trodAll_cons_mk g1 trodAll_mk0)) rfl hbe⟩

theorem tsame_row : Rows.TraceSameSaid :=
  OpenClaim.holds_of_cond 6 Tryd.f6 rfl rfl rfl rfl rfl rfl rfl ⟨rfl, rfl, rfl, rfl, rfl⟩ rfl rfl rfl rfl rfl (by kernel_rfl) Tryd.func6 (by kernel_rfl)
    (of_decide_eq_true (by kernel_rfl)) (by unfold Func.isWrapper; first | (rw [if_pos (by decide +kernel)]; kernel_rfl) | (rw [if_neg (by decide +kernel)]; exact ⟨rfl, rfl⟩))
    (fun os started H enc _ F => by rw [OpenClaim.pre_eq_preRow]; exact tsame_lifted os started H enc F)
theorem tsame_card : Rows.TraceSameCardSaid :=
  Claim7.holds_tied_plain_at .later [] _ _ _ _ tsame_row (fun _ h => by cases h) (by kernel_rfl) (fun _ h => by cases h) traceSame_row_tie rfl ⟨rfl, rfl⟩ (by kernel_rfl) rfl
    (fun f fn hf hfn => by
      obtain rfl : f = 6 := Option.some.inj ((show Tryd.prog.funcNamed "bloomery/bloomerylaw23.TraceSame" = some 6 by kernel_rfl).symm.trans hf) |>.symm
      obtain rfl : fn = Tryd.f6 := (Option.some.inj (Tryd.func6.symm.trans hfn)).symm
      exact ⟨by kernel_rfl, fun j t ht => by
        rw [Tryd.params6] at ht
        have hm : t ∈ [29, 29] := by simpa using Array.mem_of_getElem? ht
        have hall : ([29, 29].all fun u => !Tryd.prog.wantsStandIn u) = true := by kernel_rfl
        exact (show Tryd.prog.wantsStandIn t = false by simpa using List.all_eq_true.1 hall t hm)⟩)
    (by kernel_rfl)
#print axioms tsame_card
end Go.Proofs.YtcaookphoiopbaaDoor
