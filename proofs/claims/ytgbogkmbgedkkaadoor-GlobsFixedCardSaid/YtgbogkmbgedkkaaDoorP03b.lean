/- The reference on paths (layer 3), a directory and what lies under it: what its functions answer. The functions of this text and their contracts were written by the kit's print for this seat; they are kept here in one text. -/
import Derived.Test.YtgbogkmbgedkkaaDoorP03
import Derived.Test.YtgbogkmbgedkkaaDoorProg
import Derived.Below
import Derived.Deep.Draws
import Derived.Deep.AppendLies
import Derived.Maps.AppendAt
import Derived.OwnWalk
import Derived.Laws.BytesArg
import Derived.Laws.MakeOwn
import Derived.Laws.OwnMore
import Derived.Deep.OwnRows
import Derived.Tactics
import Derived.Lib.ConvBytes
import Derived.Laws.Slices
import Derived.WalkKit
import Derived.KernelRfl
import Derived.RowKit3
import Derived.Deep.LoopGhost
import Derived.Deep.QuietTactic
import Derived.BigQuiet
import Derived.WideLaws
import Derived.Deep.DeepCutAuto
import Derived.Deep.CutBlock
import Derived.Deep.RegionHeld3
import Derived.Laws.Rows
import Derived.Lib.AppendStr
import Derived.ArgAppend
import Derived.Laws.IdiomCopy
import Derived.OrdersHeld
import Derived.Laws.BitsLemmas
import Derived.RowKit
import Derived.Test.YtgbogkmbgedkkaaDoorWWords
import Derived.Test.YtgbogkmbgedkkaaDoorWLast
import Derived.Test.YtgbogkmbgedkkaaDoorWTab
import Derived.Test.YtgbogkmbgedkkaaDoorWFour
import Derived.Test.YtgbogkmbgedkkaaDoorWQPut
import Derived.Test.YtgbogkmbgedkkaaDoorWApart
import Derived.Test.YtgbogkmbgedkkaaDoorWArr
import Derived.Test.YtgbogkmbgedkkaaDoorWZeros
import Derived.Test.YtgbogkmbgedkkaaDoorWFoot
import Derived.Test.YtgbogkmbgedkkaaDoorWKept
import Derived.Test.YtgbogkmbgedkkaaDoorWShare
import Derived.Test.YtgbogkmbgedkkaaDoorWN
import Derived.Test.YtgbogkmbgedkkaaDoorWFootNe
import Derived.Test.YtgbogkmbgedkkaaDoorWAt
import Derived.Test.YtgbogkmbgedkkaaDoorWEqStruct
import Derived.Test.YtgbogkmbgedkkaaDoorWRepsOne
import Derived.Test.YtgbogkmbgedkkaaDoorWInv
import Derived.Test.YtgbogkmbgedkkaaDoorWInvWords
import Derived.Test.YtgbogkmbgedkkaaDoorWGuard
import Derived.Test.YtgbogkmbgedkkaaDoorWNEv
import Derived.Test.YtgbogkmbgedkkaaDoorWMore
namespace Go.Proofs.YtgbogkmbgedkkaaDoor.P
open Go.RowKit Go.Proofs.YtgbogkmbgedkkaaDoorW.PrintWords Go.Proofs.YtgbogkmbgedkkaaDoorW.PrintLast Go.Proofs.YtgbogkmbgedkkaaDoorW.PrintMore
attribute [local go_sem] max2_int min2_int max_two min_two max_three min_three max_four min_four
set_option linter.unusedVariables false
set_option linter.unusedSimpArgs false

/-! ### bloomeryref03_Dir: function 18 -/
mutual
def bloomeryref03_Dir.j0 : Nat → List ByteArray → Bool → Option (ByteArray)
  | 0, _, _ => none
  | k + 1, x3, x15 => if x15 = true then (some (⟨#[]⟩ : ByteArray)) else (if 0 < (x3.length : Int) then (bloomeryref03_Dir.l0 k x3 (rdOf ByteArray.empty x3 0) 1) else (none))
def bloomeryref03_Dir.l0 : Nat → List ByteArray → ByteArray → Int → Option (ByteArray)
  | 0, _, _, _ => none
  | k + 1, x3, x4, x5 => if x5 < (wrap64 ((x3.length : Int) - 1)) then (if x4.size + 1 ≤ 9223372036854775807 then (if 0 ≤ x5 then (if x5 < (x3.length : Int) then (if (x4 ++ (⟨#[47]⟩ : ByteArray)).size + (rdOf ByteArray.empty x3 x5).size ≤ 9223372036854775807 then (bloomeryref03_Dir.l0 k x3 ((x4 ++ (⟨#[47]⟩ : ByteArray)) ++ (rdOf ByteArray.empty x3 x5)) (wrap64 (x5 + 1))) else (none)) else (none)) else (none)) else (none)) else (some x4)
end
def bloomeryref03_Dir.f (k : Nat) (a0 : ByteArray) : Option (ByteArray) := (bloomeryref03_Parts.f k a0).bind fun t116 => ((bloomeryref03_May.f k a0).bind fun t119 => (if t119 = true then (bloomeryref03_Dir.j0 k t116 ((t116.length : Int) == 1)) else (bloomeryref03_Dir.j0 k t116 true)))
theorem bloomeryref03_Dir.mono_l : ∀ k, (∀ y0 y1, LeO (bloomeryref03_Dir.j0 k y0 y1) (bloomeryref03_Dir.j0 (k + 1) y0 y1)) ∧ (∀ y0 y1 y2, LeO (bloomeryref03_Dir.l0 k y0 y1 y2) (bloomeryref03_Dir.l0 (k + 1) y0 y1 y2))
  | 0 => ⟨fun _ _ r h => by simp [bloomeryref03_Dir.j0] at h, fun _ _ _ r h => by simp [bloomeryref03_Dir.l0] at h⟩
  | k + 1 => by
    obtain ⟨ih0, ih1⟩ := bloomeryref03_Dir.mono_l k
    refine ⟨?_, ?_⟩
    · intro y0 y1
      unfold bloomeryref03_Dir.j0
      repeat' first
      | (with_reducible exact ih0 _ _)
      | (with_reducible exact ih1 _ _ _)
      | (with_reducible exact bloomeryref03_May.mono _ _)
      | (with_reducible exact bloomeryref03_Parts.mono _ _)
      | (with_reducible exact LeO.refl _)
      | (with_reducible exact LeO.none _)
      | (with_reducible refine LeO.ite ?_ ?_)
      | (with_reducible refine LeO.bind ?_ (fun _ => ?_))
      | exact ih0 _ _
      | exact ih1 _ _ _
      | exact bloomeryref03_May.mono _ _
      | exact bloomeryref03_Parts.mono _ _
      | exact LeO.none _
      | refine LeO.ite ?_ ?_
      | refine LeO.bind ?_ (fun _ => ?_)
    · intro y0 y1 y2
      unfold bloomeryref03_Dir.l0
      repeat' first
      | (with_reducible exact ih0 _ _)
      | (with_reducible exact ih1 _ _ _)
      | (with_reducible exact bloomeryref03_May.mono _ _)
      | (with_reducible exact bloomeryref03_Parts.mono _ _)
      | (with_reducible exact LeO.refl _)
      | (with_reducible exact LeO.none _)
      | (with_reducible refine LeO.ite ?_ ?_)
      | (with_reducible refine LeO.bind ?_ (fun _ => ?_))
      | exact ih0 _ _
      | exact ih1 _ _ _
      | exact bloomeryref03_May.mono _ _
      | exact bloomeryref03_Parts.mono _ _
      | exact LeO.none _
      | refine LeO.ite ?_ ?_
      | refine LeO.bind ?_ (fun _ => ?_)
theorem bloomeryref03_Dir.mono : ∀ a0 k, LeO (bloomeryref03_Dir.f k a0) (bloomeryref03_Dir.f (k + 1) a0) := by
  intro a0 k
  obtain ⟨ih0, ih1⟩ := bloomeryref03_Dir.mono_l k
  unfold bloomeryref03_Dir.f
  repeat' first
      | (with_reducible exact ih0 _ _)
      | (with_reducible exact ih1 _ _ _)
      | (with_reducible exact bloomeryref03_May.mono _ _)
      | (with_reducible exact bloomeryref03_Parts.mono _ _)
      | (with_reducible exact LeO.refl _)
      | (with_reducible exact LeO.none _)
      | (with_reducible refine LeO.ite ?_ ?_)
      | (with_reducible refine LeO.bind ?_ (fun _ => ?_))
      | exact ih0 _ _
      | exact ih1 _ _ _
      | exact bloomeryref03_May.mono _ _
      | exact bloomeryref03_Parts.mono _ _
      | exact LeO.none _
      | refine LeO.ite ?_ ?_
      | refine LeO.bind ?_ (fun _ => ?_)
set_option maxHeartbeats 8000000 in
set_option maxRecDepth 100000 in
theorem bloomeryref03_Dir.calls (k : Nat) (a0 : ByteArray) (r : ByteArray) (w : World) (h : bloomeryref03_Dir.f k a0 = some r) :
    Calls Tryd.prog 18 #[.string a0] w fun e w' => e = .returned (.string r) ∧ Below w.heap.size w w' := by
  have HB := Aside0.mk (Below.refl w.heap.size w)
  have H : ((bloomeryref03_Parts.f k a0).bind fun t116 => ((bloomeryref03_May.f k a0).bind fun t119 => (if t119 = true then (bloomeryref03_Dir.j0 k t116 ((t116.length : Int) == 1)) else (bloomeryref03_Dir.j0 k t116 true)))) = some r := h
  clear h
  replace H := Option.bind_eq_some_iff.mp H
  obtain ⟨t116, A20, H⟩ := H
  replace H : ((bloomeryref03_May.f k a0).bind fun t119 => (if t119 = true then (bloomeryref03_Dir.j0 k t116 ((t116.length : Int) == 1)) else (bloomeryref03_Dir.j0 k t116 true))) = some r := H
  have A2 := Aside0.mk A20
  clear A20
  have HC3 := Aside0.mk H
  clear H
  go_enter Tryd.func18, Tryd.ntmps18
  go_upto_region 2 with (first | ((with_reducible refine gate_callee (f := 28) rfl ?_); refine goesL_ (some 7) rfl rfl Tryd.func28 (by kernel_rfl) rfl #[.string a0] rfl (by (try simp only [List.map_toArray, List.map_cons, List.map_nil]); first | done | rfl | (simp only [List.length_drop, List.length_take]; rfl)) ?_; (with_reducible refine (bloomeryref03_Parts.calls k a0 t116 _ A2.out).mono ?_); rintro e w4 ⟨v117, rfl, ho0, hb⟩; refine ⟨_, rfl, ?_⟩; have n0_ := Aside0.mk (Kd.R_lower ho0 (below_size (by repeat (first | (with_reducible first | exact HB.out | apply below_alloc | apply pw_below_drewN | apply below_drew1) | exact HB.out)))); have n1_ := Aside0.mk (below_step (by repeat (first | (with_reducible first | exact HB.out | apply below_alloc | apply pw_below_drewN | apply below_drew1) | exact HB.out)) hb); clear HB; have HO118 := n0_; have HB := n1_; clear n0_ n1_; (try clear hb); (try clear hb2); (try clear hk); (try clear hi); (try clear ho0)))
  (try simp only [Act.put, List.setIfInBounds_toArray, List.set_cons_zero, List.set_cons_succ])
  go_cut [15] (fun v15 wc => ∃ (kq : Nat) (x15_2 : Bool), v15 = .bool x15_2 ∧ Aside0 (bloomeryref03_Dir.j0 kq t116 x15_2 = some r) ∧ Aside0 (kq ≤ k) ∧ Aside0 (Kd.R Kd.string 9 wc w.heap.size (fun _ => True) v117 t116) ∧ Aside0 (Below w.heap.size w wc))
  case first =>
    have H := HC3.out
    clear HC3
    replace H := Option.bind_eq_some_iff.mp H
    obtain ⟨t119, A50, H⟩ := H
    replace H : (if t119 = true then (bloomeryref03_Dir.j0 k t116 ((t116.length : Int) == 1)) else (bloomeryref03_Dir.j0 k t116 true)) = some r := H
    have A5 := Aside0.mk A50
    clear A50
    by_cases c6 : t119 = true
    · subst c6
      have H1 : (bloomeryref03_Dir.j0 k t116 ((t116.length : Int) == 1)) = some r := by rw [if_pos rfl] at H; exact H
      clear H
      have H := H1
      clear H1
      have H' := Aside0.mk H
      clear H
      go_wp2_with (first | ((with_reducible refine gate_callee (f := 15) rfl ?_); refine goesL_ (some 9) rfl rfl Tryd.func15 (by kernel_rfl) rfl #[.string a0] rfl (by (try simp only [List.map_toArray, List.map_cons, List.map_nil]); first | done | rfl | (simp only [List.length_drop, List.length_take]; rfl)) ?_; (with_reducible refine (bloomeryref03_May.calls k a0 true _ A5.out).mono ?_); rintro e w7 ⟨rfl, hb⟩; refine ⟨_, rfl, ?_⟩; have n0_ := Aside0.mk (Kd.R_below (by (with_reducible repeat (first | apply Kd.R_alloc | apply Kd.R_drewN | apply Kd.R_drew)); exact HO118.out) hb); have n1_ := Aside0.mk (below_step (by repeat (first | (with_reducible first | exact HB.out | apply below_alloc | apply pw_below_drewN | apply below_drew1) | exact HB.out)) hb); clear HO118; clear HB; have HO118 := n0_; have HB := n1_; clear n0_ n1_; (try clear hb); (try clear hb2); (try clear hk); (try clear hi); obtain ⟨Ao8, co8, eo8⟩ := Kd.R_slice HO118.out; subst eo8))
      go_meet
      case rel => exact ⟨_, (((t116.length : Int) == 1)), (by first | rfl | (simp; done) | (simp [*]; done)), H', ⟨by first | omega | exact Nat.le_refl _⟩, ⟨by (with_reducible repeat (first | apply Kd.R_alloc | apply Kd.R_drewN | apply Kd.R_drew)); exact HO118.out⟩, ⟨by repeat (first | (with_reducible first | exact HB.out | apply below_alloc | apply pw_below_drewN | apply below_drew1) | exact HB.out)⟩⟩
    · replace c6 := Bool.eq_false_iff.mpr c6
      subst c6
      have H1 : (bloomeryref03_Dir.j0 k t116 true) = some r := by rw [if_neg (show ¬ (false = true) by decide)] at H; exact H
      clear H
      have H := H1
      clear H1
      have H' := Aside0.mk H
      clear H
      go_wp2_with (first | ((with_reducible refine gate_callee (f := 15) rfl ?_); refine goesL_ (some 9) rfl rfl Tryd.func15 (by kernel_rfl) rfl #[.string a0] rfl (by (try simp only [List.map_toArray, List.map_cons, List.map_nil]); first | done | rfl | (simp only [List.length_drop, List.length_take]; rfl)) ?_; (with_reducible refine (bloomeryref03_May.calls k a0 false _ A5.out).mono ?_); rintro e w9 ⟨rfl, hb⟩; refine ⟨_, rfl, ?_⟩; have n0_ := Aside0.mk (Kd.R_below (by (with_reducible repeat (first | apply Kd.R_alloc | apply Kd.R_drewN | apply Kd.R_drew)); exact HO118.out) hb); have n1_ := Aside0.mk (below_step (by repeat (first | (with_reducible first | exact HB.out | apply below_alloc | apply pw_below_drewN | apply below_drew1) | exact HB.out)) hb); clear HO118; clear HB; have HO118 := n0_; have HB := n1_; clear n0_ n1_; (try clear hb); (try clear hb2); (try clear hk); (try clear hi)))
      go_meet
      case rel => exact ⟨_, (true), (by first | rfl | (simp; done) | (simp [*]; done)), H', ⟨by first | omega | exact Nat.le_refl _⟩, ⟨by (with_reducible repeat (first | apply Kd.R_alloc | apply Kd.R_drewN | apply Kd.R_drew)); exact HO118.out⟩, ⟨by repeat (first | (with_reducible first | exact HB.out | apply below_alloc | apply pw_below_drewN | apply below_drew1) | exact HB.out)⟩⟩
  case rest =>
    clear HC3
    try clear c1
    try clear c2
    try clear p2
    try clear c6
    obtain ⟨kq, x15_2, rfl, HA, HJ2, HO_3, HB⟩ := hcut
    cases kq with
    | zero => exact absurd HA.out (by simp [bloomeryref03_Dir.j0])
    | succ kj2 =>
      have H := HA.out
      clear HA
      simp only [bloomeryref03_Dir.j0] at H
      by_cases c10 : x15_2 = true
      · subst c10
        have H1 : (some (⟨#[]⟩ : ByteArray)) = some r := by rw [if_pos rfl] at H; exact H
        clear H
        have H := H1
        clear H1
        obtain rfl := Option.some.inj H
        go_wp2
        go_ret
        exact ⟨by first | rfl | (simp [errW_none, errW_some] <;> rfl) | (simp [*, errW_none, errW_some] <;> rfl), by repeat (first | (with_reducible first | exact HB.out | apply below_alloc | apply pw_below_drewN | apply below_drew1) | exact HB.out)⟩
      · replace c10 := Bool.eq_false_iff.mpr c10
        subst c10
        have H1 : (if 0 < (t116.length : Int) then (bloomeryref03_Dir.l0 kj2 t116 (rdOf ByteArray.empty t116 0) 1) else (none)) = some r := by rw [if_neg (show ¬ (false = true) by decide)] at H; exact H
        clear H
        have H := H1
        clear H1
        by_cases c11 : 0 < (t116.length : Int)
        · rw [if_pos c11] at H
          have c11b0 : decide (0 < (t116.length : Int)) = true := decide_eq_true c11
          have c11b1 : decide (0 < t116.length) = true := decide_eq_true (by omega)
          clear c11
          have H' := Aside0.mk H
          clear H
          obtain ⟨Ao12, co12, eo12⟩ := Kd.R_slice HO_3.out
          subst eo12
          have p120 : 0 ≤ (0 : Int) := (by omega)
          have q120 : 0 < (t116.length : Int) := of_decide_eq_true (by first | (with_reducible assumption) | assumption)
          obtain ⟨ad120, e120, hx120_0⟩ := Kd.at_string (Kd.R_reads' HO_3.out).2.2 0 p120 q120
          cases e120
          have qi120 : (0 < t116.length) = True := eq_true (by omega)
          (try rw [show ((0 : Int)).toNat = 0 from rfl] at hx120_0)
          (try rw [Addr.add_zero'] at hx120_0)
          replace p120 := eq_true p120
          replace q120 := eq_true q120
          go_wp2
          go_loopg [4, 5] kj2 (fun kq v4 v5 w' => ∃ (x4_2 : ByteArray) (x5_2 : Int), v4 = .string x4_2 ∧ v5 = .int .i64 x5_2 ∧ Aside0 (bloomeryref03_Dir.l0 kq t116 x4_2 x5_2 = some r) ∧ Aside0 (kq ≤ kj2) ∧ Aside0 (Kd.R Kd.string 9 w' w.heap.size (fun _ => True) (.slice (some ad120) t116.length co12) t116) ∧ Aside0 (Below w.heap.size w w'))
          case atStart => exact ⟨(rdOf ByteArray.empty t116 0), (1), (by first | rfl | (simp; done) | (simp [*]; done)), (by first | rfl | (simp; done) | (simp [*]; done)), H', ⟨Nat.le_refl _⟩, ⟨by (with_reducible repeat (first | apply Kd.R_alloc | apply Kd.R_drewN | apply Kd.R_drew)); exact HO_3.out⟩, ⟨by repeat (first | (with_reducible first | exact HB.out | apply below_alloc | apply pw_below_drewN | apply below_drew1) | exact HB.out)⟩⟩
          case round =>
            clear H'
            try clear c1
            try clear p1
            try clear q1
            try clear hx1
            try clear qi1
            try clear c2
            try clear p2
            try clear c6
            try clear c10
            try clear c11
            try clear c11b0
            try clear c11b1
            try clear p12
            try clear q12
            try clear hx12
            try clear qi12
            try clear hx120_0
            try clear p120
            try clear p2
            try clear q120
            obtain ⟨x4_2, x5_2, rfl, rfl, HA, HK2, HO_3, HB⟩ := hrel
            cases gk with
            | zero => exact absurd HA.out (by simp [bloomeryref03_Dir.l0])
            | succ k2 =>
              have H := HA.out
              clear HA
              simp only [bloomeryref03_Dir.l0] at H
              by_cases c13 : x5_2 < (wrap64 ((t116.length : Int) - 1))
              · rw [if_pos c13] at H
                have c13b0 : decide (x5_2 < (wrap64 ((t116.length : Int) - 1))) = true := decide_eq_true c13
                clear c13
                by_cases c14 : x4_2.size + 1 ≤ 9223372036854775807
                · rw [if_pos c14] at H
                  have c14b0 := eq_true c14
                  have c14b1 : decide (x4_2.size + 1 ≤ 9223372036854775807) = true := decide_eq_true c14
                  try have c14b2 : (9223372036854775807 < x4_2.size + 1) = False := eq_false (Nat.not_lt.2 c14)
                  by_cases c15 : 0 ≤ x5_2
                  · rw [if_pos c15] at H
                    have c15b0 : decide (0 ≤ x5_2) = true := decide_eq_true c15
                    clear c15
                    by_cases c16 : x5_2 < (t116.length : Int)
                    · rw [if_pos c16] at H
                      have c16b0 : decide (x5_2 < (t116.length : Int)) = true := decide_eq_true c16
                      clear c16
                      by_cases c17 : (x4_2 ++ (⟨#[47]⟩ : ByteArray)).size + (rdOf ByteArray.empty t116 x5_2).size ≤ 9223372036854775807
                      · rw [if_pos c17] at H
                        have c17b0 := eq_true c17
                        have c17b1 : decide ((x4_2 ++ (⟨#[47]⟩ : ByteArray)).size + (rdOf ByteArray.empty t116 x5_2).size ≤ 9223372036854775807) = true := decide_eq_true c17
                        try have c17b2 : (9223372036854775807 < (x4_2 ++ (⟨#[47]⟩ : ByteArray)).size + (rdOf ByteArray.empty t116 x5_2).size) = False := eq_false (Nat.not_lt.2 c17)
                        have H' := Aside0.mk H
                        clear H
                        have p121 : 0 ≤ (x5_2 : Int) := of_decide_eq_true (by first | (with_reducible assumption) | assumption)
                        have q121 : x5_2 < (t116.length : Int) := of_decide_eq_true (by first | (with_reducible assumption) | assumption)
                        obtain ⟨ad121, e121, hx121_0⟩ := Kd.at_string (Kd.R_reads' HO_3.out).2.2 x5_2 p121 q121
                        obtain rfl : ad120 = ad121 := (by injection e121)
                        replace p121 := eq_true p121
                        replace q121 := eq_true q121
                        go_wp2
                        go_roundg k2
                        case measure => have := HJ2.out; have := HK2.out; omega
                        case rel => exact ⟨((x4_2 ++ (⟨#[47]⟩ : ByteArray)) ++ (rdOf ByteArray.empty t116 x5_2)), (wrap64 (x5_2 + 1)), (by first | rfl | (simp; done) | (simp [*]; done)), (by first | rfl | (simp; done) | (simp [*]; done)), H', ⟨by have := HJ2.out; have := HK2.out; omega⟩, ⟨by (with_reducible repeat (first | apply Kd.R_alloc | apply Kd.R_drewN | apply Kd.R_drew)); exact HO_3.out⟩, ⟨by repeat (first | (with_reducible first | exact HB.out | apply below_alloc | apply pw_below_drewN | apply below_drew1) | exact HB.out)⟩⟩
                      · rw [if_neg c17] at H
                        exact absurd H (by simp)
                    · rw [if_neg c16] at H
                      exact absurd H (by simp)
                  · rw [if_neg c15] at H
                    exact absurd H (by simp)
                · rw [if_neg c14] at H
                  exact absurd H (by simp)
              · rw [if_neg c13] at H
                have c13b0 : decide (x5_2 < (wrap64 ((t116.length : Int) - 1))) = false := decide_eq_false c13
                clear c13
                obtain rfl := Option.some.inj H
                go_wp2
                go_ret
                exact ⟨by first | rfl | (simp [errW_none, errW_some] <;> rfl) | (simp [*, errW_none, errW_some] <;> rfl), by repeat (first | (with_reducible first | exact HB.out | apply below_alloc | apply pw_below_drewN | apply below_drew1) | exact HB.out)⟩
        · rw [if_neg c11] at H
          exact absurd H (by simp)

/-! ### bloomeryref03_Under: function 17 -/
def bloomeryref03_Under.f : Nat → ByteArray → ByteArray → Option (Bool)
  | 0, _, _ => none
  | k + 1, a0, a1 => (bloomeryref03_May.f k a0).bind fun t122 => (if t122 = true then (if a1.toList = ([] : List UInt8) then (some true) else ((bloomeryref03_Dir.f k a0).bind fun t123 => (if t123.toList = ([] : List UInt8) then (some false) else (if t123.toList = a1.toList then (some true) else ((bloomeryref03_Under.f k t123 a1).bind fun t124 => (some t124)))))) else (some false))
theorem bloomeryref03_Under.mono_l : ∀ k, (∀ y0 y1, LeO (bloomeryref03_Under.f k y0 y1) (bloomeryref03_Under.f (k + 1) y0 y1))
  | 0 => fun _ _ r h => by simp [bloomeryref03_Under.f] at h
  | k + 1 => by
    have ih0 := bloomeryref03_Under.mono_l k
    · intro y0 y1
      unfold bloomeryref03_Under.f
      repeat' first
      | (with_reducible exact ih0 _ _)
      | (with_reducible exact bloomeryref03_Dir.mono _ _)
      | (with_reducible exact bloomeryref03_May.mono _ _)
      | (with_reducible exact LeO.refl _)
      | (with_reducible exact LeO.none _)
      | (with_reducible refine LeO.ite ?_ ?_)
      | (with_reducible refine LeO.bind ?_ (fun _ => ?_))
      | exact ih0 _ _
      | exact bloomeryref03_Dir.mono _ _
      | exact bloomeryref03_May.mono _ _
      | exact LeO.none _
      | refine LeO.ite ?_ ?_
      | refine LeO.bind ?_ (fun _ => ?_)
theorem bloomeryref03_Under.mono : ∀ a0 a1 k, LeO (bloomeryref03_Under.f k a0 a1) (bloomeryref03_Under.f (k + 1) a0 a1) := by
  intro a0 a1 k
  have ih0 := bloomeryref03_Under.mono_l k
  exact ih0 a0 a1
set_option maxHeartbeats 8000000 in
set_option maxRecDepth 100000 in
theorem bloomeryref03_Under.calls (k : Nat) : ∀ (a0 : ByteArray) (a1 : ByteArray) (r : Bool) (w : World) (h : bloomeryref03_Under.f k a0 a1 = some r),
    Calls Tryd.prog 17 #[.string a0, .string a1] w fun e w' => e = .returned (.bool r) ∧ Below w.heap.size w w' := by
  induction k using Nat.strongRecOn with
  | _ k ih =>
  intro a0 a1 r w h
  cases k with
  | zero => exact absurd h (by simp [bloomeryref03_Under.f])
  | succ k =>
  simp only [bloomeryref03_Under.f] at h
  have HB := Aside0.mk (Below.refl w.heap.size w)
  have H : ((bloomeryref03_May.f k a0).bind fun t122 => (if t122 = true then (if a1.toList = ([] : List UInt8) then (some true) else ((bloomeryref03_Dir.f k a0).bind fun t123 => (if t123.toList = ([] : List UInt8) then (some false) else (if t123.toList = a1.toList then (some true) else ((bloomeryref03_Under.f k t123 a1).bind fun t124 => (some t124)))))) else (some false))) = some r := h
  clear h
  replace H := Option.bind_eq_some_iff.mp H
  obtain ⟨t122, A30, H⟩ := H
  replace H : (if t122 = true then (if a1.toList = ([] : List UInt8) then (some true) else ((bloomeryref03_Dir.f k a0).bind fun t123 => (if t123.toList = ([] : List UInt8) then (some false) else (if t123.toList = a1.toList then (some true) else ((bloomeryref03_Under.f k t123 a1).bind fun t124 => (some t124)))))) else (some false)) = some r := H
  have A3 := Aside0.mk A30
  clear A30
  by_cases c4 : t122 = true
  · subst c4
    have H1 : (if a1.toList = ([] : List UInt8) then (some true) else ((bloomeryref03_Dir.f k a0).bind fun t123 => (if t123.toList = ([] : List UInt8) then (some false) else (if t123.toList = a1.toList then (some true) else ((bloomeryref03_Under.f k t123 a1).bind fun t124 => (some t124)))))) = some r := by rw [if_pos rfl] at H; exact H
    clear H
    have H := H1
    clear H1
    by_cases c5 : a1.toList = ([] : List UInt8)
    · rw [if_pos c5] at H
      have c5b0 : (a1.toList == ([] : List UInt8)) = true := beq_iff_eq.mpr c5
      have c5b1 : (a1.toList != ([] : List UInt8)) = false := bne_eq_false_iff_eq.mpr c5
      clear c5
      obtain rfl := Option.some.inj H
      go_enter Tryd.func17, Tryd.ntmps17
      go_wp2_with (first | ((with_reducible refine gate_callee (f := 15) rfl ?_); refine goesL_ (some 7) rfl rfl Tryd.func15 (by kernel_rfl) rfl #[.string a0] rfl (by (try simp only [List.map_toArray, List.map_cons, List.map_nil]); first | done | rfl | (simp only [List.length_drop, List.length_take]; rfl)) ?_; (with_reducible refine (bloomeryref03_May.calls k a0 true _ A3.out).mono ?_); rintro e w6 ⟨rfl, hb⟩; refine ⟨_, rfl, ?_⟩; have n0_ := Aside0.mk (below_step (by repeat (first | (with_reducible first | exact HB.out | apply below_alloc | apply pw_below_drewN | apply below_drew1) | exact HB.out)) hb); clear HB; have HB := n0_; clear n0_; (try clear hb); (try clear hb2); (try clear hk); (try clear hi)))
      go_ret
      exact ⟨by first | rfl | (simp [errW_none, errW_some] <;> rfl) | (simp [*, errW_none, errW_some] <;> rfl), by repeat (first | (with_reducible first | exact HB.out | apply below_alloc | apply pw_below_drewN | apply below_drew1) | exact HB.out)⟩
    · rw [if_neg c5] at H
      have c5b0 : (a1.toList == ([] : List UInt8)) = false := beq_eq_false_iff_ne.mpr c5
      have c5b1 : (a1.toList != ([] : List UInt8)) = true := bne_iff_ne.mpr c5
      replace H := Option.bind_eq_some_iff.mp H
      obtain ⟨t123, A70, H⟩ := H
      replace H : (if t123.toList = ([] : List UInt8) then (some false) else (if t123.toList = a1.toList then (some true) else ((bloomeryref03_Under.f k t123 a1).bind fun t124 => (some t124)))) = some r := H
      have A7 := Aside0.mk A70
      clear A70
      by_cases c8 : t123.toList = ([] : List UInt8)
      · rw [if_pos c8] at H
        have c8b0 : (t123.toList == ([] : List UInt8)) = true := beq_iff_eq.mpr c8
        have c8b1 : (t123.toList != ([] : List UInt8)) = false := bne_eq_false_iff_eq.mpr c8
        clear c8
        obtain rfl := Option.some.inj H
        go_enter Tryd.func17, Tryd.ntmps17
        go_wp2_with (first | ((with_reducible refine gate_callee (f := 15) rfl ?_); refine goesL_ (some 7) rfl rfl Tryd.func15 (by kernel_rfl) rfl #[.string a0] rfl (by (try simp only [List.map_toArray, List.map_cons, List.map_nil]); first | done | rfl | (simp only [List.length_drop, List.length_take]; rfl)) ?_; (with_reducible refine (bloomeryref03_May.calls k a0 true _ A3.out).mono ?_); rintro e w9 ⟨rfl, hb⟩; refine ⟨_, rfl, ?_⟩; have n0_ := Aside0.mk (below_step (by repeat (first | (with_reducible first | exact HB.out | apply below_alloc | apply pw_below_drewN | apply below_drew1) | exact HB.out)) hb); clear HB; have HB := n0_; clear n0_; (try clear hb); (try clear hb2); (try clear hk); (try clear hi)) | ((with_reducible refine gate_callee (f := 18) rfl ?_); refine goesL_ (some 12) rfl rfl Tryd.func18 (by kernel_rfl) rfl #[.string a0] rfl (by (try simp only [List.map_toArray, List.map_cons, List.map_nil]); first | done | rfl | (simp only [List.length_drop, List.length_take]; rfl)) ?_; (with_reducible refine (bloomeryref03_Dir.calls k a0 t123 _ A7.out).mono ?_); rintro e w10 ⟨rfl, hb⟩; refine ⟨_, rfl, ?_⟩; have n0_ := Aside0.mk (below_step (by repeat (first | (with_reducible first | exact HB.out | apply below_alloc | apply pw_below_drewN | apply below_drew1) | exact HB.out)) hb); clear HB; have HB := n0_; clear n0_; (try clear hb); (try clear hb2); (try clear hk); (try clear hi)))
        go_ret
        exact ⟨by first | rfl | (simp [errW_none, errW_some] <;> rfl) | (simp [*, errW_none, errW_some] <;> rfl), by repeat (first | (with_reducible first | exact HB.out | apply below_alloc | apply pw_below_drewN | apply below_drew1) | exact HB.out)⟩
      · rw [if_neg c8] at H
        have c8b0 : (t123.toList == ([] : List UInt8)) = false := beq_eq_false_iff_ne.mpr c8
        have c8b1 : (t123.toList != ([] : List UInt8)) = true := bne_iff_ne.mpr c8
        by_cases c11 : t123.toList = a1.toList
        · rw [if_pos c11] at H
          have c11b0 : (t123.toList == a1.toList) = true := beq_iff_eq.mpr c11
          have c11b1 : (t123.toList != a1.toList) = false := bne_eq_false_iff_eq.mpr c11
          clear c11
          obtain rfl := Option.some.inj H
          go_enter Tryd.func17, Tryd.ntmps17
          go_wp2_with (first | ((with_reducible refine gate_callee (f := 15) rfl ?_); refine goesL_ (some 7) rfl rfl Tryd.func15 (by kernel_rfl) rfl #[.string a0] rfl (by (try simp only [List.map_toArray, List.map_cons, List.map_nil]); first | done | rfl | (simp only [List.length_drop, List.length_take]; rfl)) ?_; (with_reducible refine (bloomeryref03_May.calls k a0 true _ A3.out).mono ?_); rintro e w12 ⟨rfl, hb⟩; refine ⟨_, rfl, ?_⟩; have n0_ := Aside0.mk (below_step (by repeat (first | (with_reducible first | exact HB.out | apply below_alloc | apply pw_below_drewN | apply below_drew1) | exact HB.out)) hb); clear HB; have HB := n0_; clear n0_; (try clear hb); (try clear hb2); (try clear hk); (try clear hi)) | ((with_reducible refine gate_callee (f := 18) rfl ?_); refine goesL_ (some 12) rfl rfl Tryd.func18 (by kernel_rfl) rfl #[.string a0] rfl (by (try simp only [List.map_toArray, List.map_cons, List.map_nil]); first | done | rfl | (simp only [List.length_drop, List.length_take]; rfl)) ?_; (with_reducible refine (bloomeryref03_Dir.calls k a0 t123 _ A7.out).mono ?_); rintro e w13 ⟨rfl, hb⟩; refine ⟨_, rfl, ?_⟩; have n0_ := Aside0.mk (below_step (by repeat (first | (with_reducible first | exact HB.out | apply below_alloc | apply pw_below_drewN | apply below_drew1) | exact HB.out)) hb); clear HB; have HB := n0_; clear n0_; (try clear hb); (try clear hb2); (try clear hk); (try clear hi)))
          go_ret
          exact ⟨by first | rfl | (simp [errW_none, errW_some] <;> rfl) | (simp [*, errW_none, errW_some] <;> rfl), by repeat (first | (with_reducible first | exact HB.out | apply below_alloc | apply pw_below_drewN | apply below_drew1) | exact HB.out)⟩
        · rw [if_neg c11] at H
          have c11b0 : (t123.toList == a1.toList) = false := beq_eq_false_iff_ne.mpr c11
          have c11b1 : (t123.toList != a1.toList) = true := bne_iff_ne.mpr c11
          replace H := Option.bind_eq_some_iff.mp H
          obtain ⟨t124, A140, H⟩ := H
          replace H : (some t124) = some r := H
          have A14 := Aside0.mk A140
          clear A140
          obtain rfl := Option.some.inj H
          go_enter Tryd.func17, Tryd.ntmps17
          go_wp2_with (first | ((with_reducible refine gate_callee (f := 15) rfl ?_); refine goesL_ (some 7) rfl rfl Tryd.func15 (by kernel_rfl) rfl #[.string a0] rfl (by (try simp only [List.map_toArray, List.map_cons, List.map_nil]); first | done | rfl | (simp only [List.length_drop, List.length_take]; rfl)) ?_; (with_reducible refine (bloomeryref03_May.calls k a0 true _ A3.out).mono ?_); rintro e w15 ⟨rfl, hb⟩; refine ⟨_, rfl, ?_⟩; have n0_ := Aside0.mk (below_step (by repeat (first | (with_reducible first | exact HB.out | apply below_alloc | apply pw_below_drewN | apply below_drew1) | exact HB.out)) hb); clear HB; have HB := n0_; clear n0_; (try clear hb); (try clear hb2); (try clear hk); (try clear hi)) | ((with_reducible refine gate_callee (f := 18) rfl ?_); refine goesL_ (some 12) rfl rfl Tryd.func18 (by kernel_rfl) rfl #[.string a0] rfl (by (try simp only [List.map_toArray, List.map_cons, List.map_nil]); first | done | rfl | (simp only [List.length_drop, List.length_take]; rfl)) ?_; (with_reducible refine (bloomeryref03_Dir.calls k a0 t123 _ A7.out).mono ?_); rintro e w16 ⟨rfl, hb⟩; refine ⟨_, rfl, ?_⟩; have n0_ := Aside0.mk (below_step (by repeat (first | (with_reducible first | exact HB.out | apply below_alloc | apply pw_below_drewN | apply below_drew1) | exact HB.out)) hb); clear HB; have HB := n0_; clear n0_; (try clear hb); (try clear hb2); (try clear hk); (try clear hi)) | (go_at_call 17; (with_reducible refine (ih k (by omega) t123 a1 t124 _ A14.out).mono ?_); rintro e w17 ⟨rfl, hb⟩; have n0_ := Aside0.mk (below_step (by repeat (first | (with_reducible first | exact HB.out | apply below_alloc | apply pw_below_drewN | apply below_drew1) | exact HB.out)) hb); clear HB; have HB := n0_; clear n0_; (try clear hb); (try clear hb2); (try clear hk); (try clear hi)))
          go_ret
          exact ⟨by first | rfl | (simp [errW_none, errW_some] <;> rfl) | (simp [*, errW_none, errW_some] <;> rfl), by repeat (first | (with_reducible first | exact HB.out | apply below_alloc | apply pw_below_drewN | apply below_drew1) | exact HB.out)⟩
  · replace c4 := Bool.eq_false_iff.mpr c4
    subst c4
    have H1 : (some false) = some r := by rw [if_neg (show ¬ (false = true) by decide)] at H; exact H
    clear H
    have H := H1
    clear H1
    obtain rfl := Option.some.inj H
    go_enter Tryd.func17, Tryd.ntmps17
    go_wp2_with (first | ((with_reducible refine gate_callee (f := 15) rfl ?_); refine goesL_ (some 7) rfl rfl Tryd.func15 (by kernel_rfl) rfl #[.string a0] rfl (by (try simp only [List.map_toArray, List.map_cons, List.map_nil]); first | done | rfl | (simp only [List.length_drop, List.length_take]; rfl)) ?_; (with_reducible refine (bloomeryref03_May.calls k a0 false _ A3.out).mono ?_); rintro e w18 ⟨rfl, hb⟩; refine ⟨_, rfl, ?_⟩; have n0_ := Aside0.mk (below_step (by repeat (first | (with_reducible first | exact HB.out | apply below_alloc | apply pw_below_drewN | apply below_drew1) | exact HB.out)) hb); clear HB; have HB := n0_; clear n0_; (try clear hb); (try clear hb2); (try clear hk); (try clear hi)))
    go_ret
    exact ⟨by first | rfl | (simp [errW_none, errW_some] <;> rfl) | (simp [*, errW_none, errW_some] <;> rfl), by repeat (first | (with_reducible first | exact HB.out | apply below_alloc | apply pw_below_drewN | apply below_drew1) | exact HB.out)⟩

end Go.Proofs.YtgbogkmbgedkkaaDoor.P
