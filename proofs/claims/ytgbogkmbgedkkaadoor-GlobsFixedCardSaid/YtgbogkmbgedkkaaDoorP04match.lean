/- The reference on patterns (layer 4): what its functions answer. The functions of this text and their contracts were written by the kit's print for this seat; they are kept here in one text. -/
import Derived.Test.YtgbogkmbgedkkaaDoorP04one
import Derived.Test.YtgbogkmbgedkkaaDoorP04
import Derived.Test.YtgbogkmbgedkkaaDoorProg
import Derived.Below
import Derived.Deep.Draws
import Derived.Deep.AppendLies
import Derived.Maps.AppendAt
import Derived.OwnWalk
import Derived.Laws.BytesArg
import Derived.Laws.MakeOwn
import Derived.Laws.OwnMore
import Derived.Deep.OwnRows
import Derived.Tactics
import Derived.Lib.ConvBytes
import Derived.Laws.Slices
import Derived.WalkKit
import Derived.KernelRfl
import Derived.RowKit3
import Derived.Deep.LoopGhost
import Derived.Deep.QuietTactic
import Derived.BigQuiet
import Derived.WideLaws
import Derived.Deep.DeepCutAuto
import Derived.Deep.CutBlock
import Derived.Deep.RegionHeld3
import Derived.Laws.Rows
import Derived.Lib.AppendStr
import Derived.ArgAppend
import Derived.Laws.IdiomCopy
import Derived.OrdersHeld
import Derived.Laws.BitsLemmas
import Derived.RowKit
import Derived.Test.YtgbogkmbgedkkaaDoorWWords
import Derived.Test.YtgbogkmbgedkkaaDoorWLast
import Derived.Test.YtgbogkmbgedkkaaDoorWTab
import Derived.Test.YtgbogkmbgedkkaaDoorWFour
import Derived.Test.YtgbogkmbgedkkaaDoorWQPut
import Derived.Test.YtgbogkmbgedkkaaDoorWApart
import Derived.Test.YtgbogkmbgedkkaaDoorWArr
import Derived.Test.YtgbogkmbgedkkaaDoorWZeros
import Derived.Test.YtgbogkmbgedkkaaDoorWFoot
import Derived.Test.YtgbogkmbgedkkaaDoorWKept
import Derived.Test.YtgbogkmbgedkkaaDoorWShare
import Derived.Test.YtgbogkmbgedkkaaDoorWN
import Derived.Test.YtgbogkmbgedkkaaDoorWFootNe
import Derived.Test.YtgbogkmbgedkkaaDoorWAt
import Derived.Test.YtgbogkmbgedkkaaDoorWEqStruct
import Derived.Test.YtgbogkmbgedkkaaDoorWRepsOne
import Derived.Test.YtgbogkmbgedkkaaDoorWInv
import Derived.Test.YtgbogkmbgedkkaaDoorWInvWords
import Derived.Test.YtgbogkmbgedkkaaDoorWGuard
import Derived.Test.YtgbogkmbgedkkaaDoorWNEv
import Derived.Test.YtgbogkmbgedkkaaDoorWMore
namespace Go.Proofs.YtgbogkmbgedkkaaDoor.P
open Go.RowKit Go.Proofs.YtgbogkmbgedkkaaDoorW.PrintWords Go.Proofs.YtgbogkmbgedkkaaDoorW.PrintLast Go.Proofs.YtgbogkmbgedkkaaDoorW.PrintMore
attribute [local go_sem] max2_int min2_int max_two min_two max_three min_three max_four min_four
set_option linter.unusedVariables false
set_option linter.unusedSimpArgs false

/-! ### bloomeryref04_Match: function 12 -/
mutual
def bloomeryref04_Match.j0 : Nat → ByteArray → ByteArray → Bool → Option (Bool)
  | 0, _, _, _ => none
  | k + 1, x0, x1, x19 => if x19 = true then (some false) else ((bloomeryref03_Parts.f k x0).bind fun t140 => ((bloomeryref03_Parts.f k x1).bind fun t143 => (if 0 ≤ (wrap64 ((t143.length : Int) + 1)) then (if (wrap64 ((t143.length : Int) + 1) : Int).toNat ≤ 281474976710656 then ((some (List.replicate (wrap64 ((t143.length : Int) + 1) : Int).toNat false : List Bool)).bind fun y146 => (if 0 < (y146.length : Int) then (bloomeryref04_Match.l0 k t140 t143 (y146.set (0 : Int).toNat true) t140 (t140.length : Int) 0) else (none))) else (none)) else (none))))
def bloomeryref04_Match.l0 : Nat → List ByteArray → List ByteArray → List Bool → List ByteArray → Int → Int → Option (Bool)
  | 0, _, _, _, _, _, _ => none
  | k + 1, x5, x6, x7, x30, x31, x32 => if x32 < x31 then (if 0 ≤ x32 then (if x32 < (x30.length : Int) then (if 0 ≤ (wrap64 ((x6.length : Int) + 1)) then (if (wrap64 ((x6.length : Int) + 1) : Int).toNat ≤ 281474976710656 then (bloomeryref04_Match.l1 k x5 x6 x7 x32 (rdOf ByteArray.empty x30 x32) (List.replicate (wrap64 ((x6.length : Int) + 1) : Int).toNat false) 0 x30 x31 x32) else (none)) else (none)) else (none)) else (none)) else (if 0 ≤ (x6.length : Int) then (if (x6.length : Int) < (x7.length : Int) then (some (rdOf false x7 (x6.length : Int))) else (none)) else (none))
def bloomeryref04_Match.l1 : Nat → List ByteArray → List ByteArray → List Bool → Int → ByteArray → List Bool → Int → List ByteArray → Int → Int → Option (Bool)
  | 0, _, _, _, _, _, _, _, _, _, _ => none
  | k + 1, x5, x6, x7, x8, x9, x10, x11, x30, x31, x32 => if x11 ≤ (x6.length : Int) then (if x9.toList = ([42, 42] : List UInt8) then (if x8 = (wrap64 ((x5.length : Int) - 1)) then (if x11 > 0 then (if 0 ≤ (wrap64 (x11 - 1)) then (if (wrap64 (x11 - 1)) < (x7.length : Int) then (if rdOf false x7 (wrap64 (x11 - 1)) = true then (if 0 ≤ x11 then (if x11 < (x10.length : Int) then (bloomeryref04_Match.l1 k x5 x6 x7 x8 x9 (x10.set (x11 : Int).toNat true) (wrap64 (x11 + 1)) x30 x31 x32) else (none)) else (none)) else (if (wrap64 (x11 - 1)) < (x10.length : Int) then (if 0 ≤ x11 then (if x11 < (x10.length : Int) then (bloomeryref04_Match.l1 k x5 x6 x7 x8 x9 (x10.set (x11 : Int).toNat (rdOf false x10 (wrap64 (x11 - 1)))) (wrap64 (x11 + 1)) x30 x31 x32) else (none)) else (none)) else (none))) else (none)) else (none)) else (if 0 ≤ x11 then (if x11 < (x10.length : Int) then (bloomeryref04_Match.l1 k x5 x6 x7 x8 x9 (x10.set (x11 : Int).toNat false) (wrap64 (x11 + 1)) x30 x31 x32) else (none)) else (none))) else (if 0 ≤ x11 then (if x11 < (x7.length : Int) then (if rdOf false x7 x11 = true then (if x11 < (x10.length : Int) then (bloomeryref04_Match.l1 k x5 x6 x7 x8 x9 (x10.set (x11 : Int).toNat true) (wrap64 (x11 + 1)) x30 x31 x32) else (none)) else (if x11 > 0 then (if 0 ≤ (wrap64 (x11 - 1)) then (if (wrap64 (x11 - 1)) < (x10.length : Int) then (if x11 < (x10.length : Int) then (bloomeryref04_Match.l1 k x5 x6 x7 x8 x9 (x10.set (x11 : Int).toNat (rdOf false x10 (wrap64 (x11 - 1)))) (wrap64 (x11 + 1)) x30 x31 x32) else (none)) else (none)) else (none)) else (if x11 < (x10.length : Int) then (bloomeryref04_Match.l1 k x5 x6 x7 x8 x9 (x10.set (x11 : Int).toNat false) (wrap64 (x11 + 1)) x30 x31 x32) else (none)))) else (none)) else (none))) else (if x11 > 0 then (if 0 ≤ (wrap64 (x11 - 1)) then (if (wrap64 (x11 - 1)) < (x7.length : Int) then (if rdOf false x7 (wrap64 (x11 - 1)) = true then (if (wrap64 (x11 - 1)) < (x6.length : Int) then ((bloomeryref04_one.f k x9 (rdOf ByteArray.empty x6 (wrap64 (x11 - 1)))).bind fun t167 => (if 0 ≤ x11 then (if x11 < (x10.length : Int) then (bloomeryref04_Match.l1 k x5 x6 x7 x8 x9 (x10.set (x11 : Int).toNat t167) (wrap64 (x11 + 1)) x30 x31 x32) else (none)) else (none))) else (none)) else (if 0 ≤ x11 then (if x11 < (x10.length : Int) then (bloomeryref04_Match.l1 k x5 x6 x7 x8 x9 (x10.set (x11 : Int).toNat false) (wrap64 (x11 + 1)) x30 x31 x32) else (none)) else (none))) else (none)) else (none)) else (if 0 ≤ x11 then (if x11 < (x10.length : Int) then (bloomeryref04_Match.l1 k x5 x6 x7 x8 x9 (x10.set (x11 : Int).toNat false) (wrap64 (x11 + 1)) x30 x31 x32) else (none)) else (none)))) else (bloomeryref04_Match.l0 k x5 x6 x10 x30 x31 (wrap64 (x32 + 1)))
end
def bloomeryref04_Match.f (k : Nat) (a0 : ByteArray) (a1 : ByteArray) : Option (Bool) := (bloomeryref04_May.f k a0).bind fun t138 => (if t138 = true then ((bloomeryref03_May.f k a1).bind fun t139 => (bloomeryref04_Match.j0 k a0 a1 (!t139))) else (bloomeryref04_Match.j0 k a0 a1 true))
theorem bloomeryref04_Match.mono_l : ∀ k, (∀ y0 y1 y2, LeO (bloomeryref04_Match.j0 k y0 y1 y2) (bloomeryref04_Match.j0 (k + 1) y0 y1 y2)) ∧ (∀ y0 y1 y2 y3 y4 y5, LeO (bloomeryref04_Match.l0 k y0 y1 y2 y3 y4 y5) (bloomeryref04_Match.l0 (k + 1) y0 y1 y2 y3 y4 y5)) ∧ (∀ y0 y1 y2 y3 y4 y5 y6 y7 y8 y9, LeO (bloomeryref04_Match.l1 k y0 y1 y2 y3 y4 y5 y6 y7 y8 y9) (bloomeryref04_Match.l1 (k + 1) y0 y1 y2 y3 y4 y5 y6 y7 y8 y9))
  | 0 => ⟨fun _ _ _ r h => by simp [bloomeryref04_Match.j0] at h, fun _ _ _ _ _ _ r h => by simp [bloomeryref04_Match.l0] at h, fun _ _ _ _ _ _ _ _ _ _ r h => by simp [bloomeryref04_Match.l1] at h⟩
  | k + 1 => by
    obtain ⟨ih0, ih1, ih2⟩ := bloomeryref04_Match.mono_l k
    refine ⟨?_, ?_, ?_⟩
    · intro y0 y1 y2
      unfold bloomeryref04_Match.j0
      repeat' first
      | (with_reducible exact ih0 _ _ _)
      | (with_reducible exact ih1 _ _ _ _ _ _)
      | (with_reducible exact ih2 _ _ _ _ _ _ _ _ _ _)
      | (with_reducible exact bloomeryref03_May.mono _ _)
      | (with_reducible exact bloomeryref03_Parts.mono _ _)
      | (with_reducible exact bloomeryref04_May.mono _ _)
      | (with_reducible exact bloomeryref04_one.mono _ _ _)
      | (with_reducible exact LeO.refl _)
      | (with_reducible exact LeO.none _)
      | (with_reducible refine LeO.ite ?_ ?_)
      | (with_reducible refine LeO.bind ?_ (fun _ => ?_))
      | exact ih0 _ _ _
      | exact ih1 _ _ _ _ _ _
      | exact ih2 _ _ _ _ _ _ _ _ _ _
      | exact bloomeryref03_May.mono _ _
      | exact bloomeryref03_Parts.mono _ _
      | exact bloomeryref04_May.mono _ _
      | exact bloomeryref04_one.mono _ _ _
      | exact LeO.none _
      | refine LeO.ite ?_ ?_
      | refine LeO.bind ?_ (fun _ => ?_)
    · intro y0 y1 y2 y3 y4 y5
      unfold bloomeryref04_Match.l0
      repeat' first
      | (with_reducible exact ih0 _ _ _)
      | (with_reducible exact ih1 _ _ _ _ _ _)
      | (with_reducible exact ih2 _ _ _ _ _ _ _ _ _ _)
      | (with_reducible exact bloomeryref03_May.mono _ _)
      | (with_reducible exact bloomeryref03_Parts.mono _ _)
      | (with_reducible exact bloomeryref04_May.mono _ _)
      | (with_reducible exact bloomeryref04_one.mono _ _ _)
      | (with_reducible exact LeO.refl _)
      | (with_reducible exact LeO.none _)
      | (with_reducible refine LeO.ite ?_ ?_)
      | (with_reducible refine LeO.bind ?_ (fun _ => ?_))
      | exact ih0 _ _ _
      | exact ih1 _ _ _ _ _ _
      | exact ih2 _ _ _ _ _ _ _ _ _ _
      | exact bloomeryref03_May.mono _ _
      | exact bloomeryref03_Parts.mono _ _
      | exact bloomeryref04_May.mono _ _
      | exact bloomeryref04_one.mono _ _ _
      | exact LeO.none _
      | refine LeO.ite ?_ ?_
      | refine LeO.bind ?_ (fun _ => ?_)
    · intro y0 y1 y2 y3 y4 y5 y6 y7 y8 y9
      unfold bloomeryref04_Match.l1
      repeat' first
      | (with_reducible exact ih0 _ _ _)
      | (with_reducible exact ih1 _ _ _ _ _ _)
      | (with_reducible exact ih2 _ _ _ _ _ _ _ _ _ _)
      | (with_reducible exact bloomeryref03_May.mono _ _)
      | (with_reducible exact bloomeryref03_Parts.mono _ _)
      | (with_reducible exact bloomeryref04_May.mono _ _)
      | (with_reducible exact bloomeryref04_one.mono _ _ _)
      | (with_reducible exact LeO.refl _)
      | (with_reducible exact LeO.none _)
      | (with_reducible refine LeO.ite ?_ ?_)
      | (with_reducible refine LeO.bind ?_ (fun _ => ?_))
      | exact ih0 _ _ _
      | exact ih1 _ _ _ _ _ _
      | exact ih2 _ _ _ _ _ _ _ _ _ _
      | exact bloomeryref03_May.mono _ _
      | exact bloomeryref03_Parts.mono _ _
      | exact bloomeryref04_May.mono _ _
      | exact bloomeryref04_one.mono _ _ _
      | exact LeO.none _
      | refine LeO.ite ?_ ?_
      | refine LeO.bind ?_ (fun _ => ?_)
theorem bloomeryref04_Match.mono : ∀ a0 a1 k, LeO (bloomeryref04_Match.f k a0 a1) (bloomeryref04_Match.f (k + 1) a0 a1) := by
  intro a0 a1 k
  obtain ⟨ih0, ih1, ih2⟩ := bloomeryref04_Match.mono_l k
  unfold bloomeryref04_Match.f
  repeat' first
      | (with_reducible exact ih0 _ _ _)
      | (with_reducible exact ih1 _ _ _ _ _ _)
      | (with_reducible exact ih2 _ _ _ _ _ _ _ _ _ _)
      | (with_reducible exact bloomeryref03_May.mono _ _)
      | (with_reducible exact bloomeryref03_Parts.mono _ _)
      | (with_reducible exact bloomeryref04_May.mono _ _)
      | (with_reducible exact bloomeryref04_one.mono _ _ _)
      | (with_reducible exact LeO.refl _)
      | (with_reducible exact LeO.none _)
      | (with_reducible refine LeO.ite ?_ ?_)
      | (with_reducible refine LeO.bind ?_ (fun _ => ?_))
      | exact ih0 _ _ _
      | exact ih1 _ _ _ _ _ _
      | exact ih2 _ _ _ _ _ _ _ _ _ _
      | exact bloomeryref03_May.mono _ _
      | exact bloomeryref03_Parts.mono _ _
      | exact bloomeryref04_May.mono _ _
      | exact bloomeryref04_one.mono _ _ _
      | exact LeO.none _
      | refine LeO.ite ?_ ?_
      | refine LeO.bind ?_ (fun _ => ?_)
set_option maxHeartbeats 8000000 in
set_option maxRecDepth 100000 in
theorem bloomeryref04_Match.calls (k : Nat) (a0 : ByteArray) (a1 : ByteArray) (r : Bool) (w : World) (h : bloomeryref04_Match.f k a0 a1 = some r) :
    Calls Tryd.prog 12 #[.string a0, .string a1] w fun e w' => e = .returned (.bool r) ∧ Below w.heap.size w w' := by
  have HB := Aside0.mk (Below.refl w.heap.size w)
  have H : ((bloomeryref04_May.f k a0).bind fun t138 => (if t138 = true then ((bloomeryref03_May.f k a1).bind fun t139 => (bloomeryref04_Match.j0 k a0 a1 (!t139))) else (bloomeryref04_Match.j0 k a0 a1 true))) = some r := h
  clear h
  have HC3 := Aside0.mk H
  clear H
  go_enter Tryd.func12, Tryd.ntmps12
  go_upto_region 1 with (fail)
  go_cut [19] (fun v19 wc => ∃ (kq : Nat) (x19_2 : Bool), v19 = .bool x19_2 ∧ Aside0 (bloomeryref04_Match.j0 kq a0 a1 x19_2 = some r) ∧ Aside0 (kq ≤ k) ∧ Aside0 (Below w.heap.size w wc))
  case first =>
    have H := HC3.out
    clear HC3
    replace H := Option.bind_eq_some_iff.mp H
    obtain ⟨t138, A40, H⟩ := H
    replace H : (if t138 = true then ((bloomeryref03_May.f k a1).bind fun t139 => (bloomeryref04_Match.j0 k a0 a1 (!t139))) else (bloomeryref04_Match.j0 k a0 a1 true)) = some r := H
    have A4 := Aside0.mk A40
    clear A40
    by_cases c5 : t138 = true
    · subst c5
      have H1 : ((bloomeryref03_May.f k a1).bind fun t139 => (bloomeryref04_Match.j0 k a0 a1 (!t139))) = some r := by rw [if_pos rfl] at H; exact H
      clear H
      have H := H1
      clear H1
      replace H := Option.bind_eq_some_iff.mp H
      obtain ⟨t139, A60, H⟩ := H
      replace H : (bloomeryref04_Match.j0 k a0 a1 (!t139)) = some r := H
      have A6 := Aside0.mk A60
      clear A60
      have H' := Aside0.mk H
      clear H
      go_wp2_with (first | ((with_reducible refine gate_callee (f := 10) rfl ?_); refine goesL_ (some 13) rfl rfl Tryd.func10 (by kernel_rfl) rfl #[.string a0] rfl (by (try simp only [List.map_toArray, List.map_cons, List.map_nil]); first | done | rfl | (simp only [List.length_drop, List.length_take]; rfl)) ?_; (with_reducible refine (bloomeryref04_May.calls k a0 true _ A4.out).mono ?_); rintro e w7 ⟨rfl, hb⟩; refine ⟨_, rfl, ?_⟩; have n0_ := Aside0.mk (below_step (by repeat (first | (with_reducible first | exact HB.out | apply below_alloc | apply pw_below_drewN | apply below_drew1) | exact HB.out)) hb); clear HB; have HB := n0_; clear n0_; (try clear hb); (try clear hb2); (try clear hk); (try clear hi)) | (go_at_call 15; (with_reducible refine (bloomeryref03_May.calls k a1 t139 _ A6.out).mono ?_); rintro e w8 ⟨rfl, hb⟩; have n0_ := Aside0.mk (below_step (by repeat (first | (with_reducible first | exact HB.out | apply below_alloc | apply pw_below_drewN | apply below_drew1) | exact HB.out)) hb); clear HB; have HB := n0_; clear n0_; (try clear hb); (try clear hb2); (try clear hk); (try clear hi)))
      go_meet
      case rel => exact ⟨_, (!t139), (by first | rfl | (simp; done) | (simp [*]; done)), H', ⟨by first | omega | exact Nat.le_refl _⟩, ⟨by repeat (first | (with_reducible first | exact HB.out | apply below_alloc | apply pw_below_drewN | apply below_drew1) | exact HB.out)⟩⟩
    · replace c5 := Bool.eq_false_iff.mpr c5
      subst c5
      have H1 : (bloomeryref04_Match.j0 k a0 a1 true) = some r := by rw [if_neg (show ¬ (false = true) by decide)] at H; exact H
      clear H
      have H := H1
      clear H1
      have H' := Aside0.mk H
      clear H
      go_wp2_with (first | ((with_reducible refine gate_callee (f := 10) rfl ?_); refine goesL_ (some 13) rfl rfl Tryd.func10 (by kernel_rfl) rfl #[.string a0] rfl (by (try simp only [List.map_toArray, List.map_cons, List.map_nil]); first | done | rfl | (simp only [List.length_drop, List.length_take]; rfl)) ?_; (with_reducible refine (bloomeryref04_May.calls k a0 false _ A4.out).mono ?_); rintro e w9 ⟨rfl, hb⟩; refine ⟨_, rfl, ?_⟩; have n0_ := Aside0.mk (below_step (by repeat (first | (with_reducible first | exact HB.out | apply below_alloc | apply pw_below_drewN | apply below_drew1) | exact HB.out)) hb); clear HB; have HB := n0_; clear n0_; (try clear hb); (try clear hb2); (try clear hk); (try clear hi)))
      go_meet
      case rel => exact ⟨_, (true), (by first | rfl | (simp; done) | (simp [*]; done)), H', ⟨by first | omega | exact Nat.le_refl _⟩, ⟨by repeat (first | (with_reducible first | exact HB.out | apply below_alloc | apply pw_below_drewN | apply below_drew1) | exact HB.out)⟩⟩
  case rest =>
    clear HC3
    try clear c1
    try clear p2
    try clear c5
    obtain ⟨kq, x19_2, rfl, HA, HJ2, HB⟩ := hcut
    cases kq with
    | zero => exact absurd HA.out (by simp [bloomeryref04_Match.j0])
    | succ kj2 =>
      have H := HA.out
      clear HA
      simp only [bloomeryref04_Match.j0] at H
      by_cases c10 : x19_2 = true
      · subst c10
        have H1 : (some false) = some r := by rw [if_pos rfl] at H; exact H
        clear H
        have H := H1
        clear H1
        obtain rfl := Option.some.inj H
        go_wp2
        go_ret
        exact ⟨by first | rfl | (simp [errW_none, errW_some] <;> rfl) | (simp [*, errW_none, errW_some] <;> rfl), by repeat (first | (with_reducible first | exact HB.out | apply below_alloc | apply pw_below_drewN | apply below_drew1) | exact HB.out)⟩
      · replace c10 := Bool.eq_false_iff.mpr c10
        subst c10
        have H1 : ((bloomeryref03_Parts.f kj2 a0).bind fun t140 => ((bloomeryref03_Parts.f kj2 a1).bind fun t143 => (if 0 ≤ (wrap64 ((t143.length : Int) + 1)) then (if (wrap64 ((t143.length : Int) + 1) : Int).toNat ≤ 281474976710656 then ((some (List.replicate (wrap64 ((t143.length : Int) + 1) : Int).toNat false : List Bool)).bind fun y146 => (if 0 < (y146.length : Int) then (bloomeryref04_Match.l0 kj2 t140 t143 (y146.set (0 : Int).toNat true) t140 (t140.length : Int) 0) else (none))) else (none)) else (none)))) = some r := by rw [if_neg (show ¬ (false = true) by decide)] at H; exact H
        clear H
        have H := H1
        clear H1
        replace H := Option.bind_eq_some_iff.mp H
        obtain ⟨t140, A110, H⟩ := H
        replace H : ((bloomeryref03_Parts.f kj2 a1).bind fun t143 => (if 0 ≤ (wrap64 ((t143.length : Int) + 1)) then (if (wrap64 ((t143.length : Int) + 1) : Int).toNat ≤ 281474976710656 then ((some (List.replicate (wrap64 ((t143.length : Int) + 1) : Int).toNat false : List Bool)).bind fun y146 => (if 0 < (y146.length : Int) then (bloomeryref04_Match.l0 kj2 t140 t143 (y146.set (0 : Int).toNat true) t140 (t140.length : Int) 0) else (none))) else (none)) else (none))) = some r := H
        have A11 := Aside0.mk A110
        clear A110
        replace H := Option.bind_eq_some_iff.mp H
        obtain ⟨t143, A120, H⟩ := H
        replace H : (if 0 ≤ (wrap64 ((t143.length : Int) + 1)) then (if (wrap64 ((t143.length : Int) + 1) : Int).toNat ≤ 281474976710656 then ((some (List.replicate (wrap64 ((t143.length : Int) + 1) : Int).toNat false : List Bool)).bind fun y146 => (if 0 < (y146.length : Int) then (bloomeryref04_Match.l0 kj2 t140 t143 (y146.set (0 : Int).toNat true) t140 (t140.length : Int) 0) else (none))) else (none)) else (none)) = some r := H
        have A12 := Aside0.mk A120
        clear A120
        obtain ⟨ji13, hji13⟩ : ∃ j_ : Int, (wrap64 ((t143.length : Int) + 1)) = j_ := ⟨_, rfl⟩
        replace H : (if 0 ≤ (ji13) then (if (ji13 : Int).toNat ≤ 281474976710656 then ((some (List.replicate (ji13 : Int).toNat false : List Bool)).bind fun y146 => (if 0 < (y146.length : Int) then (bloomeryref04_Match.l0 kj2 t140 t143 (y146.set (0 : Int).toNat true) t140 (t140.length : Int) 0) else (none))) else (none)) else (none)) = some r := by first | (rw [hji13] at H; exact H) | (simp only [hji13] at H ⊢; exact H)
        (try rw [hji13] at A11)
        (try rw [hji13] at A12)
        have hji13w : (IntKind.i64.wrap ((t143.length : Int) + 1)) = ji13 := (i64_w _).trans hji13
        by_cases c14 : 0 ≤ (ji13)
        · rw [if_pos c14] at H
          have c14b0 := eq_true c14
          have c14b1 : decide (0 ≤ (ji13)) = true := decide_eq_true c14
          clear c14
          by_cases c15 : (ji13 : Int).toNat ≤ 281474976710656
          · rw [if_pos c15] at H
            have c15b0 := eq_true c15
            have c15b1 : decide ((ji13 : Int).toNat ≤ 281474976710656) = true := decide_eq_true c15
            clear c15
            obtain ⟨y146, hy146⟩ : ∃ y_ : List Bool, y_ = (List.replicate (ji13 : Int).toNat false) := ⟨_, rfl⟩
            replace H : (if 0 < (y146.length : Int) then (bloomeryref04_Match.l0 kj2 t140 t143 (y146.set (0 : Int).toNat true) t140 (t140.length : Int) 0) else (none)) = some r := by first | (rw [hy146]; with_reducible exact H) | (have H2_ := (Option.bind_some _ _).symm.trans H; rw [hy146]; with_reducible exact H2_) | (have H2_ := (Option.bind_some _ _).symm.trans H; with_reducible exact H2_) | with_reducible exact H | (rw [hy146]; exact H) | exact H
            have Ny146 := Aside0.mk hy146
            clear hy146
            by_cases c16 : 0 < (y146.length : Int)
            · rw [if_pos c16] at H
              have c16b0 : decide (0 < (y146.length : Int)) = true := decide_eq_true c16
              have c16b1 : decide (0 < y146.length) = true := decide_eq_true (by omega)
              clear c16
              obtain ⟨y149, hy149⟩ : ∃ y_ : List Bool, y_ = (y146.set (0 : Int).toNat true) := ⟨_, rfl⟩
              replace H : (bloomeryref04_Match.l0 kj2 t140 t143 y149 t140 (t140.length : Int) 0) = some r := by first | (rw [hy149]; with_reducible exact H) | (have H2_ := (Option.bind_some _ _).symm.trans H; rw [hy149]; with_reducible exact H2_) | (have H2_ := (Option.bind_some _ _).symm.trans H; with_reducible exact H2_) | with_reducible exact H | (rw [hy149]; exact H) | exact H
              have Ny149 := Aside0.mk hy149
              clear hy149
              have H' := Aside0.mk H
              clear H
              go_wp2_with (first | ((with_reducible refine gate_callee (f := 28) rfl ?_); refine goesL_ (some 21) rfl rfl Tryd.func28 (by kernel_rfl) rfl #[.string a0] rfl (by (try simp only [List.map_toArray, List.map_cons, List.map_nil]); first | done | rfl | (simp only [List.length_drop, List.length_take]; rfl)) ?_; (with_reducible refine (bloomeryref03_Parts.calls kj2 a0 t140 _ A11.out).mono ?_); rintro e w18 ⟨v141, rfl, ho0, hb⟩; refine ⟨_, rfl, ?_⟩; have n0_ := Aside0.mk (Kd.R_lower ho0 (below_size (by repeat (first | (with_reducible first | exact HB.out | apply below_alloc | apply pw_below_drewN | apply below_drew1) | exact HB.out)))); have n1_ := Aside0.mk (below_step (by repeat (first | (with_reducible first | exact HB.out | apply below_alloc | apply pw_below_drewN | apply below_drew1) | exact HB.out)) hb); clear HB; have HO142 := n0_; have HB := n1_; clear n0_ n1_; (try clear hb); (try clear hb2); (try clear hk); (try clear hi); (try clear ho0)) | ((with_reducible refine gate_callee (f := 28) rfl ?_); refine goesL_ (some 23) rfl rfl Tryd.func28 (by kernel_rfl) rfl #[.string a1] rfl (by (try simp only [List.map_toArray, List.map_cons, List.map_nil]); first | done | rfl | (simp only [List.length_drop, List.length_take]; rfl)) ?_; (with_reducible refine (bloomeryref03_Parts.calls kj2 a1 t143 _ A12.out).mono ?_); rintro e w19 ⟨v144, rfl, ho0, hb⟩; refine ⟨_, rfl, ?_⟩; have n0_ := Aside0.mk (Kd.R_elder' (by (with_reducible repeat (first | apply Kd.R_alloc | apply Kd.R_drewN | apply Kd.R_drew)); exact HO142.out) (Kd.R_base ho0) hb); have n1_ := Aside0.mk (Kd.R_lower (Kd.R_new' ho0 (Kd.R_lt (by (with_reducible repeat (first | apply Kd.R_alloc | apply Kd.R_drewN | apply Kd.R_drew)); exact HO142.out))) (below_size (by repeat (first | (with_reducible first | exact HB.out | apply below_alloc | apply pw_below_drewN | apply below_drew1) | exact HB.out)))); have n2_ := Aside0.mk (below_step (by repeat (first | (with_reducible first | exact HB.out | apply below_alloc | apply pw_below_drewN | apply below_drew1) | exact HB.out)) hb); clear HO142; clear HB; have HO142 := n0_; have HO145 := n1_; have HB := n2_; clear n0_ n1_ n2_; (try clear hb); (try clear hb2); (try clear hk); (try clear hi); (try clear ho0); obtain ⟨Ao20, co20, eo20⟩ := Kd.R_slice HO145.out; subst eo20) | ((with_reducible refine gate_dst (N := 27) rfl ?_); refine Kd.R_make Kd.bool _ 4 rfl (N := 27) rfl 42 _ _ rfl ji13 rfl rfl Tryd.underlying42 (.bool false) 1 info4 rfl (by decide) (by omega) false (ok := fun _ => True) (okp := fun _ => True) rfl (fun _ hk => hk) trivial (of_decide_eq_true (by first | (with_reducible assumption) | assumption)) (Nat.le_trans (Nat.mul_le_mul_right _ (of_decide_eq_true (by first | (with_reducible assumption) | assumption) : ji13.toNat ≤ 281474976710656)) (by omega)) (Below.refl _ _) (Nat.le_refl _) ?_; intro v147 w21 ho22 hb hg_ hnew_; clear hg_ hnew_; (first | rw [← Ny146.out] at ho22 | (simp only [Int.reduceToNat] at ho22; rw [← Ny146.out] at ho22)); have n0_ := Aside0.mk (Kd.R_below (by (with_reducible repeat (first | apply Kd.R_alloc | apply Kd.R_drewN | apply Kd.R_drew)); exact HO142.out) hb); have n1_ := Aside0.mk (Kd.R_below (by (with_reducible repeat (first | apply Kd.R_alloc | apply Kd.R_drewN | apply Kd.R_drew)); exact HO145.out) hb); have n2_ := Aside0.mk (Kd.R_lower ho22 (below_size (by repeat (first | (with_reducible first | exact HB.out | apply below_alloc | apply pw_below_drewN | apply below_drew1) | exact HB.out)))); have n3_ := Aside0.mk (below_step (by repeat (first | (with_reducible first | exact HB.out | apply below_alloc | apply pw_below_drewN | apply below_drew1) | exact HB.out)) hb); clear HO142; clear HO145; clear HB; have HO142 := n0_; have HO145 := n1_; have HO148 := n2_; have HB := n3_; clear n0_ n1_ n2_ n3_; clear hb ho22; have p17 : 0 ≤ (0 : Int) := (by omega); have q17 : (0 : Int) < ((y146.length : Int) : Int) := of_decide_eq_true (by first | (with_reducible assumption) | assumption); have qi17 : (0 < y146.length) = True := eq_true (by omega); obtain ⟨go17, co17, eo17, gb17, gl17, cl17, HG17⟩ := Kd.R_form HO148.out (by omega); (first | cases eo17 | (injection eo17 with ea_ en_ ec_; (first | subst ea_ | (injection ea_ with ea_; subst ea_)); subst ec_; clear en_)); have GB17 := Aside0.mk gb17; have GG17 := Aside0.mk HG17; clear gb17 gl17 HG17; obtain ⟨hx17_0, hf17_0⟩ := Kd.R_celln false HO148.out (0 : Int) p17 q17; (try rw [show ((0 : Int)).toNat = 0 from rfl] at hx17_0); (try simp only [Nat.reduceMul, Nat.zero_mul, Nat.zero_add, Nat.reduceAdd] at hx17_0); (try rw [show ((0 : Int)).toNat = 0 from rfl] at hf17_0); (try simp only [Nat.reduceMul, Nat.zero_mul, Nat.zero_add, Nat.reduceAdd] at hf17_0); replace p17 := eq_true p17; replace q17 := eq_true q17; obtain ⟨hy23_, hz23_⟩ := Kd.R_celln false HO148.out (0 : Int) (by omega) (of_decide_eq_true (by first | (with_reducible assumption) | assumption)); (try simp only [Int.reduceToNat, Int.toNat_zero, Int.toNat_ofNat, Nat.reduceMul, Nat.zero_mul, Nat.zero_add] at hy23_ hz23_); (try rw [show ((0 : Int)).toNat = 0 from rfl] at hy23_); (try rw [show ((0 : Int)).toNat = 0 from rfl] at hz23_); have HP23 := Kd.R_putg HO148.out (0 : Int) true) | ((with_reducible refine gate_store (t := 4) (p := 29) rfl ?_); refine store_event (t := 4) (p := 29) (v := ?vo_w24) (w1 := (w21.setCell ⟨go17, (0 : Int).toNat, none⟩ (.bool true))) ?hg ?ho ?hn ?hr ?_; (case ho => rfl); (case hg => rfl); (case hn => rfl); (case hr => first | (go_simp; done) | (go_simp; rfl)); intro w24 hw; have hg : w21.grownBy w24 (some go17) := (by rw [hw]; exact HP23.2); have hp_ : Kd.R Kd.bool 4 w24 w.heap.size (fun _ => True) (.slice (some ⟨go17, 0, none⟩) y146.length co17) y149 := (by rw [hw, Ny149.out]; exact HP23.1); clear HP23; have n0_ := Aside0.mk (Kd.R_over' (v := (.slice (some ⟨go17, 0, none⟩) y146.length co17)) (by (with_reducible repeat (first | apply Kd.R_alloc | apply Kd.R_drewN | apply Kd.R_drew)); exact HO142.out) (Kd.R_typed HO148.out) (by decide) hg); have n1_ := Aside0.mk (Kd.R_over' (v := (.slice (some ⟨go17, 0, none⟩) y146.length co17)) (by (with_reducible repeat (first | apply Kd.R_alloc | apply Kd.R_drewN | apply Kd.R_drew)); exact HO145.out) (Kd.R_typed HO148.out) (by decide) hg); have n2_ := Aside0.mk (hp_); have n3_ := Aside0.mk ((by rw [hw]; exact below_set (HB.out) GB17.out : Below w.heap.size w w24)); clear HO142; clear HO145; clear HO148; clear HB; have HO142 := n0_; have HO145 := n1_; have HO148 := n2_; have HB := n3_; clear n0_ n1_ n2_ n3_; clear hg hw hp_; obtain ⟨Ao25, co25, eo25⟩ := Kd.R_slice HO142.out; subst eo25))
              go_loopg [7, 32] kj2 (fun kq v7 v32 w' => ∃ (x7_2 : List Bool) (x32_2 : Int), v32 = .int .i64 x32_2 ∧ Aside0 (bloomeryref04_Match.l0 kq t140 t143 x7_2 t140 (t140.length : Int) x32_2 = some r) ∧ Aside0 (kq ≤ kj2) ∧ Aside0 (Kd.R Kd.string 9 w' w.heap.size (fun k_ => some k_ ≠ ((.slice Ao20 t143.length co20) : Value).ownBlock) (.slice Ao25 t140.length co25) t140) ∧ Aside0 (Kd.R Kd.string 9 w' w.heap.size (fun k_ => some k_ ≠ ((.slice Ao25 t140.length co25) : Value).ownBlock ∧ some k_ ≠ ((.slice Ao25 t140.length co25) : Value).ownBlock) (.slice Ao20 t143.length co20) t143) ∧ Aside0 (Kd.R Kd.bool 4 w' w.heap.size (fun _ => True) v7 x7_2) ∧ Aside0 (Kd.R Kd.string 9 w' w.heap.size (fun k_ => some k_ ≠ ((.slice Ao20 t143.length co20) : Value).ownBlock) (.slice Ao25 t140.length co25) t140) ∧ Aside0 (Below w.heap.size w w'))
              case atStart => exact ⟨(y149), (0), (by first | rfl | (simp; done) | (simp [*]; done)), H', ⟨Nat.le_refl _⟩, ⟨by (with_reducible repeat (first | apply Kd.R_alloc | apply Kd.R_drewN | apply Kd.R_drew)); exact Kd.R_mono HO142.out (fun _ hk => hk.2)⟩, ⟨by (with_reducible repeat (first | apply Kd.R_alloc | apply Kd.R_drewN | apply Kd.R_drew)); exact Kd.R_mono HO145.out (fun _ hk => ⟨hk.2, hk.2⟩)⟩, ⟨by (with_reducible repeat (first | apply Kd.R_alloc | apply Kd.R_drewN | apply Kd.R_drew)); exact HO148.out⟩, ⟨by (with_reducible repeat (first | apply Kd.R_alloc | apply Kd.R_drewN | apply Kd.R_drew)); exact Kd.R_mono HO142.out (fun _ hk => hk.2)⟩, ⟨by repeat (first | (with_reducible first | exact HB.out | apply below_alloc | apply pw_below_drewN | apply below_drew1) | exact HB.out)⟩⟩
              case round =>
                try clear hji13w
                clear H'
                try clear c1
                try clear p1
                try clear q1
                try clear hx1
                try clear qi1
                try clear c2
                try clear p2
                try clear c5
                try clear p6
                try clear c10
                try clear c12
                try clear c14
                try clear c14b0
                try clear c14b1
                try clear c15
                try clear c15b0
                try clear c15b1
                try clear c16
                try clear c16b0
                try clear c16b1
                try clear p17
                try clear q17
                try clear hx17
                try clear qi17
                try clear hf17
                try clear hx17_0
                try clear p17
                try clear p2
                try clear q17
                obtain ⟨x7_2, x32_2, rfl, HA, HK2, HO_5, HO_6, HO_7, HO_30, HB⟩ := hrel
                cases gk with
                | zero => exact absurd HA.out (by simp [bloomeryref04_Match.l0])
                | succ k2 =>
                  have H := HA.out
                  clear HA
                  simp only [bloomeryref04_Match.l0] at H
                  by_cases c26 : x32_2 < (t140.length : Int)
                  · rw [if_pos c26] at H
                    have c26b0 : decide (x32_2 < (t140.length : Int)) = true := decide_eq_true c26
                    clear c26
                    by_cases c27 : 0 ≤ x32_2
                    · rw [if_pos c27] at H
                      have c27b0 : decide (0 ≤ x32_2) = true := decide_eq_true c27
                      clear c27
                      by_cases c28 : x32_2 < (t140.length : Int)
                      · rw [if_pos c28] at H
                        have c28b0 : decide (x32_2 < (t140.length : Int)) = true := decide_eq_true c28
                        clear c28
                        obtain ⟨ji29, hji29⟩ : ∃ j_ : Int, (wrap64 ((t143.length : Int) + 1)) = j_ := ⟨_, rfl⟩
                        replace H : (if 0 ≤ (ji29) then (if (ji29 : Int).toNat ≤ 281474976710656 then (bloomeryref04_Match.l1 k2 t140 t143 x7_2 x32_2 (rdOf ByteArray.empty t140 x32_2) (List.replicate (ji29 : Int).toNat false) 0 t140 (t140.length : Int) x32_2) else (none)) else (none)) = some r := by first | (rw [hji29] at H; exact H) | (simp only [hji29] at H ⊢; exact H)
                        have hji29w : (IntKind.i64.wrap ((t143.length : Int) + 1)) = ji29 := (i64_w _).trans hji29
                        by_cases c30 : 0 ≤ (ji29)
                        · rw [if_pos c30] at H
                          have c30b0 := eq_true c30
                          have c30b1 : decide (0 ≤ (ji29)) = true := decide_eq_true c30
                          clear c30
                          by_cases c31 : (ji29 : Int).toNat ≤ 281474976710656
                          · rw [if_pos c31] at H
                            have c31b0 := eq_true c31
                            have c31b1 : decide ((ji29 : Int).toNat ≤ 281474976710656) = true := decide_eq_true c31
                            clear c31
                            obtain ⟨y152, hy152⟩ : ∃ y_ : List Bool, y_ = (List.replicate (ji29 : Int).toNat false) := ⟨_, rfl⟩
                            replace H : (bloomeryref04_Match.l1 k2 t140 t143 x7_2 x32_2 (rdOf ByteArray.empty t140 x32_2) y152 0 t140 (t140.length : Int) x32_2) = some r := by first | (rw [hy152]; with_reducible exact H) | (have H2_ := (Option.bind_some _ _).symm.trans H; rw [hy152]; with_reducible exact H2_) | (have H2_ := (Option.bind_some _ _).symm.trans H; with_reducible exact H2_) | with_reducible exact H | (rw [hy152]; exact H) | exact H
                            have Ny152 := Aside0.mk hy152
                            clear hy152
                            have H' := Aside0.mk H
                            clear H
                            have p151 : 0 ≤ (x32_2 : Int) := of_decide_eq_true (by first | (with_reducible assumption) | assumption)
                            have q151 : x32_2 < (t140.length : Int) := of_decide_eq_true (by first | (with_reducible assumption) | assumption)
                            obtain ⟨ad151, e151, hx151_0⟩ := Kd.at_string (Kd.R_reads' HO_30.out).2.2 x32_2 p151 q151
                            cases e151
                            replace p151 := eq_true p151
                            replace q151 := eq_true q151
                            go_wp2_with (first | ((with_reducible refine gate_dst (N := 40) rfl ?_); refine Kd.R_make Kd.bool _ 4 rfl (N := 40) rfl 42 _ _ rfl ji29 rfl rfl Tryd.underlying42 (.bool false) 1 info4 rfl (by decide) (by omega) false (ok := fun _ => True) (okp := fun _ => True) rfl (fun _ hk => hk) trivial (of_decide_eq_true (by first | (with_reducible assumption) | assumption)) (Nat.le_trans (Nat.mul_le_mul_right _ (of_decide_eq_true (by first | (with_reducible assumption) | assumption) : ji29.toNat ≤ 281474976710656)) (by omega)) (Below.refl _ _) (Nat.le_refl _) ?_; intro v153 w32 ho33 hb hg_ hnew_; clear hg_ hnew_; (first | rw [← Ny152.out] at ho33 | (simp only [Int.reduceToNat] at ho33; rw [← Ny152.out] at ho33)); have n0_ := Aside0.mk (Kd.R_below (by (with_reducible repeat (first | apply Kd.R_alloc | apply Kd.R_drewN | apply Kd.R_drew)); exact HO_5.out) hb); have n1_ := Aside0.mk (Kd.R_below (by (with_reducible repeat (first | apply Kd.R_alloc | apply Kd.R_drewN | apply Kd.R_drew)); exact HO_6.out) hb); have n2_ := Aside0.mk (Kd.R_elder' (by (with_reducible repeat (first | apply Kd.R_alloc | apply Kd.R_drewN | apply Kd.R_drew)); exact HO_7.out) (Kd.R_base ho33) hb); have n3_ := Aside0.mk (Kd.R_below (by (with_reducible repeat (first | apply Kd.R_alloc | apply Kd.R_drewN | apply Kd.R_drew)); exact HO_30.out) hb); have n4_ := Aside0.mk (Kd.R_lower (Kd.R_new' ho33 (Kd.R_lt (by (with_reducible repeat (first | apply Kd.R_alloc | apply Kd.R_drewN | apply Kd.R_drew)); exact HO_7.out))) (below_size (by repeat (first | (with_reducible first | exact HB.out | apply below_alloc | apply pw_below_drewN | apply below_drew1) | exact HB.out)))); have n5_ := Aside0.mk (below_step (by repeat (first | (with_reducible first | exact HB.out | apply below_alloc | apply pw_below_drewN | apply below_drew1) | exact HB.out)) hb); clear HO_5; clear HO_6; clear HO_7; clear HO_30; clear HB; have HO_5 := n0_; have HO_6 := n1_; have HO_7 := n2_; have HO_30 := n3_; have HO154 := n4_; have HB := n5_; clear n0_ n1_ n2_ n3_ n4_ n5_; clear hb ho33))
                            go_loopg [11] k2 (fun kq v11 w' => ∃ (x10_3 : List Bool) (x11_3 : Int), v11 = .int .i64 x11_3 ∧ Aside0 (bloomeryref04_Match.l1 kq t140 t143 x7_2 x32_2 (rdOf ByteArray.empty t140 x32_2) x10_3 x11_3 t140 (t140.length : Int) x32_2 = some r) ∧ Aside0 (kq ≤ k2) ∧ Aside0 (Kd.R Kd.string 9 w' w.heap.size (fun k_ => some k_ ≠ ((.slice Ao20 t143.length co20) : Value).ownBlock) (.slice (some ad151) t140.length co25) t140) ∧ Aside0 (Kd.R Kd.string 9 w' w.heap.size (fun k_ => some k_ ≠ ((.slice (some ad151) t140.length co25) : Value).ownBlock ∧ some k_ ≠ ((.slice (some ad151) t140.length co25) : Value).ownBlock) (.slice Ao20 t143.length co20) t143) ∧ Aside0 (Kd.R Kd.bool 4 w' w.heap.size (fun k_ => some k_ ≠ (v153 : Value).ownBlock) u7 x7_2) ∧ Aside0 (Kd.R Kd.bool 4 w' w.heap.size (fun k_ => some k_ ≠ (u7 : Value).ownBlock) v153 x10_3) ∧ Aside0 (Kd.R Kd.string 9 w' w.heap.size (fun k_ => some k_ ≠ ((.slice Ao20 t143.length co20) : Value).ownBlock) (.slice (some ad151) t140.length co25) t140) ∧ Aside0 (Below w.heap.size w w'))
                            case atStart => exact ⟨(y152), (0), (by first | rfl | (simp; done) | (simp [*]; done)), H', ⟨Nat.le_refl _⟩, ⟨by (with_reducible repeat (first | apply Kd.R_alloc | apply Kd.R_drewN | apply Kd.R_drew)); exact HO_5.out⟩, ⟨by (with_reducible repeat (first | apply Kd.R_alloc | apply Kd.R_drewN | apply Kd.R_drew)); exact HO_6.out⟩, ⟨by (with_reducible repeat (first | apply Kd.R_alloc | apply Kd.R_drewN | apply Kd.R_drew)); exact Kd.R_mono HO_7.out (fun _ hk => hk.2)⟩, ⟨by (with_reducible repeat (first | apply Kd.R_alloc | apply Kd.R_drewN | apply Kd.R_drew)); exact Kd.R_mono HO154.out (fun _ hk => hk.2)⟩, ⟨by (with_reducible repeat (first | apply Kd.R_alloc | apply Kd.R_drewN | apply Kd.R_drew)); exact HO_30.out⟩, ⟨by repeat (first | (with_reducible first | exact HB.out | apply below_alloc | apply pw_below_drewN | apply below_drew1) | exact HB.out)⟩⟩
                            case round =>
                              try clear hji13w
                              try clear hji29w
                              clear H'
                              try clear c1
                              try clear p1
                              try clear q1
                              try clear hx1
                              try clear qi1
                              try clear c2
                              try clear p2
                              try clear c3
                              try clear c5
                              try clear p6
                              try clear c10
                              try clear c12
                              try clear c14
                              try clear c14b0
                              try clear c14b1
                              try clear c15
                              try clear c15b0
                              try clear c15b1
                              try clear p15
                              try clear q15
                              try clear hx15
                              try clear c16
                              try clear c16b0
                              try clear c16b1
                              try clear p17
                              try clear q17
                              try clear hx17
                              try clear qi17
                              try clear hf17
                              try clear c26
                              try clear c26b0
                              try clear c27
                              try clear c27b0
                              try clear c28
                              try clear c28b0
                              try clear c30
                              try clear c30b0
                              try clear c30b1
                              try clear c31
                              try clear c31b0
                              try clear c31b1
                              try clear hx151_0
                              try clear hx17_0
                              try clear p1
                              try clear p151
                              try clear p17
                              try clear p2
                              try clear p6
                              try clear q1
                              try clear q151
                              try clear q17
                              obtain ⟨x10_3, x11_3, rfl, HA, HK3, HO_5, HO_6, HO_7, HO_10, HO_30, HB⟩ := hrel
                              cases gk with
                              | zero => exact absurd HA.out (by simp [bloomeryref04_Match.l1])
                              | succ k3 =>
                                have H := HA.out
                                clear HA
                                simp only [bloomeryref04_Match.l1] at H
                                by_cases c34 : x11_3 ≤ (t143.length : Int)
                                · rw [if_pos c34] at H
                                  have c34b0 : decide (x11_3 ≤ (t143.length : Int)) = true := decide_eq_true c34
                                  clear c34
                                  by_cases c35 : (rdOf ByteArray.empty t140 x32_2).toList = ([42, 42] : List UInt8)
                                  · rw [if_pos c35] at H
                                    have c35b0 : ((rdOf ByteArray.empty t140 x32_2).toList == ([42, 42] : List UInt8)) = true := beq_iff_eq.mpr c35
                                    have c35b1 : ((rdOf ByteArray.empty t140 x32_2).toList != ([42, 42] : List UInt8)) = false := bne_eq_false_iff_eq.mpr c35
                                    clear c35
                                    by_cases c36 : x32_2 = (wrap64 ((t140.length : Int) - 1))
                                    · rw [if_pos c36] at H
                                      have c36b0 : (x32_2 == (wrap64 ((t140.length : Int) - 1))) = true := beq_iff_eq.mpr c36
                                      have c36b1 : (x32_2 != (wrap64 ((t140.length : Int) - 1))) = false := bne_eq_false_iff_eq.mpr c36
                                      clear c36
                                      by_cases c37 : x11_3 > 0
                                      · rw [if_pos c37] at H
                                        have c37b0 : decide (0 < x11_3) = true := decide_eq_true c37
                                        clear c37
                                        obtain ⟨ji38, hji38⟩ : ∃ j_ : Int, (wrap64 (x11_3 - 1)) = j_ := ⟨_, rfl⟩
                                        replace H : (if 0 ≤ (ji38) then (if (ji38) < (x7_2.length : Int) then (if rdOf false x7_2 (ji38) = true then (if 0 ≤ x11_3 then (if x11_3 < (x10_3.length : Int) then (bloomeryref04_Match.l1 k3 t140 t143 x7_2 x32_2 (rdOf ByteArray.empty t140 x32_2) (x10_3.set (x11_3 : Int).toNat true) (wrap64 (x11_3 + 1)) t140 (t140.length : Int) x32_2) else (none)) else (none)) else (if (ji38) < (x10_3.length : Int) then (if 0 ≤ x11_3 then (if x11_3 < (x10_3.length : Int) then (bloomeryref04_Match.l1 k3 t140 t143 x7_2 x32_2 (rdOf ByteArray.empty t140 x32_2) (x10_3.set (x11_3 : Int).toNat (rdOf false x10_3 (ji38))) (wrap64 (x11_3 + 1)) t140 (t140.length : Int) x32_2) else (none)) else (none)) else (none))) else (none)) else (none)) = some r := by first | (rw [hji38] at H; exact H) | (simp only [hji38] at H ⊢; exact H)
                                        have hji38w : (IntKind.i64.wrap (x11_3 - 1)) = ji38 := (i64_w _).trans hji38
                                        by_cases c39 : 0 ≤ (ji38)
                                        · rw [if_pos c39] at H
                                          have c39b0 : decide (0 ≤ (ji38)) = true := decide_eq_true c39
                                          clear c39
                                          by_cases c40 : (ji38) < (x7_2.length : Int)
                                          · rw [if_pos c40] at H
                                            have c40b0 : decide ((ji38) < (x7_2.length : Int)) = true := decide_eq_true c40
                                            clear c40
                                            obtain ⟨bq41, hbq41⟩ : ∃ b_ : Bool, b_ = (rdOf false x7_2 (ji38)) := ⟨_, rfl⟩
                                            replace H : (if bq41 = true then (if 0 ≤ x11_3 then (if x11_3 < (x10_3.length : Int) then (bloomeryref04_Match.l1 k3 t140 t143 x7_2 x32_2 (rdOf ByteArray.empty t140 x32_2) (x10_3.set (x11_3 : Int).toNat true) (wrap64 (x11_3 + 1)) t140 (t140.length : Int) x32_2) else (none)) else (none)) else (if (ji38) < (x10_3.length : Int) then (if 0 ≤ x11_3 then (if x11_3 < (x10_3.length : Int) then (bloomeryref04_Match.l1 k3 t140 t143 x7_2 x32_2 (rdOf ByteArray.empty t140 x32_2) (x10_3.set (x11_3 : Int).toNat (rdOf false x10_3 (ji38))) (wrap64 (x11_3 + 1)) t140 (t140.length : Int) x32_2) else (none)) else (none)) else (none))) = some r := by rw [← hbq41] at H; exact H
                                            have Nbq41 := Aside0.mk hbq41
                                            clear hbq41
                                            by_cases c42 : bq41 = true
                                            · subst c42
                                              have H1 : (if 0 ≤ x11_3 then (if x11_3 < (x10_3.length : Int) then (bloomeryref04_Match.l1 k3 t140 t143 x7_2 x32_2 (rdOf ByteArray.empty t140 x32_2) (x10_3.set (x11_3 : Int).toNat true) (wrap64 (x11_3 + 1)) t140 (t140.length : Int) x32_2) else (none)) else (none)) = some r := by rw [if_pos rfl] at H; exact H
                                              clear H
                                              have H := H1
                                              clear H1
                                              by_cases c43 : 0 ≤ x11_3
                                              · rw [if_pos c43] at H
                                                have c43b0 : decide (0 ≤ x11_3) = true := decide_eq_true c43
                                                clear c43
                                                by_cases c44 : x11_3 < (x10_3.length : Int)
                                                · rw [if_pos c44] at H
                                                  have c44b0 : decide (x11_3 < (x10_3.length : Int)) = true := decide_eq_true c44
                                                  clear c44
                                                  obtain ⟨y156, hy156⟩ : ∃ y_ : List Bool, y_ = (x10_3.set (x11_3 : Int).toNat true) := ⟨_, rfl⟩
                                                  replace H : (bloomeryref04_Match.l1 k3 t140 t143 x7_2 x32_2 (rdOf ByteArray.empty t140 x32_2) y156 (wrap64 (x11_3 + 1)) t140 (t140.length : Int) x32_2) = some r := by first | (rw [hy156]; with_reducible exact H) | (have H2_ := (Option.bind_some _ _).symm.trans H; rw [hy156]; with_reducible exact H2_) | (have H2_ := (Option.bind_some _ _).symm.trans H; with_reducible exact H2_) | with_reducible exact H | (rw [hy156]; exact H) | exact H
                                                  have Ny156 := Aside0.mk hy156
                                                  clear hy156
                                                  have H' := Aside0.mk H
                                                  clear H
                                                  obtain ⟨Ao46, co46, eo46⟩ := Kd.R_slice HO_7.out
                                                  subst eo46
                                                  have p155 : 0 ≤ ((ji38) : Int) := of_decide_eq_true (by first | (with_reducible assumption) | assumption)
                                                  have q155 : (ji38) < (x7_2.length : Int) := of_decide_eq_true (by first | (with_reducible assumption) | assumption)
                                                  obtain ⟨ad155, e155, hx155_0⟩ := Kd.at_bool (Kd.R_reads' HO_7.out).2.2 (ji38) p155 q155
                                                  (try rw [← Nbq41.out] at hx155_0)
                                                  cases e155
                                                  replace p155 := eq_true p155
                                                  replace q155 := eq_true q155
                                                  have p45 : 0 ≤ (x11_3 : Int) := of_decide_eq_true (by first | (with_reducible assumption) | assumption)
                                                  have q45 : (x11_3 : Int) < ((x10_3.length : Int) : Int) := of_decide_eq_true (by first | (with_reducible assumption) | assumption)
                                                  obtain ⟨go45, co45, eo45, gb45, gl45, cl45, HG45⟩ := Kd.R_form HO_10.out (by omega)
                                                  (first | cases eo45 | (injection eo45 with ea_ en_ ec_; (first | subst ea_ | (injection ea_ with ea_; subst ea_)); subst ec_; clear en_))
                                                  have GB45 := Aside0.mk gb45
                                                  have GG45 := Aside0.mk HG45
                                                  clear gb45 gl45 HG45
                                                  obtain ⟨hx45_0, hf45_0⟩ := Kd.R_celln false HO_10.out (x11_3 : Int) p45 q45
                                                  replace p45 := eq_true p45
                                                  replace q45 := eq_true q45
                                                  have HP47 := Kd.R_putg HO_10.out (x11_3 : Int) true
                                                  go_wp2_with (first | ((with_reducible refine gate_store (t := 4) (p := 93) rfl ?_); refine store_event (t := 4) (p := 93) (v := ?vo_w48) (w1 := (wr.setCell ⟨go45, (x11_3 : Int).toNat, none⟩ (.bool true))) ?hg ?ho ?hn ?hr ?_; (case ho => rfl); (case hg => rfl); (case hn => rfl); (case hr => first | (go_simp; done) | (go_simp; rfl)); intro w48 hw; have hg : wr.grownBy w48 (some go45) := (by rw [hw]; exact HP47.2); have hp_ : Kd.R Kd.bool 4 w48 w.heap.size (fun k_ => some k_ ≠ (.slice (some ad155) x7_2.length co46 : Value).ownBlock) (.slice (some ⟨go45, 0, none⟩) x10_3.length co45) y156 := (by rw [hw, Ny156.out]; exact HP47.1); clear HP47; have n0_ := Aside0.mk (Kd.R_over' (v := (.slice (some ⟨go45, 0, none⟩) x10_3.length co45)) (by (with_reducible repeat (first | apply Kd.R_alloc | apply Kd.R_drewN | apply Kd.R_drew)); exact HO_5.out) (Kd.R_typed HO_10.out) (by decide) hg); have n1_ := Aside0.mk (Kd.R_over' (v := (.slice (some ⟨go45, 0, none⟩) x10_3.length co45)) (by (with_reducible repeat (first | apply Kd.R_alloc | apply Kd.R_drewN | apply Kd.R_drew)); exact HO_6.out) (Kd.R_typed HO_10.out) (by decide) hg); have n2_ := Aside0.mk (Kd.R_after (v := (.slice (some ⟨go45, 0, none⟩) x10_3.length co45)) (v1 := (.slice (some ⟨go45, 0, none⟩) x10_3.length co45)) (ok := (fun _ => True)) (by (with_reducible repeat (first | apply Kd.R_alloc | apply Kd.R_drewN | apply Kd.R_drew)); exact Kd.R_mono HO_7.out (fun _ hk => ⟨trivial, hk⟩)) hg (.inl rfl)); have n3_ := Aside0.mk (hp_); have n4_ := Aside0.mk (Kd.R_over' (v := (.slice (some ⟨go45, 0, none⟩) x10_3.length co45)) (by (with_reducible repeat (first | apply Kd.R_alloc | apply Kd.R_drewN | apply Kd.R_drew)); exact HO_30.out) (Kd.R_typed HO_10.out) (by decide) hg); have n5_ := Aside0.mk ((by rw [hw]; exact below_set (HB.out) GB45.out : Below w.heap.size w w48)); clear HO_5; clear HO_6; clear HO_7; clear HO_10; clear HO_30; clear HB; have HO_5 := n0_; have HO_6 := n1_; have HO_7 := n2_; have HO_10 := n3_; have HO_30 := n4_; have HB := n5_; clear n0_ n1_ n2_ n3_ n4_ n5_; clear hg hw hp_))
                                                  go_roundg k3
                                                  case measure => have := HJ2.out; have := HK2.out; have := HK3.out; omega
                                                  case rel => exact ⟨(y156), (wrap64 (x11_3 + 1)), (by first | rfl | (simp; done) | (simp [*]; done)), H', ⟨by have := HJ2.out; have := HK2.out; have := HK3.out; omega⟩, ⟨by (with_reducible repeat (first | apply Kd.R_alloc | apply Kd.R_drewN | apply Kd.R_drew)); exact HO_5.out⟩, ⟨by (with_reducible repeat (first | apply Kd.R_alloc | apply Kd.R_drewN | apply Kd.R_drew)); exact HO_6.out⟩, ⟨by (with_reducible repeat (first | apply Kd.R_alloc | apply Kd.R_drewN | apply Kd.R_drew)); (first | exact Kd.R_mono HO_7.out (fun _ hk => hk.2) | exact Kd.R_mono (Kd.R_after (v := (.slice (some ⟨go45, 0, none⟩) x10_3.length co45)) (v1 := (.slice (some ⟨go45, 0, none⟩) x10_3.length co45)) (ok := fun _ => True) (Kd.R_mono (Kd.R_drewN HO_7.out _) (fun _ hk => ⟨trivial, hk⟩)) (Kd.R_putg (Kd.R_drewN HO_10.out _) (x11_3 : Int) true).2 (.inl rfl)) (fun _ hk => hk.2))⟩, ⟨by (with_reducible repeat (first | apply Kd.R_alloc | apply Kd.R_drewN | apply Kd.R_drew)); (first | exact HO_10.out | (rw [Ny156.out]; exact (Kd.R_putg (Kd.R_drewN HO_10.out _) (x11_3 : Int) true).1))⟩, ⟨by (with_reducible repeat (first | apply Kd.R_alloc | apply Kd.R_drewN | apply Kd.R_drew)); exact HO_30.out⟩, ⟨by repeat (first | (with_reducible first | exact HB.out | apply below_alloc | apply pw_below_drewN | apply below_drew1) | exact HB.out | exact below_set (pw_below_drewN HB.out _) GB45.out)⟩⟩
                                                · rw [if_neg c44] at H
                                                  exact absurd H (by simp)
                                              · rw [if_neg c43] at H
                                                exact absurd H (by simp)
                                            · replace c42 := Bool.eq_false_iff.mpr c42
                                              subst c42
                                              have H1 : (if (ji38) < (x10_3.length : Int) then (if 0 ≤ x11_3 then (if x11_3 < (x10_3.length : Int) then (bloomeryref04_Match.l1 k3 t140 t143 x7_2 x32_2 (rdOf ByteArray.empty t140 x32_2) (x10_3.set (x11_3 : Int).toNat (rdOf false x10_3 (ji38))) (wrap64 (x11_3 + 1)) t140 (t140.length : Int) x32_2) else (none)) else (none)) else (none)) = some r := by rw [if_neg (show ¬ (false = true) by decide)] at H; exact H
                                              clear H
                                              have H := H1
                                              clear H1
                                              by_cases c49 : (ji38) < (x10_3.length : Int)
                                              · rw [if_pos c49] at H
                                                have c49b0 : decide ((ji38) < (x10_3.length : Int)) = true := decide_eq_true c49
                                                clear c49
                                                by_cases c50 : 0 ≤ x11_3
                                                · rw [if_pos c50] at H
                                                  have c50b0 : decide (0 ≤ x11_3) = true := decide_eq_true c50
                                                  clear c50
                                                  by_cases c51 : x11_3 < (x10_3.length : Int)
                                                  · rw [if_pos c51] at H
                                                    have c51b0 : decide (x11_3 < (x10_3.length : Int)) = true := decide_eq_true c51
                                                    clear c51
                                                    obtain ⟨y158, hy158⟩ : ∃ y_ : List Bool, y_ = (x10_3.set (x11_3 : Int).toNat (rdOf false x10_3 (ji38))) := ⟨_, rfl⟩
                                                    replace H : (bloomeryref04_Match.l1 k3 t140 t143 x7_2 x32_2 (rdOf ByteArray.empty t140 x32_2) y158 (wrap64 (x11_3 + 1)) t140 (t140.length : Int) x32_2) = some r := by first | (rw [hy158]; with_reducible exact H) | (have H2_ := (Option.bind_some _ _).symm.trans H; rw [hy158]; with_reducible exact H2_) | (have H2_ := (Option.bind_some _ _).symm.trans H; with_reducible exact H2_) | with_reducible exact H | (rw [hy158]; exact H) | exact H
                                                    have Ny158 := Aside0.mk hy158
                                                    clear hy158
                                                    have H' := Aside0.mk H
                                                    clear H
                                                    obtain ⟨Ao53, co53, eo53⟩ := Kd.R_slice HO_7.out
                                                    subst eo53
                                                    have p155 : 0 ≤ ((ji38) : Int) := of_decide_eq_true (by first | (with_reducible assumption) | assumption)
                                                    have q155 : (ji38) < (x7_2.length : Int) := of_decide_eq_true (by first | (with_reducible assumption) | assumption)
                                                    obtain ⟨ad155, e155, hx155_0⟩ := Kd.at_bool (Kd.R_reads' HO_7.out).2.2 (ji38) p155 q155
                                                    (try rw [← Nbq41.out] at hx155_0)
                                                    cases e155
                                                    replace p155 := eq_true p155
                                                    replace q155 := eq_true q155
                                                    obtain ⟨Ao54, co54, eo54⟩ := Kd.R_slice HO_10.out
                                                    subst eo54
                                                    have p157 : 0 ≤ ((ji38) : Int) := of_decide_eq_true (by first | (with_reducible assumption) | assumption)
                                                    have q157 : (ji38) < (x10_3.length : Int) := of_decide_eq_true (by first | (with_reducible assumption) | assumption)
                                                    obtain ⟨ad157, e157, hx157_0⟩ := Kd.at_bool (Kd.R_reads' HO_10.out).2.2 (ji38) p157 q157
                                                    (try rw [← Nbq41.out] at hx157_0)
                                                    cases e157
                                                    replace p157 := eq_true p157
                                                    replace q157 := eq_true q157
                                                    have p52 : 0 ≤ (x11_3 : Int) := of_decide_eq_true (by first | (with_reducible assumption) | assumption)
                                                    have q52 : (x11_3 : Int) < ((x10_3.length : Int) : Int) := of_decide_eq_true (by first | (with_reducible assumption) | assumption)
                                                    obtain ⟨go52, co52, eo52, gb52, gl52, cl52, HG52⟩ := Kd.R_form HO_10.out (by omega)
                                                    (first | cases eo52 | (injection eo52 with ea_ en_ ec_; (first | subst ea_ | (injection ea_ with ea_; subst ea_)); subst ec_; clear en_))
                                                    have GB52 := Aside0.mk gb52
                                                    have GG52 := Aside0.mk HG52
                                                    clear gb52 gl52 HG52
                                                    (first | simp only [add_plain] at hx157_0 | skip)
                                                    obtain ⟨hx52_0, hf52_0⟩ := Kd.R_celln false HO_10.out (x11_3 : Int) p52 q52
                                                    replace p52 := eq_true p52
                                                    replace q52 := eq_true q52
                                                    have HP55 := Kd.R_putg HO_10.out (x11_3 : Int) (rdOf false x10_3 (ji38))
                                                    go_wp2_with (first | ((with_reducible refine gate_store (t := 4) (p := 93) rfl ?_); refine store_event (t := 4) (p := 93) (v := ?vo_w56) (w1 := (wr.setCell ⟨go52, (x11_3 : Int).toNat, none⟩ (.bool (rdOf false x10_3 (ji38))))) ?hg ?ho ?hn ?hr ?_; (case ho => rfl); (case hg => rfl); (case hn => rfl); (case hr => first | (go_simp; done) | (go_simp; rfl)); intro w56 hw; have hg : wr.grownBy w56 (some go52) := (by rw [hw]; exact HP55.2); have hp_ : Kd.R Kd.bool 4 w56 w.heap.size (fun k_ => some k_ ≠ (.slice (some ad155) x7_2.length co53 : Value).ownBlock) (.slice (some ⟨go52, 0, none⟩) x10_3.length co54) y158 := (by rw [hw, Ny158.out]; exact HP55.1); clear HP55; have n0_ := Aside0.mk (Kd.R_over' (v := (.slice (some ⟨go52, 0, none⟩) x10_3.length co54)) (by (with_reducible repeat (first | apply Kd.R_alloc | apply Kd.R_drewN | apply Kd.R_drew)); exact HO_5.out) (Kd.R_typed HO_10.out) (by decide) hg); have n1_ := Aside0.mk (Kd.R_over' (v := (.slice (some ⟨go52, 0, none⟩) x10_3.length co54)) (by (with_reducible repeat (first | apply Kd.R_alloc | apply Kd.R_drewN | apply Kd.R_drew)); exact HO_6.out) (Kd.R_typed HO_10.out) (by decide) hg); have n2_ := Aside0.mk (Kd.R_after (v := (.slice (some ⟨go52, 0, none⟩) x10_3.length co54)) (v1 := (.slice (some ⟨go52, 0, none⟩) x10_3.length co54)) (ok := (fun _ => True)) (by (with_reducible repeat (first | apply Kd.R_alloc | apply Kd.R_drewN | apply Kd.R_drew)); exact Kd.R_mono HO_7.out (fun _ hk => ⟨trivial, hk⟩)) hg (.inl rfl)); have n3_ := Aside0.mk (hp_); have n4_ := Aside0.mk (Kd.R_over' (v := (.slice (some ⟨go52, 0, none⟩) x10_3.length co54)) (by (with_reducible repeat (first | apply Kd.R_alloc | apply Kd.R_drewN | apply Kd.R_drew)); exact HO_30.out) (Kd.R_typed HO_10.out) (by decide) hg); have n5_ := Aside0.mk ((by rw [hw]; exact below_set (HB.out) GB52.out : Below w.heap.size w w56)); clear HO_5; clear HO_6; clear HO_7; clear HO_10; clear HO_30; clear HB; have HO_5 := n0_; have HO_6 := n1_; have HO_7 := n2_; have HO_10 := n3_; have HO_30 := n4_; have HB := n5_; clear n0_ n1_ n2_ n3_ n4_ n5_; clear hg hw hp_))
                                                    go_roundg k3
                                                    case measure => have := HJ2.out; have := HK2.out; have := HK3.out; omega
                                                    case rel => exact ⟨(y158), (wrap64 (x11_3 + 1)), (by first | rfl | (simp; done) | (simp [*]; done)), H', ⟨by have := HJ2.out; have := HK2.out; have := HK3.out; omega⟩, ⟨by (with_reducible repeat (first | apply Kd.R_alloc | apply Kd.R_drewN | apply Kd.R_drew)); exact HO_5.out⟩, ⟨by (with_reducible repeat (first | apply Kd.R_alloc | apply Kd.R_drewN | apply Kd.R_drew)); exact HO_6.out⟩, ⟨by (with_reducible repeat (first | apply Kd.R_alloc | apply Kd.R_drewN | apply Kd.R_drew)); (first | exact Kd.R_mono HO_7.out (fun _ hk => hk.2) | exact Kd.R_mono (Kd.R_after (v := (.slice (some ⟨go52, 0, none⟩) x10_3.length co54)) (v1 := (.slice (some ⟨go52, 0, none⟩) x10_3.length co54)) (ok := fun _ => True) (Kd.R_mono (Kd.R_drewN HO_7.out _) (fun _ hk => ⟨trivial, hk⟩)) (Kd.R_putg (Kd.R_drewN HO_10.out _) (x11_3 : Int) (rdOf false x10_3 (ji38))).2 (.inl rfl)) (fun _ hk => hk.2))⟩, ⟨by (with_reducible repeat (first | apply Kd.R_alloc | apply Kd.R_drewN | apply Kd.R_drew)); (first | exact HO_10.out | (rw [Ny158.out]; exact (Kd.R_putg (Kd.R_drewN HO_10.out _) (x11_3 : Int) (rdOf false x10_3 (ji38))).1))⟩, ⟨by (with_reducible repeat (first | apply Kd.R_alloc | apply Kd.R_drewN | apply Kd.R_drew)); exact HO_30.out⟩, ⟨by repeat (first | (with_reducible first | exact HB.out | apply below_alloc | apply pw_below_drewN | apply below_drew1) | exact HB.out | exact below_set (pw_below_drewN HB.out _) GB52.out)⟩⟩
                                                  · rw [if_neg c51] at H
                                                    exact absurd H (by simp)
                                                · rw [if_neg c50] at H
                                                  exact absurd H (by simp)
                                              · rw [if_neg c49] at H
                                                exact absurd H (by simp)
                                          · rw [if_neg c40] at H
                                            exact absurd H (by simp)
                                        · rw [if_neg c39] at H
                                          exact absurd H (by simp)
                                      · rw [if_neg c37] at H
                                        have c37b0 : decide (0 < x11_3) = false := decide_eq_false c37
                                        clear c37
                                        by_cases c57 : 0 ≤ x11_3
                                        · rw [if_pos c57] at H
                                          have c57b0 : decide (0 ≤ x11_3) = true := decide_eq_true c57
                                          clear c57
                                          by_cases c58 : x11_3 < (x10_3.length : Int)
                                          · rw [if_pos c58] at H
                                            have c58b0 : decide (x11_3 < (x10_3.length : Int)) = true := decide_eq_true c58
                                            clear c58
                                            obtain ⟨y159, hy159⟩ : ∃ y_ : List Bool, y_ = (x10_3.set (x11_3 : Int).toNat false) := ⟨_, rfl⟩
                                            replace H : (bloomeryref04_Match.l1 k3 t140 t143 x7_2 x32_2 (rdOf ByteArray.empty t140 x32_2) y159 (wrap64 (x11_3 + 1)) t140 (t140.length : Int) x32_2) = some r := by first | (rw [hy159]; with_reducible exact H) | (have H2_ := (Option.bind_some _ _).symm.trans H; rw [hy159]; with_reducible exact H2_) | (have H2_ := (Option.bind_some _ _).symm.trans H; with_reducible exact H2_) | with_reducible exact H | (rw [hy159]; exact H) | exact H
                                            have Ny159 := Aside0.mk hy159
                                            clear hy159
                                            have H' := Aside0.mk H
                                            clear H
                                            have p59 : 0 ≤ (x11_3 : Int) := of_decide_eq_true (by first | (with_reducible assumption) | assumption)
                                            have q59 : (x11_3 : Int) < ((x10_3.length : Int) : Int) := of_decide_eq_true (by first | (with_reducible assumption) | assumption)
                                            obtain ⟨go59, co59, eo59, gb59, gl59, cl59, HG59⟩ := Kd.R_form HO_10.out (by omega)
                                            (first | cases eo59 | (injection eo59 with ea_ en_ ec_; (first | subst ea_ | (injection ea_ with ea_; subst ea_)); subst ec_; clear en_))
                                            have GB59 := Aside0.mk gb59
                                            have GG59 := Aside0.mk HG59
                                            clear gb59 gl59 HG59
                                            obtain ⟨hx59_0, hf59_0⟩ := Kd.R_celln false HO_10.out (x11_3 : Int) p59 q59
                                            replace p59 := eq_true p59
                                            replace q59 := eq_true q59
                                            have HP60 := Kd.R_putg HO_10.out (x11_3 : Int) false
                                            go_wp2_with (first | ((with_reducible refine gate_store (t := 4) (p := 93) rfl ?_); refine store_event (t := 4) (p := 93) (v := ?vo_w61) (w1 := (wr.setCell ⟨go59, (x11_3 : Int).toNat, none⟩ (.bool false))) ?hg ?ho ?hn ?hr ?_; (case ho => rfl); (case hg => rfl); (case hn => rfl); (case hr => first | (go_simp; done) | (go_simp; rfl)); intro w61 hw; have hg : wr.grownBy w61 (some go59) := (by rw [hw]; exact HP60.2); have hp_ : Kd.R Kd.bool 4 w61 w.heap.size (fun k_ => some k_ ≠ (u7 : Value).ownBlock) (.slice (some ⟨go59, 0, none⟩) x10_3.length co59) y159 := (by rw [hw, Ny159.out]; exact HP60.1); clear HP60; have n0_ := Aside0.mk (Kd.R_over' (v := (.slice (some ⟨go59, 0, none⟩) x10_3.length co59)) (by (with_reducible repeat (first | apply Kd.R_alloc | apply Kd.R_drewN | apply Kd.R_drew)); exact HO_5.out) (Kd.R_typed HO_10.out) (by decide) hg); have n1_ := Aside0.mk (Kd.R_over' (v := (.slice (some ⟨go59, 0, none⟩) x10_3.length co59)) (by (with_reducible repeat (first | apply Kd.R_alloc | apply Kd.R_drewN | apply Kd.R_drew)); exact HO_6.out) (Kd.R_typed HO_10.out) (by decide) hg); have n2_ := Aside0.mk (Kd.R_after (v := (.slice (some ⟨go59, 0, none⟩) x10_3.length co59)) (v1 := (.slice (some ⟨go59, 0, none⟩) x10_3.length co59)) (ok := (fun _ => True)) (by (with_reducible repeat (first | apply Kd.R_alloc | apply Kd.R_drewN | apply Kd.R_drew)); exact Kd.R_mono HO_7.out (fun _ hk => ⟨trivial, hk⟩)) hg (.inl rfl)); have n3_ := Aside0.mk (hp_); have n4_ := Aside0.mk (Kd.R_over' (v := (.slice (some ⟨go59, 0, none⟩) x10_3.length co59)) (by (with_reducible repeat (first | apply Kd.R_alloc | apply Kd.R_drewN | apply Kd.R_drew)); exact HO_30.out) (Kd.R_typed HO_10.out) (by decide) hg); have n5_ := Aside0.mk ((by rw [hw]; exact below_set (HB.out) GB59.out : Below w.heap.size w w61)); clear HO_5; clear HO_6; clear HO_7; clear HO_10; clear HO_30; clear HB; have HO_5 := n0_; have HO_6 := n1_; have HO_7 := n2_; have HO_10 := n3_; have HO_30 := n4_; have HB := n5_; clear n0_ n1_ n2_ n3_ n4_ n5_; clear hg hw hp_))
                                            go_roundg k3
                                            case measure => have := HJ2.out; have := HK2.out; have := HK3.out; omega
                                            case rel => exact ⟨(y159), (wrap64 (x11_3 + 1)), (by first | rfl | (simp; done) | (simp [*]; done)), H', ⟨by have := HJ2.out; have := HK2.out; have := HK3.out; omega⟩, ⟨by (with_reducible repeat (first | apply Kd.R_alloc | apply Kd.R_drewN | apply Kd.R_drew)); exact HO_5.out⟩, ⟨by (with_reducible repeat (first | apply Kd.R_alloc | apply Kd.R_drewN | apply Kd.R_drew)); exact HO_6.out⟩, ⟨by (with_reducible repeat (first | apply Kd.R_alloc | apply Kd.R_drewN | apply Kd.R_drew)); (first | exact Kd.R_mono HO_7.out (fun _ hk => hk.2) | exact Kd.R_mono (Kd.R_after (v := (.slice (some ⟨go59, 0, none⟩) x10_3.length co59)) (v1 := (.slice (some ⟨go59, 0, none⟩) x10_3.length co59)) (ok := fun _ => True) (Kd.R_mono (Kd.R_drewN HO_7.out _) (fun _ hk => ⟨trivial, hk⟩)) (Kd.R_putg (Kd.R_drewN HO_10.out _) (x11_3 : Int) false).2 (.inl rfl)) (fun _ hk => hk.2))⟩, ⟨by (with_reducible repeat (first | apply Kd.R_alloc | apply Kd.R_drewN | apply Kd.R_drew)); (first | exact HO_10.out | (rw [Ny159.out]; exact (Kd.R_putg (Kd.R_drewN HO_10.out _) (x11_3 : Int) false).1))⟩, ⟨by (with_reducible repeat (first | apply Kd.R_alloc | apply Kd.R_drewN | apply Kd.R_drew)); exact HO_30.out⟩, ⟨by repeat (first | (with_reducible first | exact HB.out | apply below_alloc | apply pw_below_drewN | apply below_drew1) | exact HB.out | exact below_set (pw_below_drewN HB.out _) GB59.out)⟩⟩
                                          · rw [if_neg c58] at H
                                            exact absurd H (by simp)
                                        · rw [if_neg c57] at H
                                          exact absurd H (by simp)
                                    · rw [if_neg c36] at H
                                      have c36b0 : (x32_2 == (wrap64 ((t140.length : Int) - 1))) = false := beq_eq_false_iff_ne.mpr c36
                                      have c36b1 : (x32_2 != (wrap64 ((t140.length : Int) - 1))) = true := bne_iff_ne.mpr c36
                                      by_cases c62 : 0 ≤ x11_3
                                      · rw [if_pos c62] at H
                                        have c62b0 : decide (0 ≤ x11_3) = true := decide_eq_true c62
                                        clear c62
                                        by_cases c63 : x11_3 < (x7_2.length : Int)
                                        · rw [if_pos c63] at H
                                          have c63b0 : decide (x11_3 < (x7_2.length : Int)) = true := decide_eq_true c63
                                          clear c63
                                          obtain ⟨bq64, hbq64⟩ : ∃ b_ : Bool, b_ = (rdOf false x7_2 x11_3) := ⟨_, rfl⟩
                                          replace H : (if bq64 = true then (if x11_3 < (x10_3.length : Int) then (bloomeryref04_Match.l1 k3 t140 t143 x7_2 x32_2 (rdOf ByteArray.empty t140 x32_2) (x10_3.set (x11_3 : Int).toNat true) (wrap64 (x11_3 + 1)) t140 (t140.length : Int) x32_2) else (none)) else (if x11_3 > 0 then (if 0 ≤ (wrap64 (x11_3 - 1)) then (if (wrap64 (x11_3 - 1)) < (x10_3.length : Int) then (if x11_3 < (x10_3.length : Int) then (bloomeryref04_Match.l1 k3 t140 t143 x7_2 x32_2 (rdOf ByteArray.empty t140 x32_2) (x10_3.set (x11_3 : Int).toNat (rdOf false x10_3 (wrap64 (x11_3 - 1)))) (wrap64 (x11_3 + 1)) t140 (t140.length : Int) x32_2) else (none)) else (none)) else (none)) else (if x11_3 < (x10_3.length : Int) then (bloomeryref04_Match.l1 k3 t140 t143 x7_2 x32_2 (rdOf ByteArray.empty t140 x32_2) (x10_3.set (x11_3 : Int).toNat false) (wrap64 (x11_3 + 1)) t140 (t140.length : Int) x32_2) else (none)))) = some r := by rw [← hbq64] at H; exact H
                                          have Nbq64 := Aside0.mk hbq64
                                          clear hbq64
                                          by_cases c65 : bq64 = true
                                          · subst c65
                                            have H1 : (if x11_3 < (x10_3.length : Int) then (bloomeryref04_Match.l1 k3 t140 t143 x7_2 x32_2 (rdOf ByteArray.empty t140 x32_2) (x10_3.set (x11_3 : Int).toNat true) (wrap64 (x11_3 + 1)) t140 (t140.length : Int) x32_2) else (none)) = some r := by rw [if_pos rfl] at H; exact H
                                            clear H
                                            have H := H1
                                            clear H1
                                            by_cases c66 : x11_3 < (x10_3.length : Int)
                                            · rw [if_pos c66] at H
                                              have c66b0 : decide (x11_3 < (x10_3.length : Int)) = true := decide_eq_true c66
                                              clear c66
                                              obtain ⟨y161, hy161⟩ : ∃ y_ : List Bool, y_ = (x10_3.set (x11_3 : Int).toNat true) := ⟨_, rfl⟩
                                              replace H : (bloomeryref04_Match.l1 k3 t140 t143 x7_2 x32_2 (rdOf ByteArray.empty t140 x32_2) y161 (wrap64 (x11_3 + 1)) t140 (t140.length : Int) x32_2) = some r := by first | (rw [hy161]; with_reducible exact H) | (have H2_ := (Option.bind_some _ _).symm.trans H; rw [hy161]; with_reducible exact H2_) | (have H2_ := (Option.bind_some _ _).symm.trans H; with_reducible exact H2_) | with_reducible exact H | (rw [hy161]; exact H) | exact H
                                              have Ny161 := Aside0.mk hy161
                                              clear hy161
                                              have H' := Aside0.mk H
                                              clear H
                                              obtain ⟨Ao68, co68, eo68⟩ := Kd.R_slice HO_7.out
                                              subst eo68
                                              have p160 : 0 ≤ (x11_3 : Int) := of_decide_eq_true (by first | (with_reducible assumption) | assumption)
                                              have q160 : x11_3 < (x7_2.length : Int) := of_decide_eq_true (by first | (with_reducible assumption) | assumption)
                                              obtain ⟨ad160, e160, hx160_0⟩ := Kd.at_bool (Kd.R_reads' HO_7.out).2.2 x11_3 p160 q160
                                              (try rw [← Nbq64.out] at hx160_0)
                                              cases e160
                                              replace p160 := eq_true p160
                                              replace q160 := eq_true q160
                                              have p67 : 0 ≤ (x11_3 : Int) := of_decide_eq_true (by first | (with_reducible assumption) | assumption)
                                              have q67 : (x11_3 : Int) < ((x10_3.length : Int) : Int) := of_decide_eq_true (by first | (with_reducible assumption) | assumption)
                                              obtain ⟨go67, co67, eo67, gb67, gl67, cl67, HG67⟩ := Kd.R_form HO_10.out (by omega)
                                              (first | cases eo67 | (injection eo67 with ea_ en_ ec_; (first | subst ea_ | (injection ea_ with ea_; subst ea_)); subst ec_; clear en_))
                                              have GB67 := Aside0.mk gb67
                                              have GG67 := Aside0.mk HG67
                                              clear gb67 gl67 HG67
                                              obtain ⟨hx67_0, hf67_0⟩ := Kd.R_celln false HO_10.out (x11_3 : Int) p67 q67
                                              replace p67 := eq_true p67
                                              replace q67 := eq_true q67
                                              have HP69 := Kd.R_putg HO_10.out (x11_3 : Int) true
                                              go_wp2_with (first | ((with_reducible refine gate_store (t := 4) (p := 111) rfl ?_); refine store_event (t := 4) (p := 111) (v := ?vo_w70) (w1 := (wr.setCell ⟨go67, (x11_3 : Int).toNat, none⟩ (.bool true))) ?hg ?ho ?hn ?hr ?_; (case ho => rfl); (case hg => rfl); (case hn => rfl); (case hr => first | (go_simp; done) | (go_simp; rfl)); intro w70 hw; have hg : wr.grownBy w70 (some go67) := (by rw [hw]; exact HP69.2); have hp_ : Kd.R Kd.bool 4 w70 w.heap.size (fun k_ => some k_ ≠ (.slice (some ad160) x7_2.length co68 : Value).ownBlock) (.slice (some ⟨go67, 0, none⟩) x10_3.length co67) y161 := (by rw [hw, Ny161.out]; exact HP69.1); clear HP69; have n0_ := Aside0.mk (Kd.R_over' (v := (.slice (some ⟨go67, 0, none⟩) x10_3.length co67)) (by (with_reducible repeat (first | apply Kd.R_alloc | apply Kd.R_drewN | apply Kd.R_drew)); exact HO_5.out) (Kd.R_typed HO_10.out) (by decide) hg); have n1_ := Aside0.mk (Kd.R_over' (v := (.slice (some ⟨go67, 0, none⟩) x10_3.length co67)) (by (with_reducible repeat (first | apply Kd.R_alloc | apply Kd.R_drewN | apply Kd.R_drew)); exact HO_6.out) (Kd.R_typed HO_10.out) (by decide) hg); have n2_ := Aside0.mk (Kd.R_after (v := (.slice (some ⟨go67, 0, none⟩) x10_3.length co67)) (v1 := (.slice (some ⟨go67, 0, none⟩) x10_3.length co67)) (ok := (fun _ => True)) (by (with_reducible repeat (first | apply Kd.R_alloc | apply Kd.R_drewN | apply Kd.R_drew)); exact Kd.R_mono HO_7.out (fun _ hk => ⟨trivial, hk⟩)) hg (.inl rfl)); have n3_ := Aside0.mk (hp_); have n4_ := Aside0.mk (Kd.R_over' (v := (.slice (some ⟨go67, 0, none⟩) x10_3.length co67)) (by (with_reducible repeat (first | apply Kd.R_alloc | apply Kd.R_drewN | apply Kd.R_drew)); exact HO_30.out) (Kd.R_typed HO_10.out) (by decide) hg); have n5_ := Aside0.mk ((by rw [hw]; exact below_set (HB.out) GB67.out : Below w.heap.size w w70)); clear HO_5; clear HO_6; clear HO_7; clear HO_10; clear HO_30; clear HB; have HO_5 := n0_; have HO_6 := n1_; have HO_7 := n2_; have HO_10 := n3_; have HO_30 := n4_; have HB := n5_; clear n0_ n1_ n2_ n3_ n4_ n5_; clear hg hw hp_))
                                              go_roundg k3
                                              case measure => have := HJ2.out; have := HK2.out; have := HK3.out; omega
                                              case rel => exact ⟨(y161), (wrap64 (x11_3 + 1)), (by first | rfl | (simp; done) | (simp [*]; done)), H', ⟨by have := HJ2.out; have := HK2.out; have := HK3.out; omega⟩, ⟨by (with_reducible repeat (first | apply Kd.R_alloc | apply Kd.R_drewN | apply Kd.R_drew)); exact HO_5.out⟩, ⟨by (with_reducible repeat (first | apply Kd.R_alloc | apply Kd.R_drewN | apply Kd.R_drew)); exact HO_6.out⟩, ⟨by (with_reducible repeat (first | apply Kd.R_alloc | apply Kd.R_drewN | apply Kd.R_drew)); (first | exact Kd.R_mono HO_7.out (fun _ hk => hk.2) | exact Kd.R_mono (Kd.R_after (v := (.slice (some ⟨go67, 0, none⟩) x10_3.length co67)) (v1 := (.slice (some ⟨go67, 0, none⟩) x10_3.length co67)) (ok := fun _ => True) (Kd.R_mono (Kd.R_drewN HO_7.out _) (fun _ hk => ⟨trivial, hk⟩)) (Kd.R_putg (Kd.R_drewN HO_10.out _) (x11_3 : Int) true).2 (.inl rfl)) (fun _ hk => hk.2))⟩, ⟨by (with_reducible repeat (first | apply Kd.R_alloc | apply Kd.R_drewN | apply Kd.R_drew)); (first | exact HO_10.out | (rw [Ny161.out]; exact (Kd.R_putg (Kd.R_drewN HO_10.out _) (x11_3 : Int) true).1))⟩, ⟨by (with_reducible repeat (first | apply Kd.R_alloc | apply Kd.R_drewN | apply Kd.R_drew)); exact HO_30.out⟩, ⟨by repeat (first | (with_reducible first | exact HB.out | apply below_alloc | apply pw_below_drewN | apply below_drew1) | exact HB.out | exact below_set (pw_below_drewN HB.out _) GB67.out)⟩⟩
                                            · rw [if_neg c66] at H
                                              exact absurd H (by simp)
                                          · replace c65 := Bool.eq_false_iff.mpr c65
                                            subst c65
                                            have H1 : (if x11_3 > 0 then (if 0 ≤ (wrap64 (x11_3 - 1)) then (if (wrap64 (x11_3 - 1)) < (x10_3.length : Int) then (if x11_3 < (x10_3.length : Int) then (bloomeryref04_Match.l1 k3 t140 t143 x7_2 x32_2 (rdOf ByteArray.empty t140 x32_2) (x10_3.set (x11_3 : Int).toNat (rdOf false x10_3 (wrap64 (x11_3 - 1)))) (wrap64 (x11_3 + 1)) t140 (t140.length : Int) x32_2) else (none)) else (none)) else (none)) else (if x11_3 < (x10_3.length : Int) then (bloomeryref04_Match.l1 k3 t140 t143 x7_2 x32_2 (rdOf ByteArray.empty t140 x32_2) (x10_3.set (x11_3 : Int).toNat false) (wrap64 (x11_3 + 1)) t140 (t140.length : Int) x32_2) else (none))) = some r := by rw [if_neg (show ¬ (false = true) by decide)] at H; exact H
                                            clear H
                                            have H := H1
                                            clear H1
                                            by_cases c71 : x11_3 > 0
                                            · rw [if_pos c71] at H
                                              have c71b0 : decide (0 < x11_3) = true := decide_eq_true c71
                                              clear c71
                                              obtain ⟨ji72, hji72⟩ : ∃ j_ : Int, (wrap64 (x11_3 - 1)) = j_ := ⟨_, rfl⟩
                                              replace H : (if 0 ≤ (ji72) then (if (ji72) < (x10_3.length : Int) then (if x11_3 < (x10_3.length : Int) then (bloomeryref04_Match.l1 k3 t140 t143 x7_2 x32_2 (rdOf ByteArray.empty t140 x32_2) (x10_3.set (x11_3 : Int).toNat (rdOf false x10_3 (ji72))) (wrap64 (x11_3 + 1)) t140 (t140.length : Int) x32_2) else (none)) else (none)) else (none)) = some r := by first | (rw [hji72] at H; exact H) | (simp only [hji72] at H ⊢; exact H)
                                              have hji72w : (IntKind.i64.wrap (x11_3 - 1)) = ji72 := (i64_w _).trans hji72
                                              by_cases c73 : 0 ≤ (ji72)
                                              · rw [if_pos c73] at H
                                                have c73b0 : decide (0 ≤ (ji72)) = true := decide_eq_true c73
                                                clear c73
                                                by_cases c74 : (ji72) < (x10_3.length : Int)
                                                · rw [if_pos c74] at H
                                                  have c74b0 : decide ((ji72) < (x10_3.length : Int)) = true := decide_eq_true c74
                                                  clear c74
                                                  by_cases c75 : x11_3 < (x10_3.length : Int)
                                                  · rw [if_pos c75] at H
                                                    have c75b0 : decide (x11_3 < (x10_3.length : Int)) = true := decide_eq_true c75
                                                    clear c75
                                                    obtain ⟨y163, hy163⟩ : ∃ y_ : List Bool, y_ = (x10_3.set (x11_3 : Int).toNat (rdOf false x10_3 (ji72))) := ⟨_, rfl⟩
                                                    replace H : (bloomeryref04_Match.l1 k3 t140 t143 x7_2 x32_2 (rdOf ByteArray.empty t140 x32_2) y163 (wrap64 (x11_3 + 1)) t140 (t140.length : Int) x32_2) = some r := by first | (rw [hy163]; with_reducible exact H) | (have H2_ := (Option.bind_some _ _).symm.trans H; rw [hy163]; with_reducible exact H2_) | (have H2_ := (Option.bind_some _ _).symm.trans H; with_reducible exact H2_) | with_reducible exact H | (rw [hy163]; exact H) | exact H
                                                    have Ny163 := Aside0.mk hy163
                                                    clear hy163
                                                    have H' := Aside0.mk H
                                                    clear H
                                                    obtain ⟨Ao77, co77, eo77⟩ := Kd.R_slice HO_7.out
                                                    subst eo77
                                                    have p160 : 0 ≤ (x11_3 : Int) := of_decide_eq_true (by first | (with_reducible assumption) | assumption)
                                                    have q160 : x11_3 < (x7_2.length : Int) := of_decide_eq_true (by first | (with_reducible assumption) | assumption)
                                                    obtain ⟨ad160, e160, hx160_0⟩ := Kd.at_bool (Kd.R_reads' HO_7.out).2.2 x11_3 p160 q160
                                                    (try rw [← Nbq64.out] at hx160_0)
                                                    cases e160
                                                    replace p160 := eq_true p160
                                                    replace q160 := eq_true q160
                                                    obtain ⟨Ao78, co78, eo78⟩ := Kd.R_slice HO_10.out
                                                    subst eo78
                                                    have p162 : 0 ≤ ((ji72) : Int) := of_decide_eq_true (by first | (with_reducible assumption) | assumption)
                                                    have q162 : (ji72) < (x10_3.length : Int) := of_decide_eq_true (by first | (with_reducible assumption) | assumption)
                                                    obtain ⟨ad162, e162, hx162_0⟩ := Kd.at_bool (Kd.R_reads' HO_10.out).2.2 (ji72) p162 q162
                                                    (try rw [← Nbq64.out] at hx162_0)
                                                    cases e162
                                                    replace p162 := eq_true p162
                                                    replace q162 := eq_true q162
                                                    have p76 : 0 ≤ (x11_3 : Int) := of_decide_eq_true (by first | (with_reducible assumption) | assumption)
                                                    have q76 : (x11_3 : Int) < ((x10_3.length : Int) : Int) := of_decide_eq_true (by first | (with_reducible assumption) | assumption)
                                                    obtain ⟨go76, co76, eo76, gb76, gl76, cl76, HG76⟩ := Kd.R_form HO_10.out (by omega)
                                                    (first | cases eo76 | (injection eo76 with ea_ en_ ec_; (first | subst ea_ | (injection ea_ with ea_; subst ea_)); subst ec_; clear en_))
                                                    have GB76 := Aside0.mk gb76
                                                    have GG76 := Aside0.mk HG76
                                                    clear gb76 gl76 HG76
                                                    (first | simp only [add_plain] at hx162_0 | skip)
                                                    obtain ⟨hx76_0, hf76_0⟩ := Kd.R_celln false HO_10.out (x11_3 : Int) p76 q76
                                                    replace p76 := eq_true p76
                                                    replace q76 := eq_true q76
                                                    have HP79 := Kd.R_putg HO_10.out (x11_3 : Int) (rdOf false x10_3 (ji72))
                                                    go_wp2_with (first | ((with_reducible refine gate_store (t := 4) (p := 111) rfl ?_); refine store_event (t := 4) (p := 111) (v := ?vo_w80) (w1 := (wr.setCell ⟨go76, (x11_3 : Int).toNat, none⟩ (.bool (rdOf false x10_3 (ji72))))) ?hg ?ho ?hn ?hr ?_; (case ho => rfl); (case hg => rfl); (case hn => rfl); (case hr => first | (go_simp; done) | (go_simp; rfl)); intro w80 hw; have hg : wr.grownBy w80 (some go76) := (by rw [hw]; exact HP79.2); have hp_ : Kd.R Kd.bool 4 w80 w.heap.size (fun k_ => some k_ ≠ (.slice (some ad160) x7_2.length co77 : Value).ownBlock) (.slice (some ⟨go76, 0, none⟩) x10_3.length co78) y163 := (by rw [hw, Ny163.out]; exact HP79.1); clear HP79; have n0_ := Aside0.mk (Kd.R_over' (v := (.slice (some ⟨go76, 0, none⟩) x10_3.length co78)) (by (with_reducible repeat (first | apply Kd.R_alloc | apply Kd.R_drewN | apply Kd.R_drew)); exact HO_5.out) (Kd.R_typed HO_10.out) (by decide) hg); have n1_ := Aside0.mk (Kd.R_over' (v := (.slice (some ⟨go76, 0, none⟩) x10_3.length co78)) (by (with_reducible repeat (first | apply Kd.R_alloc | apply Kd.R_drewN | apply Kd.R_drew)); exact HO_6.out) (Kd.R_typed HO_10.out) (by decide) hg); have n2_ := Aside0.mk (Kd.R_after (v := (.slice (some ⟨go76, 0, none⟩) x10_3.length co78)) (v1 := (.slice (some ⟨go76, 0, none⟩) x10_3.length co78)) (ok := (fun _ => True)) (by (with_reducible repeat (first | apply Kd.R_alloc | apply Kd.R_drewN | apply Kd.R_drew)); exact Kd.R_mono HO_7.out (fun _ hk => ⟨trivial, hk⟩)) hg (.inl rfl)); have n3_ := Aside0.mk (hp_); have n4_ := Aside0.mk (Kd.R_over' (v := (.slice (some ⟨go76, 0, none⟩) x10_3.length co78)) (by (with_reducible repeat (first | apply Kd.R_alloc | apply Kd.R_drewN | apply Kd.R_drew)); exact HO_30.out) (Kd.R_typed HO_10.out) (by decide) hg); have n5_ := Aside0.mk ((by rw [hw]; exact below_set (HB.out) GB76.out : Below w.heap.size w w80)); clear HO_5; clear HO_6; clear HO_7; clear HO_10; clear HO_30; clear HB; have HO_5 := n0_; have HO_6 := n1_; have HO_7 := n2_; have HO_10 := n3_; have HO_30 := n4_; have HB := n5_; clear n0_ n1_ n2_ n3_ n4_ n5_; clear hg hw hp_))
                                                    go_roundg k3
                                                    case measure => have := HJ2.out; have := HK2.out; have := HK3.out; omega
                                                    case rel => exact ⟨(y163), (wrap64 (x11_3 + 1)), (by first | rfl | (simp; done) | (simp [*]; done)), H', ⟨by have := HJ2.out; have := HK2.out; have := HK3.out; omega⟩, ⟨by (with_reducible repeat (first | apply Kd.R_alloc | apply Kd.R_drewN | apply Kd.R_drew)); exact HO_5.out⟩, ⟨by (with_reducible repeat (first | apply Kd.R_alloc | apply Kd.R_drewN | apply Kd.R_drew)); exact HO_6.out⟩, ⟨by (with_reducible repeat (first | apply Kd.R_alloc | apply Kd.R_drewN | apply Kd.R_drew)); (first | exact Kd.R_mono HO_7.out (fun _ hk => hk.2) | exact Kd.R_mono (Kd.R_after (v := (.slice (some ⟨go76, 0, none⟩) x10_3.length co78)) (v1 := (.slice (some ⟨go76, 0, none⟩) x10_3.length co78)) (ok := fun _ => True) (Kd.R_mono (Kd.R_drewN HO_7.out _) (fun _ hk => ⟨trivial, hk⟩)) (Kd.R_putg (Kd.R_drewN HO_10.out _) (x11_3 : Int) (rdOf false x10_3 (ji72))).2 (.inl rfl)) (fun _ hk => hk.2))⟩, ⟨by (with_reducible repeat (first | apply Kd.R_alloc | apply Kd.R_drewN | apply Kd.R_drew)); (first | exact HO_10.out | (rw [Ny163.out]; exact (Kd.R_putg (Kd.R_drewN HO_10.out _) (x11_3 : Int) (rdOf false x10_3 (ji72))).1))⟩, ⟨by (with_reducible repeat (first | apply Kd.R_alloc | apply Kd.R_drewN | apply Kd.R_drew)); exact HO_30.out⟩, ⟨by repeat (first | (with_reducible first | exact HB.out | apply below_alloc | apply pw_below_drewN | apply below_drew1) | exact HB.out | exact below_set (pw_below_drewN HB.out _) GB76.out)⟩⟩
                                                  · rw [if_neg c75] at H
                                                    exact absurd H (by simp)
                                                · rw [if_neg c74] at H
                                                  exact absurd H (by simp)
                                              · rw [if_neg c73] at H
                                                exact absurd H (by simp)
                                            · rw [if_neg c71] at H
                                              have c71b0 : decide (0 < x11_3) = false := decide_eq_false c71
                                              clear c71
                                              by_cases c81 : x11_3 < (x10_3.length : Int)
                                              · rw [if_pos c81] at H
                                                have c81b0 : decide (x11_3 < (x10_3.length : Int)) = true := decide_eq_true c81
                                                clear c81
                                                obtain ⟨y164, hy164⟩ : ∃ y_ : List Bool, y_ = (x10_3.set (x11_3 : Int).toNat false) := ⟨_, rfl⟩
                                                replace H : (bloomeryref04_Match.l1 k3 t140 t143 x7_2 x32_2 (rdOf ByteArray.empty t140 x32_2) y164 (wrap64 (x11_3 + 1)) t140 (t140.length : Int) x32_2) = some r := by first | (rw [hy164]; with_reducible exact H) | (have H2_ := (Option.bind_some _ _).symm.trans H; rw [hy164]; with_reducible exact H2_) | (have H2_ := (Option.bind_some _ _).symm.trans H; with_reducible exact H2_) | with_reducible exact H | (rw [hy164]; exact H) | exact H
                                                have Ny164 := Aside0.mk hy164
                                                clear hy164
                                                have H' := Aside0.mk H
                                                clear H
                                                obtain ⟨Ao83, co83, eo83⟩ := Kd.R_slice HO_7.out
                                                subst eo83
                                                have p160 : 0 ≤ (x11_3 : Int) := of_decide_eq_true (by first | (with_reducible assumption) | assumption)
                                                have q160 : x11_3 < (x7_2.length : Int) := of_decide_eq_true (by first | (with_reducible assumption) | assumption)
                                                obtain ⟨ad160, e160, hx160_0⟩ := Kd.at_bool (Kd.R_reads' HO_7.out).2.2 x11_3 p160 q160
                                                (try rw [← Nbq64.out] at hx160_0)
                                                cases e160
                                                replace p160 := eq_true p160
                                                replace q160 := eq_true q160
                                                have p82 : 0 ≤ (x11_3 : Int) := of_decide_eq_true (by first | (with_reducible assumption) | assumption)
                                                have q82 : (x11_3 : Int) < ((x10_3.length : Int) : Int) := of_decide_eq_true (by first | (with_reducible assumption) | assumption)
                                                obtain ⟨go82, co82, eo82, gb82, gl82, cl82, HG82⟩ := Kd.R_form HO_10.out (by omega)
                                                (first | cases eo82 | (injection eo82 with ea_ en_ ec_; (first | subst ea_ | (injection ea_ with ea_; subst ea_)); subst ec_; clear en_))
                                                have GB82 := Aside0.mk gb82
                                                have GG82 := Aside0.mk HG82
                                                clear gb82 gl82 HG82
                                                obtain ⟨hx82_0, hf82_0⟩ := Kd.R_celln false HO_10.out (x11_3 : Int) p82 q82
                                                replace p82 := eq_true p82
                                                replace q82 := eq_true q82
                                                have HP84 := Kd.R_putg HO_10.out (x11_3 : Int) false
                                                go_wp2_with (first | ((with_reducible refine gate_store (t := 4) (p := 111) rfl ?_); refine store_event (t := 4) (p := 111) (v := ?vo_w85) (w1 := (wr.setCell ⟨go82, (x11_3 : Int).toNat, none⟩ (.bool false))) ?hg ?ho ?hn ?hr ?_; (case ho => rfl); (case hg => rfl); (case hn => rfl); (case hr => first | (go_simp; done) | (go_simp; rfl)); intro w85 hw; have hg : wr.grownBy w85 (some go82) := (by rw [hw]; exact HP84.2); have hp_ : Kd.R Kd.bool 4 w85 w.heap.size (fun k_ => some k_ ≠ (.slice (some ad160) x7_2.length co83 : Value).ownBlock) (.slice (some ⟨go82, 0, none⟩) x10_3.length co82) y164 := (by rw [hw, Ny164.out]; exact HP84.1); clear HP84; have n0_ := Aside0.mk (Kd.R_over' (v := (.slice (some ⟨go82, 0, none⟩) x10_3.length co82)) (by (with_reducible repeat (first | apply Kd.R_alloc | apply Kd.R_drewN | apply Kd.R_drew)); exact HO_5.out) (Kd.R_typed HO_10.out) (by decide) hg); have n1_ := Aside0.mk (Kd.R_over' (v := (.slice (some ⟨go82, 0, none⟩) x10_3.length co82)) (by (with_reducible repeat (first | apply Kd.R_alloc | apply Kd.R_drewN | apply Kd.R_drew)); exact HO_6.out) (Kd.R_typed HO_10.out) (by decide) hg); have n2_ := Aside0.mk (Kd.R_after (v := (.slice (some ⟨go82, 0, none⟩) x10_3.length co82)) (v1 := (.slice (some ⟨go82, 0, none⟩) x10_3.length co82)) (ok := (fun _ => True)) (by (with_reducible repeat (first | apply Kd.R_alloc | apply Kd.R_drewN | apply Kd.R_drew)); exact Kd.R_mono HO_7.out (fun _ hk => ⟨trivial, hk⟩)) hg (.inl rfl)); have n3_ := Aside0.mk (hp_); have n4_ := Aside0.mk (Kd.R_over' (v := (.slice (some ⟨go82, 0, none⟩) x10_3.length co82)) (by (with_reducible repeat (first | apply Kd.R_alloc | apply Kd.R_drewN | apply Kd.R_drew)); exact HO_30.out) (Kd.R_typed HO_10.out) (by decide) hg); have n5_ := Aside0.mk ((by rw [hw]; exact below_set (HB.out) GB82.out : Below w.heap.size w w85)); clear HO_5; clear HO_6; clear HO_7; clear HO_10; clear HO_30; clear HB; have HO_5 := n0_; have HO_6 := n1_; have HO_7 := n2_; have HO_10 := n3_; have HO_30 := n4_; have HB := n5_; clear n0_ n1_ n2_ n3_ n4_ n5_; clear hg hw hp_))
                                                go_roundg k3
                                                case measure => have := HJ2.out; have := HK2.out; have := HK3.out; omega
                                                case rel => exact ⟨(y164), (wrap64 (x11_3 + 1)), (by first | rfl | (simp; done) | (simp [*]; done)), H', ⟨by have := HJ2.out; have := HK2.out; have := HK3.out; omega⟩, ⟨by (with_reducible repeat (first | apply Kd.R_alloc | apply Kd.R_drewN | apply Kd.R_drew)); exact HO_5.out⟩, ⟨by (with_reducible repeat (first | apply Kd.R_alloc | apply Kd.R_drewN | apply Kd.R_drew)); exact HO_6.out⟩, ⟨by (with_reducible repeat (first | apply Kd.R_alloc | apply Kd.R_drewN | apply Kd.R_drew)); (first | exact Kd.R_mono HO_7.out (fun _ hk => hk.2) | exact Kd.R_mono (Kd.R_after (v := (.slice (some ⟨go82, 0, none⟩) x10_3.length co82)) (v1 := (.slice (some ⟨go82, 0, none⟩) x10_3.length co82)) (ok := fun _ => True) (Kd.R_mono (Kd.R_drewN HO_7.out _) (fun _ hk => ⟨trivial, hk⟩)) (Kd.R_putg (Kd.R_drewN HO_10.out _) (x11_3 : Int) false).2 (.inl rfl)) (fun _ hk => hk.2))⟩, ⟨by (with_reducible repeat (first | apply Kd.R_alloc | apply Kd.R_drewN | apply Kd.R_drew)); (first | exact HO_10.out | (rw [Ny164.out]; exact (Kd.R_putg (Kd.R_drewN HO_10.out _) (x11_3 : Int) false).1))⟩, ⟨by (with_reducible repeat (first | apply Kd.R_alloc | apply Kd.R_drewN | apply Kd.R_drew)); exact HO_30.out⟩, ⟨by repeat (first | (with_reducible first | exact HB.out | apply below_alloc | apply pw_below_drewN | apply below_drew1) | exact HB.out | exact below_set (pw_below_drewN HB.out _) GB82.out)⟩⟩
                                              · rw [if_neg c81] at H
                                                exact absurd H (by simp)
                                        · rw [if_neg c63] at H
                                          exact absurd H (by simp)
                                      · rw [if_neg c62] at H
                                        exact absurd H (by simp)
                                  · rw [if_neg c35] at H
                                    have c35b0 : ((rdOf ByteArray.empty t140 x32_2).toList == ([42, 42] : List UInt8)) = false := beq_eq_false_iff_ne.mpr c35
                                    have c35b1 : ((rdOf ByteArray.empty t140 x32_2).toList != ([42, 42] : List UInt8)) = true := bne_iff_ne.mpr c35
                                    by_cases c86 : x11_3 > 0
                                    · rw [if_pos c86] at H
                                      have c86b0 : decide (0 < x11_3) = true := decide_eq_true c86
                                      clear c86
                                      obtain ⟨ji87, hji87⟩ : ∃ j_ : Int, (wrap64 (x11_3 - 1)) = j_ := ⟨_, rfl⟩
                                      replace H : (if 0 ≤ (ji87) then (if (ji87) < (x7_2.length : Int) then (if rdOf false x7_2 (ji87) = true then (if (ji87) < (t143.length : Int) then ((bloomeryref04_one.f k3 (rdOf ByteArray.empty t140 x32_2) (rdOf ByteArray.empty t143 (ji87))).bind fun t167 => (if 0 ≤ x11_3 then (if x11_3 < (x10_3.length : Int) then (bloomeryref04_Match.l1 k3 t140 t143 x7_2 x32_2 (rdOf ByteArray.empty t140 x32_2) (x10_3.set (x11_3 : Int).toNat t167) (wrap64 (x11_3 + 1)) t140 (t140.length : Int) x32_2) else (none)) else (none))) else (none)) else (if 0 ≤ x11_3 then (if x11_3 < (x10_3.length : Int) then (bloomeryref04_Match.l1 k3 t140 t143 x7_2 x32_2 (rdOf ByteArray.empty t140 x32_2) (x10_3.set (x11_3 : Int).toNat false) (wrap64 (x11_3 + 1)) t140 (t140.length : Int) x32_2) else (none)) else (none))) else (none)) else (none)) = some r := by first | (rw [hji87] at H; exact H) | (simp only [hji87] at H ⊢; exact H)
                                      have hji87w : (IntKind.i64.wrap (x11_3 - 1)) = ji87 := (i64_w _).trans hji87
                                      by_cases c88 : 0 ≤ (ji87)
                                      · rw [if_pos c88] at H
                                        have c88b0 : decide (0 ≤ (ji87)) = true := decide_eq_true c88
                                        clear c88
                                        by_cases c89 : (ji87) < (x7_2.length : Int)
                                        · rw [if_pos c89] at H
                                          have c89b0 : decide ((ji87) < (x7_2.length : Int)) = true := decide_eq_true c89
                                          clear c89
                                          obtain ⟨bq90, hbq90⟩ : ∃ b_ : Bool, b_ = (rdOf false x7_2 (ji87)) := ⟨_, rfl⟩
                                          replace H : (if bq90 = true then (if (ji87) < (t143.length : Int) then ((bloomeryref04_one.f k3 (rdOf ByteArray.empty t140 x32_2) (rdOf ByteArray.empty t143 (ji87))).bind fun t167 => (if 0 ≤ x11_3 then (if x11_3 < (x10_3.length : Int) then (bloomeryref04_Match.l1 k3 t140 t143 x7_2 x32_2 (rdOf ByteArray.empty t140 x32_2) (x10_3.set (x11_3 : Int).toNat t167) (wrap64 (x11_3 + 1)) t140 (t140.length : Int) x32_2) else (none)) else (none))) else (none)) else (if 0 ≤ x11_3 then (if x11_3 < (x10_3.length : Int) then (bloomeryref04_Match.l1 k3 t140 t143 x7_2 x32_2 (rdOf ByteArray.empty t140 x32_2) (x10_3.set (x11_3 : Int).toNat false) (wrap64 (x11_3 + 1)) t140 (t140.length : Int) x32_2) else (none)) else (none))) = some r := by rw [← hbq90] at H; exact H
                                          have Nbq90 := Aside0.mk hbq90
                                          clear hbq90
                                          by_cases c91 : bq90 = true
                                          · subst c91
                                            have H1 : (if (ji87) < (t143.length : Int) then ((bloomeryref04_one.f k3 (rdOf ByteArray.empty t140 x32_2) (rdOf ByteArray.empty t143 (ji87))).bind fun t167 => (if 0 ≤ x11_3 then (if x11_3 < (x10_3.length : Int) then (bloomeryref04_Match.l1 k3 t140 t143 x7_2 x32_2 (rdOf ByteArray.empty t140 x32_2) (x10_3.set (x11_3 : Int).toNat t167) (wrap64 (x11_3 + 1)) t140 (t140.length : Int) x32_2) else (none)) else (none))) else (none)) = some r := by rw [if_pos rfl] at H; exact H
                                            clear H
                                            have H := H1
                                            clear H1
                                            by_cases c92 : (ji87) < (t143.length : Int)
                                            · rw [if_pos c92] at H
                                              have c92b0 : decide ((ji87) < (t143.length : Int)) = true := decide_eq_true c92
                                              clear c92
                                              replace H := Option.bind_eq_some_iff.mp H
                                              obtain ⟨t167, A930, H⟩ := H
                                              replace H : (if 0 ≤ x11_3 then (if x11_3 < (x10_3.length : Int) then (bloomeryref04_Match.l1 k3 t140 t143 x7_2 x32_2 (rdOf ByteArray.empty t140 x32_2) (x10_3.set (x11_3 : Int).toNat t167) (wrap64 (x11_3 + 1)) t140 (t140.length : Int) x32_2) else (none)) else (none)) = some r := H
                                              have A93 := Aside0.mk A930
                                              clear A930
                                              by_cases c94 : 0 ≤ x11_3
                                              · rw [if_pos c94] at H
                                                have c94b0 : decide (0 ≤ x11_3) = true := decide_eq_true c94
                                                clear c94
                                                by_cases c95 : x11_3 < (x10_3.length : Int)
                                                · rw [if_pos c95] at H
                                                  have c95b0 : decide (x11_3 < (x10_3.length : Int)) = true := decide_eq_true c95
                                                  clear c95
                                                  obtain ⟨y168, hy168⟩ : ∃ y_ : List Bool, y_ = (x10_3.set (x11_3 : Int).toNat t167) := ⟨_, rfl⟩
                                                  replace H : (bloomeryref04_Match.l1 k3 t140 t143 x7_2 x32_2 (rdOf ByteArray.empty t140 x32_2) y168 (wrap64 (x11_3 + 1)) t140 (t140.length : Int) x32_2) = some r := by first | (rw [hy168]; with_reducible exact H) | (have H2_ := (Option.bind_some _ _).symm.trans H; rw [hy168]; with_reducible exact H2_) | (have H2_ := (Option.bind_some _ _).symm.trans H; with_reducible exact H2_) | with_reducible exact H | (rw [hy168]; exact H) | exact H
                                                  have Ny168 := Aside0.mk hy168
                                                  clear hy168
                                                  have H' := Aside0.mk H
                                                  clear H
                                                  obtain ⟨Ao97, co97, eo97⟩ := Kd.R_slice HO_7.out
                                                  subst eo97
                                                  have p165 : 0 ≤ ((ji87) : Int) := of_decide_eq_true (by first | (with_reducible assumption) | assumption)
                                                  have q165 : (ji87) < (x7_2.length : Int) := of_decide_eq_true (by first | (with_reducible assumption) | assumption)
                                                  obtain ⟨ad165, e165, hx165_0⟩ := Kd.at_bool (Kd.R_reads' HO_7.out).2.2 (ji87) p165 q165
                                                  (try rw [← Nbq90.out] at hx165_0)
                                                  cases e165
                                                  replace p165 := eq_true p165
                                                  replace q165 := eq_true q165
                                                  have p166 : 0 ≤ ((ji87) : Int) := of_decide_eq_true (by first | (with_reducible assumption) | assumption)
                                                  have q166 : (ji87) < (t143.length : Int) := of_decide_eq_true (by first | (with_reducible assumption) | assumption)
                                                  obtain ⟨ad166, e166, hx166_0⟩ := Kd.at_string (Kd.R_reads' HO_6.out).2.2 (ji87) p166 q166
                                                  cases e166
                                                  replace p166 := eq_true p166
                                                  replace q166 := eq_true q166
                                                  go_wp2_with (first | (go_at_call 33; (with_reducible refine (bloomeryref04_one.calls k3 (rdOf ByteArray.empty t140 x32_2) (rdOf ByteArray.empty t143 (ji87)) t167 _ A93.out).mono ?_); rintro e w98 ⟨rfl, hb⟩; have n0_ := Aside0.mk (Kd.R_below (by (with_reducible repeat (first | apply Kd.R_alloc | apply Kd.R_drewN | apply Kd.R_drew)); exact HO_5.out) hb); have n1_ := Aside0.mk (Kd.R_below (by (with_reducible repeat (first | apply Kd.R_alloc | apply Kd.R_drewN | apply Kd.R_drew)); exact HO_6.out) hb); have n2_ := Aside0.mk (Kd.R_below (by (with_reducible repeat (first | apply Kd.R_alloc | apply Kd.R_drewN | apply Kd.R_drew)); exact HO_7.out) hb); have n3_ := Aside0.mk (Kd.R_below (by (with_reducible repeat (first | apply Kd.R_alloc | apply Kd.R_drewN | apply Kd.R_drew)); exact HO_10.out) hb); have n4_ := Aside0.mk (Kd.R_below (by (with_reducible repeat (first | apply Kd.R_alloc | apply Kd.R_drewN | apply Kd.R_drew)); exact HO_30.out) hb); have n5_ := Aside0.mk (below_step (by repeat (first | (with_reducible first | exact HB.out | apply below_alloc | apply pw_below_drewN | apply below_drew1) | exact HB.out)) hb); clear HO_5; clear HO_6; clear HO_7; clear HO_10; clear HO_30; clear HB; have HO_5 := n0_; have HO_6 := n1_; have HO_7 := n2_; have HO_10 := n3_; have HO_30 := n4_; have HB := n5_; clear n0_ n1_ n2_ n3_ n4_ n5_; (try clear hb); (try clear hb2); (try clear hk); (try clear hi); have p96 : 0 ≤ (x11_3 : Int) := of_decide_eq_true (by first | (with_reducible assumption) | assumption); have q96 : (x11_3 : Int) < ((x10_3.length : Int) : Int) := of_decide_eq_true (by first | (with_reducible assumption) | assumption); obtain ⟨go96, co96, eo96, gb96, gl96, cl96, HG96⟩ := Kd.R_form HO_10.out (by omega); (first | cases eo96 | (injection eo96 with ea_ en_ ec_; (first | subst ea_ | (injection ea_ with ea_; subst ea_)); subst ec_; clear en_)); have GB96 := Aside0.mk gb96; have GG96 := Aside0.mk HG96; clear gb96 gl96 HG96; obtain ⟨hx96_0, hf96_0⟩ := Kd.R_celln false HO_10.out (x11_3 : Int) p96 q96; replace p96 := eq_true p96; replace q96 := eq_true q96; obtain ⟨hy99_, hz99_⟩ := Kd.R_celln false HO_10.out (x11_3 : Int) (of_decide_eq_true (by first | (with_reducible assumption) | assumption)) (of_decide_eq_true (by first | (with_reducible assumption) | assumption)); have HP99 := Kd.R_putg HO_10.out (x11_3 : Int) t167) | ((with_reducible refine gate_store (t := 4) (p := 69) rfl ?_); refine store_event (t := 4) (p := 69) (v := ?vo_w100) (w1 := (w98.setCell ⟨go96, (x11_3 : Int).toNat, none⟩ (.bool t167))) ?hg ?ho ?hn ?hr ?_; (case ho => rfl); (case hg => rfl); (case hn => rfl); (case hr => first | (go_simp; done) | (go_simp; rfl)); intro w100 hw; have hg : w98.grownBy w100 (some go96) := (by rw [hw]; exact HP99.2); have hp_ : Kd.R Kd.bool 4 w100 w.heap.size (fun k_ => some k_ ≠ (.slice (some ad165) x7_2.length co97 : Value).ownBlock) (.slice (some ⟨go96, 0, none⟩) x10_3.length co96) y168 := (by rw [hw, Ny168.out]; exact HP99.1); clear HP99; have n0_ := Aside0.mk (Kd.R_over' (v := (.slice (some ⟨go96, 0, none⟩) x10_3.length co96)) (by (with_reducible repeat (first | apply Kd.R_alloc | apply Kd.R_drewN | apply Kd.R_drew)); exact HO_5.out) (Kd.R_typed HO_10.out) (by decide) hg); have n1_ := Aside0.mk (Kd.R_over' (v := (.slice (some ⟨go96, 0, none⟩) x10_3.length co96)) (by (with_reducible repeat (first | apply Kd.R_alloc | apply Kd.R_drewN | apply Kd.R_drew)); exact HO_6.out) (Kd.R_typed HO_10.out) (by decide) hg); have n2_ := Aside0.mk (Kd.R_after (v := (.slice (some ⟨go96, 0, none⟩) x10_3.length co96)) (v1 := (.slice (some ⟨go96, 0, none⟩) x10_3.length co96)) (ok := (fun _ => True)) (by (with_reducible repeat (first | apply Kd.R_alloc | apply Kd.R_drewN | apply Kd.R_drew)); exact Kd.R_mono HO_7.out (fun _ hk => ⟨trivial, hk⟩)) hg (.inl rfl)); have n3_ := Aside0.mk (hp_); have n4_ := Aside0.mk (Kd.R_over' (v := (.slice (some ⟨go96, 0, none⟩) x10_3.length co96)) (by (with_reducible repeat (first | apply Kd.R_alloc | apply Kd.R_drewN | apply Kd.R_drew)); exact HO_30.out) (Kd.R_typed HO_10.out) (by decide) hg); have n5_ := Aside0.mk ((by rw [hw]; exact below_set (HB.out) GB96.out : Below w.heap.size w w100)); clear HO_5; clear HO_6; clear HO_7; clear HO_10; clear HO_30; clear HB; have HO_5 := n0_; have HO_6 := n1_; have HO_7 := n2_; have HO_10 := n3_; have HO_30 := n4_; have HB := n5_; clear n0_ n1_ n2_ n3_ n4_ n5_; clear hg hw hp_))
                                                  go_roundg k3
                                                  case measure => have := HJ2.out; have := HK2.out; have := HK3.out; omega
                                                  case rel => exact ⟨(y168), (wrap64 (x11_3 + 1)), (by first | rfl | (simp; done) | (simp [*]; done)), H', ⟨by have := HJ2.out; have := HK2.out; have := HK3.out; omega⟩, ⟨by (with_reducible repeat (first | apply Kd.R_alloc | apply Kd.R_drewN | apply Kd.R_drew)); exact HO_5.out⟩, ⟨by (with_reducible repeat (first | apply Kd.R_alloc | apply Kd.R_drewN | apply Kd.R_drew)); exact HO_6.out⟩, ⟨by (with_reducible repeat (first | apply Kd.R_alloc | apply Kd.R_drewN | apply Kd.R_drew)); (first | exact Kd.R_mono HO_7.out (fun _ hk => hk.2) | exact Kd.R_mono (Kd.R_after (v := (.slice (some ⟨go96, 0, none⟩) x10_3.length co96)) (v1 := (.slice (some ⟨go96, 0, none⟩) x10_3.length co96)) (ok := fun _ => True) (Kd.R_mono (Kd.R_drewN HO_7.out _) (fun _ hk => ⟨trivial, hk⟩)) (Kd.R_putg (Kd.R_drewN HO_10.out _) (x11_3 : Int) false).2 (.inl rfl)) (fun _ hk => hk.2))⟩, ⟨by (with_reducible repeat (first | apply Kd.R_alloc | apply Kd.R_drewN | apply Kd.R_drew)); (first | exact HO_10.out | (rw [Ny168.out]; exact (Kd.R_putg (Kd.R_drewN HO_10.out _) (x11_3 : Int) false).1))⟩, ⟨by (with_reducible repeat (first | apply Kd.R_alloc | apply Kd.R_drewN | apply Kd.R_drew)); exact HO_30.out⟩, ⟨by repeat (first | (with_reducible first | exact HB.out | apply below_alloc | apply pw_below_drewN | apply below_drew1) | exact HB.out | exact below_set (pw_below_drewN HB.out _) GB96.out)⟩⟩
                                                · rw [if_neg c95] at H
                                                  exact absurd H (by simp)
                                              · rw [if_neg c94] at H
                                                exact absurd H (by simp)
                                            · rw [if_neg c92] at H
                                              exact absurd H (by simp)
                                          · replace c91 := Bool.eq_false_iff.mpr c91
                                            subst c91
                                            have H1 : (if 0 ≤ x11_3 then (if x11_3 < (x10_3.length : Int) then (bloomeryref04_Match.l1 k3 t140 t143 x7_2 x32_2 (rdOf ByteArray.empty t140 x32_2) (x10_3.set (x11_3 : Int).toNat false) (wrap64 (x11_3 + 1)) t140 (t140.length : Int) x32_2) else (none)) else (none)) = some r := by rw [if_neg (show ¬ (false = true) by decide)] at H; exact H
                                            clear H
                                            have H := H1
                                            clear H1
                                            by_cases c101 : 0 ≤ x11_3
                                            · rw [if_pos c101] at H
                                              have c101b0 : decide (0 ≤ x11_3) = true := decide_eq_true c101
                                              clear c101
                                              by_cases c102 : x11_3 < (x10_3.length : Int)
                                              · rw [if_pos c102] at H
                                                have c102b0 : decide (x11_3 < (x10_3.length : Int)) = true := decide_eq_true c102
                                                clear c102
                                                obtain ⟨y169, hy169⟩ : ∃ y_ : List Bool, y_ = (x10_3.set (x11_3 : Int).toNat false) := ⟨_, rfl⟩
                                                replace H : (bloomeryref04_Match.l1 k3 t140 t143 x7_2 x32_2 (rdOf ByteArray.empty t140 x32_2) y169 (wrap64 (x11_3 + 1)) t140 (t140.length : Int) x32_2) = some r := by first | (rw [hy169]; with_reducible exact H) | (have H2_ := (Option.bind_some _ _).symm.trans H; rw [hy169]; with_reducible exact H2_) | (have H2_ := (Option.bind_some _ _).symm.trans H; with_reducible exact H2_) | with_reducible exact H | (rw [hy169]; exact H) | exact H
                                                have Ny169 := Aside0.mk hy169
                                                clear hy169
                                                have H' := Aside0.mk H
                                                clear H
                                                obtain ⟨Ao104, co104, eo104⟩ := Kd.R_slice HO_7.out
                                                subst eo104
                                                have p165 : 0 ≤ ((ji87) : Int) := of_decide_eq_true (by first | (with_reducible assumption) | assumption)
                                                have q165 : (ji87) < (x7_2.length : Int) := of_decide_eq_true (by first | (with_reducible assumption) | assumption)
                                                obtain ⟨ad165, e165, hx165_0⟩ := Kd.at_bool (Kd.R_reads' HO_7.out).2.2 (ji87) p165 q165
                                                (try rw [← Nbq90.out] at hx165_0)
                                                cases e165
                                                replace p165 := eq_true p165
                                                replace q165 := eq_true q165
                                                have p103 : 0 ≤ (x11_3 : Int) := of_decide_eq_true (by first | (with_reducible assumption) | assumption)
                                                have q103 : (x11_3 : Int) < ((x10_3.length : Int) : Int) := of_decide_eq_true (by first | (with_reducible assumption) | assumption)
                                                obtain ⟨go103, co103, eo103, gb103, gl103, cl103, HG103⟩ := Kd.R_form HO_10.out (by omega)
                                                (first | cases eo103 | (injection eo103 with ea_ en_ ec_; (first | subst ea_ | (injection ea_ with ea_; subst ea_)); subst ec_; clear en_))
                                                have GB103 := Aside0.mk gb103
                                                have GG103 := Aside0.mk HG103
                                                clear gb103 gl103 HG103
                                                obtain ⟨hx103_0, hf103_0⟩ := Kd.R_celln false HO_10.out (x11_3 : Int) p103 q103
                                                replace p103 := eq_true p103
                                                replace q103 := eq_true q103
                                                have HP105 := Kd.R_putg HO_10.out (x11_3 : Int) false
                                                go_wp2_with (first | ((with_reducible refine gate_store (t := 4) (p := 69) rfl ?_); refine store_event (t := 4) (p := 69) (v := ?vo_w106) (w1 := (wr.setCell ⟨go103, (x11_3 : Int).toNat, none⟩ (.bool false))) ?hg ?ho ?hn ?hr ?_; (case ho => rfl); (case hg => rfl); (case hn => rfl); (case hr => first | (go_simp; done) | (go_simp; rfl)); intro w106 hw; have hg : wr.grownBy w106 (some go103) := (by rw [hw]; exact HP105.2); have hp_ : Kd.R Kd.bool 4 w106 w.heap.size (fun k_ => some k_ ≠ (.slice (some ad165) x7_2.length co104 : Value).ownBlock) (.slice (some ⟨go103, 0, none⟩) x10_3.length co103) y169 := (by rw [hw, Ny169.out]; exact HP105.1); clear HP105; have n0_ := Aside0.mk (Kd.R_over' (v := (.slice (some ⟨go103, 0, none⟩) x10_3.length co103)) (by (with_reducible repeat (first | apply Kd.R_alloc | apply Kd.R_drewN | apply Kd.R_drew)); exact HO_5.out) (Kd.R_typed HO_10.out) (by decide) hg); have n1_ := Aside0.mk (Kd.R_over' (v := (.slice (some ⟨go103, 0, none⟩) x10_3.length co103)) (by (with_reducible repeat (first | apply Kd.R_alloc | apply Kd.R_drewN | apply Kd.R_drew)); exact HO_6.out) (Kd.R_typed HO_10.out) (by decide) hg); have n2_ := Aside0.mk (Kd.R_after (v := (.slice (some ⟨go103, 0, none⟩) x10_3.length co103)) (v1 := (.slice (some ⟨go103, 0, none⟩) x10_3.length co103)) (ok := (fun _ => True)) (by (with_reducible repeat (first | apply Kd.R_alloc | apply Kd.R_drewN | apply Kd.R_drew)); exact Kd.R_mono HO_7.out (fun _ hk => ⟨trivial, hk⟩)) hg (.inl rfl)); have n3_ := Aside0.mk (hp_); have n4_ := Aside0.mk (Kd.R_over' (v := (.slice (some ⟨go103, 0, none⟩) x10_3.length co103)) (by (with_reducible repeat (first | apply Kd.R_alloc | apply Kd.R_drewN | apply Kd.R_drew)); exact HO_30.out) (Kd.R_typed HO_10.out) (by decide) hg); have n5_ := Aside0.mk ((by rw [hw]; exact below_set (HB.out) GB103.out : Below w.heap.size w w106)); clear HO_5; clear HO_6; clear HO_7; clear HO_10; clear HO_30; clear HB; have HO_5 := n0_; have HO_6 := n1_; have HO_7 := n2_; have HO_10 := n3_; have HO_30 := n4_; have HB := n5_; clear n0_ n1_ n2_ n3_ n4_ n5_; clear hg hw hp_))
                                                go_roundg k3
                                                case measure => have := HJ2.out; have := HK2.out; have := HK3.out; omega
                                                case rel => exact ⟨(y169), (wrap64 (x11_3 + 1)), (by first | rfl | (simp; done) | (simp [*]; done)), H', ⟨by have := HJ2.out; have := HK2.out; have := HK3.out; omega⟩, ⟨by (with_reducible repeat (first | apply Kd.R_alloc | apply Kd.R_drewN | apply Kd.R_drew)); exact HO_5.out⟩, ⟨by (with_reducible repeat (first | apply Kd.R_alloc | apply Kd.R_drewN | apply Kd.R_drew)); exact HO_6.out⟩, ⟨by (with_reducible repeat (first | apply Kd.R_alloc | apply Kd.R_drewN | apply Kd.R_drew)); (first | exact Kd.R_mono HO_7.out (fun _ hk => hk.2) | exact Kd.R_mono (Kd.R_after (v := (.slice (some ⟨go103, 0, none⟩) x10_3.length co103)) (v1 := (.slice (some ⟨go103, 0, none⟩) x10_3.length co103)) (ok := fun _ => True) (Kd.R_mono (Kd.R_drewN HO_7.out _) (fun _ hk => ⟨trivial, hk⟩)) (Kd.R_putg (Kd.R_drewN HO_10.out _) (x11_3 : Int) false).2 (.inl rfl)) (fun _ hk => hk.2))⟩, ⟨by (with_reducible repeat (first | apply Kd.R_alloc | apply Kd.R_drewN | apply Kd.R_drew)); (first | exact HO_10.out | (rw [Ny169.out]; exact (Kd.R_putg (Kd.R_drewN HO_10.out _) (x11_3 : Int) false).1))⟩, ⟨by (with_reducible repeat (first | apply Kd.R_alloc | apply Kd.R_drewN | apply Kd.R_drew)); exact HO_30.out⟩, ⟨by repeat (first | (with_reducible first | exact HB.out | apply below_alloc | apply pw_below_drewN | apply below_drew1) | exact HB.out | exact below_set (pw_below_drewN HB.out _) GB103.out)⟩⟩
                                              · rw [if_neg c102] at H
                                                exact absurd H (by simp)
                                            · rw [if_neg c101] at H
                                              exact absurd H (by simp)
                                        · rw [if_neg c89] at H
                                          exact absurd H (by simp)
                                      · rw [if_neg c88] at H
                                        exact absurd H (by simp)
                                    · rw [if_neg c86] at H
                                      have c86b0 : decide (0 < x11_3) = false := decide_eq_false c86
                                      clear c86
                                      by_cases c107 : 0 ≤ x11_3
                                      · rw [if_pos c107] at H
                                        have c107b0 : decide (0 ≤ x11_3) = true := decide_eq_true c107
                                        clear c107
                                        by_cases c108 : x11_3 < (x10_3.length : Int)
                                        · rw [if_pos c108] at H
                                          have c108b0 : decide (x11_3 < (x10_3.length : Int)) = true := decide_eq_true c108
                                          clear c108
                                          obtain ⟨y170, hy170⟩ : ∃ y_ : List Bool, y_ = (x10_3.set (x11_3 : Int).toNat false) := ⟨_, rfl⟩
                                          replace H : (bloomeryref04_Match.l1 k3 t140 t143 x7_2 x32_2 (rdOf ByteArray.empty t140 x32_2) y170 (wrap64 (x11_3 + 1)) t140 (t140.length : Int) x32_2) = some r := by first | (rw [hy170]; with_reducible exact H) | (have H2_ := (Option.bind_some _ _).symm.trans H; rw [hy170]; with_reducible exact H2_) | (have H2_ := (Option.bind_some _ _).symm.trans H; with_reducible exact H2_) | with_reducible exact H | (rw [hy170]; exact H) | exact H
                                          have Ny170 := Aside0.mk hy170
                                          clear hy170
                                          have H' := Aside0.mk H
                                          clear H
                                          have p109 : 0 ≤ (x11_3 : Int) := of_decide_eq_true (by first | (with_reducible assumption) | assumption)
                                          have q109 : (x11_3 : Int) < ((x10_3.length : Int) : Int) := of_decide_eq_true (by first | (with_reducible assumption) | assumption)
                                          obtain ⟨go109, co109, eo109, gb109, gl109, cl109, HG109⟩ := Kd.R_form HO_10.out (by omega)
                                          (first | cases eo109 | (injection eo109 with ea_ en_ ec_; (first | subst ea_ | (injection ea_ with ea_; subst ea_)); subst ec_; clear en_))
                                          have GB109 := Aside0.mk gb109
                                          have GG109 := Aside0.mk HG109
                                          clear gb109 gl109 HG109
                                          obtain ⟨hx109_0, hf109_0⟩ := Kd.R_celln false HO_10.out (x11_3 : Int) p109 q109
                                          replace p109 := eq_true p109
                                          replace q109 := eq_true q109
                                          have HP110 := Kd.R_putg HO_10.out (x11_3 : Int) false
                                          go_wp2_with (first | ((with_reducible refine gate_store (t := 4) (p := 69) rfl ?_); refine store_event (t := 4) (p := 69) (v := ?vo_w111) (w1 := (wr.setCell ⟨go109, (x11_3 : Int).toNat, none⟩ (.bool false))) ?hg ?ho ?hn ?hr ?_; (case ho => rfl); (case hg => rfl); (case hn => rfl); (case hr => first | (go_simp; done) | (go_simp; rfl)); intro w111 hw; have hg : wr.grownBy w111 (some go109) := (by rw [hw]; exact HP110.2); have hp_ : Kd.R Kd.bool 4 w111 w.heap.size (fun k_ => some k_ ≠ (u7 : Value).ownBlock) (.slice (some ⟨go109, 0, none⟩) x10_3.length co109) y170 := (by rw [hw, Ny170.out]; exact HP110.1); clear HP110; have n0_ := Aside0.mk (Kd.R_over' (v := (.slice (some ⟨go109, 0, none⟩) x10_3.length co109)) (by (with_reducible repeat (first | apply Kd.R_alloc | apply Kd.R_drewN | apply Kd.R_drew)); exact HO_5.out) (Kd.R_typed HO_10.out) (by decide) hg); have n1_ := Aside0.mk (Kd.R_over' (v := (.slice (some ⟨go109, 0, none⟩) x10_3.length co109)) (by (with_reducible repeat (first | apply Kd.R_alloc | apply Kd.R_drewN | apply Kd.R_drew)); exact HO_6.out) (Kd.R_typed HO_10.out) (by decide) hg); have n2_ := Aside0.mk (Kd.R_after (v := (.slice (some ⟨go109, 0, none⟩) x10_3.length co109)) (v1 := (.slice (some ⟨go109, 0, none⟩) x10_3.length co109)) (ok := (fun _ => True)) (by (with_reducible repeat (first | apply Kd.R_alloc | apply Kd.R_drewN | apply Kd.R_drew)); exact Kd.R_mono HO_7.out (fun _ hk => ⟨trivial, hk⟩)) hg (.inl rfl)); have n3_ := Aside0.mk (hp_); have n4_ := Aside0.mk (Kd.R_over' (v := (.slice (some ⟨go109, 0, none⟩) x10_3.length co109)) (by (with_reducible repeat (first | apply Kd.R_alloc | apply Kd.R_drewN | apply Kd.R_drew)); exact HO_30.out) (Kd.R_typed HO_10.out) (by decide) hg); have n5_ := Aside0.mk ((by rw [hw]; exact below_set (HB.out) GB109.out : Below w.heap.size w w111)); clear HO_5; clear HO_6; clear HO_7; clear HO_10; clear HO_30; clear HB; have HO_5 := n0_; have HO_6 := n1_; have HO_7 := n2_; have HO_10 := n3_; have HO_30 := n4_; have HB := n5_; clear n0_ n1_ n2_ n3_ n4_ n5_; clear hg hw hp_))
                                          go_roundg k3
                                          case measure => have := HJ2.out; have := HK2.out; have := HK3.out; omega
                                          case rel => exact ⟨(y170), (wrap64 (x11_3 + 1)), (by first | rfl | (simp; done) | (simp [*]; done)), H', ⟨by have := HJ2.out; have := HK2.out; have := HK3.out; omega⟩, ⟨by (with_reducible repeat (first | apply Kd.R_alloc | apply Kd.R_drewN | apply Kd.R_drew)); exact HO_5.out⟩, ⟨by (with_reducible repeat (first | apply Kd.R_alloc | apply Kd.R_drewN | apply Kd.R_drew)); exact HO_6.out⟩, ⟨by (with_reducible repeat (first | apply Kd.R_alloc | apply Kd.R_drewN | apply Kd.R_drew)); (first | exact Kd.R_mono HO_7.out (fun _ hk => hk.2) | exact Kd.R_mono (Kd.R_after (v := (.slice (some ⟨go109, 0, none⟩) x10_3.length co109)) (v1 := (.slice (some ⟨go109, 0, none⟩) x10_3.length co109)) (ok := fun _ => True) (Kd.R_mono (Kd.R_drewN HO_7.out _) (fun _ hk => ⟨trivial, hk⟩)) (Kd.R_putg (Kd.R_drewN HO_10.out _) (x11_3 : Int) false).2 (.inl rfl)) (fun _ hk => hk.2))⟩, ⟨by (with_reducible repeat (first | apply Kd.R_alloc | apply Kd.R_drewN | apply Kd.R_drew)); (first | exact HO_10.out | (rw [Ny170.out]; exact (Kd.R_putg (Kd.R_drewN HO_10.out _) (x11_3 : Int) false).1))⟩, ⟨by (with_reducible repeat (first | apply Kd.R_alloc | apply Kd.R_drewN | apply Kd.R_drew)); exact HO_30.out⟩, ⟨by repeat (first | (with_reducible first | exact HB.out | apply below_alloc | apply pw_below_drewN | apply below_drew1) | exact HB.out | exact below_set (pw_below_drewN HB.out _) GB109.out)⟩⟩
                                        · rw [if_neg c108] at H
                                          exact absurd H (by simp)
                                      · rw [if_neg c107] at H
                                        exact absurd H (by simp)
                                · rw [if_neg c34] at H
                                  have c34b0 : decide (x11_3 ≤ (t143.length : Int)) = false := decide_eq_false c34
                                  clear c34
                                  have H' := Aside0.mk H
                                  clear H
                                  go_wp2
                                  go_roundg k3
                                  case measure => have := HJ2.out; have := HK2.out; have := HK3.out; omega
                                  case rel => exact ⟨(x10_3), (wrap64 (x32_2 + 1)), (by first | rfl | (simp; done) | (simp [*]; done)), H', ⟨by have := HJ2.out; have := HK2.out; have := HK3.out; omega⟩, ⟨by (with_reducible repeat (first | apply Kd.R_alloc | apply Kd.R_drewN | apply Kd.R_drew)); exact HO_5.out⟩, ⟨by (with_reducible repeat (first | apply Kd.R_alloc | apply Kd.R_drewN | apply Kd.R_drew)); exact HO_6.out⟩, ⟨by (with_reducible repeat (first | apply Kd.R_alloc | apply Kd.R_drewN | apply Kd.R_drew)); exact Kd.R_mono HO_10.out (fun _ hk => trivial)⟩, ⟨by (with_reducible repeat (first | apply Kd.R_alloc | apply Kd.R_drewN | apply Kd.R_drew)); exact HO_30.out⟩, ⟨by repeat (first | (with_reducible first | exact HB.out | apply below_alloc | apply pw_below_drewN | apply below_drew1) | exact HB.out)⟩⟩
                          · rw [if_neg c31] at H
                            exact absurd H (by simp)
                        · rw [if_neg c30] at H
                          exact absurd H (by simp)
                      · rw [if_neg c28] at H
                        exact absurd H (by simp)
                    · rw [if_neg c27] at H
                      exact absurd H (by simp)
                  · rw [if_neg c26] at H
                    have c26b0 : decide (x32_2 < (t140.length : Int)) = false := decide_eq_false c26
                    clear c26
                    by_cases c112 : 0 ≤ (t143.length : Int)
                    · rw [if_pos c112] at H
                      have c112b0 : decide (0 ≤ (t143.length : Int)) = true := decide_eq_true c112
                      have c112b1 : decide (0 ≤ t143.length) = true := decide_eq_true (by omega)
                      clear c112
                      by_cases c113 : (t143.length : Int) < (x7_2.length : Int)
                      · rw [if_pos c113] at H
                        have c113b0 : decide ((t143.length : Int) < (x7_2.length : Int)) = true := decide_eq_true c113
                        have c113b1 : decide (t143.length < x7_2.length) = true := decide_eq_true (Int.ofNat_lt.mp c113)
                        clear c113
                        obtain rfl := Option.some.inj H
                        obtain ⟨Ao114, co114, eo114⟩ := Kd.R_slice HO_7.out
                        subst eo114
                        have p150 : 0 ≤ ((t143.length : Int) : Int) := of_decide_eq_true (by first | (with_reducible assumption) | assumption)
                        have q150 : (t143.length : Int) < (x7_2.length : Int) := of_decide_eq_true (by first | (with_reducible assumption) | assumption)
                        obtain ⟨ad150, e150, hx150_0⟩ := Kd.at_bool (Kd.R_reads' HO_7.out).2.2 (t143.length : Int) p150 q150
                        try simp only [Int.toNat_natCast] at hx150_0
                        cases e150
                        (try simp only [Go.IntWalk.toNatUp] at hx150_0)
                        replace p150 := eq_true p150
                        replace q150 := eq_true q150
                        go_wp2
                        go_ret
                        exact ⟨by first | rfl | (simp [errW_none, errW_some] <;> rfl) | (simp only [← hji13]; first | rfl | (simp [errW_none, errW_some] <;> rfl)) | (simp [*, errW_none, errW_some] <;> rfl), by repeat (first | (with_reducible first | exact HB.out | apply below_alloc | apply pw_below_drewN | apply below_drew1) | exact HB.out)⟩
                      · rw [if_neg c113] at H
                        exact absurd H (by simp)
                    · rw [if_neg c112] at H
                      exact absurd H (by simp)
            · rw [if_neg c16] at H
              exact absurd H (by simp)
          · rw [if_neg c15] at H
            exact absurd H (by simp)
        · rw [if_neg c14] at H
          exact absurd H (by simp)

end Go.Proofs.YtgbogkmbgedkkaaDoor.P
