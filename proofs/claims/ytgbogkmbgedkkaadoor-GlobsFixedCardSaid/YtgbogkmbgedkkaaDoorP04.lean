/- The reference on patterns (layer 4): what its functions answer. The functions of this text and their contracts were written by the kit's print for this seat; they are kept here in one text. -/
import Derived.Test.YtgbogkmbgedkkaaDoorP03
import Derived.Test.YtgbogkmbgedkkaaDoorProg
import Derived.Below
import Derived.Deep.Draws
import Derived.Deep.AppendLies
import Derived.Maps.AppendAt
import Derived.OwnWalk
import Derived.Laws.BytesArg
import Derived.Laws.MakeOwn
import Derived.Laws.OwnMore
import Derived.Deep.OwnRows
import Derived.Tactics
import Derived.Lib.ConvBytes
import Derived.Laws.Slices
import Derived.WalkKit
import Derived.KernelRfl
import Derived.RowKit3
import Derived.Deep.LoopGhost
import Derived.Deep.QuietTactic
import Derived.BigQuiet
import Derived.WideLaws
import Derived.Deep.DeepCutAuto
import Derived.Deep.CutBlock
import Derived.Deep.RegionHeld3
import Derived.Laws.Rows
import Derived.Lib.AppendStr
import Derived.ArgAppend
import Derived.Laws.IdiomCopy
import Derived.OrdersHeld
import Derived.Laws.BitsLemmas
import Derived.RowKit
import Derived.Test.YtgbogkmbgedkkaaDoorWWords
import Derived.Test.YtgbogkmbgedkkaaDoorWLast
import Derived.Test.YtgbogkmbgedkkaaDoorWTab
import Derived.Test.YtgbogkmbgedkkaaDoorWFour
import Derived.Test.YtgbogkmbgedkkaaDoorWQPut
import Derived.Test.YtgbogkmbgedkkaaDoorWApart
import Derived.Test.YtgbogkmbgedkkaaDoorWArr
import Derived.Test.YtgbogkmbgedkkaaDoorWZeros
import Derived.Test.YtgbogkmbgedkkaaDoorWFoot
import Derived.Test.YtgbogkmbgedkkaaDoorWKept
import Derived.Test.YtgbogkmbgedkkaaDoorWShare
import Derived.Test.YtgbogkmbgedkkaaDoorWN
import Derived.Test.YtgbogkmbgedkkaaDoorWFootNe
import Derived.Test.YtgbogkmbgedkkaaDoorWAt
import Derived.Test.YtgbogkmbgedkkaaDoorWEqStruct
import Derived.Test.YtgbogkmbgedkkaaDoorWRepsOne
import Derived.Test.YtgbogkmbgedkkaaDoorWInv
import Derived.Test.YtgbogkmbgedkkaaDoorWInvWords
import Derived.Test.YtgbogkmbgedkkaaDoorWGuard
import Derived.Test.YtgbogkmbgedkkaaDoorWNEv
import Derived.Test.YtgbogkmbgedkkaaDoorWMore
namespace Go.Proofs.YtgbogkmbgedkkaaDoor.P
open Go.RowKit Go.Proofs.YtgbogkmbgedkkaaDoorW.PrintWords Go.Proofs.YtgbogkmbgedkkaaDoorW.PrintLast Go.Proofs.YtgbogkmbgedkkaaDoorW.PrintMore
attribute [local go_sem] max2_int min2_int max_two min_two max_three min_three max_four min_four
set_option linter.unusedVariables false
set_option linter.unusedSimpArgs false

/-! ### bloomeryref04_part: function 29 -/
mutual
def bloomeryref04_part.j0 : Nat → ByteArray → Bool → Option (Bool)
  | 0, _, _ => none
  | k + 1, x0, x22 => if x22 = true then (some false) else (bloomeryref04_part.l0 k x0 0)
def bloomeryref04_part.l0 : Nat → ByteArray → Int → Option (Bool)
  | 0, _, _ => none
  | k + 1, x0, x3 => if x3 < (x0.size : Int) then (if 0 ≤ x3 then (if (bt x0 x3) = 42 then (bloomeryref04_part.j2 k x0 x3 true) else (bloomeryref04_part.j2 k x0 x3 ((bt x0 x3) == 63))) else (none)) else (some true)
def bloomeryref04_part.j2 : Nat → ByteArray → Int → Bool → Option (Bool)
  | 0, _, _, _ => none
  | k + 1, x0, x3, x4 => if x4 = true then (bloomeryref04_part.j3 k x0 x3 false) else (if 0 ≤ x3 then (if x3 ≤ (wrap64 (x3 + 1)) then (if (wrap64 (x3 + 1)) ≤ (x0.size : Int) then (if 1 + (x0.extract (x3 : Int).toNat ((wrap64 (x3 + 1)) : Int).toNat).size ≤ 9223372036854775807 then ((bloomeryref03_Part.f k ((⟨#[97]⟩ : ByteArray) ++ (x0.extract (x3 : Int).toNat ((wrap64 (x3 + 1)) : Int).toNat))).bind fun t111 => (bloomeryref04_part.j3 k x0 x3 (!t111))) else (none)) else (none)) else (none)) else (none))
def bloomeryref04_part.j3 : Nat → ByteArray → Int → Bool → Option (Bool)
  | 0, _, _, _ => none
  | k + 1, x0, x3, x50 => if x50 = true then (some false) else (if x3 > 0 then (if 0 ≤ x3 then (if x3 < (x0.size : Int) then (if (bt x0 x3) = 42 then (if 0 ≤ (wrap64 (x3 - 1)) then (if (wrap64 (x3 - 1)) < (x0.size : Int) then (if (bt x0 (wrap64 (x3 - 1))) = 42 then (some false) else (bloomeryref04_part.l0 k x0 (wrap64 (x3 + 1)))) else (none)) else (none)) else (bloomeryref04_part.l0 k x0 (wrap64 (x3 + 1)))) else (none)) else (none)) else (bloomeryref04_part.l0 k x0 (wrap64 (x3 + 1))))
end
def bloomeryref04_part.f (k : Nat) (a0 : ByteArray) : Option (Bool) := if a0.toList = ([42, 42] : List UInt8) then (some true) else (if (a0.size : Int) = 0 then (bloomeryref04_part.j0 k a0 true) else (if (a0.size : Int) > 64 then (bloomeryref04_part.j0 k a0 true) else (if a0.toList = ([46] : List UInt8) then (bloomeryref04_part.j0 k a0 true) else (bloomeryref04_part.j0 k a0 (a0.toList == ([46, 46] : List UInt8))))))
theorem bloomeryref04_part.mono_l : ∀ k, (∀ y0 y1, LeO (bloomeryref04_part.j0 k y0 y1) (bloomeryref04_part.j0 (k + 1) y0 y1)) ∧ (∀ y0 y1, LeO (bloomeryref04_part.l0 k y0 y1) (bloomeryref04_part.l0 (k + 1) y0 y1)) ∧ (∀ y0 y1 y2, LeO (bloomeryref04_part.j2 k y0 y1 y2) (bloomeryref04_part.j2 (k + 1) y0 y1 y2)) ∧ (∀ y0 y1 y2, LeO (bloomeryref04_part.j3 k y0 y1 y2) (bloomeryref04_part.j3 (k + 1) y0 y1 y2))
  | 0 => ⟨fun _ _ r h => by simp [bloomeryref04_part.j0] at h, fun _ _ r h => by simp [bloomeryref04_part.l0] at h, fun _ _ _ r h => by simp [bloomeryref04_part.j2] at h, fun _ _ _ r h => by simp [bloomeryref04_part.j3] at h⟩
  | k + 1 => by
    obtain ⟨ih0, ih1, ih2, ih3⟩ := bloomeryref04_part.mono_l k
    refine ⟨?_, ?_, ?_, ?_⟩
    · intro y0 y1
      unfold bloomeryref04_part.j0
      repeat' first
      | (with_reducible exact ih0 _ _)
      | (with_reducible exact ih1 _ _)
      | (with_reducible exact ih2 _ _ _)
      | (with_reducible exact ih3 _ _ _)
      | (with_reducible exact bloomeryref03_Part.mono _ _)
      | (with_reducible exact LeO.refl _)
      | (with_reducible exact LeO.none _)
      | (with_reducible refine LeO.ite ?_ ?_)
      | (with_reducible refine LeO.bind ?_ (fun _ => ?_))
      | exact ih0 _ _
      | exact ih1 _ _
      | exact ih2 _ _ _
      | exact ih3 _ _ _
      | exact bloomeryref03_Part.mono _ _
      | exact LeO.none _
      | refine LeO.ite ?_ ?_
      | refine LeO.bind ?_ (fun _ => ?_)
    · intro y0 y1
      unfold bloomeryref04_part.l0
      repeat' first
      | (with_reducible exact ih0 _ _)
      | (with_reducible exact ih1 _ _)
      | (with_reducible exact ih2 _ _ _)
      | (with_reducible exact ih3 _ _ _)
      | (with_reducible exact bloomeryref03_Part.mono _ _)
      | (with_reducible exact LeO.refl _)
      | (with_reducible exact LeO.none _)
      | (with_reducible refine LeO.ite ?_ ?_)
      | (with_reducible refine LeO.bind ?_ (fun _ => ?_))
      | exact ih0 _ _
      | exact ih1 _ _
      | exact ih2 _ _ _
      | exact ih3 _ _ _
      | exact bloomeryref03_Part.mono _ _
      | exact LeO.none _
      | refine LeO.ite ?_ ?_
      | refine LeO.bind ?_ (fun _ => ?_)
    · intro y0 y1 y2
      unfold bloomeryref04_part.j2
      repeat' first
      | (with_reducible exact ih0 _ _)
      | (with_reducible exact ih1 _ _)
      | (with_reducible exact ih2 _ _ _)
      | (with_reducible exact ih3 _ _ _)
      | (with_reducible exact bloomeryref03_Part.mono _ _)
      | (with_reducible exact LeO.refl _)
      | (with_reducible exact LeO.none _)
      | (with_reducible refine LeO.ite ?_ ?_)
      | (with_reducible refine LeO.bind ?_ (fun _ => ?_))
      | exact ih0 _ _
      | exact ih1 _ _
      | exact ih2 _ _ _
      | exact ih3 _ _ _
      | exact bloomeryref03_Part.mono _ _
      | exact LeO.none _
      | refine LeO.ite ?_ ?_
      | refine LeO.bind ?_ (fun _ => ?_)
    · intro y0 y1 y2
      unfold bloomeryref04_part.j3
      repeat' first
      | (with_reducible exact ih0 _ _)
      | (with_reducible exact ih1 _ _)
      | (with_reducible exact ih2 _ _ _)
      | (with_reducible exact ih3 _ _ _)
      | (with_reducible exact bloomeryref03_Part.mono _ _)
      | (with_reducible exact LeO.refl _)
      | (with_reducible exact LeO.none _)
      | (with_reducible refine LeO.ite ?_ ?_)
      | (with_reducible refine LeO.bind ?_ (fun _ => ?_))
      | exact ih0 _ _
      | exact ih1 _ _
      | exact ih2 _ _ _
      | exact ih3 _ _ _
      | exact bloomeryref03_Part.mono _ _
      | exact LeO.none _
      | refine LeO.ite ?_ ?_
      | refine LeO.bind ?_ (fun _ => ?_)
theorem bloomeryref04_part.mono : ∀ a0 k, LeO (bloomeryref04_part.f k a0) (bloomeryref04_part.f (k + 1) a0) := by
  intro a0 k
  obtain ⟨ih0, ih1, ih2, ih3⟩ := bloomeryref04_part.mono_l k
  unfold bloomeryref04_part.f
  repeat' first
      | (with_reducible exact ih0 _ _)
      | (with_reducible exact ih1 _ _)
      | (with_reducible exact ih2 _ _ _)
      | (with_reducible exact ih3 _ _ _)
      | (with_reducible exact bloomeryref03_Part.mono _ _)
      | (with_reducible exact LeO.refl _)
      | (with_reducible exact LeO.none _)
      | (with_reducible refine LeO.ite ?_ ?_)
      | (with_reducible refine LeO.bind ?_ (fun _ => ?_))
      | exact ih0 _ _
      | exact ih1 _ _
      | exact ih2 _ _ _
      | exact ih3 _ _ _
      | exact bloomeryref03_Part.mono _ _
      | exact LeO.none _
      | refine LeO.ite ?_ ?_
      | refine LeO.bind ?_ (fun _ => ?_)
set_option maxHeartbeats 8000000 in
set_option maxRecDepth 100000 in
theorem bloomeryref04_part.calls (k : Nat) (a0 : ByteArray) (r : Bool) (w : World) (h : bloomeryref04_part.f k a0 = some r) :
    Calls Tryd.prog 29 #[.string a0] w fun e w' => e = .returned (.bool r) ∧ Drawn0 w w' := by
  have H : (if a0.toList = ([42, 42] : List UInt8) then (some true) else (if (a0.size : Int) = 0 then (bloomeryref04_part.j0 k a0 true) else (if (a0.size : Int) > 64 then (bloomeryref04_part.j0 k a0 true) else (if a0.toList = ([46] : List UInt8) then (bloomeryref04_part.j0 k a0 true) else (bloomeryref04_part.j0 k a0 (a0.toList == ([46, 46] : List UInt8))))))) = some r := h
  clear h
  by_cases c2 : a0.toList = ([42, 42] : List UInt8)
  · rw [if_pos c2] at H
    have c2b0 : (a0.toList == ([42, 42] : List UInt8)) = true := beq_iff_eq.mpr c2
    have c2b1 : (a0.toList != ([42, 42] : List UInt8)) = false := bne_eq_false_iff_eq.mpr c2
    clear c2
    obtain rfl := Option.some.inj H
    go_enter Tryd.func29, Tryd.ntmps29
    go_wp2
    go_ret
    exact ⟨by first | rfl | (simp; done) | (simp [*]; done), by repeat (first | exact Drawn0.refl _ | apply Drawn0.step)⟩
  · rw [if_neg c2] at H
    have c2b0 : (a0.toList == ([42, 42] : List UInt8)) = false := beq_eq_false_iff_ne.mpr c2
    have c2b1 : (a0.toList != ([42, 42] : List UInt8)) = true := bne_iff_ne.mpr c2
    have HC3 := Aside0.mk H
    clear H
    go_enter Tryd.func29, Tryd.ntmps29
    go_upto_region 3 with (fail)
    go_cut [22] (fun v22 wc => ∃ (kq : Nat) (x22_2 : Bool), v22 = .bool x22_2 ∧ Aside0 (bloomeryref04_part.j0 kq a0 x22_2 = some r) ∧ Aside0 (kq ≤ k) ∧ Drawn0 w wc)
    case first =>
      have H := HC3.out
      clear HC3
      by_cases c4 : (a0.size : Int) = 0
      · rw [if_pos c4] at H
        have c4b0 : ((a0.size : Int) == 0) = true := beq_iff_eq.mpr c4
        have c4b1 : ((a0.size : Int) != 0) = false := bne_eq_false_iff_eq.mpr c4
        clear c4
        (first | rw [c4b0] | (simp only [i64_w, i32_w]; rw [c4b0]) | skip)
        have H' := Aside0.mk H
        clear H
        go_wp2
        go_meet
        case rel => exact ⟨_, (true), (by first | rfl | (simp; done) | (simp [*]; done)), H', ⟨by first | omega | exact Nat.le_refl _⟩, by repeat (first | exact Drawn0.refl _ | apply Drawn0.step)⟩
      · rw [if_neg c4] at H
        have c4b0 : ((a0.size : Int) == 0) = false := beq_eq_false_iff_ne.mpr c4
        have c4b1 : ((a0.size : Int) != 0) = true := bne_iff_ne.mpr c4
        (first | rw [c4b0] | (simp only [i64_w, i32_w]; rw [c4b0]) | skip)
        by_cases c5 : (a0.size : Int) > 64
        · rw [if_pos c5] at H
          have c5b0 : decide (64 < (a0.size : Int)) = true := decide_eq_true c5
          have c5b1 : decide (64 < a0.size) = true := decide_eq_true (by omega)
          clear c5
          have H' := Aside0.mk H
          clear H
          go_wp2
          go_meet
          case rel => exact ⟨_, (true), (by first | rfl | (simp; done) | (simp [*]; done)), H', ⟨by first | omega | exact Nat.le_refl _⟩, by repeat (first | exact Drawn0.refl _ | apply Drawn0.step)⟩
        · rw [if_neg c5] at H
          have c5b0 : decide (64 < (a0.size : Int)) = false := decide_eq_false c5
          have c5b1 : decide (64 < a0.size) = false := decide_eq_false (by omega)
          clear c5
          by_cases c6 : a0.toList = ([46] : List UInt8)
          · rw [if_pos c6] at H
            have c6b0 : (a0.toList == ([46] : List UInt8)) = true := beq_iff_eq.mpr c6
            have c6b1 : (a0.toList != ([46] : List UInt8)) = false := bne_eq_false_iff_eq.mpr c6
            clear c6
            have H' := Aside0.mk H
            clear H
            go_wp2
            go_meet
            case rel => exact ⟨_, (true), (by first | rfl | (simp; done) | (simp [*]; done)), H', ⟨by first | omega | exact Nat.le_refl _⟩, by repeat (first | exact Drawn0.refl _ | apply Drawn0.step)⟩
          · rw [if_neg c6] at H
            have c6b0 : (a0.toList == ([46] : List UInt8)) = false := beq_eq_false_iff_ne.mpr c6
            have c6b1 : (a0.toList != ([46] : List UInt8)) = true := bne_iff_ne.mpr c6
            have H' := Aside0.mk H
            clear H
            go_wp2
            go_meet
            case rel => exact ⟨_, ((a0.toList == ([46, 46] : List UInt8))), (by first | rfl | (simp; done) | (simp [*]; done)), H', ⟨by first | omega | exact Nat.le_refl _⟩, by repeat (first | exact Drawn0.refl _ | apply Drawn0.step)⟩
    case rest =>
      clear HC3
      try clear c2
      try clear c2b0
      try clear c2b1
      try clear p2
      try clear c4
      try clear c4b0
      try clear c4b1
      try clear c5
      try clear c5b0
      try clear c5b1
      try clear c6
      try clear c6b0
      try clear c6b1
      obtain ⟨kq, x22_2, rfl, HA, HJ2, ⟨mc2, rfl⟩⟩ := hcut
      cases kq with
      | zero => exact absurd HA.out (by simp [bloomeryref04_part.j0])
      | succ kj2 =>
        have H := HA.out
        clear HA
        simp only [bloomeryref04_part.j0] at H
        by_cases c7 : x22_2 = true
        · subst c7
          have H1 : (some false) = some r := by rw [if_pos rfl] at H; exact H
          clear H
          have H := H1
          clear H1
          obtain rfl := Option.some.inj H
          go_wp2
          go_ret
          exact ⟨by first | rfl | (simp; done) | (simp [*]; done), by repeat (first | exact Drawn0.refl _ | apply Drawn0.step)⟩
        · replace c7 := Bool.eq_false_iff.mpr c7
          subst c7
          have H1 : (bloomeryref04_part.l0 kj2 a0 0) = some r := by rw [if_neg (show ¬ (false = true) by decide)] at H; exact H
          clear H
          have H := H1
          clear H1
          have H' := Aside0.mk H
          clear H
          go_wp2
          go_loopg [3] kj2 (fun kq v3 w' => ∃ (x3_2 : Int), v3 = .int .i64 x3_2 ∧ Aside0 (bloomeryref04_part.l0 kq a0 x3_2 = some r) ∧ Aside0 (kq ≤ kj2) ∧ Drawn0 w w')
          case atStart => exact ⟨(0), (by first | rfl | (simp; done) | (simp [*]; done)), H', ⟨Nat.le_refl _⟩, by repeat (first | exact Drawn0.refl _ | apply Drawn0.step)⟩
          case round =>
            clear H'
            try clear c2
            try clear c2b0
            try clear c2b1
            try clear p2
            try clear c4
            try clear c4b0
            try clear c4b1
            try clear c5
            try clear c5b0
            try clear c5b1
            try clear c6
            try clear c6b0
            try clear c6b1
            try clear c7
            try clear p2
            obtain ⟨x3_2, rfl, HA, HK2, ⟨m2, rfl⟩⟩ := hrel
            cases gk with
            | zero => exact absurd HA.out (by simp [bloomeryref04_part.l0])
            | succ k2 =>
              have H := HA.out
              clear HA
              simp only [bloomeryref04_part.l0] at H
              by_cases c8 : x3_2 < (a0.size : Int)
              · rw [if_pos c8] at H
                have c8b0 : decide (x3_2 < (a0.size : Int)) = true := decide_eq_true c8
                clear c8
                have HC9 := Aside0.mk H
                clear H
                go_upto_region 8 with (fail)
                go_cut [4] (fun v4 wc => ∃ (kq : Nat) (x4_8 : Bool), v4 = .bool x4_8 ∧ Aside0 (bloomeryref04_part.j2 kq a0 x3_2 x4_8 = some r) ∧ Aside0 (kq ≤ k2) ∧ Drawn0 w wc)
                case first =>
                  have H := HC9.out
                  clear HC9
                  by_cases c10 : 0 ≤ x3_2
                  · rw [if_pos c10] at H
                    have c10b0 : decide (0 ≤ x3_2) = true := decide_eq_true c10
                    clear c10
                    (first | rw [c10b0] | (simp only [i64_w, i32_w]; rw [c10b0]) | skip)
                    by_cases c12 : (bt a0 x3_2) = 42
                    · rw [if_pos c12] at H
                      have c12b0 : ((bt a0 x3_2) == 42) = true := beq_iff_eq.mpr c12
                      have c12b1 : ((bt a0 x3_2) != 42) = false := bne_eq_false_iff_eq.mpr c12
                      clear c12
                      have H' := Aside0.mk H
                      clear H
                      have p11 : 0 ≤ (x3_2 : Int) := of_decide_eq_true (by first | (with_reducible assumption) | assumption)
                      have q11 : x3_2 < (a0.size : Int) := of_decide_eq_true (by first | (with_reducible assumption) | assumption)
                      have hx11 := bt_at a0 x3_2
                      replace p11 := eq_true p11
                      replace q11 := eq_true q11
                      go_wp2
                      go_meet
                      case rel => exact ⟨_, (true), (by first | rfl | (simp; done) | (simp [*]; done)), H', ⟨by have := HJ2.out; have := HK2.out; first | omega | exact Nat.le_refl _⟩, by repeat (first | exact Drawn0.refl _ | apply Drawn0.step)⟩
                    · rw [if_neg c12] at H
                      have c12b0 : ((bt a0 x3_2) == 42) = false := beq_eq_false_iff_ne.mpr c12
                      have c12b1 : ((bt a0 x3_2) != 42) = true := bne_iff_ne.mpr c12
                      have H' := Aside0.mk H
                      clear H
                      have p11 : 0 ≤ (x3_2 : Int) := of_decide_eq_true (by first | (with_reducible assumption) | assumption)
                      have q11 : x3_2 < (a0.size : Int) := of_decide_eq_true (by first | (with_reducible assumption) | assumption)
                      have hx11 := bt_at a0 x3_2
                      replace p11 := eq_true p11
                      replace q11 := eq_true q11
                      have p13 : 0 ≤ (x3_2 : Int) := of_decide_eq_true (by first | (with_reducible assumption) | assumption)
                      have q13 : x3_2 < (a0.size : Int) := of_decide_eq_true (by first | (with_reducible assumption) | assumption)
                      have hx13 := bt_at a0 x3_2
                      replace p13 := eq_true p13
                      replace q13 := eq_true q13
                      go_wp2
                      go_meet
                      case rel => exact ⟨_, (((bt a0 x3_2) == 63)), (by first | rfl | (simp; done) | (simp [*]; done)), H', ⟨by have := HJ2.out; have := HK2.out; first | omega | exact Nat.le_refl _⟩, by repeat (first | exact Drawn0.refl _ | apply Drawn0.step)⟩
                  · rw [if_neg c10] at H
                    exact absurd H (by simp)
                case rest =>
                  clear HC9
                  try clear c1
                  try clear p1
                  try clear q1
                  try clear hx1
                  try clear c2
                  try clear c2b0
                  try clear c2b1
                  try clear p2
                  try clear c4
                  try clear c4b0
                  try clear c4b1
                  try clear c5
                  try clear c5b0
                  try clear c5b1
                  try clear c6
                  try clear c6b0
                  try clear c6b1
                  try clear c7
                  try clear c8
                  try clear c8b0
                  try clear c10
                  try clear c10b0
                  try clear p11
                  try clear q11
                  try clear hx11
                  try clear c12
                  try clear c12b0
                  try clear c12b1
                  try clear p13
                  try clear q13
                  try clear hx13
                  try clear p11
                  try clear p13
                  try clear p2
                  try clear q11
                  try clear q13
                  obtain ⟨kq, x4_8, rfl, HA, HJ8, ⟨mc8, rfl⟩⟩ := hcut
                  cases kq with
                  | zero => exact absurd HA.out (by simp [bloomeryref04_part.j2])
                  | succ kj8 =>
                    have H := HA.out
                    clear HA
                    simp only [bloomeryref04_part.j2] at H
                    have HC14 := Aside0.mk H
                    clear H
                    go_upto_region 9 with (fail)
                    go_cut [50] (fun v50 wc => ∃ (kq : Nat) (x50_13 : Bool), v50 = .bool x50_13 ∧ Aside0 (bloomeryref04_part.j3 kq a0 x3_2 x50_13 = some r) ∧ Aside0 (kq ≤ kj8) ∧ Drawn0 w wc)
                    case first =>
                      have H := HC14.out
                      clear HC14
                      by_cases c15 : x4_8 = true
                      · subst c15
                        have H1 : (bloomeryref04_part.j3 kj8 a0 x3_2 false) = some r := by rw [if_pos rfl] at H; exact H
                        clear H
                        have H := H1
                        clear H1
                        have H' := Aside0.mk H
                        clear H
                        go_wp2
                        go_meet
                        case rel => exact ⟨_, (false), (by first | rfl | (simp; done) | (simp [*]; done)), H', ⟨by have := HJ2.out; have := HK2.out; have := HJ8.out; first | omega | exact Nat.le_refl _⟩, by repeat (first | exact Drawn0.refl _ | apply Drawn0.step)⟩
                      · replace c15 := Bool.eq_false_iff.mpr c15
                        subst c15
                        have H1 : (if 0 ≤ x3_2 then (if x3_2 ≤ (wrap64 (x3_2 + 1)) then (if (wrap64 (x3_2 + 1)) ≤ (a0.size : Int) then (if 1 + (a0.extract (x3_2 : Int).toNat ((wrap64 (x3_2 + 1)) : Int).toNat).size ≤ 9223372036854775807 then ((bloomeryref03_Part.f kj8 ((⟨#[97]⟩ : ByteArray) ++ (a0.extract (x3_2 : Int).toNat ((wrap64 (x3_2 + 1)) : Int).toNat))).bind fun t111 => (bloomeryref04_part.j3 kj8 a0 x3_2 (!t111))) else (none)) else (none)) else (none)) else (none)) = some r := by rw [if_neg (show ¬ (false = true) by decide)] at H; exact H
                        clear H
                        have H := H1
                        clear H1
                        by_cases c16 : 0 ≤ x3_2
                        · rw [if_pos c16] at H
                          have c16b0 := eq_true c16
                          have c16b1 : decide (0 ≤ x3_2) = true := decide_eq_true c16
                          clear c16
                          by_cases c17 : x3_2 ≤ (wrap64 (x3_2 + 1))
                          · rw [if_pos c17] at H
                            have c17b0 := eq_true c17
                            have c17b1 : decide (x3_2 ≤ (wrap64 (x3_2 + 1))) = true := decide_eq_true c17
                            by_cases c18 : (wrap64 (x3_2 + 1)) ≤ (a0.size : Int)
                            · rw [if_pos c18] at H
                              have c18b0 := eq_true c18
                              have c18b1 : decide ((wrap64 (x3_2 + 1)) ≤ (a0.size : Int)) = true := decide_eq_true c18
                              by_cases c19 : 1 + (a0.extract (x3_2 : Int).toNat ((wrap64 (x3_2 + 1)) : Int).toNat).size ≤ 9223372036854775807
                              · rw [if_pos c19] at H
                                have c19b0 := eq_true c19
                                have c19b1 : decide (1 + (a0.extract (x3_2 : Int).toNat ((wrap64 (x3_2 + 1)) : Int).toNat).size ≤ 9223372036854775807) = true := decide_eq_true c19
                                try have c19b2 : (9223372036854775807 < 1 + (a0.extract (x3_2 : Int).toNat ((wrap64 (x3_2 + 1)) : Int).toNat).size) = False := eq_false (Nat.not_lt.2 c19)
                                try have c19b3 : (9223372036854775807 < 1 + ((wrap64 (x3_2 + 1)).toNat - (x3_2).toNat)) = False := eq_false (by have h_ := c19; rw [ByteArray.size_extract] at h_; omega)
                                replace H := Option.bind_eq_some_iff.mp H
                                obtain ⟨t111, A200, H⟩ := H
                                replace H : (bloomeryref04_part.j3 kj8 a0 x3_2 (!t111)) = some r := H
                                have A20 := Aside0.mk A200
                                clear A200
                                have H' := Aside0.mk H
                                clear H
                                go_wp2_with (first | (go_at_call 34; (with_reducible refine (bloomeryref03_Part.calls kj8 ((⟨#[97]⟩ : ByteArray) ++ (a0.extract (x3_2 : Int).toNat ((wrap64 (x3_2 + 1)) : Int).toNat)) t111 _ A20.out).mono ?_); rintro e w' ⟨rfl, ⟨nd, rfl⟩⟩))
                                go_meet
                                case rel => exact ⟨_, (!t111), (by first | rfl | (simp; done) | (simp [*]; done)), H', ⟨by have := HJ2.out; have := HK2.out; have := HJ8.out; first | omega | exact Nat.le_refl _⟩, by repeat (first | exact Drawn0.refl _ | apply Drawn0.step)⟩
                              · rw [if_neg c19] at H
                                exact absurd H (by simp)
                            · rw [if_neg c18] at H
                              exact absurd H (by simp)
                          · rw [if_neg c17] at H
                            exact absurd H (by simp)
                        · rw [if_neg c16] at H
                          exact absurd H (by simp)
                    case rest =>
                      clear HC14
                      try clear c1
                      try clear p1
                      try clear q1
                      try clear hx1
                      try clear c2
                      try clear c2b0
                      try clear c2b1
                      try clear p2
                      try clear c4
                      try clear c4b0
                      try clear c4b1
                      try clear c5
                      try clear c5b0
                      try clear c5b1
                      try clear c6
                      try clear c6b0
                      try clear c6b1
                      try clear p6
                      try clear c7
                      try clear c8
                      try clear c8b0
                      try clear c10
                      try clear c10b0
                      try clear p11
                      try clear q11
                      try clear hx11
                      try clear c12
                      try clear c12b0
                      try clear c12b1
                      try clear p13
                      try clear q13
                      try clear hx13
                      try clear c15
                      try clear c16
                      try clear c16b0
                      try clear c16b1
                      try clear c17
                      try clear c17b0
                      try clear c17b1
                      try clear c18
                      try clear c18b0
                      try clear c18b1
                      try clear c19
                      try clear c19b0
                      try clear c19b1
                      try clear c19b2
                      try clear p1
                      try clear p11
                      try clear p13
                      try clear p2
                      try clear q1
                      try clear q11
                      try clear q13
                      obtain ⟨kq, x50_13, rfl, HA, HJ13, ⟨mc13, rfl⟩⟩ := hcut
                      cases kq with
                      | zero => exact absurd HA.out (by simp [bloomeryref04_part.j3])
                      | succ kj13 =>
                        have H := HA.out
                        clear HA
                        simp only [bloomeryref04_part.j3] at H
                        by_cases c21 : x50_13 = true
                        · subst c21
                          have H1 : (some false) = some r := by rw [if_pos rfl] at H; exact H
                          clear H
                          have H := H1
                          clear H1
                          obtain rfl := Option.some.inj H
                          go_wp2
                          go_ret
                          exact ⟨by first | rfl | (simp; done) | (simp [*]; done), by repeat (first | exact Drawn0.refl _ | apply Drawn0.step)⟩
                        · replace c21 := Bool.eq_false_iff.mpr c21
                          subst c21
                          have H1 : (if x3_2 > 0 then (if 0 ≤ x3_2 then (if x3_2 < (a0.size : Int) then (if (bt a0 x3_2) = 42 then (if 0 ≤ (wrap64 (x3_2 - 1)) then (if (wrap64 (x3_2 - 1)) < (a0.size : Int) then (if (bt a0 (wrap64 (x3_2 - 1))) = 42 then (some false) else (bloomeryref04_part.l0 kj13 a0 (wrap64 (x3_2 + 1)))) else (none)) else (none)) else (bloomeryref04_part.l0 kj13 a0 (wrap64 (x3_2 + 1)))) else (none)) else (none)) else (bloomeryref04_part.l0 kj13 a0 (wrap64 (x3_2 + 1)))) = some r := by rw [if_neg (show ¬ (false = true) by decide)] at H; exact H
                          clear H
                          have H := H1
                          clear H1
                          by_cases c22 : x3_2 > 0
                          · rw [if_pos c22] at H
                            have c22b0 : decide (0 < x3_2) = true := decide_eq_true c22
                            clear c22
                            by_cases c23 : 0 ≤ x3_2
                            · rw [if_pos c23] at H
                              have c23b0 : decide (0 ≤ x3_2) = true := decide_eq_true c23
                              clear c23
                              by_cases c24 : x3_2 < (a0.size : Int)
                              · rw [if_pos c24] at H
                                have c24b0 : decide (x3_2 < (a0.size : Int)) = true := decide_eq_true c24
                                clear c24
                                by_cases c26 : (bt a0 x3_2) = 42
                                · rw [if_pos c26] at H
                                  have c26b0 : ((bt a0 x3_2) == 42) = true := beq_iff_eq.mpr c26
                                  have c26b1 : ((bt a0 x3_2) != 42) = false := bne_eq_false_iff_eq.mpr c26
                                  clear c26
                                  obtain ⟨ji27, hji27⟩ : ∃ j_ : Int, (wrap64 (x3_2 - 1)) = j_ := ⟨_, rfl⟩
                                  replace H : (if 0 ≤ (ji27) then (if (ji27) < (a0.size : Int) then (if (bt a0 (ji27)) = 42 then (some false) else (bloomeryref04_part.l0 kj13 a0 (wrap64 (x3_2 + 1)))) else (none)) else (none)) = some r := by first | (rw [hji27] at H; exact H) | (simp only [hji27] at H ⊢; exact H)
                                  have hji27w : (IntKind.i64.wrap (x3_2 - 1)) = ji27 := (i64_w _).trans hji27
                                  by_cases c28 : 0 ≤ (ji27)
                                  · rw [if_pos c28] at H
                                    have c28b0 : decide (0 ≤ (ji27)) = true := decide_eq_true c28
                                    clear c28
                                    by_cases c29 : (ji27) < (a0.size : Int)
                                    · rw [if_pos c29] at H
                                      have c29b0 : decide ((ji27) < (a0.size : Int)) = true := decide_eq_true c29
                                      clear c29
                                      by_cases c31 : (bt a0 (ji27)) = 42
                                      · rw [if_pos c31] at H
                                        have c31b0 : ((bt a0 (ji27)) == 42) = true := beq_iff_eq.mpr c31
                                        have c31b1 : ((bt a0 (ji27)) != 42) = false := bne_eq_false_iff_eq.mpr c31
                                        clear c31
                                        obtain rfl := Option.some.inj H
                                        have p25 : 0 ≤ (x3_2 : Int) := of_decide_eq_true (by first | (with_reducible assumption) | assumption)
                                        have q25 : x3_2 < (a0.size : Int) := of_decide_eq_true (by first | (with_reducible assumption) | assumption)
                                        have hx25 := bt_at a0 x3_2
                                        replace p25 := eq_true p25
                                        replace q25 := eq_true q25
                                        have p30 : 0 ≤ ((ji27) : Int) := of_decide_eq_true (by first | (with_reducible assumption) | assumption)
                                        have q30 : (ji27) < (a0.size : Int) := of_decide_eq_true (by first | (with_reducible assumption) | assumption)
                                        have hx30 := bt_at a0 (ji27)
                                        replace p30 := eq_true p30
                                        replace q30 := eq_true q30
                                        go_wp2
                                        go_ret
                                        exact ⟨by first | rfl | (simp; done) | (simp only [← hji27] <;> (first | rfl | simp)) | (simp [*]; done), by repeat (first | exact Drawn0.refl _ | apply Drawn0.step)⟩
                                      · rw [if_neg c31] at H
                                        have c31b0 : ((bt a0 (ji27)) == 42) = false := beq_eq_false_iff_ne.mpr c31
                                        have c31b1 : ((bt a0 (ji27)) != 42) = true := bne_iff_ne.mpr c31
                                        have H' := Aside0.mk H
                                        clear H
                                        have p25 : 0 ≤ (x3_2 : Int) := of_decide_eq_true (by first | (with_reducible assumption) | assumption)
                                        have q25 : x3_2 < (a0.size : Int) := of_decide_eq_true (by first | (with_reducible assumption) | assumption)
                                        have hx25 := bt_at a0 x3_2
                                        replace p25 := eq_true p25
                                        replace q25 := eq_true q25
                                        have p30 : 0 ≤ ((ji27) : Int) := of_decide_eq_true (by first | (with_reducible assumption) | assumption)
                                        have q30 : (ji27) < (a0.size : Int) := of_decide_eq_true (by first | (with_reducible assumption) | assumption)
                                        have hx30 := bt_at a0 (ji27)
                                        replace p30 := eq_true p30
                                        replace q30 := eq_true q30
                                        go_wp2
                                        go_roundg kj13
                                        case measure => have := HJ2.out; have := HK2.out; have := HJ8.out; have := HJ13.out; omega
                                        case rel => exact ⟨(wrap64 (x3_2 + 1)), (by first | rfl | (simp; done) | (simp [*]; done)), H', ⟨by have := HJ2.out; have := HK2.out; have := HJ8.out; have := HJ13.out; omega⟩, by repeat (first | exact Drawn0.refl _ | apply Drawn0.step)⟩
                                    · rw [if_neg c29] at H
                                      exact absurd H (by simp)
                                  · rw [if_neg c28] at H
                                    exact absurd H (by simp)
                                · rw [if_neg c26] at H
                                  have c26b0 : ((bt a0 x3_2) == 42) = false := beq_eq_false_iff_ne.mpr c26
                                  have c26b1 : ((bt a0 x3_2) != 42) = true := bne_iff_ne.mpr c26
                                  have H' := Aside0.mk H
                                  clear H
                                  have p25 : 0 ≤ (x3_2 : Int) := of_decide_eq_true (by first | (with_reducible assumption) | assumption)
                                  have q25 : x3_2 < (a0.size : Int) := of_decide_eq_true (by first | (with_reducible assumption) | assumption)
                                  have hx25 := bt_at a0 x3_2
                                  replace p25 := eq_true p25
                                  replace q25 := eq_true q25
                                  go_wp2
                                  go_roundg kj13
                                  case measure => have := HJ2.out; have := HK2.out; have := HJ8.out; have := HJ13.out; omega
                                  case rel => exact ⟨(wrap64 (x3_2 + 1)), (by first | rfl | (simp; done) | (simp [*]; done)), H', ⟨by have := HJ2.out; have := HK2.out; have := HJ8.out; have := HJ13.out; omega⟩, by repeat (first | exact Drawn0.refl _ | apply Drawn0.step)⟩
                              · rw [if_neg c24] at H
                                exact absurd H (by simp)
                            · rw [if_neg c23] at H
                              exact absurd H (by simp)
                          · rw [if_neg c22] at H
                            have c22b0 : decide (0 < x3_2) = false := decide_eq_false c22
                            clear c22
                            have H' := Aside0.mk H
                            clear H
                            go_wp2
                            go_roundg kj13
                            case measure => have := HJ2.out; have := HK2.out; have := HJ8.out; have := HJ13.out; omega
                            case rel => exact ⟨(wrap64 (x3_2 + 1)), (by first | rfl | (simp; done) | (simp [*]; done)), H', ⟨by have := HJ2.out; have := HK2.out; have := HJ8.out; have := HJ13.out; omega⟩, by repeat (first | exact Drawn0.refl _ | apply Drawn0.step)⟩
              · rw [if_neg c8] at H
                have c8b0 : decide (x3_2 < (a0.size : Int)) = false := decide_eq_false c8
                clear c8
                obtain rfl := Option.some.inj H
                go_wp2
                go_ret
                exact ⟨by first | rfl | (simp; done) | (simp [*]; done), by repeat (first | exact Drawn0.refl _ | apply Drawn0.step)⟩

/-! ### bloomeryref04_May: function 10 -/
def bloomeryref04_May.l0 : Nat → List ByteArray → List ByteArray → Int → Int → Option (Bool)
  | 0, _, _, _, _ => none
  | k + 1, x3, x8, x9, x10 => if x10 < x9 then (if 0 ≤ x10 then (if x10 < (x8.length : Int) then ((bloomeryref04_part.f k (rdOf ByteArray.empty x8 x10)).bind fun t116 => (if t116 = true then (bloomeryref04_May.l0 k x3 x8 x9 (wrap64 (x10 + 1))) else (some false))) else (none)) else (none)) else (some (decide ((x3.length : Int) ≤ 16)))
def bloomeryref04_May.f (k : Nat) (a0 : ByteArray) : Option (Bool) := (bloomeryref03_Parts.f k a0).bind fun t112 => (bloomeryref04_May.l0 k t112 t112 (t112.length : Int) 0)
theorem bloomeryref04_May.mono_l : ∀ k, (∀ y0 y1 y2 y3, LeO (bloomeryref04_May.l0 k y0 y1 y2 y3) (bloomeryref04_May.l0 (k + 1) y0 y1 y2 y3))
  | 0 => fun _ _ _ _ r h => by simp [bloomeryref04_May.l0] at h
  | k + 1 => by
    have ih0 := bloomeryref04_May.mono_l k
    · intro y0 y1 y2 y3
      unfold bloomeryref04_May.l0
      repeat' first
      | (with_reducible exact ih0 _ _ _ _)
      | (with_reducible exact bloomeryref03_Parts.mono _ _)
      | (with_reducible exact bloomeryref04_part.mono _ _)
      | (with_reducible exact LeO.refl _)
      | (with_reducible exact LeO.none _)
      | (with_reducible refine LeO.ite ?_ ?_)
      | (with_reducible refine LeO.bind ?_ (fun _ => ?_))
      | exact ih0 _ _ _ _
      | exact bloomeryref03_Parts.mono _ _
      | exact bloomeryref04_part.mono _ _
      | exact LeO.none _
      | refine LeO.ite ?_ ?_
      | refine LeO.bind ?_ (fun _ => ?_)
theorem bloomeryref04_May.mono : ∀ a0 k, LeO (bloomeryref04_May.f k a0) (bloomeryref04_May.f (k + 1) a0) := by
  intro a0 k
  have ih0 := bloomeryref04_May.mono_l k
  unfold bloomeryref04_May.f
  repeat' first
      | (with_reducible exact ih0 _ _ _ _)
      | (with_reducible exact bloomeryref03_Parts.mono _ _)
      | (with_reducible exact bloomeryref04_part.mono _ _)
      | (with_reducible exact LeO.refl _)
      | (with_reducible exact LeO.none _)
      | (with_reducible refine LeO.ite ?_ ?_)
      | (with_reducible refine LeO.bind ?_ (fun _ => ?_))
      | exact ih0 _ _ _ _
      | exact bloomeryref03_Parts.mono _ _
      | exact bloomeryref04_part.mono _ _
      | exact LeO.none _
      | refine LeO.ite ?_ ?_
      | refine LeO.bind ?_ (fun _ => ?_)
set_option maxHeartbeats 8000000 in
set_option maxRecDepth 100000 in
theorem bloomeryref04_May.calls (k : Nat) (a0 : ByteArray) (r : Bool) (w : World) (h : bloomeryref04_May.f k a0 = some r) :
    Calls Tryd.prog 10 #[.string a0] w fun e w' => e = .returned (.bool r) ∧ Below w.heap.size w w' := by
  have HB := Aside0.mk (Below.refl w.heap.size w)
  have H : ((bloomeryref03_Parts.f k a0).bind fun t112 => (bloomeryref04_May.l0 k t112 t112 (t112.length : Int) 0)) = some r := h
  clear h
  replace H := Option.bind_eq_some_iff.mp H
  obtain ⟨t112, A20, H⟩ := H
  replace H : (bloomeryref04_May.l0 k t112 t112 (t112.length : Int) 0) = some r := H
  have A2 := Aside0.mk A20
  clear A20
  have H' := Aside0.mk H
  clear H
  go_enter Tryd.func10, Tryd.ntmps10
  go_wp2_with (first | ((with_reducible refine gate_callee (f := 28) rfl ?_); refine goesL_ (some 7) rfl rfl Tryd.func28 (by kernel_rfl) rfl #[.string a0] rfl (by (try simp only [List.map_toArray, List.map_cons, List.map_nil]); first | done | rfl | (simp only [List.length_drop, List.length_take]; rfl)) ?_; (with_reducible refine (bloomeryref03_Parts.calls k a0 t112 _ A2.out).mono ?_); rintro e w3 ⟨v113, rfl, ho0, hb⟩; refine ⟨_, rfl, ?_⟩; have n0_ := Aside0.mk (Kd.R_lower ho0 (below_size (by repeat (first | (with_reducible first | exact HB.out | apply below_alloc | apply pw_below_drewN | apply below_drew1) | exact HB.out)))); have n1_ := Aside0.mk (below_step (by repeat (first | (with_reducible first | exact HB.out | apply below_alloc | apply pw_below_drewN | apply below_drew1) | exact HB.out)) hb); clear HB; have HO114 := n0_; have HB := n1_; clear n0_ n1_; (try clear hb); (try clear hb2); (try clear hk); (try clear hi); (try clear ho0); obtain ⟨Ao4, co4, eo4⟩ := Kd.R_slice HO114.out; subst eo4))
  go_loopg [10] k (fun kq v10 w' => ∃ (x10_1 : Int), v10 = .int .i64 x10_1 ∧ Aside0 (bloomeryref04_May.l0 kq t112 t112 (t112.length : Int) x10_1 = some r) ∧ Aside0 (kq ≤ k) ∧ Aside0 (Kd.R Kd.string 9 w' w.heap.size (fun _ => True) (.slice Ao4 t112.length co4) t112) ∧ Aside0 (Kd.R Kd.string 9 w' w.heap.size (fun _ => True) (.slice Ao4 t112.length co4) t112) ∧ Aside0 (Below w.heap.size w w'))
  case atStart => exact ⟨(0), (by first | rfl | (simp; done) | (simp [*]; done)), H', ⟨Nat.le_refl _⟩, ⟨by (with_reducible repeat (first | apply Kd.R_alloc | apply Kd.R_drewN | apply Kd.R_drew)); exact HO114.out⟩, ⟨by (with_reducible repeat (first | apply Kd.R_alloc | apply Kd.R_drewN | apply Kd.R_drew)); exact HO114.out⟩, ⟨by repeat (first | (with_reducible first | exact HB.out | apply below_alloc | apply pw_below_drewN | apply below_drew1) | exact HB.out)⟩⟩
  case round =>
    clear H'
    try clear c1
    try clear c2
    try clear p2
    obtain ⟨x10_1, rfl, HA, HK1, HO_3, HO_8, HB⟩ := hrel
    cases gk with
    | zero => exact absurd HA.out (by simp [bloomeryref04_May.l0])
    | succ k1 =>
      have H := HA.out
      clear HA
      simp only [bloomeryref04_May.l0] at H
      by_cases c5 : x10_1 < (t112.length : Int)
      · rw [if_pos c5] at H
        have c5b0 : decide (x10_1 < (t112.length : Int)) = true := decide_eq_true c5
        clear c5
        by_cases c6 : 0 ≤ x10_1
        · rw [if_pos c6] at H
          have c6b0 : decide (0 ≤ x10_1) = true := decide_eq_true c6
          clear c6
          by_cases c7 : x10_1 < (t112.length : Int)
          · rw [if_pos c7] at H
            have c7b0 : decide (x10_1 < (t112.length : Int)) = true := decide_eq_true c7
            clear c7
            replace H := Option.bind_eq_some_iff.mp H
            obtain ⟨t116, A80, H⟩ := H
            replace H : (if t116 = true then (bloomeryref04_May.l0 k1 t112 t112 (t112.length : Int) (wrap64 (x10_1 + 1))) else (some false)) = some r := H
            have A8 := Aside0.mk A80
            clear A80
            by_cases c9 : t116 = true
            · subst c9
              have H1 : (bloomeryref04_May.l0 k1 t112 t112 (t112.length : Int) (wrap64 (x10_1 + 1))) = some r := by rw [if_pos rfl] at H; exact H
              clear H
              have H := H1
              clear H1
              have H' := Aside0.mk H
              clear H
              have p115 : 0 ≤ (x10_1 : Int) := of_decide_eq_true (by first | (with_reducible assumption) | assumption)
              have q115 : x10_1 < (t112.length : Int) := of_decide_eq_true (by first | (with_reducible assumption) | assumption)
              obtain ⟨ad115, e115, hx115_0⟩ := Kd.at_string (Kd.R_reads' HO_8.out).2.2 x10_1 p115 q115
              cases e115
              replace p115 := eq_true p115
              replace q115 := eq_true q115
              go_wp2_with (first | ((with_reducible refine gate_callee (f := 29) rfl ?_); refine goesL_ (some 15) rfl rfl Tryd.func29 (by kernel_rfl) rfl #[.string (rdOf ByteArray.empty t112 x10_1)] rfl (by (try simp only [List.map_toArray, List.map_cons, List.map_nil]); first | done | rfl | (simp only [List.length_drop, List.length_take]; rfl)) ?_; (with_reducible refine (bloomeryref04_part.calls k1 (rdOf ByteArray.empty t112 x10_1) true _ A8.out).mono ?_); rintro e w' ⟨rfl, ⟨nd, rfl⟩⟩; refine ⟨_, rfl, ?_⟩))
              go_roundg k1
              case measure => have := HK1.out; omega
              case rel => exact ⟨(wrap64 (x10_1 + 1)), (by first | rfl | (simp; done) | (simp [*]; done)), H', ⟨by have := HK1.out; omega⟩, ⟨by (with_reducible repeat (first | apply Kd.R_alloc | apply Kd.R_drewN | apply Kd.R_drew)); exact HO_3.out⟩, ⟨by (with_reducible repeat (first | apply Kd.R_alloc | apply Kd.R_drewN | apply Kd.R_drew)); exact HO_8.out⟩, ⟨by repeat (first | (with_reducible first | exact HB.out | apply below_alloc | apply pw_below_drewN | apply below_drew1) | exact HB.out)⟩⟩
            · replace c9 := Bool.eq_false_iff.mpr c9
              subst c9
              have H1 : (some false) = some r := by rw [if_neg (show ¬ (false = true) by decide)] at H; exact H
              clear H
              have H := H1
              clear H1
              obtain rfl := Option.some.inj H
              have p115 : 0 ≤ (x10_1 : Int) := of_decide_eq_true (by first | (with_reducible assumption) | assumption)
              have q115 : x10_1 < (t112.length : Int) := of_decide_eq_true (by first | (with_reducible assumption) | assumption)
              obtain ⟨ad115, e115, hx115_0⟩ := Kd.at_string (Kd.R_reads' HO_8.out).2.2 x10_1 p115 q115
              cases e115
              replace p115 := eq_true p115
              replace q115 := eq_true q115
              go_wp2_with (first | ((with_reducible refine gate_callee (f := 29) rfl ?_); refine goesL_ (some 15) rfl rfl Tryd.func29 (by kernel_rfl) rfl #[.string (rdOf ByteArray.empty t112 x10_1)] rfl (by (try simp only [List.map_toArray, List.map_cons, List.map_nil]); first | done | rfl | (simp only [List.length_drop, List.length_take]; rfl)) ?_; (with_reducible refine (bloomeryref04_part.calls k1 (rdOf ByteArray.empty t112 x10_1) false _ A8.out).mono ?_); rintro e w' ⟨rfl, ⟨nd, rfl⟩⟩; refine ⟨_, rfl, ?_⟩))
              go_ret
              exact ⟨by first | rfl | (simp [errW_none, errW_some] <;> rfl) | (simp [*, errW_none, errW_some] <;> rfl), by repeat (first | (with_reducible first | exact HB.out | apply below_alloc | apply pw_below_drewN | apply below_drew1) | exact HB.out)⟩
          · rw [if_neg c7] at H
            exact absurd H (by simp)
        · rw [if_neg c6] at H
          exact absurd H (by simp)
      · rw [if_neg c5] at H
        have c5b0 : decide (x10_1 < (t112.length : Int)) = false := decide_eq_false c5
        clear c5
        obtain rfl := Option.some.inj H
        go_wp2
        go_ret
        exact ⟨by first | rfl | (simp [errW_none, errW_some] <;> rfl) | (simp [*, errW_none, errW_some] <;> rfl), by repeat (first | (with_reducible first | exact HB.out | apply below_alloc | apply pw_below_drewN | apply below_drew1) | exact HB.out)⟩

end Go.Proofs.YtgbogkmbgedkkaaDoor.P
