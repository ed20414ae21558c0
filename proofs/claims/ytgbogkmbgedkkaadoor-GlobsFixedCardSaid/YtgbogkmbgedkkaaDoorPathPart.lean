/- path.sign, path.part: which runes and which texts may stand in a path. -/
import Derived.Test.YtgbogkmbgedkkaaDoorProg
import Derived.Test.YtgbogkmbgedkkaaDoorPlain
import Derived.Test.YtgbogkmbgedkkaaDoorShelf
import Derived.WalkKit
import Derived.WalkSpells
import Derived.WalkLawsBesides
import Derived.BigQuiet
import Derived.Lib.Hide
namespace Go.Proofs.YtgbogkmbgedkkaaDoor
open Go.RowKit Go.Shelf

theorem idx_signs (c : Int) (h0 : 0 ≤ c) (h1 : c ≤ 127) : decide (0 ≤ Lib.indexByte [95, 46, 45, 43] c.toNat.toUInt8) = (c == 95 || c == 46 || c == 45 || c == 43) := by
  obtain ⟨k, rfl⟩ := Int.eq_ofNat_of_zero_le h0
  have hk : k < 128 := by omega
  clear h0 h1
  revert k
  decide

theorem ret_bool {a b : Bool} (h : a = b) : Ending.returned (.bool a) = .returned (.bool b) := by rw [h]

set_option maxHeartbeats 400000 in
theorem sign_any (c : Int) (w : World) (h0 : 0 ≤ c) (h1 : c ≤ 1114111) :
    Calls Tryd.prog 60 #[.int .i32 c] w fun e w' => e = .returned (.bool (PS.signB c)) ∧ w = w' := by
  by_cases hc : c < 128
  · have hidx := Tryd.strings_IndexByte ⟨#[95, 46, 45, 43]⟩ c
    have hd := idx_signs c h0 (by omega)
    obtain ⟨q, hq⟩ : ∃ q, Lib.indexByte [95, 46, 45, 43] c.toNat.toUInt8 = q := ⟨_, rfl⟩
    have hq' : Lib.indexByte (ByteArray.mk #[95, 46, 45, 43]).data.toList c.toNat.toUInt8 = q := hq
    rw [hq'] at hidx
    rw [hq] at hd
    have HI := Lib.hid hidx
    have HD := Lib.hid hd
    clear hidx hq hq' hd
    go_enter Tryd.func60, Tryd.ntmps60
    go_wp2_with (go_at_call 86; refine (HI.out _).mono ?_; rintro e w' ⟨rfl, hw⟩; obtain rfl := hw.symm)
    all_goals
      have hd := HD.out
      go_ret
      refine ⟨ret_bool ?_, rfl⟩
      rw [Bool.eq_iff_iff]
      simp only [PS.signB, hd, Bool.or_eq_true, Bool.and_eq_true, decide_eq_true_eq, beq_iff_eq, true_iff]
      omega
  · have h2 : PS.signB c = false := PS.signB_big (by omega)
    have H2 := Lib.hid h2
    have h3 : 128 ≤ c := by omega
    clear h2 hc
    go_enter Tryd.func60, Tryd.ntmps60
    go_wp2_with fail
    go_ret
    refine ⟨ret_bool ?_, rfl⟩
    rw [H2.out]
    simp
    omega

set_option maxHeartbeats 400000 in
theorem part1_any (c : Int) (w : World) (h0 : 0 ≤ c) (h1 : c ≤ 1114111) :
    Calls Tryd.prog 59 #[.int .i32 c] w fun e w' => e = .returned (.bool (!PS.signB c)) ∧ w = w' := by
  go_enter Tryd.func59, Tryd.ntmps59
  go_wp2_with (go_at_call 60; refine (sign_any c _ h0 h1).mono ?_; rintro e w' ⟨rfl, rfl⟩)
  go_ret
  exact ⟨rfl, rfl⟩

theorem part1_grows (w : World) : PredGrows Tryd.prog 59 #[] (fun x => !PS.signB (x : Int)) w := fun W x hx _ =>
  (part1_any (x : Int) W (by omega) (by omega)).mono fun _ _ ⟨he, hw⟩ => ⟨he, hw ▸ Below.refl _ _⟩

theorem signs_any (s : ByteArray) (w : World) :
    Calls Tryd.prog 58 #[.string s, .func (.func 59) #[] #[]] w fun e w' => e = .returned (.bool (!s.data.toList.all PS.signOk)) ∧ Below w.heap.size w w' :=
  (Tryd.strings_ContainsFunc_grows 59 #[] (enters_of Tryd.func59 (by kernel_rfl) rfl) _ s w (part1_grows w)).mono fun _ _ ⟨he, hb⟩ => ⟨by rw [he, PS.idx_sign], hb⟩

theorem partOk_of (s : ByteArray) (q : Bool) (h : s.data.toList.all PS.signOk = q) :
    PS.partOk s.data.toList = (!s.toList.isEmpty && decide ((s.size : Int) ≤ 64) && !(s.toList == [46]) && !(s.toList == [46, 46]) && q) := by
  rw [ByteArray.toList_eq, ← h]
  have e : decide ((s.size : Int) ≤ 64) = decide (s.data.toList.length ≤ 64) := by
    rw [Array.length_toList]
    show decide ((s.data.size : Int) ≤ 64) = _
    rw [decide_eq_decide]
    omega
  rw [e]
  rfl

set_option maxHeartbeats 400000 in
theorem part_any (s : ByteArray) (w : World) (hs : s.size ≤ 281474976710656) :
    Calls Tryd.prog 49 #[.string s] w fun e w' => e = .returned (.bool (PS.partOk s.data.toList)) ∧ Below w.heap.size w w' := by
  obtain ⟨q, hq⟩ : ∃ q, s.data.toList.all PS.signOk = q := ⟨_, rfl⟩
  have cf := signs_any s
  rw [hq] at cf
  rw [partOk_of s q hq]
  have CF := Lib.hid cf
  clear cf hq
  go_enter Tryd.func49, Tryd.ntmps49
  go_wp2_with (go_at_call 58; refine (CF.out _).mono ?_; rintro e w' ⟨rfl, hb⟩)
  all_goals
    go_ret
    refine ⟨ret_bool ?_, by first | assumption | exact Below.refl _ _⟩
    first | (simp [*]; done) | (simp [*]; intro h; omega)
end Go.Proofs.YtgbogkmbgedkkaaDoor
