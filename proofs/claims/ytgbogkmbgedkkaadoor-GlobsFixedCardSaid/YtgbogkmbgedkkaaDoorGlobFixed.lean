/- globs.Fixed: what all that a pattern matches begins with. -/
import Derived.Test.YtgbogkmbgedkkaaDoorGlobMay
import Derived.Test.YtgbogkmbgedkkaaDoorGlobOne
namespace Go.Proofs.YtgbogkmbgedkkaaDoor
open Go.RowKit Go.Shelf

theorem plain_step (l : List UInt8) (k : Nat) (h : k < l.length) : GS.plainHead (l.drop k) = if l[k] = 42 ∨ l[k] = 63 then [] else l[k] :: GS.plainHead (l.drop (k + 1)) := by
  rw [List.drop_eq_getElem_cons h]
  rfl
theorem extract_list (p : ByteArray) (k : Nat) : (p.extract 0 k).data.toList = p.data.toList.take k := by
  simp [ByteArray.data_extract]

set_option maxHeartbeats 2000000 in
set_option maxRecDepth 100000 in
theorem fixed_any (p : ByteArray) (m : Int) (w : World) (hp : p.size ≤ 1000000) (hm : w.cell? ⟨0, 0, none⟩ = some (.int .i64 m)) :
    Calls Tryd.prog 13 #[.string p] w fun e w' => (∃ r, e = .returned (.string r) ∧ r.data.toList = GS.fixed p.data.toList) ∧ Below w.heap.size w w' := by
  have lp : p.data.toList.length = p.size := Array.length_toList
  have cg := gmay_any p m w hp hm
  obtain ⟨F, hF⟩ : ∃ F, GS.fixed p.data.toList = F := ⟨_, rfl⟩
  have hF' := hF
  unfold GS.fixed at hF'
  rw [hF]
  obtain ⟨a, ha⟩ : ∃ a, GS.may p.data.toList = a := ⟨_, rfl⟩
  rw [ha] at hF' cg
  have CG := Lib.hid cg
  have LP := Lib.hid lp
  clear cg hF hm ha lp
  cases a with
  | false =>
    have HF := Lib.hid hF'
    clear hF'
    go_enter Tryd.func13, Tryd.ntmps13
    go_wp2_with (first | (go_at_call 9; refine CG.out.mono ?_; rintro e w1 ⟨rfl, hb1⟩))
    go_ret
    exact ⟨⟨_, rfl, by rw [← HF.out]; rfl⟩, hb1⟩
  | true =>
    rw [if_pos rfl] at hF'
    have HF := Lib.hid hF'
    clear hF'
    go_enter Tryd.func13, Tryd.ntmps13
    go_wp2_with (first | (go_at_call 9; refine CG.out.mono ?_; rintro e w1 ⟨rfl, hb1⟩))
    have HB := Lib.hid hb1
    clear hb1
    go_loop [9] (fun i => ∃ k : Nat, k ≤ p.size ∧ i = .int .i64 k ∧ F = p.data.toList.take k ++ GS.plainHead (p.data.toList.drop k)) (fun i => p.size - (intOf i).toNat)
    case atStart => exact ⟨0, by omega, rfl, by simpa using HF.out.symm⟩
    case round =>
      obtain ⟨k, hk, rfl, hG⟩ := hrel
      by_cases hlt : k < p.size
      · obtain ⟨c, hc⟩ : ∃ c, p[k] = c := ⟨_, rfl⟩
        have hidx : ∀ h : k < p.size, (p[k].toNat : Int) = (c.toNat : Int) := fun _ => by rw [hc]
        have hst := plain_step p.data.toList k (by rw [LP.out]; exact hlt)
        rw [show p.data.toList[k]'(by rw [LP.out]; exact hlt) = c from hc] at hst
        rw [hst] at hG
        have e42 : ((c.toNat : Int) == 42) = (c == 42) := byte_eq_int c 42
        have e63 : ((c.toNat : Int) == 63) = (c == 63) := byte_eq_int c 63
        have htk : p.data.toList.take (k + 1) = p.data.toList.take k ++ [c] := by
          rw [List.take_succ_eq_append_getElem (by rw [LP.out]; exact hlt)]
          congr 2
        have HT := Lib.hid htk
        clear hst hc htk
        by_cases h42 : c = 42
        · have q42 : (c == 42) = true := by simpa using h42
          rw [q42] at e42
          rw [if_pos (Or.inl h42), List.append_nil] at hG
          have HG := Lib.hid hG
          clear hG h42 q42 e63
          go_wp2_with fail
          go_ret
          exact ⟨⟨_, rfl, by rw [HG.out]; exact extract_list p k⟩, HB.out⟩
        · have q42 : (c == 42) = false := by simpa using h42
          rw [q42] at e42
          by_cases h63 : c = 63
          · have q63 : (c == 63) = true := by simpa using h63
            rw [q63] at e63
            rw [if_pos (Or.inr h63), List.append_nil] at hG
            have HG := Lib.hid hG
            clear hG h42 q42 h63 q63
            go_wp2_with fail
            go_ret
            exact ⟨⟨_, rfl, by rw [HG.out]; exact extract_list p k⟩, HB.out⟩
          · have q63 : (c == 63) = false := by simpa using h63
            rw [q63] at e63
            rw [if_neg (fun h => h.elim h42 h63)] at hG
            have HG := Lib.hid hG
            clear hG h42 q42 h63 q63
            go_wp2_with fail
            go_round
            case rel => exact ⟨k + 1, by omega, by go_num, by rw [HT.out, HG.out]; simp⟩
            case measure => simp [intOf]; omega
      · obtain rfl : k = p.size := by omega
        rw [List.drop_of_length_le (by rw [LP.out]; exact Nat.le_refl _), List.take_of_length_le (by rw [LP.out]; exact Nat.le_refl _)] at hG
        have HG := Lib.hid hG
        clear hG
        go_wp2_with fail
        go_ret
        exact ⟨⟨_, rfl, by rw [HG.out]; simp [GS.plainHead]⟩, HB.out⟩
end Go.Proofs.YtgbogkmbgedkkaaDoor
