/- Plain facts on paths (layer 3): which byte may stand in a part, which text is a part, a text cut at its strokes, which text is a path, which lies below a directory. No program in sight. -/
import Derived.Shelf.GgClosure.StringsIndexFunc
namespace Go.Proofs.YtgbogkmbgedkkaaDoor
namespace PS

/-- A rune (or a byte) that may stand in a part. -/
def signB (c : Int) : Bool := (decide (97 ≤ c) && decide (c ≤ 122)) || (decide (65 ≤ c) && decide (c ≤ 90)) || (decide (48 ≤ c) && decide (c ≤ 57)) || c == 95 || c == 46 || c == 45 || c == 43
def signOk (b : UInt8) : Bool := signB (b.toNat : Int)
def partOk (l : List UInt8) : Bool := !l.isEmpty && decide (l.length ≤ 64) && !(l == [46]) && !(l == [46, 46]) && l.all signOk
/-- A text cut at its strokes. -/
def split : List UInt8 → List (List UInt8)
  | [] => [[]]
  | c :: r => if c = 47 then [] :: split r else match split r with
    | [] => [[c]]
    | p :: ps => (c :: p) :: ps
def may (l : List UInt8) : Bool := decide ((split l).length ≤ 16) && (split l).all partOk
/-- Below a directory ([]: the top). -/
def under (s dir : List UInt8) : Bool := may s && (dir.isEmpty || (may dir && (dir ++ [47]).isPrefixOf s))

theorem signB_big {c : Int} (h : 128 ≤ c) : signB c = false := by
  unfold signB
  simp
  omega

theorem split_ne (l : List UInt8) : split l ≠ [] := by
  cases l with
  | nil => simp [split]
  | cons c r =>
    unfold split
    split
    · simp
    · split <;> simp

theorem decode_ascii (s : ByteArray) (pos : Nat) (h : pos < s.size) (h1 : (s[pos]).toNat < 128) : Utf8.decode s pos = ((s[pos]).toNat, 1) := by
  have e : s.get! pos = s[pos] := by simp [ByteArray.get!, getElem!_pos, h]; rfl
  unfold Utf8.decode
  simp only [Nat.add_zero, e]
  rw [if_pos h1]

theorem decode_wide (s : ByteArray) (pos : Nat) (h : pos < s.size) (h1 : 128 ≤ (s[pos]).toNat) : 128 ≤ (Utf8.decode s pos).1 := by
  have e : s.get! pos = s[pos] := by simp [ByteArray.get!, getElem!_pos, h]; rfl
  unfold Utf8.decode
  simp only [Nat.add_zero, e]
  rw [if_neg (by omega)]
  have hr : 128 ≤ Utf8.runeError := by decide
  split
  · split
    · omega
    · exact hr
  · split
    · split
      · rename_i h2; simp at h2; omega
      · exact hr
    · split
      · split
        · rename_i h2; simp at h2; omega
        · exact hr
      · exact hr

theorem idx_from (s : ByteArray) : ∀ (f pos : Nat), s.size ≤ pos + f → decide (0 ≤ Lib.idxFuncFrom (fun x => !signB (x : Int)) true s f pos) = !((s.data.toList.drop pos).all signOk)
  | 0, pos, hf => by
    have : s.data.toList.drop pos = [] := List.drop_eq_nil_of_le (by simpa using hf)
    rw [this]
    simp [Lib.idxFuncFrom]
  | f + 1, pos, hf => by
    unfold Lib.idxFuncFrom
    by_cases h : pos < s.size
    · rw [if_pos h]
      have hl : pos < s.data.toList.length := by simpa using h
      have hd : s.data.toList.drop pos = s[pos] :: s.data.toList.drop (pos + 1) := by
        rw [List.drop_eq_getElem_cons hl]; rfl
      rw [hd, List.all_cons]
      by_cases hb : (s[pos]).toNat < 128
      · rw [decode_ascii s pos h hb]
        have ih := idx_from s f (pos + 1) (by omega)
        by_cases hs : signOk s[pos] = true
        · have hs' : signB ((s[pos]).toNat : Int) = true := hs
          simp only [hs', hs, Bool.not_true, Bool.true_and]
          rw [if_neg (by simp)]
          exact ih
        · have hs' : signB ((s[pos]).toNat : Int) = false := by simpa [signOk] using hs
          have hs2 : signOk s[pos] = false := by simpa using hs
          simp [hs', hs2]
      · have hw := decode_wide s pos h (by omega)
        have h1 : signB ((Utf8.decode s pos).1 : Int) = false := signB_big (by omega)
        have h2 : signOk s[pos] = false := signB_big (by omega)
        simp [h1, h2]
    · rw [if_neg h]
      have : s.data.toList.drop pos = [] := List.drop_eq_nil_of_le (by simpa using h)
      rw [this]
      simp

theorem idx_sign (s : ByteArray) : decide (0 ≤ Lib.idxFunc (fun x => !signB (x : Int)) true s) = !(s.data.toList.all signOk) := by
  unfold Lib.idxFunc
  have := idx_from s s.size 0 (by omega)
  simpa using this

end PS
end Go.Proofs.YtgbogkmbgedkkaaDoor
