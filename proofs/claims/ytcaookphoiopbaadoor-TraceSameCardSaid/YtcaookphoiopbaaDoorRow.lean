/- pack.Num, pack.Row: a number's text; a row of texts as bytes. -/
import Derived.Test.YtcaookphoiopbaaDoorBuilder
import Derived.WalkSmall
import Derived.Lib.AppendIntMem
import Derived.Lib.ItoaLen
namespace Go.Proofs.YtcaookphoiopbaaDoor
open Go.RowKit Go.Shelf Go.Sort

namespace PK
/-- A text in a row. -/
def piece (s : List UInt8) : List UInt8 := Lib.itoa (s.length : Int) ++ (58 :: s)
def row (l : List (List UInt8)) : List UInt8 := l.flatMap piece
theorem row_snoc (l : List (List UInt8)) (s : List UInt8) : row (l ++ [s]) = row l ++ piece s := by simp [row]
theorem piece_len (s : List UInt8) (h : s.length ≤ 9223372036854775807) : (piece s).length ≤ 22 + s.length := by
  have := Lib.itoa_length_le (s.length : Int) (by omega) (by omega)
  simp [piece]; omega
theorem row_len : ∀ (l : List (List UInt8)) (m : Nat), m ≤ 1000000 → (∀ s ∈ l, s.length ≤ m) → (row l).length ≤ l.length * (m + 22)
  | [], _, _, _ => by simp [row]
  | s :: l, m, hm, h => by
    have h1 := row_len l m hm (fun x hx => h x (by simp [hx]))
    have h2 := h s (by simp)
    have h3 := piece_len s (by omega)
    have e : row (s :: l) = piece s ++ row l := by simp [row]
    rw [e, List.length_append, List.length_cons, Nat.add_mul]
    omega
end PK

/-- The library's table of powers lies as it is laid. -/
def Pow (w : World) : Prop := Lib.TabIs Tryd.prog w "internal/strconv.uint64pow10" .u64 Lib.pow10Tab
theorem powAt : Tryd.prog.globalNamed "internal/strconv.uint64pow10" = some 0 := by kernel_rfl
theorem Pow.lt {w : World} (h : Pow w) : 0 < w.heap.size := by
  unfold Pow Lib.TabIs World.var? at h
  simp only [powAt, Option.bind_some] at h
  cases e : w.heap[0]? with
  | none => simp [e] at h
  | some o => exact lt_of_block e
theorem Pow.below {w w' : World} (h : Pow w) (hb : Below w.heap.size w w') : Pow w' := var?_below hb powAt h.lt h

theorem itoa_any (n : Int) (w : World) (h0 : -9223372036854775808 ≤ n) (h1 : n ≤ 9223372036854775807) (hp : Pow w) :
    Calls Tryd.prog 67 #[.int .i64 n] w fun e w' => e = .returned (.string ⟨(Lib.itoa n).toArray⟩) ∧ Below w.heap.size w w' :=
  (Tryd.strconv_Itoa n h0 h1 w hp).mono fun _ _ ⟨he, k, os, hw⟩ => ⟨he, hw ▸ Lib.below_grow _ w (Nat.le_refl _) k os⟩

set_option maxHeartbeats 400000 in
theorem num_any (n : Int) (w : World) (h0 : -9223372036854775808 ≤ n) (h1 : n ≤ 9223372036854775807) (hp : Pow w) :
    Calls Tryd.prog 42 #[.int .i64 n] w fun e w' => e = .returned (.string ⟨(Lib.itoa n).toArray⟩) ∧ Below w.heap.size w w' := by
  have hc := Tryd.strconv_FormatInt_10 n h0 h1 w hp
  obtain ⟨s, hs⟩ : ∃ s, (⟨(Lib.itoa n).toArray⟩ : ByteArray) = s := ⟨_, rfl⟩
  rw [hs] at hc ⊢
  have HC := Lib.hid hc
  clear hc hs
  go_enter Tryd.func42, Tryd.ntmps42
  go_wp2_with (go_at_call 65; refine HC.out.mono ?_; rintro e w' ⟨rfl, k, os, hw⟩; have hb := Lib.below_grow w.heap.size w (Nat.le_refl _) k os; rw [← hw] at hb; clear hw)
  go_ret
  exact ⟨rfl, hb⟩

/-- A builder stays while new memory is made. -/
theorem builderAt_below {T e : TypeId} {B b : Nat} {p : Value} {bs : List Value} {w w' : World} (h : Lib.BuilderAt T e B b p bs w) (hb : Below w.heap.size w w') : Lib.BuilderAt T e B b p bs w' := by
  obtain ⟨h1, v, h2, h3, h4⟩ := h
  exact ⟨h1, v, heap_below hb h2, h3.kept (row := none) ⟨hb.os, hb.tape, hb.output, hb.size, fun i hi _ => hb.block i hi⟩ (by cases v.ownBlock <;> simp), h4⟩
theorem isBuilder_below {T e : TypeId} {B b : Nat} {bs : List Value} {w w' : World} (h : Lib.IsBuilder T e B b bs w) (hb : Below w.heap.size w w') : Lib.IsBuilder T e B b bs w' :=
  h.imp (fun h => builderAt_below h hb) (fun h => builderAt_below h hb)

def encS (s : ByteArray) : List Value := [.string s]

theorem row_step (l : List (List UInt8)) (s : ByteArray) : Lib.byteCells (PK.row l) ++ Lib.strCells ⟨(Lib.itoa (s.size : Int)).toArray⟩ ++ [Value.int .u8 58] ++ Lib.strCells s = Lib.byteCells (PK.row (l ++ [s.data.toList])) := by
  rw [PK.row_snoc]
  have e : s.data.toList.length = s.size := by rw [Array.length_toList]; rfl
  simp [Lib.byteCells, Lib.strCells, PK.piece, e]

set_option maxHeartbeats 2000000 in
set_option maxRecDepth 100000 in
theorem row_any (A : Option Addr) (n c : Nat) (ls : List ByteArray) (w : World) (hE : Elems encS 1 w A n c ls) (hn : n ≤ 1000000) (hs : ∀ s ∈ ls, s.size ≤ 1000000) (hp : Pow w) :
    Calls Tryd.prog 43 #[.slice A n c] w fun e w' => e = .returned (.string ⟨(PK.row (ls.map fun s => s.data.toList)).toArray⟩) ∧ Below w.heap.size w w' := by
  obtain ⟨res, hres⟩ : ∃ res, (⟨(PK.row (ls.map fun s => s.data.toList)).toArray⟩ : ByteArray) = res := ⟨_, rfl⟩
  rw [hres]
  have HRES := Lib.hid hres
  clear hres
  go_enter Tryd.func43, Tryd.ntmps43
  go_wp2
  go_loopw [8] (fun i wr => ∃ k : Nat, k ≤ n ∧ i = .int .i64 k ∧ Below w.heap.size w wr ∧ Lib.IsBuilder 105 5 w.heap.size w.heap.size (Lib.byteCells (PK.row ((ls.take k).map fun s => s.data.toList))) wr) (fun i _ => n - (intOf i).toNat)
  case atStart => exact ⟨0, by omega, rfl, below_box _, Lib.fresh_isBuilder _ _ w⟩
  case round =>
    obtain ⟨k, hk, rfl, hbW, hB⟩ := hrel
    by_cases hlt : k < n
    · obtain ⟨b, o, rfl, hbl, hel⟩ := hE.at_ (by omega)
      have hlen := hE.len
      obtain ⟨s, hm⟩ : ∃ s, ls[k]? = some s := ⟨ls[k], by simp⟩
      have hcell : wr.cell? ⟨b, o + k, none⟩ = some (.string s) := by
        have := range_low hbW hbl (hel k s hm) 0 _ rfl
        simpa using this
      have hss := hs s (List.mem_of_getElem? hm)
      have hpw := hp.below hbW
      obtain ⟨ns, hns⟩ : ∃ ns, (⟨(Lib.itoa (s.size : Int)).toArray⟩ : ByteArray) = ns := ⟨_, rfl⟩
      have hnl : ns.size ≤ 21 := by
        rw [← hns]
        have := Lib.itoa_length_le (s.size : Int) (by omega) (by omega)
        show (Lib.itoa (s.size : Int)).toArray.size ≤ 21
        simpa using this
      obtain ⟨bs, hbs⟩ : ∃ bs, Lib.byteCells (PK.row ((ls.take k).map fun s => s.data.toList)) = bs := ⟨_, rfl⟩
      have hbl2 : bs.length ≤ 1000022000000 := by
        rw [← hbs, Lib.byteCells_length]
        have h1 := PK.row_len ((ls.take k).map fun s => s.data.toList) 1000000 (by omega) (fun x hx => by
          obtain ⟨y, hy, rfl⟩ := List.mem_map.1 hx
          have := hs y (List.mem_of_mem_take hy)
          rw [Array.length_toList]; exact this)
        have h2 : ((ls.take k).map fun s => s.data.toList).length ≤ 1000000 := by simp; omega
        omega
      have hstep : bs ++ Lib.strCells ns ++ [Value.int .u8 58] ++ Lib.strCells s = Lib.byteCells (PK.row ((ls.take (k + 1)).map fun s => s.data.toList)) := by
        rw [← hbs, ← hns, row_step, List.take_add_one, hm]
        simp
      rw [hbs] at hB
      have ci := itoa_any (s.size : Int) wr (by omega) (by omega) hpw
      rw [hns] at ci
      have CI := Lib.hid ci
      have HST := Lib.hid hstep
      clear ci hns hbs hstep hm hel hlen hpw HRES
      go_wp2_with fail
      refine CI.out.mono ?_
      rintro e w1 ⟨rfl, hb1⟩
      have hB1 := isBuilder_below hB hb1
      have hz1 : w.heap.size ≤ w1.heap.size := Nat.le_trans hbW.size hb1.size
      go_wp2_with fail
      refine (writeString_any w.heap.size w.heap.size bs ns w1 hB1 (by omega) hz1).mono ?_
      rintro e w2 ⟨rfl, hB2, hb2⟩
      go_wp2_with fail
      refine (writeByte_any w.heap.size w.heap.size _ 58 w2 (.inr hB2) (by simp [Lib.strCells_length]; omega) (Nat.le_trans hz1 hb2.size)).mono ?_
      rintro e w3 ⟨rfl, hB3, hb3⟩
      go_wp2_with fail
      refine (writeString_any w.heap.size w.heap.size _ s w3 (.inr hB3) (by simp [Lib.strCells_length]; omega) (Nat.le_trans (Nat.le_trans hz1 hb2.size) hb3.size)).mono ?_
      rintro e w4 ⟨rfl, hB4, hb4⟩
      go_wp2_with fail
      go_roundw
      case rel => exact ⟨k + 1, by omega, by go_num, (((below_then hbW hbW.size hb1).trans hb2).trans hb3).trans hb4, .inr (by rw [← HST.out]; exact hB4)⟩
      case measure => simp [intOf]; omega
    · obtain rfl : k = n := by omega
      rw [List.take_of_length_le (by rw [hE.len]; omega)] at hB
      have cs := Tryd.Builder_String_any w.heap.size w.heap.size _ wr hB hbW.size
      rw [HRES.out] at cs
      have CS := Lib.hid cs
      clear cs hB HRES
      go_wp2_with fail
      refine CS.out.mono ?_
      rintro e w1 ⟨rfl, hb1⟩
      go_wp2_with fail
      go_ret
      exact ⟨rfl, hbW.trans hb1⟩
end Go.Proofs.YtcaookphoiopbaaDoor
