/- trace.Bytes: the bytes of a trace. -/
import Derived.Test.YtcaookphoiopbaaDoorTraceCheck
import Derived.Test.YtcaookphoiopbaaDoorTraceSum
import Derived.Test.YtcaookphoiopbaaDoorTracePure
import Derived.Test.YtcaookphoiopbaaDoorRow
import Derived.Deep.RegionHeld3
import Derived.Deep.AppendLies
import Derived.Deep.CutBlock
import Derived.Deep.DeepCutAuto
namespace Go.Proofs.YtcaookphoiopbaaDoor
open Go.RowKit Go.Shelf

theorem Pow.drew {w : World} (h : Pow w) : Pow w.drew := h.below ⟨rfl, rfl, rfl, Nat.le_refl _, fun _ _ => rfl⟩
theorem below_drew1 {B : Nat} {A X : World} (h : Below B A X) : Below B A X.drew := ⟨h.os, h.tape, h.output, h.size, h.block⟩
theorem range_drew {X : World} {b o : Nat} {cs : List Value} (h : X.rangeAt b o cs) : X.drew.rangeAt b o cs := h
theorem cell_drew {X : World} {a : Addr} {v : Value} (h : X.cell? a = some v) : X.drew.cell? a = some v := h

theorem keep4_drew {a : Addr} {v : Value} {b o B : Nat} {cs : List Value} {A X : World} (h : X.cell? a = some v ∧ X.rangeAt b o cs ∧ Pow X ∧ Below B A X) : X.drew.cell? a = some v ∧ X.drew.rangeAt b o cs ∧ Pow X.drew ∧ Below B A X.drew :=
  ⟨h.1, h.2.1, h.2.2.1.drew, below_drew1 h.2.2.2⟩
theorem keep4_call {a : Addr} {v : Value} {b o : Nat} {cs : List Value} {A X Y : World} (hb : Below X.heap.size X Y) (h : X.cell? a = some v ∧ X.rangeAt b o cs ∧ Pow X ∧ Below A.heap.size A X) : Y.cell? a = some v ∧ Y.rangeAt b o cs ∧ Pow Y ∧ Below A.heap.size A Y :=
  ⟨cell_below hb h.1, range_below hb h.2.1, h.2.2.1.below hb, below_then h.2.2.2 h.2.2.2.size hb⟩

theorem keep4_alloc {a : Addr} {v : Value} {b o : Nat} {cs : List Value} {A X : World} {ob : Obj} (h : X.cell? a = some v ∧ X.rangeAt b o cs ∧ Pow X ∧ Below A.heap.size A X) : (X.alloc ob).cell? a = some v ∧ (X.alloc ob).rangeAt b o cs ∧ Pow (X.alloc ob) ∧ Below A.heap.size A (X.alloc ob) :=
  keep4_call (below_box _) h

theorem keep2_drew {b o o' : Nat} {v : Value} {cs : List Value} {X : World} (h : X.cell? ⟨b, o, none⟩ = some v ∧ X.rangeAt b o' cs) : X.drew.cell? ⟨b, o, none⟩ = some v ∧ X.drew.rangeAt b o' cs := h
theorem keep2_call {b o o' : Nat} {v : Value} {cs : List Value} {X Y : World} (hb : Below X.heap.size X Y) (h : X.cell? ⟨b, o, none⟩ = some v ∧ X.rangeAt b o' cs) : Y.cell? ⟨b, o, none⟩ = some v ∧ Y.rangeAt b o' cs := ⟨cell_below hb h.1, range_below hb h.2⟩
theorem keep2_alloc {b o o' : Nat} {v : Value} {cs : List Value} {X : World} {ob : Obj} (h : X.cell? ⟨b, o, none⟩ = some v ∧ X.rangeAt b o' cs) : (X.alloc ob).cell? ⟨b, o, none⟩ = some v ∧ (X.alloc ob).rangeAt b o' cs := keep2_call (below_box _) h
theorem keep2_row {b o o' : Nat} {v : Value} {cs : List Value} {X Y : World} {row : Option Nat} (hg : X.grownBy Y row) (hne : some b ≠ row) (h : X.cell? ⟨b, o, none⟩ = some v ∧ X.rangeAt b o' cs) : Y.cell? ⟨b, o, none⟩ = some v ∧ Y.rangeAt b o' cs := by
  have hlt := World.block_lt_of_cell? X _ h.1
  have e := hg.block b hlt hne
  exact ⟨(World.cell?_of_block e).trans h.1, fun j u hu => (World.cell?_of_block e).trans (h.2 j u hu)⟩

namespace TB
def numS (t : TraceD) : ByteArray := ⟨(Lib.itoa (t.reads.length : Int)).toArray⟩
def rowR (r : ReadD) : List ByteArray := [r.path, if r.is_ = true then r.sum.str else ⟨#[]⟩]
def rowO (m : MadeD) : List ByteArray := [m.path, m.sum.str]
def texts (t : TraceD) : List ByteArray := [t.key.str, numS t] ++ t.reads.flatMap rowR ++ t.outs.flatMap rowO
/-- A trace's bytes. -/
def bytes (t : TraceD) : ByteArray := ⟨(PK.row ((texts t).map fun s => s.data.toList)).toArray⟩
def upR (t : TraceD) (k : Nat) : List ByteArray := [t.key.str, numS t] ++ (t.reads.take k).flatMap rowR
def upO (t : TraceD) (k : Nat) : List ByteArray := [t.key.str, numS t] ++ t.reads.flatMap rowR ++ (t.outs.take k).flatMap rowO
end TB
def valS (ls : List ByteArray) : List Value := ls.map .string
theorem infoStr : (Tryd.prog.info? 9).map (fun i => (i.zero, i.size, i.bytes)) = some (some (.string ⟨#[]⟩), 1, 16) := by kernel_rfl

theorem reads_le {t : TraceD} (h : TS.checkErr t = 0) : t.reads.length ≤ 500 ∧ t.outs.length ≤ 1000 := by
  unfold TS.checkErr at h
  split at h
  · cases h
  · omega

/-- The texts that are gathered in a row of the call's own. -/
structure Gath (N : Nat) (w : World) (cs : List Value) (g n cap : Nat) (ls : List ByteArray) (W : World) : Prop where
  own : W.ownsRow (N + 1) 9 1 (.slice (some ⟨g, 0, none⟩) n cap) n (valS ls)
  box : W.heap[N]? = some (.cells cs.toArray 29 (0, 0))
  below : Below N w W
  lt : N < W.heap.size
  pow : Pow W
  ge : N + 1 ≤ g
  row : g < W.heap.size

theorem Gath.later {N : Nat} {w : World} {cs : List Value} {g n cap : Nat} {ls : List ByteArray} {W X : World} (h : Gath N w cs g n cap ls W) (hb : Below W.heap.size W X) : Gath N w cs g n cap ls X :=
  ⟨h.own.kept (row := none) ⟨hb.os, hb.tape, hb.output, hb.size, fun i hi _ => hb.block i hi⟩ (by simp [Value.ownBlock]), heap_below hb h.box, h.below.trans (hb.mono (Nat.le_of_lt h.lt)), Nat.lt_of_lt_of_le h.lt hb.size, h.pow.below hb, h.ge, Nat.lt_of_lt_of_le h.row hb.size⟩

theorem Gath.grown {N : Nat} {w : World} {cs : List Value} {g n cap g' n' cap' : Nat} {ls ls' : List ByteArray} {W X : World} (h : Gath N w cs g n cap ls W) (hg : W.grownBy X (some g))
    (hown : X.ownsRow (N + 1) 9 1 (.slice (some ⟨g', 0, none⟩) n' cap') n' (valS ls')) (hge : N + 1 ≤ g') (hlt : g' < X.heap.size) (hpw : 0 < N) : Gath N w cs g' n' cap' ls' X := by
  have hb : Below N w X := h.below.grown hg (Nat.le_of_lt h.lt) (fun j e => by cases e; have := h.ge; omega)
  refine ⟨hown, (hg.block N h.lt (by have := h.ge; simp; omega)).trans h.box, hb, Nat.lt_of_lt_of_le h.lt hg.size, ?_, hge, hlt⟩
  exact var?_below (B := N) ((Below.refl N W).grown hg (Nat.le_of_lt h.lt) (fun j e => by cases e; have := h.ge; omega)) powAt hpw h.pow

theorem gath_start {t : TraceD} {w w1 w3 : World} {cs : List Value} (hp : Pow w) (h1 : Below (w.alloc (.cells cs.toArray 29)).heap.size (w.alloc (.cells cs.toArray 29)) w1) (h3 : Below w1.heap.size w1 w3) :
    Gath w.heap.size w cs w3.heap.size 2 2 (TB.upR t 0) (w3.alloc (.cells #[.string t.key.str, .string (TB.numS t)] 9)) := by
  have hN : w.heap.size < w1.heap.size := Nat.lt_of_lt_of_le (by simp) h1.size
  have hN3 : w.heap.size < w3.heap.size := Nat.lt_of_lt_of_le hN h3.size
  have hbx : w3.heap[w.heap.size]? = some (.cells cs.toArray 29 (0, 0)) := heap_below h3 (heap_below h1 (World.alloc_heap_new w _))
  have hp3 : Pow w3 := ((hp.below (below_box _)).below h1).below h3
  refine ⟨?_, heap_below (below_box _) hbx, ?_, by simp; omega, hp3.below (below_box _), by omega, by simp⟩
  · have h := World.ownsRow_lit (base := w.heap.size + 1) (e := 9) (size := 1) w3 #[.string t.key.str, .string (TB.numS t)] 2 (by omega) (by unfold maxLen; omega) (by simp)
    simpa [TB.upR, valS] using h
  · exact below_then (below_then (below_then (below_box _) (by simp) h1) (Nat.le_of_lt hN) h3) (Nat.le_of_lt hN3) (below_box _)

theorem Gath.cell {N : Nat} {w : World} {cs : List Value} {g n cap : Nat} {ls : List ByteArray} {W : World} (h : Gath N w cs g n cap ls W) {j : Nat} {v : Value} (hv : cs[j]? = some v) : W.cell? ⟨N, j, none⟩ = some v := by
  rw [cell_of_row _ N j cs.toArray _ _ h.box]
  simpa using hv

theorem upR_step {t : TraceD} {k : Nat} {r : ReadD} (h : t.reads[k]? = some r) : TB.upR t (k + 1) = TB.upR t k ++ TB.rowR r := by
  unfold TB.upR
  rw [List.take_add_one, h]
  simp

/-- Two texts more. -/
theorem Gath.two {N : Nat} {w : World} {cs : List Value} {g n cap g' cap' : Nat} {ls : List ByteArray} {X Y : World} {s1 s2 : ByteArray} (h : Gath N w cs g n cap ls X)
    (hown : Y.ownsRow (N + 1) 9 1 (.slice (some ⟨g', 0, none⟩) (n + 2) cap') (n + 2) (valS ls ++ [.string s1, .string s2])) (hgr : (X.alloc (.cells #[.string s1, .string s2] 9)).grownBy Y (Value.slice (some ⟨g, 0, none⟩) n cap).ownBlock)
    (hat : (Value.slice (some ⟨g, 0, none⟩) n cap).ownBlock = some g' ∨ g' = X.heap.size + 1) (hlt : g' < Y.heap.size) (hpw : 0 < N) : Gath N w cs g' (n + 2) cap' (ls ++ [s1, s2]) Y := by
  refine (h.later (below_box _)).grown (g := g) (by simpa [Value.ownBlock] using hgr) (by simpa [valS] using hown) ?_ hlt hpw
  rcases hat with hat | hat
  · have := h.ge; simp [Value.ownBlock] at hat; omega
  · have := h.lt; omega
theorem Gath.box_two {N : Nat} {w : World} {cs : List Value} {g n cap : Nat} {ls : List ByteArray} {W X Y : World} {s1 s2 : ByteArray} {r : List Value} (h : Gath N w cs g n cap ls W) (_hb : Below W.heap.size W X) (hr : X.rangeAt W.heap.size 0 r)
    (hgr : (X.alloc (.cells #[.string s1, .string s2] 9)).grownBy Y (Value.slice (some ⟨g, 0, none⟩) n cap).ownBlock) : Y.rangeAt W.heap.size 0 r := by
  intro j v hv
  have h1 := hr j v hv
  have hlt := World.block_lt_of_cell? X _ h1
  have h2 := cell_below (below_box (.cells #[.string s1, .string s2] 9)) h1
  have h3 : Y.heap[W.heap.size]? = (X.alloc (.cells #[.string s1, .string s2] 9)).heap[W.heap.size]? := hgr.block W.heap.size (by simp; exact Nat.lt_succ_of_lt hlt) (by have := h.row; simp [Value.ownBlock]; omega)
  exact (World.cell?_of_block h3).trans h2

/-- The last of the texts, to be written over. -/
theorem Gath.last {N : Nat} {w : World} {cs : List Value} {g n cap : Nat} {ls : List ByteArray} {s1 s2 : ByteArray} {X : World} (h : Gath N w cs g (n + 2) cap (ls ++ [s1, s2]) X) :
    X.cell? ⟨g, n + 1, none⟩ = some (.string s2) ∧ X.frozen? ⟨g, n + 1, none⟩ = false := by
  have hl : ls.length = n := by
    have h1 := h.own.1
    simp [valS] at h1
    exact h1
  constructor
  · have := h.own.cells (g := g) rfl (n + 1) (.string s2) (by subst hl; simp [valS])
    rwa [Addr.add_mid, Nat.zero_add] at this
  · rcases h.own.2 with ⟨h', _⟩ | ⟨g', cap', cur, h', _, hh, _⟩
    · simp at h'
    · simp only [Value.slice.injEq, Option.some.injEq, Addr.mk.injEq, and_true, true_and] at h'
      obtain ⟨rfl, _⟩ := h'
      simp [World.frozen?, hh]
theorem Gath.put {N : Nat} {w : World} {cs : List Value} {g n cap : Nat} {ls : List ByteArray} {s1 s2 : ByteArray} {X : World} (h : Gath N w cs g (n + 2) cap (ls ++ [s1, s2]) X) (s3 : ByteArray) (hpw : 0 < N) :
    Gath N w cs g (n + 2) cap (ls ++ [s1, s3]) (X.setCell ⟨g, n + 1, none⟩ (.string s3)) := by
  have hl : ls.length = n := by
    have h1 := h.own.1
    simp [valS] at h1
    exact h1
  obtain ⟨h1, h2⟩ := h.own.stored (n + 1) (.string s3)
  have e : (valS (ls ++ [s1, s2])).set (n + 1) (.string s3) = valS (ls ++ [s1, s3]) := by
    subst hl
    simp [valS]
  rw [e] at h1
  refine h.grown h2 h1 h.ge ?_ hpw
  show g < (X.heap.modify _ _).size
  simp
  exact h.row

theorem num_size (t : TraceD) (h : t.reads.length ≤ 500) : (TB.numS t).size ≤ 21 := by
  have := Lib.itoa_length_le (t.reads.length : Int) (by omega) (by omega)
  show (Lib.itoa (t.reads.length : Int)).toArray.size ≤ 21
  simpa using this
theorem str_size (d : Dig) : d.str.size = 32 := by
  show d.bs.toArray.size = 32
  simp [d.len]
theorem texts_size {t : TraceD} (h : TS.checkErr t = 0) : ∀ s ∈ TB.texts t, s.size ≤ 1039 := by
  obtain ⟨h1, h2, h3, h4⟩ := TS.check_parts h
  intro s hs
  unfold TB.texts at hs
  simp only [List.mem_append, List.mem_cons, List.mem_nil_iff, or_false, List.mem_flatMap] at hs
  rcases hs with ((rfl | rfl) | ⟨r, hr, hs⟩) | ⟨m, hm, hs⟩
  · rw [str_size]; omega
  · have := num_size t h1; omega
  · simp only [TB.rowR, List.mem_cons, List.mem_nil_iff, or_false] at hs
    rcases hs with rfl | rfl
    · exact TS.size_may (TS.reads_all _ _ h3 r hr)
    · split
      · rw [str_size]; omega
      · exact Nat.zero_le _
  · simp only [TB.rowO, List.mem_cons, List.mem_nil_iff, or_false] at hs
    rcases hs with rfl | rfl
    · exact TS.size_may (TS.outs_all _ _ h4 m hm)
    · rw [str_size]; omega
/-- What was gathered, as a slice of texts. -/
theorem Gath.elems {N : Nat} {w : World} {cs : List Value} {g n cap : Nat} {ls : List ByteArray} {X : World} (h : Gath N w cs g n cap ls X) : Elems encS 1 X (some ⟨g, 0, none⟩) n cap ls := by
  have hl : ls.length = n := by
    have h1 := h.own.1
    simp [valS] at h1
    exact h1
  refine ⟨hl, ?_, fun _ => ⟨g, 0, rfl, h.row, fun j x hx i v hv => ?_⟩⟩
  · rcases h.own.2 with ⟨h', _⟩ | ⟨g', cap', cur, h', hb, hh, hc, _⟩
    · simp at h'
    · simp only [Value.slice.injEq, Option.some.injEq, Addr.mk.injEq, and_true, true_and] at h'
      obtain ⟨_, rfl⟩ := h'
      exact hc
  · obtain ⟨rfl, rfl⟩ : i = 0 ∧ v = .string x := by
      cases i with
      | zero => simp [encS] at hv; exact ⟨rfl, hv.symm⟩
      | succ i => simp [encS] at hv
    have := h.own.cells (g := g) rfl j (.string x) (by simp [valS, hx])
    rw [Addr.add_mid] at this
    simpa using this

theorem upO_step {t : TraceD} {k : Nat} {m : MadeD} (h : t.outs[k]? = some m) : TB.upO t (k + 1) = TB.upO t k ++ [m.path, m.sum.str] := by
  unfold TB.upO
  rw [List.take_add_one, h]
  simp [TB.rowO]
theorem upO_zero (t : TraceD) : TB.upO t 0 = TB.upR t t.reads.length := by simp [TB.upO, TB.upR]
theorem upO_all (t : TraceD) : TB.upO t t.outs.length = TB.texts t := by simp [TB.upO, TB.texts]

set_option maxHeartbeats 8000000 in
set_option maxRecDepth 100000 in
theorem bytes_ok (t : TraceD) (A : Option Addr) (c : Nat) (A' : Option Addr) (c' : Nat) (w : World) (hR : Elems ReadD.enc 34 w A t.reads.length c t.reads) (hO : Elems MadeD.enc 33 w A' t.outs.length c' t.outs) (hs : t.small) (hp : Pow w) (he : TS.checkErr t = 0) :
    Calls Tryd.prog 22 #[.agg (t.cells A c A' c').toArray] w fun e w' => e = .returned (.tuple #[.string (TB.bytes t), .int .i64 0]) ∧ Below w.heap.size w w' := by
  have hcc := fun W h k => check_any t A c A' c' W h k hs
  have hnr := (reads_le he).1
  have hno := (reads_le he).2
  obtain ⟨cs, hcs⟩ : ∃ cs, t.cells A c A' c' = cs := ⟨_, rfl⟩
  have h32 := box_cell 29 (t.cell32 A c A' c')
  have c32 := t.cell32 A c A' c'
  have c33 := t.cell33 A c A' c'
  have hlen := t.cells_len A c A' c'
  have hkey : ∀ W : World, (W.alloc (.cells cs.toArray 29)).rangeAt W.heap.size 0 t.key.enc := fun W => TraceD.cells_key (t := t) (A := A) (c := c) (A' := A') (c' := c') (by rw [hcs]; exact range_new W cs _)
  rw [hcs] at h32 hlen c32 c33 ⊢
  simp only [hcs, he] at hcc
  clear hcs
  have CC := Lib.hid hcc
  have HL := Lib.hid hlen
  have HK := Lib.hid hkey
  have HE := Lib.hid he
  have C2 := Lib.hid (And.intro c32 c33)
  obtain ⟨res, hres⟩ : ∃ res, TB.bytes t = res := ⟨_, rfl⟩
  rw [hres]
  have HRES := Lib.hid hres
  obtain ⟨num, hnum⟩ : ∃ num, TB.numS t = num := ⟨_, rfl⟩
  have cn := fun W h => num_any (t.reads.length : Int) W (by omega) (by omega) h
  have e0 : (⟨(Lib.itoa (t.reads.length : Int)).toArray⟩ : ByteArray) = num := hnum
  rw [e0] at cn
  have CN := Lib.hid cn
  have HNUM := Lib.hid hnum
  obtain ⟨i0, hi0, hz0, hz1, hz2⟩ := info_parts infoStr
  have HI := Lib.hid (And.intro hi0 (And.intro hz0 (And.intro hz1 hz2)))
  clear hcc hlen hkey he c32 c33 hres hnum cn e0 hi0 hz0 hz1 hz2
  go_enter Tryd.func22, Tryd.ntmps22
  go_wp2_with (first | (refine wpList_load_mid rfl 29 _ rfl w.heap.size 0 rfl cs _ (range_new w cs _) Tryd.underlying29 rfl (by rw [HL.out]; kernel_rfl) ?_) | (go_at_call 13; refine (CC.out _ (hR.below (below_box _)) (hO.below (below_box _))).mono ?_; rintro e w1 ⟨rfl, hb1⟩; have hc1 := cell_below hb1 (h32 w); have hk1 := range_below hb1 (HK.out w)))
  have hu25 := Tryd.underlying25
  have hi25 : (Tryd.prog.info? 25).map (·.size) = some t.key.enc.length := by rw [t.key.enc_len]; kernel_rfl
  have hp1 : Pow w1 := (hp.below (below_box _)).below hb1
  have hbr := Below.refl w1.heap.size w1
  go_region_held3 (fun w' => w'.cell? ⟨w.heap.size, 32, none⟩ = some (.slice A t.reads.length c) ∧ w'.rangeAt w.heap.size 0 t.key.enc ∧ Pow w' ∧ Below w1.heap.size w1 w')
    ((first | (refine keep4_drew ?_; first | assumption | exact ⟨by assumption, by assumption, by assumption, by assumption⟩) | (refine keep4_alloc ?_; assumption) | (refine keep4_call (by assumption) ?_; assumption)))
    (first | (go_at_call 41; refine (sum_any t.key _).mono ?_; rintro e w2 ⟨rfl, hb2⟩; have hp2 := hp1.drew.below hb2) | (go_at_call 42; refine (CN.out _ hp2).mono ?_; rintro e w3 ⟨rfl, hb3⟩))
  have hb13 : Below w1.heap.size w1 w3 := below_then (below_then (below_drew1 hbr) (Nat.le_refl _) hb2) hb2.size hb3
  have hG := gath_start (t := t) hp hb1 hb13
  rw [HNUM.out] at hG
  obtain ⟨W4, hW4⟩ : ∃ W4, w3.alloc (.cells #[.string t.key.str, .string num] 9) = W4 := ⟨_, rfl⟩
  obtain ⟨N, hN⟩ : ∃ N, w.heap.size = N := ⟨_, rfl⟩
  rw [hW4] at hG ⊢
  obtain ⟨g0, hg0⟩ : ∃ g0, w3.heap.size = g0 := ⟨_, rfl⟩
  rw [hg0, hN] at hG
  rw [hg0]
  have hc32 := hG.cell C2.out.1
  have HG := Lib.hid hG
  have hpl := hp.lt
  rw [hN] at hpl
  have HPL := Lib.hid hpl
  have hwN : w.heap.size ≤ N := by omega
  have hNw : N ≤ w.heap.size := by omega
  have HN := Lib.hid hN
  clear hW4 hG hb1 hb2 hb3 hb13 hp1 hp2 hbr hu25 hi25 hc1 hk1 h32 hg0 hpl CC CN HK HL
  rw [hN]
  clear hN
  go_wp2_with fail
  go_loopw [5, 26] (fun v i wr => ∃ k g cap : Nat, k ≤ t.reads.length ∧ i = .int .i64 k ∧ v = .slice (some ⟨g, 0, none⟩) (2 + 2 * k) cap ∧ Gath N w cs g (2 + 2 * k) cap (TB.upR t k) wr) (fun _ i _ => t.reads.length - (intOf i).toNat)
  case atStart => exact ⟨0, g0, 2, by omega, rfl, rfl, HG.out⟩
  case round =>
    obtain ⟨k, g, cap, hk, rfl, rfl, hG⟩ := hrel
    clear HG hc32
    by_cases hlt : k < t.reads.length
    · obtain ⟨b, o, rfl, hbl, hel⟩ := hR.at_ (by omega)
      obtain ⟨r, hm⟩ : ∃ r, t.reads[k]? = some r := ⟨t.reads[k], by simp⟩
      have hbN : b < N := Nat.lt_of_lt_of_le hbl hwN
      have hrg := range_low hG.below hbN (hel k r hm)
      have HR := Lib.hid hrg
      have HM := Lib.hid hm
      obtain ⟨n, hn⟩ : ∃ n, 2 + 2 * k = n := ⟨_, rfl⟩
      rw [hn] at hG
      have HG := Lib.hid hG
      have HNN := Lib.hid hn
      obtain ⟨hi0, hz0, hz1, hz2⟩ := HI.out
      have HII := Lib.hid (And.intro hi0 (And.intro hz0 (And.intro hz1 hz2)))
      clear hi0 hz0 hz1 hz2
      rw [hn]
      have hnb : n ≤ 1002 := by omega
      clear hrg hel hm hG hn
      cases his : r.is_ with
      | true =>
        have HIS := Lib.hid his
        clear his
        go_wp2_with (first | (refine wpList_load_mid rfl 32 _ rfl b (o + k * 34) rfl r.enc _ HR.out Tryd.underlying32 rfl (by rw [r.enc_len]; kernel_rfl) ?_) | (refine wpList_store_new rfl 32 _ _ rfl _ r.enc rfl rfl (by simp [r.enc_len]) (by rw [r.enc_len]; kernel_rfl) r.enc_one ?_; refine wpList_name ?_; intro X hX; obtain ⟨hbX, hsX, hrX⟩ := box_facts hX; have hc0 := (ReadD.cells hrX).1; have HRX := Lib.hid hrX; have HGX := Lib.hid (HG.out.later hbX); have HBX := Lib.hid hbX; clear hX hrX hbX hsX) | (at_builtin; go_must (refine wpList_append_lies _ rfl _ _ 74 rfl (N + 1) 9 i0 (.string ⟨#[]⟩) 1 16 Tryd.underlying74 HII.out.1 HII.out.2.1 HII.out.2.2.1 HII.out.2.2.2 rfl (by decide) _ n _ rfl ((HGX.out.later (below_box _)).own) ⟨X.heap.size, 0, none⟩ 2 2 [.string r.path, .string ⟨#[]⟩] rfl rfl (World.news_of_block (cs := #[.string r.path, .string ⟨#[]⟩]) (t := 9) (fr := (0, 0)) (heap_alloc_new X _)) (by simp [Value.oneCell']) (by omega) (by unfold maxLen; omega) (by omega) (by have := HGX.out.lt; simp; omega) (X.heap.size + 1) (by simp) ?_); intro g' cap' w5 hown5 hgr5 hat5 hlt5; have HG5 := Lib.hid (HGX.out.two hown5 hgr5 hat5 hlt5 HPL.out); have HR5 := Lib.hid (HG.out.box_two HBX.out HRX.out hgr5); have hc5 := (ReadD.cells HR5.out).2.1; rw [HIS.out] at hc5; have HC6 := Lib.hid (ReadD.cells HR5.out).2.2; clear hown5 hgr5 hat5 hlt5) | (refine wpList_load_mid rfl 25 _ rfl wr.heap.size 2 rfl r.sum.enc _ HC6.out Tryd.underlying25 rfl (by rw [r.sum.enc_len]; kernel_rfl) ?_) | (go_at_call 41; refine (sum_any r.sum _).mono ?_; rintro e w6 ⟨rfl, hb6⟩; have HG6 := Lib.hid (HG5.out.later hb6); have hl6 := HG6.out.last.1; have hf6 := HG6.out.last.2; clear hb6))
        go_roundw
        case rel => exact ⟨k + 1, g', cap', by omega, by go_num, by rw [← HNN.out]; rfl, by rw [upR_step HM.out, TB.rowR, HIS.out]; have := HG6.out.put r.sum.str HPL.out; rw [← HNN.out] at this ⊢; exact this⟩
        case measure => simp [intOf]; omega
      | false =>
        have HIS := Lib.hid his
        clear his
        go_wp2_with (first | (refine wpList_load_mid rfl 32 _ rfl b (o + k * 34) rfl r.enc _ HR.out Tryd.underlying32 rfl (by rw [r.enc_len]; kernel_rfl) ?_) | (refine wpList_store_new rfl 32 _ _ rfl _ r.enc rfl rfl (by simp [r.enc_len]) (by rw [r.enc_len]; kernel_rfl) r.enc_one ?_; refine wpList_name ?_; intro X hX; obtain ⟨hbX, hsX, hrX⟩ := box_facts hX; have hc0 := (ReadD.cells hrX).1; have HRX := Lib.hid hrX; have HGX := Lib.hid (HG.out.later hbX); have HBX := Lib.hid hbX; clear hX hrX hbX hsX) | (at_builtin; go_must (refine wpList_append_lies _ rfl _ _ 74 rfl (N + 1) 9 i0 (.string ⟨#[]⟩) 1 16 Tryd.underlying74 HII.out.1 HII.out.2.1 HII.out.2.2.1 HII.out.2.2.2 rfl (by decide) _ n _ rfl ((HGX.out.later (below_box _)).own) ⟨X.heap.size, 0, none⟩ 2 2 [.string r.path, .string ⟨#[]⟩] rfl rfl (World.news_of_block (cs := #[.string r.path, .string ⟨#[]⟩]) (t := 9) (fr := (0, 0)) (heap_alloc_new X _)) (by simp [Value.oneCell']) (by omega) (by unfold maxLen; omega) (by omega) (by have := HGX.out.lt; simp; omega) (X.heap.size + 1) (by simp) ?_); intro g' cap' w5 hown5 hgr5 hat5 hlt5; have HG5 := Lib.hid (HGX.out.two hown5 hgr5 hat5 hlt5 HPL.out); have HR5 := Lib.hid (HG.out.box_two HBX.out HRX.out hgr5); have hc5 := (ReadD.cells HR5.out).2.1; rw [HIS.out] at hc5; have HC6 := Lib.hid (ReadD.cells HR5.out).2.2; clear hown5 hgr5 hat5 hlt5))
        go_roundw
        case rel => exact ⟨k + 1, g', cap', by omega, by go_num, by rw [← HNN.out]; rfl, by rw [upR_step HM.out, TB.rowR, HIS.out]; have := HG5.out; rw [← HNN.out] at this; exact this⟩
        case measure => simp [intOf]; omega
    · obtain rfl : k = t.reads.length := by omega
      obtain ⟨n0, hn0⟩ : ∃ n0, 2 + 2 * t.reads.length = n0 := ⟨_, rfl⟩
      have hnb : n0 ≤ 1002 := by omega
      rw [hn0] at hG ⊢
      rw [← upO_zero] at hG
      have hc33 := hG.cell C2.out.2
      have HG := Lib.hid hG
      clear hG hn0 hk hlt
      go_wp2_with fail
      go_loopw [5, 49] (fun v i wr => ∃ k g cap : Nat, k ≤ t.outs.length ∧ i = .int .i64 k ∧ v = .slice (some ⟨g, 0, none⟩) (n0 + 2 * k) cap ∧ Gath N w cs g (n0 + 2 * k) cap (TB.upO t k) wr) (fun _ i _ => t.outs.length - (intOf i).toNat)
      case atStart => exact ⟨0, g, cap, by omega, rfl, rfl, HG.out⟩
      case round =>
        obtain ⟨k, g1, cap1, hk, rfl, rfl, hG⟩ := hrel
        clear HG hc33
        by_cases hlt : k < t.outs.length
        · obtain ⟨b, o, rfl, hbl, hel⟩ := hO.at_ (by omega)
          obtain ⟨m, hm⟩ : ∃ m, t.outs[k]? = some m := ⟨t.outs[k], by simp⟩
          have hbN : b < N := Nat.lt_of_lt_of_le hbl hwN
          have hrg := range_low hG.below hbN (hel k m hm)
          obtain ⟨n, hn⟩ : ∃ n, n0 + 2 * k = n := ⟨_, rfl⟩
          rw [hn] at hG
          have HR := Lib.hid hrg
          have HM := Lib.hid hm
          have HG := Lib.hid hG
          have HNN := Lib.hid hn
          obtain ⟨hi0, hz0, hz1, hz2⟩ := HI.out
          have HII := Lib.hid (And.intro hi0 (And.intro hz0 (And.intro hz1 hz2)))
          clear hi0 hz0 hz1 hz2
          rw [hn]
          have hnb2 : n ≤ 3002 := by omega
          clear hrg hel hm hG hn
          go_wp2_with (first | (refine wpList_load_mid rfl 34 _ rfl b (o + k * 33) rfl m.enc _ HR.out Tryd.underlying34 rfl (by rw [m.enc_len]; kernel_rfl) ?_) | (refine wpList_store_new rfl 34 _ _ rfl _ m.enc rfl rfl (by simp [m.enc_len]) (by rw [m.enc_len]; kernel_rfl) m.enc_one ?_; refine wpList_name ?_; intro X hX; obtain ⟨hbX, hsX, hrX⟩ := box_facts hX; have hc0 := (MadeD.cells hrX).1; have hc1 := (MadeD.cells hrX).2; have HGX := Lib.hid (HG.out.later hbX); clear hX hrX hbX hsX))
          obtain ⟨M, hM⟩ : ∃ M, wr.heap.size = M := ⟨_, rfl⟩
          have hgM : g1 < M := by rw [← hM]; exact HG.out.row
          rw [hM] at hc0 hc1 ⊢
          clear hM
          have hu25 := Tryd.underlying25
          have hi25 : (Tryd.prog.info? 25).map (·.size) = some m.sum.enc.length := by rw [m.sum.enc_len]; kernel_rfl
          go_region_held3 (fun w' => w'.cell? ⟨M, 0, none⟩ = some (.string m.path) ∧ w'.rangeAt M (0 + 1) m.sum.enc)
            ((first | (refine keep2_drew ?_; first | assumption | exact ⟨by assumption, by assumption⟩) | (refine keep2_alloc ?_; assumption) | (refine keep2_row hgr7 ?_ ?_; (simp [Value.ownBlock]; omega); assumption) | (refine keep2_call (by assumption) ?_; assumption)))
            (first | (go_at_call 41; refine (sum_any m.sum _).mono ?_; rintro e w6 ⟨rfl, hb6⟩; have HG6 := Lib.hid ((HGX.out.later (below_drew1 (Below.refl _ _))).later hb6)) | (refine step_append_lies _ (by rfl) _ _ _ (by rfl) (N + 1) 9 i0 (.string ⟨#[]⟩) 1 16 Tryd.underlying74 HII.out.1 HII.out.2.1 HII.out.2.2.1 HII.out.2.2.2 rfl (by decide) _ n _ (by rfl) ((HG6.out.later (below_box _)).own) ⟨w6.heap.size, 0, none⟩ 2 2 [.string m.path, .string m.sum.str] (by rfl) (by rfl) (World.news_of_block (cs := #[.string m.path, .string m.sum.str]) (t := 9) (fr := (0, 0)) (heap_alloc_new w6 _)) (by simp [Value.oneCell']) (by omega) (by unfold maxLen; omega) (by omega) (by have := HG6.out.lt; simp; omega) (w6.heap.size + 1) (by simp) ?_; intro g' cap' w7 hown7 hgr7 hat7 hlt7))
          have HG7 := Lib.hid (HG6.out.two hown7 hgr7 hat7 hlt7 HPL.out)
          clear hown7 hgr7 hat7 hlt7 hu25 hi25 hb6
          go_wp2_with fail
          go_roundw
          case rel => exact ⟨k + 1, g', cap', by omega, by go_num, by rw [← HNN.out]; rfl, by rw [upO_step HM.out]; have := HG7.out; rw [← HNN.out] at this; exact this⟩
          case measure => simp [intOf]; omega
        · obtain rfl : k = t.outs.length := by omega
          rw [upO_all] at hG
          obtain ⟨n, hn⟩ : ∃ n, n0 + 2 * t.outs.length = n := ⟨_, rfl⟩
          rw [hn] at hG ⊢
          have hts := texts_size HE.out
          have cr := row_any (some ⟨g1, 0, none⟩) n cap1 (TB.texts t) wr hG.elems (by omega) (fun s hs => Nat.le_trans (hts s hs) (by omega)) hG.pow
          have e1 : (⟨(PK.row ((TB.texts t).map fun s => s.data.toList)).toArray⟩ : ByteArray) = res := HRES.out
          rw [e1] at cr
          have CR := Lib.hid cr
          have HB := Lib.hid hG.below
          have HLT := Lib.hid hG.lt
          have HN2 := HN.out
          clear hts cr e1 hG hn HRES
          go_wp2_with fail
          refine CR.out.mono ?_
          rintro e w8 ⟨rfl, hb8⟩
          go_wp2_with fail
          go_ret2
          exact ⟨rfl, by rw [HN2]; exact HB.out.trans (hb8.mono (Nat.le_of_lt HLT.out))⟩

set_option maxHeartbeats 1000000 in
set_option maxRecDepth 100000 in
theorem bytes_bad (t : TraceD) (A : Option Addr) (c : Nat) (A' : Option Addr) (c' : Nat) (w : World) (hR : Elems ReadD.enc 34 w A t.reads.length c t.reads) (hO : Elems MadeD.enc 33 w A' t.outs.length c' t.outs) (hs : t.small) (he : TS.checkErr t ≠ 0) :
    Calls Tryd.prog 22 #[.agg (t.cells A c A' c').toArray] w fun e w' => e = .returned (.tuple #[.string ⟨#[]⟩, .int .i64 (TS.checkErr t)]) ∧ Below w.heap.size w w' := by
  have hcc := fun W h k => check_any t A c A' c' W h k hs
  obtain ⟨x, hx⟩ : ∃ x, TS.checkErr t = x := ⟨_, rfl⟩
  obtain ⟨cs, hcs⟩ : ∃ cs, t.cells A c A' c' = cs := ⟨_, rfl⟩
  have hlen := t.cells_len A c A' c'
  rw [hcs] at hlen ⊢
  simp only [hcs, hx] at hcc
  rw [hx] at he ⊢
  clear hcs
  have CC := Lib.hid hcc
  have HL := Lib.hid hlen
  have hne : (x != 0) = true := by simpa using he
  clear hcc hlen hx he
  go_enter Tryd.func22, Tryd.ntmps22
  go_wp2_with (first | (refine wpList_load_mid rfl 29 _ rfl w.heap.size 0 rfl cs _ (range_new w cs _) Tryd.underlying29 rfl (by rw [HL.out]; kernel_rfl) ?_) | (go_at_call 13; refine (CC.out _ (hR.below (below_box _)) (hO.below (below_box _))).mono ?_; rintro e w1 ⟨rfl, hb1⟩))
  go_ret2
  exact ⟨rfl, below_then (below_box _) (by simp) hb1⟩

/-- What trace.Bytes hands back. -/
def TB.out (t : TraceD) : ByteArray := if TS.checkErr t = 0 then TB.bytes t else ⟨#[]⟩
theorem bytes_any (t : TraceD) (A : Option Addr) (c : Nat) (A' : Option Addr) (c' : Nat) (w : World) (hR : Elems ReadD.enc 34 w A t.reads.length c t.reads) (hO : Elems MadeD.enc 33 w A' t.outs.length c' t.outs) (hs : t.small) (hp : Pow w) :
    Calls Tryd.prog 22 #[.agg (t.cells A c A' c').toArray] w fun e w' => e = .returned (.tuple #[.string (TB.out t), .int .i64 (TS.checkErr t)]) ∧ Below w.heap.size w w' := by
  by_cases he : TS.checkErr t = 0
  · have := bytes_ok t A c A' c' w hR hO hs hp he
    rw [TB.out, if_pos he, he]
    exact this
  · rw [TB.out, if_neg he]
    exact bytes_bad t A c A' c' w hR hO hs he
end Go.Proofs.YtcaookphoiopbaaDoor
