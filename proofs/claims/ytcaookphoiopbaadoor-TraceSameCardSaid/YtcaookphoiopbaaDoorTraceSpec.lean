/- Plain facts on traces (layer 23): what a trace is, what is wrong with one, when it holds. No program in sight. -/
import Derived.Test.YtcaookphoiopbaaDoorPathSpec
import Derived.Test.YtcaookphoiopbaaDoorBase
namespace Go.Proofs.YtcaookphoiopbaaDoor
open Go.RowKit

/-- A digest: 32 bytes. -/
structure Dig where
  bs : List UInt8
  len : bs.length = 32
theorem Dig.ext {a b : Dig} (h : a.bs = b.bs) : a = b := by
  cases a; cases b; cases h; rfl
def Dig.zero : Dig := ⟨List.replicate 32 0, by simp⟩
def Dig.enc (d : Dig) : List Value := d.bs.map fun b => .int .u8 (b.toNat : Int)
theorem Dig.enc_len (d : Dig) : d.enc.length = 32 := by simp [Dig.enc, d.len]
theorem Dig.enc_one (d : Dig) : ∀ v ∈ d.enc, v.oneCell' = true := by
  intro v hv
  simp only [Dig.enc, List.mem_map] at hv
  obtain ⟨b, _, rfl⟩ := hv
  rfl

structure ReadD where
  path : ByteArray
  is_ : Bool
  sum : Dig
def ReadD.enc (r : ReadD) : List Value := .string r.path :: .bool r.is_ :: r.sum.enc
theorem ReadD.enc_len (r : ReadD) : r.enc.length = 34 := by simp [ReadD.enc, r.sum.enc_len]
theorem ReadD.enc_one (r : ReadD) : ∀ v ∈ r.enc, v.oneCell' = true := by
  intro v hv
  simp only [ReadD.enc, List.mem_cons] at hv
  rcases hv with rfl | rfl | hv
  · rfl
  · rfl
  · exact r.sum.enc_one v hv

structure MadeD where
  path : ByteArray
  sum : Dig
def MadeD.enc (m : MadeD) : List Value := .string m.path :: m.sum.enc
theorem MadeD.enc_len (m : MadeD) : m.enc.length = 33 := by simp [MadeD.enc, m.sum.enc_len]
theorem MadeD.enc_one (m : MadeD) : ∀ v ∈ m.enc, v.oneCell' = true := by
  intro v hv
  simp only [MadeD.enc, List.mem_cons] at hv
  rcases hv with rfl | hv
  · rfl
  · exact m.sum.enc_one v hv

/-- The cells of a read, of a made, one by one. -/
theorem ReadD.cells {X : World} {b o : Nat} {r : ReadD} (h : X.rangeAt b o r.enc) : X.cell? ⟨b, o, none⟩ = some (.string r.path) ∧ X.cell? ⟨b, o + 1, none⟩ = some (.bool r.is_) ∧ X.rangeAt b (o + 2) r.sum.enc :=
  ⟨h 0 _ rfl, h 1 _ rfl, fun j v hv => by
    have := h (j + 2) v (by simpa [ReadD.enc] using hv)
    rwa [show o + (j + 2) = o + 2 + j by omega] at this⟩
theorem MadeD.cells {X : World} {b o : Nat} {m : MadeD} (h : X.rangeAt b o m.enc) : X.cell? ⟨b, o, none⟩ = some (.string m.path) ∧ X.rangeAt b (o + 1) m.sum.enc :=
  ⟨h 0 _ rfl, fun j v hv => by
    have := h (j + 1) v (by simpa [MadeD.enc] using hv)
    rwa [show o + (j + 1) = o + 1 + j by omega] at this⟩

/-- Two digests held against each other, as the code does it. -/
theorem Dig.neq {P : Program} (t e : TypeId) (ht : P.underlying t = some (.array 32 e)) (he : P.underlying e = some (.int .u8)) (hsz : ∀ w, (sizeOf e).run P w = .ok 1 w) (a b : Dig) (w : World) :
    (binOp .neq t (.agg a.enc.toArray) (.agg b.enc.toArray)).run P w = .ok (.bool (!(a.bs == b.bs))) w := by
  have h := run_equalIn_bytes w 9998 t e 32 ht he hsz a.bs b.bs a.len b.len
  rw [run_neq_struct]
  rw [show a.enc = a.bs.map Extern.Stop.cell from rfl, show b.enc = b.bs.map Extern.Stop.cell from rfl, h]
  rfl
theorem Dig.zero_enc : Dig.zero.enc.toArray = #[Value.int .u8 0, Value.int .u8 0, Value.int .u8 0, Value.int .u8 0, Value.int .u8 0, Value.int .u8 0, Value.int .u8 0, Value.int .u8 0, Value.int .u8 0, Value.int .u8 0, Value.int .u8 0, Value.int .u8 0, Value.int .u8 0, Value.int .u8 0, Value.int .u8 0, Value.int .u8 0, Value.int .u8 0, Value.int .u8 0, Value.int .u8 0, Value.int .u8 0, Value.int .u8 0, Value.int .u8 0, Value.int .u8 0, Value.int .u8 0, Value.int .u8 0, Value.int .u8 0, Value.int .u8 0, Value.int .u8 0, Value.int .u8 0, Value.int .u8 0, Value.int .u8 0, Value.int .u8 0] := rfl

structure TraceD where
  key : Dig
  reads : List ReadD
  outs : List MadeD
def TraceD.cells (t : TraceD) (A : Option Addr) (c : Nat) (A' : Option Addr) (c' : Nat) : List Value := t.key.enc ++ [.slice A t.reads.length c, .slice A' t.outs.length c']
theorem TraceD.cells_len (t : TraceD) (A : Option Addr) (c : Nat) (A' : Option Addr) (c' : Nat) : (t.cells A c A' c').length = 34 := by simp [TraceD.cells, t.key.enc_len]
theorem TraceD.cell32 (t : TraceD) (A : Option Addr) (c : Nat) (A' : Option Addr) (c' : Nat) : (t.cells A c A' c')[32]? = some (.slice A t.reads.length c) := by
  simp [TraceD.cells, t.key.enc_len]
theorem TraceD.cell33 (t : TraceD) (A : Option Addr) (c : Nat) (A' : Option Addr) (c' : Nat) : (t.cells A c A' c')[33]? = some (.slice A' t.outs.length c') := by
  simp [TraceD.cells, t.key.enc_len]
theorem TraceD.cells_key {t : TraceD} {A : Option Addr} {c : Nat} {A' : Option Addr} {c' : Nat} {X : World} {b o : Nat} (h : X.rangeAt b o (t.cells A c A' c')) : X.rangeAt b o t.key.enc := fun j v hv =>
  h j v (by rw [TraceD.cells, List.getElem?_append_left (List.getElem?_eq_some_iff.1 hv).1]; exact hv)
theorem TraceD.cells_one (t : TraceD) (A : Option Addr) (c : Nat) (A' : Option Addr) (c' : Nat) : ∀ v ∈ t.cells A c A' c', v.oneCell' = true := by
  intro v hv
  simp only [TraceD.cells, List.mem_append, List.mem_cons, List.mem_nil_iff, or_false] at hv
  rcases hv with hv | rfl | rfl
  · exact t.key.enc_one v hv
  · rfl
  · rfl
/-- No path is longer than any that the walks reckon with. -/
def TraceD.small (t : TraceD) : Prop := (∀ r ∈ t.reads, r.path.size ≤ 281474976710656) ∧ (∀ m ∈ t.outs, m.path.size ≤ 281474976710656)

namespace TS
def outS : List UInt8 := [111, 117, 116]
/-- What is wrong with outs, one of these paths (if any) standing ahead. -/
def outsErr : Option ByteArray → List MadeD → Int
  | _, [] => 0
  | none, m :: r => if PS.under m.path.data.toList outS = true then outsErr (some m.path) r else 1
  | some q, m :: r => if PS.under m.path.data.toList outS = true then
      if m.path.toList == q.toList then 8 else if Op.bytesLess m.path.toList q.toList then 2 else outsErr (some m.path) r
    else 1

/-- What is wrong with reads, 'met' telling which paths were met. -/
def readsErr : (List UInt8 → Bool) → List ReadD → Int
  | _, [] => 0
  | met, r :: l => if PS.may r.path.data.toList = true then
      if met r.path.data.toList = true then 8
      else if (!r.is_ && !(r.sum.bs == Dig.zero.bs)) = true then 5
      else readsErr (fun x => x == r.path.data.toList || met x) l
    else 1
/-- Which paths the first k reads have. -/
def met (l : List ReadD) : Nat → List UInt8 → Bool
  | 0 => fun _ => false
  | k + 1 => match l[k]? with
    | some r => fun x => x == r.path.data.toList || met l k x
    | none => met l k

def prev (l : List MadeD) (k : Nat) : Option ByteArray := if k = 0 then none else (l[k - 1]?).map (·.path)
/-- What is wrong with a trace. -/
def checkErr (t : TraceD) : Int :=
  if 500 < t.reads.length ∨ 1000 < t.outs.length then 6
  else if readsErr (fun _ => false) t.reads = 0 then outsErr none t.outs else readsErr (fun _ => false) t.reads
end TS
end Go.Proofs.YtcaookphoiopbaaDoor
