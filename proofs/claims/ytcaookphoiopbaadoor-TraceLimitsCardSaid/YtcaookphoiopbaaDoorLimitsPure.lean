/- Plain facts on the traces that the law on limits lays: its names are paths, all apart, and rise. No program in sight. -/
import Derived.Test.YtcaookphoiopbaaDoorName
import Derived.Test.YtcaookphoiopbaaDoorTracePure
namespace Go.Proofs.YtcaookphoiopbaaDoor
namespace LM
def out4 : List UInt8 := [111, 117, 116, 47]
def nameR (i : Nat) : ReadD := ⟨⟨(NM.name i).toArray⟩, false, Dig.zero⟩
def nameM (i : Nat) : MadeD := ⟨⟨(out4 ++ NM.name i).toArray⟩, Dig.zero⟩
def readsTo (k : Nat) : List ReadD := (List.range k).map nameR
def outsTo (k : Nat) : List MadeD := (List.range k).map nameM
def lim (m n : Nat) : TraceD := ⟨Dig.zero, readsTo m, outsTo n⟩
theorem readsTo_succ (k : Nat) : readsTo (k + 1) = readsTo k ++ [nameR k] := by simp [readsTo, List.range_succ]
theorem outsTo_succ (k : Nat) : outsTo (k + 1) = outsTo k ++ [nameM k] := by simp [outsTo, List.range_succ]

def code (l : List UInt8) : Nat := l.foldl (fun a b => a * 10 + (b.toNat - 48)) 0
theorem fact_reads : ((List.range 500).all fun i => PS.may (NM.name i) && (code (NM.name i) == i)) = true := by decide +kernel
theorem fact_outs : ((List.range 1000).all fun i => PS.under (out4 ++ NM.name i) TS.outS && (i == 0 || (!(out4 ++ NM.name i == out4 ++ NM.name (i - 1)) && !Op.bytesLess (out4 ++ NM.name i) (out4 ++ NM.name (i - 1))))) = true := by decide +kernel

theorem reads_zero : ∀ (l : List ReadD) (f : List UInt8 → Bool), (∀ r ∈ l, PS.may r.path.data.toList = true ∧ f r.path.data.toList = false ∧ r.sum = Dig.zero) → l.Pairwise (fun a b => a.path.data.toList ≠ b.path.data.toList) → TS.readsErr f l = 0
  | [], _, _, _ => rfl
  | r :: l, f, h, hp => by
    obtain ⟨h1, h2, h3⟩ := h r (by simp)
    rw [List.pairwise_cons] at hp
    unfold TS.readsErr
    rw [if_pos h1, if_neg (by simp [h2]), if_neg (by simp [h3])]
    refine reads_zero l _ (fun x hx => ?_) hp.2
    obtain ⟨k1, k2, k3⟩ := h x (by simp [hx])
    refine ⟨k1, ?_, k3⟩
    have := hp.1 x hx
    simp only [k2, Bool.or_false, beq_eq_false_iff_ne, ne_eq]
    exact fun e => this e.symm

theorem outs_zero (F : Nat → MadeD) (N : Nat) (h : ∀ i, i < N → PS.under (F i).path.data.toList TS.outS = true ∧ (i ≠ 0 → ((F i).path.toList == (F (i - 1)).path.toList) = false ∧ Op.bytesLess (F i).path.toList (F (i - 1)).path.toList = false)) :
    ∀ (n a : Nat) (q : Option ByteArray), a + n ≤ N → (q = none ∨ (a ≠ 0 ∧ q = some (F (a - 1)).path)) → TS.outsErr q ((List.range' a n).map F) = 0
  | 0, _, _, _, _ => by
    rw [List.range'_zero, List.map_nil]
    unfold TS.outsErr
    rfl
  | n + 1, a, q, hn, hq => by
    rw [List.range'_succ, List.map_cons]
    obtain ⟨h1, h2⟩ := h a (by omega)
    have ih := outs_zero F N h n (a + 1) (some (F a).path) (by omega) (Or.inr ⟨by omega, by simp⟩)
    rcases hq with rfl | ⟨ha, rfl⟩
    · unfold TS.outsErr
      rw [if_pos h1]
      exact ih
    · obtain ⟨k1, k2⟩ := h2 ha
      unfold TS.outsErr
      rw [if_pos h1, if_neg (by simp [k1]), if_neg (by simp [k2])]
      exact ih

theorem lim_ok (m n : Nat) (hm : m ≤ 500) (hn : n ≤ 1000) : TS.checkErr (lim m n) = 0 := by
  have e1 : (lim m n).reads.length = m := by simp [lim, readsTo]
  have e2 : (lim m n).outs.length = n := by simp [lim, outsTo]
  have hr := fact_reads
  have ho := fact_outs
  simp only [List.all_eq_true, List.mem_range, Bool.and_eq_true, beq_iff_eq] at hr
  simp only [List.all_eq_true, List.mem_range, Bool.and_eq_true, Bool.or_eq_true, beq_iff_eq, Bool.not_eq_true'] at ho
  have r0 : TS.readsErr (fun _ => false) (lim m n).reads = 0 := by
    refine reads_zero _ _ (fun r hx => ?_) ?_
    · simp only [lim, readsTo, List.mem_map, List.mem_range] at hx
      obtain ⟨i, hi, rfl⟩ := hx
      exact ⟨(hr i (by omega)).1, rfl, rfl⟩
    · show ((List.range m).map nameR).Pairwise _
      rw [List.pairwise_map]
      refine List.Pairwise.imp_of_mem (fun {a b} ha hb (hab : a ≠ b) e => ?_) (List.nodup_range)
      rw [List.mem_range] at ha hb
      have h1 := (hr a (by omega)).2
      have h2 := (hr b (by omega)).2
      have e' : NM.name a = NM.name b := by simpa [nameR] using e
      exact hab (by rw [← h1, ← h2, e'])
  have o0 : TS.outsErr none (lim m n).outs = 0 := by
    show TS.outsErr none ((List.range n).map nameM) = 0
    rw [List.range_eq_range']
    refine outs_zero nameM 1000 (fun i hi => ?_) n 0 none (by omega) (Or.inl rfl)
    obtain ⟨h1, h2⟩ := ho i hi
    refine ⟨h1, fun h0 => ?_⟩
    rcases h2 with h2 | h2
    · exact absurd h2 h0
    · simp only [ByteArray.toList_eq]
      exact h2
  unfold TS.checkErr
  rw [if_neg (by rw [e1, e2]; omega), if_pos r0]
  exact o0
theorem lim_big (m n : Nat) (h : 500 < m ∨ 1000 < n) : TS.checkErr (lim m n) = 6 := by
  have e1 : (lim m n).reads.length = m := by simp [lim, readsTo]
  have e2 : (lim m n).outs.length = n := by simp [lim, outsTo]
  unfold TS.checkErr
  rw [if_pos (by rw [e1, e2]; exact h)]
theorem lim_small (m n : Nat) : (lim m n).small := by
  have hl : ∀ i, (NM.name i).length = 4 := fun i => acc_len i 4
  constructor
  · intro r hr
    simp only [lim, readsTo, List.mem_map, List.mem_range] at hr
    obtain ⟨i, _, rfl⟩ := hr
    show (NM.name i).toArray.size ≤ _
    simp [hl i]
  · intro r hr
    simp only [lim, outsTo, List.mem_map, List.mem_range] at hr
    obtain ⟨i, _, rfl⟩ := hr
    show (out4 ++ NM.name i).toArray.size ≤ _
    simp [hl i, out4]
end LM
end Go.Proofs.YtcaookphoiopbaaDoor
