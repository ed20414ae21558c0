/- Plain facts on traces: of two in which nothing is wrong, their bytes tell whether they are alike; one is like itself. No program in sight. -/
import Derived.Test.YtcaookphoiopbaaDoorDec
import Derived.Test.YtcaookphoiopbaaDoorTraceSame
import Derived.Test.YtcaookphoiopbaaDoorTraceBytes
namespace Go.Proofs.YtcaookphoiopbaaDoor
namespace TS

theorem same_refl (r : ReadD) : r.same r = true := by simp [ReadD.same]
theorem sameM_refl (r : MadeD) : r.same r = true := by simp [MadeD.same]
theorem eqL_refl {α : Type} {same : α → α → Bool} (h : ∀ x, same x x = true) : ∀ l : List α, eqL same l l = true
  | [] => rfl
  | x :: l => by unfold eqL; rw [h x, eqL_refl h l]; rfl
theorem sameT_refl (a : TraceD) : sameT a a = true := by
  unfold sameT
  rw [eqL_refl same_refl, eqL_refl sameM_refl]
  simp

def pieceR (r : ReadD) : List (List UInt8) := [r.path.data.toList, if r.is_ = true then r.sum.bs else []]
def pieceM (m : MadeD) : List (List UInt8) := [m.path.data.toList, m.sum.bs]
def Clean (r : ReadD) : Prop := r.is_ = false → r.sum.bs = Dig.zero.bs
theorem reads_clean : ∀ (l : List ReadD) (f : List UInt8 → Bool), readsErr f l = 0 → ∀ r ∈ l, Clean r
  | [], _, _, r, hr => by simp at hr
  | x :: l, f, h, r, hr => by
    unfold readsErr at h
    split at h
    · split at h
      · cases h
      · split at h
        · cases h
        · rename_i hs
          rcases List.mem_cons.1 hr with rfl | hr
          · intro hi
            simpa [hi] using hs
          · exact reads_clean l _ h r hr
    · cases h

theorem texts_map (t : TraceD) : (TB.texts t).map (fun s => s.data.toList) = [t.key.bs, Lib.itoa (t.reads.length : Int)] ++ t.reads.flatMap pieceR ++ t.outs.flatMap pieceM := by
  have h1 : ∀ l : List ReadD, (l.flatMap TB.rowR).map (fun s => s.data.toList) = l.flatMap pieceR := by
    intro l
    induction l with
    | nil => rfl
    | cons r l ih =>
      rw [List.flatMap_cons, List.flatMap_cons, List.map_append, ih]
      congr 1
      unfold TB.rowR pieceR
      cases r.is_ <;> simp [Dig.str]
  have h2 : ∀ l : List MadeD, (l.flatMap TB.rowO).map (fun s => s.data.toList) = l.flatMap pieceM := by
    intro l
    induction l with
    | nil => rfl
    | cons r l ih =>
      rw [List.flatMap_cons, List.flatMap_cons, List.map_append, ih]
      congr 1
  unfold TB.texts
  rw [List.map_append, List.map_append, h1, h2]
  simp [Dig.str, TB.numS]

theorem sum_ne (d : Dig) : d.bs ≠ [] := by
  intro h
  have := d.len
  rw [h] at this
  simp at this
theorem data_list {s t : ByteArray} (h : s.data.toList = t.data.toList) : s.toList = t.toList := by rw [ByteArray.toList_eq, ByteArray.toList_eq, h]
theorem list_data {s t : ByteArray} (h : s.toList = t.toList) : s.data.toList = t.data.toList := by rwa [ByteArray.toList_eq, ByteArray.toList_eq] at h

theorem reads_tell : ∀ (l m : List ReadD) (X Y : List (List UInt8)), l.length = m.length → (∀ r ∈ l, Clean r) → (∀ r ∈ m, Clean r) → l.flatMap pieceR ++ X = m.flatMap pieceR ++ Y → eqL ReadD.same l m = true ∧ X = Y
  | [], [], X, Y, _, _, _, h => ⟨rfl, by simpa using h⟩
  | [], _ :: _, _, _, h, _, _, _ => by simp at h
  | _ :: _, [], _, _, h, _, _, _ => by simp at h
  | r :: l, q :: m, X, Y, hlen, hl, hm, h => by
    have h' : r.path.data.toList = q.path.data.toList ∧ (if r.is_ = true then r.sum.bs else []) = (if q.is_ = true then q.sum.bs else []) ∧ l.flatMap pieceR ++ X = m.flatMap pieceR ++ Y := by
      simpa [pieceR] using h
    obtain ⟨h1, h2, h3⟩ := h'
    obtain ⟨g1, g2⟩ := reads_tell l m X Y (by simpa using hlen) (fun x hx => hl x (by simp [hx])) (fun x hx => hm x (by simp [hx])) h3
    refine ⟨?_, g2⟩
    have hr := hl r (by simp)
    have hq := hm q (by simp)
    unfold eqL
    rw [g1, Bool.and_true]
    unfold ReadD.same
    rw [data_list h1]
    cases hri : r.is_ with
    | true =>
      cases hqi : q.is_ with
      | true =>
        rw [hri, hqi] at h2
        simp only [if_true] at h2
        rw [h2]
        simp
      | false =>
        rw [hri, hqi] at h2
        simp only [if_true, Bool.false_eq_true, if_false] at h2
        exact absurd h2 (sum_ne _)
    | false =>
      cases hqi : q.is_ with
      | true =>
        rw [hri, hqi] at h2
        simp only [if_true, Bool.false_eq_true, if_false] at h2
        exact absurd h2.symm (sum_ne _)
      | false =>
        rw [hr hri, hq hqi]
        simp

theorem outs_tell : ∀ (l m : List MadeD), l.flatMap pieceM = m.flatMap pieceM → eqL MadeD.same l m = true
  | [], [], _ => rfl
  | [], _ :: _, h => by simp [pieceM] at h
  | _ :: _, [], h => by simp [pieceM] at h
  | r :: l, q :: m, h => by
    have h' : r.path.data.toList = q.path.data.toList ∧ r.sum.bs = q.sum.bs ∧ l.flatMap pieceM = m.flatMap pieceM := by
      simpa [pieceM] using h
    obtain ⟨h1, h2, h3⟩ := h'
    unfold eqL
    rw [outs_tell l m h3, Bool.and_true]
    unfold MadeD.same
    rw [data_list h1, h2]
    simp

theorem eq_reads : ∀ (l m : List ReadD), eqL ReadD.same l m = true → l.length = m.length ∧ l.flatMap pieceR = m.flatMap pieceR
  | [], [], _ => ⟨rfl, rfl⟩
  | [], _ :: _, h => by simp [eqL] at h
  | _ :: _, [], h => by simp [eqL] at h
  | r :: l, q :: m, h => by
    unfold eqL at h
    rw [Bool.and_eq_true] at h
    obtain ⟨g1, g2⟩ := eq_reads l m h.2
    have h1 := h.1
    unfold ReadD.same at h1
    simp only [Bool.and_eq_true, beq_iff_eq] at h1
    obtain ⟨k1, k2, k3⟩ := h1
    refine ⟨by simp [g1], ?_⟩
    rw [List.flatMap_cons, List.flatMap_cons, g2]
    unfold pieceR
    rw [list_data k1, k2, k3]
theorem eq_outs : ∀ (l m : List MadeD), eqL MadeD.same l m = true → l.flatMap pieceM = m.flatMap pieceM
  | [], [], _ => rfl
  | [], _ :: _, h => by simp [eqL] at h
  | _ :: _, [], h => by simp [eqL] at h
  | r :: l, q :: m, h => by
    unfold eqL at h
    rw [Bool.and_eq_true] at h
    have g2 := eq_outs l m h.2
    have h1 := h.1
    unfold MadeD.same at h1
    simp only [Bool.and_eq_true, beq_iff_eq] at h1
    rw [List.flatMap_cons, List.flatMap_cons, g2]
    unfold pieceM
    rw [list_data h1.1, h1.2]

/-- THE BYTES TELL WHETHER TWO TRACES ARE ALIKE. -/
theorem bytes_tell {a b : TraceD} (ha : checkErr a = 0) (hb : checkErr b = 0) : ((TB.out a).toList == (TB.out b).toList) = sameT a b := by
  unfold TB.out
  rw [if_pos ha, if_pos hb]
  rw [ByteArray.toList_eq, ByteArray.toList_eq, Bool.eq_iff_iff, beq_iff_eq]
  unfold TB.bytes sameT
  rw [texts_map, texts_map]
  constructor
  · intro h
    have h' := PK.row_inj h
    simp only [List.cons_append, List.nil_append, List.cons.injEq] at h'
    obtain ⟨h1, h2, h3⟩ := h'
    rw [PK.itoa_nat, PK.itoa_nat] at h2
    have hl := PK.dec_inj h2
    obtain ⟨g1, g2⟩ := reads_tell a.reads b.reads _ _ hl (reads_clean _ _ (check_parts ha).2.2.1) (reads_clean _ _ (check_parts hb).2.2.1) h3
    rw [h1, g1, outs_tell _ _ g2]
    simp
  · intro h
    simp only [Bool.and_eq_true, beq_iff_eq] at h
    obtain ⟨h1, h2, h3⟩ := h
    obtain ⟨g1, g2⟩ := eq_reads _ _ h2
    rw [h1, g1, g2, eq_outs _ _ h3]
end TS
end Go.Proofs.YtcaookphoiopbaaDoor
