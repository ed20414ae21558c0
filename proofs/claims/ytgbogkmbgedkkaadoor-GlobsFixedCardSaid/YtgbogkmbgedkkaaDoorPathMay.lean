/- path.May, path.Under: which texts are paths, and which lie below a directory. -/
import Derived.Test.YtgbogkmbgedkkaaDoorSplitIter
import Derived.Test.YtgbogkmbgedkkaaDoorPathPart
namespace Go.Proofs.YtgbogkmbgedkkaaDoor
open Go.RowKit Go.Shelf
attribute [local go_sem] Oper.semAt_some

theorem splitSeq_any (s p : ByteArray) (w : World) :
    Calls Tryd.prog 57 #[.string s, .string p, .int .i64 0] w fun e w' =>
      e = .returned (.func (.func 84) #[] #[.pointer (some ⟨w.heap.size + 1, 0, none⟩), .pointer (some ⟨w.heap.size, 0, none⟩), .pointer (some ⟨w.heap.size + 2, 0, none⟩)]) ∧
      ((w.alloc (.cells #[.string s] 9)).alloc (.cells #[.string p] 9)).alloc (.cells #[.int .i64 0] 3) = w' := by
  go_enter Tryd.func57, Tryd.ntmps57
  go_wp2
  go_ret
  exact ⟨rfl, rfl⟩

theorem SplitSeq_any (s p : ByteArray) (w : World) :
    Calls Tryd.prog 48 #[.string s, .string p] w fun e w' =>
      e = .returned (.func (.func 84) #[] #[.pointer (some ⟨w.heap.size + 1, 0, none⟩), .pointer (some ⟨w.heap.size, 0, none⟩), .pointer (some ⟨w.heap.size + 2, 0, none⟩)]) ∧
      ((w.alloc (.cells #[.string s] 9)).alloc (.cells #[.string p] 9)).alloc (.cells #[.int .i64 0] 3) = w' := by
  go_enter Tryd.func48, Tryd.ntmps48
  go_wp2_with (go_at_call 57; refine (splitSeq_any s p _).mono ?_; rintro e w' ⟨rfl, rfl⟩)
  go_ret
  exact ⟨rfl, rfl⟩

theorem heap_put_ne {W : World} {l k : Nat} {o : Obj} (h : k ≠ l) : (W.putObj l o).heap[k]? = W.heap[k]? := World.putObj_heap_other h

theorem below_put {B l : Nat} {W : World} {o o' : Obj} (h : W.heap[l]? = some o) (hB : B ≤ l) : Below B W (W.putObj l o') :=
  (Below.refl B W).grown (grownBy_putObj' W l o') (by have := (Array.getElem?_eq_some_iff.1 h).1; omega) (fun k e => by cases e; exact hB)

theorem at_alloc (W : World) (o : Obj) (k : Nat) : (W.alloc o).heap[k]? = if k = W.heap.size then some o else W.heap[k]? := by
  show (W.heap.push o)[k]? = _
  rw [Array.getElem?_push]

theorem five_blocks (w : World) (o0 o1 o2 o3 o4 : Obj) (N : Nat) (hN : w.heap.size = N) :
    ∃ W0, ((((w.alloc o0).alloc o1).alloc o2).alloc o3).alloc o4 = W0 ∧ W0.heap.size = N + 5 ∧ Below N w W0 ∧
      W0.heap[N]? = some o0 ∧ W0.heap[N + 1]? = some o1 ∧ W0.heap[N + 1 + 1]? = some o2 ∧ W0.heap[N + 1 + 1 + 1]? = some o3 ∧ W0.heap[N + 1 + 1 + 2]? = some o4 := by
  subst hN
  refine ⟨_, rfl, by simp, (((((Below.refl _ w).alloc (Nat.le_refl _) _).alloc (by simp) _).alloc (by simp; omega) _).alloc (by simp; omega) _).alloc (by simp; omega) _, ?_, ?_, ?_, ?_, ?_⟩ <;>
    (simp only [at_alloc, World.size_alloc]; repeat (first | rw [if_pos (by omega)] | rw [if_neg (by omega)] | rw [if_pos trivial]))

/-- What the loop over the parts keeps: the variables' blocks, the loop's own. -/
structure MayInv (N : Nat) (w : World) (rec : Loop) (pre : List (List UInt8)) (W : World) : Prop where
  below : Below N w W
  res : W.heap[N]? = some (.cells #[.bool false] 4 (0, 0))
  cnt : W.heap[N + 1]? = some (.cells #[.int .i64 (pre.length : Int)] 3 (0, 0))
  defs : W.heap[N + 5]? = some (.deferred (some []))
  loop : W.heap[N + 5 + 1]? = some (.loop rec)

theorem MayInv.set {N : Nat} {w : World} {rec : Loop} {pre : List (List UInt8)} {W : World} (h : MayInv N w rec pre W) (v : Value) : MayInv N w rec pre (W.setCell ⟨N + 1 + 1, 0, none⟩ v) :=
  ⟨h.below.setCell (p := ⟨N + 1 + 1, 0, none⟩) (by simp; omega) v, (Below.heap_setCell _ _ _ _ (by dsimp only; omega)).trans h.res, (Below.heap_setCell _ _ _ _ (by dsimp only; omega)).trans h.cnt,
    (Below.heap_setCell _ _ _ _ (by dsimp only; omega)).trans h.defs, (Below.heap_setCell _ _ _ _ (by dsimp only; omega)).trans h.loop⟩

def MayJ (N : Nat) (w : World) (rec : LoopState → Option Code → Loop) (pre : List (List UInt8)) (W : World) : Prop :=
  MayInv N w (rec .ready none) pre W ∧ pre.length ≤ 16 ∧ pre.all PS.partOk = true
def MayJx (N : Nat) (w : World) (rec : LoopState → Option Code → Loop) (pre : List (List UInt8)) (W : World) : Prop :=
  MayInv N w (rec .done (some .ret)) pre W ∧ (16 < pre.length ∨ pre.all PS.partOk = false)

theorem after_part {N : Nat} {X w' : World} {u v : Value} {t : TypeId} (hs : N + 5 + 1 < X.heap.size) (h1 : X.heap[N + 1]? = some (.cells #[u] t (0, 0)))
    (hb : Below (X.setCell ⟨N + 1, 0, none⟩ v).heap.size (X.setCell ⟨N + 1, 0, none⟩ v) w') :
    w'.heap[N + 1]? = some (.cells #[v] t (0, 0)) ∧ ∀ k, k ≤ N + 5 + 1 → k ≠ N + 1 → w'.heap[k]? = X.heap[k]? := by
  have hz : (X.setCell ⟨N + 1, 0, none⟩ v).heap.size = X.heap.size := by show (X.heap.modify _ _).size = _; simp
  refine ⟨(hb.block _ (by omega)).trans (one_setCell h1), fun k hk hn => (hb.block _ (by omega)).trans (Below.heap_setCell _ _ _ _ hn)⟩

theorem may_out {N : Nat} {w Y : World} {rec rec0 : Loop} {pre : List (List UInt8)} {x : List UInt8} (hb : Below N w Y)
    (h1 : Y.heap[N + 1]? = some (.cells #[.int .i64 ((pre.length : Int) + 1)] 3 (0, 0))) (h0 : Y.heap[N]? = some (.cells #[.bool false] 4 (0, 0)))
    (hD : Y.heap[N + 5]? = some (.deferred (some []))) (hL : Y.heap[N + 5 + 1]? = some (.loop rec0)) :
    MayInv N w rec (pre ++ [x]) ((Y.setCell ⟨N, 0, none⟩ (.bool false)).putObj (N + 5 + 1) (.loop rec)) := by
  have hL2 : (Y.setCell ⟨N, 0, none⟩ (.bool false)).heap[N + 5 + 1]? = some (.loop rec0) := (Below.heap_setCell _ _ _ _ (by dsimp only; omega)).trans hL
  refine ⟨(hb.setCell (p := ⟨N, 0, none⟩) (Nat.le_refl _) _).trans (below_put hL2 (by omega)), (heap_put_ne (by omega)).trans (one_setCell h0), ?_, (heap_put_ne (by omega)).trans ((Below.heap_setCell _ _ _ _ (by dsimp only; omega)).trans hD), World.putObj_heap_same (lt_of_block hL2)⟩
  rw [heap_put_ne (by omega), Below.heap_setCell _ _ _ _ (by show N + 1 ≠ N; omega), h1]
  simp

theorem may_go {N : Nat} {w Y : World} {rec rec0 : Loop} {pre : List (List UInt8)} {x : List UInt8} (hb : Below N w Y)
    (h1 : Y.heap[N + 1]? = some (.cells #[.int .i64 ((pre.length : Int) + 1)] 3 (0, 0))) (h0 : Y.heap[N]? = some (.cells #[.bool false] 4 (0, 0)))
    (hD : Y.heap[N + 5]? = some (.deferred (some []))) (hL : Y.heap[N + 5 + 1]? = some (.loop rec0)) :
    MayInv N w rec (pre ++ [x]) (Y.putObj (N + 5 + 1) (.loop rec)) := by
  refine ⟨hb.trans (below_put hL (by omega)), (heap_put_ne (by omega)).trans h0, ?_, (heap_put_ne (by omega)).trans hD, World.putObj_heap_same (lt_of_block hL)⟩
  rw [heap_put_ne (by omega), h1]
  simp

theorem may_good {l : List UInt8} (h : (PS.split l).length ≤ 16 ∧ (PS.split l).all PS.partOk = true) : PS.may l = true := by
  unfold PS.may
  simp [h.2, h.1]

theorem may_bad {l : List UInt8} {pre rest : List (List UInt8)} (h : PS.split l = pre ++ rest) (hb : 16 < pre.length ∨ pre.all PS.partOk = false) : PS.may l = false := by
  unfold PS.may
  rw [h]
  rcases hb with hb | hb
  · have : ¬ (pre ++ rest).length ≤ 16 := by simp; omega
    simp only [decide_eq_false this, Bool.false_and]
  · rw [List.all_append, hb]
    simp

set_option maxHeartbeats 400000 in
set_option maxRecDepth 100000 in
theorem may_any (s : ByteArray) (w : World) (hs : s.size ≤ 281474976710656) :
    Calls Tryd.prog 30 #[.string s] w fun e w' => e = .returned (.bool (PS.may s.data.toList)) ∧ Below w.heap.size w w' := by
  refine (callsIn_wide (n := 9)).1 ?_
  refine callsIn_of_wp_marks Tryd.func30 rfl trivial ?_ rfl
  simp only [Tryd.ntmps30, List.size_toArray, List.length_cons, List.length_nil, Nat.reduceAdd, Nat.reduceSub, Array.replicate_succ, Array.replicate_zero, List.push_toArray, List.append_toArray, List.nil_append, List.cons_append]
  obtain ⟨N, hN⟩ : ∃ N, w.heap.size = N := ⟨_, rfl⟩
  gi_wp2_with (refine ⟨trivial, ?_⟩; gi_at_call 48; refine (callsIn_wide.2 (SplitSeq_any s ⟨#[47]⟩ _)).mono ?_; rintro e w' ⟨rfl, rfl⟩)
  obtain ⟨W0, hW0, hsz, hb0, hB0, hB1, hB2, hB3, hB4⟩ := five_blocks w (.cells #[.bool false] 4) (.cells #[.int .i64 0] 3) (.cells #[.string s] 9) (.cells #[.string ⟨#[47]⟩] 9) (.cells #[.int .i64 0] 3) N hN
  rw [hW0]
  refine RNG.enter rfl (enters_of Tryd.func84 (by kernel_rfl) rfl) ?_
  rw [hsz]
  intro fn rec W1 hrec hs1 hbl1 hD hL
  have hold : ∀ k, k < N + 5 → W1.heap[k]? = W0.heap[k]? := fun k hk => hbl1.block k (by omega)
  refine (splitIter_calls 8 (N + 5 + 1) (N + 1 + 1 + 1) (N + 1 + 1) (N + 1 + 1 + 2) s (MayJ N w rec)
    (MayJx N w rec) W1 (by decide) hs (by omega) (by omega)
    ((hold _ (by omega)).trans hB3) ((hold _ (by omega)).trans hB2) ((hold _ (by omega)).trans hB4) (fun pre W r h => ⟨h.1.set _, h.2⟩) ?_ ?_).mono ?_
  · rintro pre x rest W hsp ⟨hJ, hlen, hall⟩
    have HREC := Lib.hid hrec
    have HSP := Lib.hid hsp
    have HH := Lib.hid hold
    clear hB0 hB1 hB2 hB3 hB4 hD hL hold hsp hW0 hs1 hbl1
    obtain ⟨hbW, hres, hcnt, hdef, hlp⟩ := hJ
    refine RNG.round hrec hlp rfl ?_
    obtain ⟨X, hX⟩ : ∃ X, W.putObj (N + 5 + 1) (.loop (rec .busy none)) = X := ⟨_, rfl⟩
    rw [hX]
    clear hrec
    have hxs : x.size ≤ 281474976710656 := by
      have h1 := PS.split_len s.data.toList x.data.toList (by rw [HSP.out]; simp)
      rw [Array.length_toList, Array.length_toList] at h1
      have h2 : x.data.size = x.size := rfl
      have h3 : s.data.size = s.size := rfl
      omega
    have hlt := (Array.getElem?_eq_some_iff.1 hlp).1
    have hbX : Below N w X := hX ▸ hbW.trans (below_put hlp (by omega))
    have hX0 : X.heap[N]? = some (.cells #[.bool false] 4 (0, 0)) := hX ▸ (heap_put_ne (by omega)).trans hres
    have hX1 : X.heap[N + 1]? = some (.cells #[.int .i64 (pre.length : Int)] 3 (0, 0)) := hX ▸ (heap_put_ne (by omega)).trans hcnt
    have hXD : X.heap[N + 5]? = some (.deferred (some [])) := hX ▸ (heap_put_ne (by omega)).trans hdef
    have hXL : X.heap[N + 5 + 1]? = some (.loop (rec .busy none)) := hX ▸ World.putObj_heap_same hlt
    have hc0 := cell_of_one hX0
    have hc1 := cell_of_one hX1
    have hf0 := free_of_one hX0
    have hf1 := free_of_one hX1
    have HX := Lib.hid (And.intro hX0 (And.intro hX1 (And.intro hXD hXL)))
    have HXW : Hid (∀ k, k ≠ N + 5 + 1 → X.heap[k]? = W.heap[k]?) := Lib.hid fun k hk => hX ▸ heap_put_ne hk
    clear hX0 hX1 hXD hXL hres hcnt hdef hlp hX
    have hX1 := HX.out.2.1
    have hsX : N + 5 + 1 < X.heap.size := lt_of_block HX.out.2.2.2
    have hXW : ∀ k, k ≠ N + 5 + 1 → X.heap[k]? = W.heap[k]? := HXW.out
    have hset := fun v => after_part (w' := X.setCell ⟨N + 1, 0, none⟩ v) (v := v) hsX hX1 (Below.refl _ _)
    have HS := Lib.hid (And.intro hX1 (And.intro hsX (And.intro hXW hset)))
    clear hX1 hXW hset
    by_cases h16 : pre.length = 16
    · have hp16 : 16 ≤ pre.length := by omega
      clear h16
      gi_wp2_with fail
      refine ⟨trivial, ?_⟩
      gi_wp2_with fail
      obtain ⟨_, hsX2, hXW, hset⟩ := HS.out
      obtain ⟨hX0, hX1, hXD, hXL⟩ := HX.out
      have hs1 := hset (.int .i64 ((pre.length : Int) + 1))
      exact ⟨(Below.heap_setCell _ _ _ _ (by simp; omega)).trans ((hs1.2 _ (by omega) (by omega)).trans hXL), .inr ⟨rfl,
        may_out (hbX.setCell (p := ⟨N + 1, 0, none⟩) (by simp) _) hs1.1 (hs1.2 _ (by omega) (by omega) |>.trans hX0) (hs1.2 _ (by omega) (by omega) |>.trans hXD) (hs1.2 _ (by omega) (by omega) |>.trans hXL), .inl (by simp; omega)⟩⟩
    · have hp16 : pre.length < 16 := by omega
      clear h16
      gi_wp2_with (refine ⟨trivial, ?_⟩; gi_at_call 49; refine (CallsIn.inRound _ (callsIn_wide.2 (part_any x _ hxs))).mono ?_; rintro e w' ⟨rfl, hb⟩; have ha := after_part HS.out.2.1 HS.out.1 hb; have hw0 := (ha.2 N (by omega) (by omega)).trans HX.out.1; have hcw := cell_of_one hw0; have hfw := free_of_one hw0; have HA := Lib.hid ha; have HB := Lib.hid hb; clear ha hw0 hb)
      · have hq : 16 < (pre.length : Int) + 1 ∨ (!PS.partOk x.data.toList) = true := by assumption
        obtain ⟨hX0, hX1, hXD, hXL⟩ := HX.out
        have ha := HA.out
        have hbw := (hbX.setCell (p := ⟨N + 1, 0, none⟩) (by dsimp only; omega) _).trans (HB.out.mono (by show N ≤ (X.heap.modify _ _).size; simp; omega))
        exact ⟨(Below.heap_setCell _ _ _ _ (by dsimp only; omega)).trans ((ha.2 _ (by omega) (by omega)).trans hXL), .inr ⟨rfl,
          may_out hbw ha.1 (ha.2 _ (by omega) (by omega) |>.trans hX0) (ha.2 _ (by omega) (by omega) |>.trans hXD) (ha.2 _ (by omega) (by omega) |>.trans hXL),
          .inr (by rw [List.all_append, hall]; rcases hq with hq | hq; · omega
                   · simpa using hq)⟩⟩
      · have hq : (pre.length : Int) + 1 ≤ 16 ∧ (!PS.partOk x.data.toList) = false := by assumption
        obtain ⟨hX0, hX1, hXD, hXL⟩ := HX.out
        have ha := HA.out
        have hXW := HS.out.2.2.1
        have hbw := (hbX.setCell (p := ⟨N + 1, 0, none⟩) (by dsimp only; omega) _).trans (HB.out.mono (by show N ≤ (X.heap.modify _ _).size; simp; omega))
        exact ⟨(ha.2 _ (by omega) (by omega)).trans hXL, .inl ⟨rfl,
          ⟨may_go hbw ha.1 (ha.2 _ (by omega) (by omega) |>.trans hX0) (ha.2 _ (by omega) (by omega) |>.trans hXD) (ha.2 _ (by omega) (by omega) |>.trans hXL),
            by simp; omega, by rw [List.all_append, hall]; simpa using hq.2⟩,
          ⟨(heap_put_ne (by omega)).trans ((ha.2 _ (by omega) (by omega)).trans (hXW _ (by omega))),
           (heap_put_ne (by omega)).trans ((ha.2 _ (by omega) (by omega)).trans (hXW _ (by omega))),
           (heap_put_ne (by omega)).trans ((ha.2 _ (by omega) (by omega)).trans (hXW _ (by omega)))⟩⟩⟩
  · exact ⟨⟨hb0.trans (hbl1.mono (by omega)), (hold _ (by omega)).trans hB0, (hold _ (by omega)).trans hB1, hD, hL⟩, by simp, rfl⟩
  · rintro e W2 ⟨hv, hj⟩
    refine ⟨hv, ?_⟩
    rcases hj with ⟨hJ, hlen, hall⟩ | ⟨pre, rest, hsp, hJ, hbad⟩
    · left
      refine ⟨hJ.loop, ?_⟩
      have hm := may_good ⟨hlen, hall⟩
      obtain ⟨V, hV⟩ : ∃ V, W2.putObj (N + 5 + 1) (.loop (rec .exhausted none)) = V := ⟨_, rfl⟩
      have hVb : Below N w V := hV ▸ hJ.below.trans (below_put hJ.loop (by omega))
      have hV0 : V.heap[N]? = some (.cells #[.bool false] 4 (0, 0)) := hV ▸ (heap_put_ne (by omega)).trans hJ.res
      have hVD : V.heap[N + 5]? = some (.deferred (some [])) := hV ▸ (heap_put_ne (by omega)).trans hJ.defs
      rw [hV]
      have hc := cell_of_one hV0
      have hf := free_of_one hV0
      have H := Lib.hid (And.intro hV0 (And.intro hVD hm))
      clear hV0 hVD hm hJ hlen hall hV hold hD hL hrec hB0 hB1 hB2 hB3 hB4
      gi_wp2
      obtain ⟨hV0, hVD, hm⟩ := H.out
      have hVD' : (V.setCell ⟨N, 0, none⟩ (.bool true)).heap[N + 5]? = some (.deferred (some [])) := (Below.heap_setCell _ _ _ _ (by dsimp only; omega)).trans hVD
      refine ⟨by simp, .inl ⟨_, _, rfl, run_takeDeferred hVD', ?_⟩⟩
      have hres := cell_of_one ((heap_put_ne (o := .deferred none) (show N ≠ N + 5 by omega)).trans (one_setCell (u := .bool true) hV0))
      refine ⟨.bool true, ?_, by rw [hm], ?_⟩
      · simp [results, Tryd.f30, go_sem, hres]
      · rw [hN]; exact (hVb.setCell (p := ⟨N, 0, none⟩) (Nat.le_refl _) _).trans (below_put hVD' (by omega))
    · right
      refine ⟨.ret, hJ.loop, ?_⟩
      have hm := may_bad hsp hbad
      obtain ⟨V, hV⟩ : ∃ V, W2.putObj (N + 5 + 1) (.loop (rec .exhausted (some .ret))) = V := ⟨_, rfl⟩
      have hVb : Below N w V := hV ▸ hJ.below.trans (below_put hJ.loop (by omega))
      have hV0 : V.heap[N]? = some (.cells #[.bool false] 4 (0, 0)) := hV ▸ (heap_put_ne (by omega)).trans hJ.res
      have hVD : V.heap[N + 5]? = some (.deferred (some [])) := hV ▸ (heap_put_ne (by omega)).trans hJ.defs
      rw [hV]
      have H := Lib.hid (And.intro hV0 (And.intro hVD hm))
      clear hV0 hVD hm hJ hsp hbad hV hold hD hL hrec hB0 hB1 hB2 hB3 hB4
      gi_wp2
      obtain ⟨hV0, hVD, hm⟩ := H.out
      refine ⟨by simp, .inl ⟨_, _, rfl, run_takeDeferred hVD, ?_⟩⟩
      have hres := cell_of_one ((heap_put_ne (o := .deferred none) (show N ≠ N + 5 by omega)).trans hV0)
      refine ⟨.bool false, ?_, by rw [hm], ?_⟩
      · simp [results, Tryd.f30, go_sem, hres]
      · rw [hN]; exact hVb.trans (below_put hVD (by omega))
end Go.Proofs.YtgbogkmbgedkkaaDoor
