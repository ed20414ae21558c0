/- The law on traces that are alike: what it computes. -/
import Derived.Test.YtcaookphoiopbaaDoorSamePure
import Derived.Test.YtcaookphoiopbaaDoorTraceSameRef
import Derived.Test.YtcaookphoiopbaaDoorAlive
import Derived.Test.YtcaookphoiopbaaDoorTraceWide
import Derived.Deep.RegionHeld3
namespace Go.Proofs.YtcaookphoiopbaaDoor
open Go.RowKit Go.Shelf
set_option linter.unusedSimpArgs false

/-- The two boxes lie where they were laid. -/
def TwoAt (w : World) (cs ds : List Value) (W : World) : Prop := Below w.heap.size w W ∧ W.rangeAt w.heap.size 0 cs ∧ W.rangeAt (w.heap.size + 1) 0 ds ∧ Pow W
theorem TwoAt.later {w W X : World} {cs ds : List Value} (h : TwoAt w cs ds W) (hb : Below W.heap.size W X) : TwoAt w cs ds X :=
  ⟨below_then h.1 h.1.size hb, range_below hb h.2.1, range_below hb h.2.2.1, h.2.2.2.below hb⟩
theorem TwoAt.below {w W : World} {cs ds : List Value} (h : TwoAt w cs ds W) : Below w.heap.size w W := h.1
theorem TwoAt.drew {w W : World} {cs ds : List Value} (h : TwoAt w cs ds W) : TwoAt w cs ds W.drew := h.later (below_drew1 (Below.refl _ _))
theorem TwoAt.drewN {w W : World} {cs ds : List Value} (h : TwoAt w cs ds W) (n : Nat) : TwoAt w cs ds (W.drewN n) := h.later (below_draws (Below.refl _ _) n)

theorem wide_small {t : TraceD} (h : TS.wide t = false) : t.reads.length ≤ 1000000000 ∧ t.outs.length ≤ 1000000000 := by
  unfold TS.wide at h
  simp only [Bool.or_eq_false_iff, decide_eq_false_iff_not] at h
  omega

set_option maxHeartbeats 8000000 in
set_option maxRecDepth 100000 in
theorem traceSame_any (a b : TraceD) (A : Option Addr) (c : Nat) (A' : Option Addr) (c' : Nat) (B : Option Addr) (d : Nat) (B' : Option Addr) (d' : Nat) (w : World)
    (hR : Elems ReadD.enc 34 w A a.reads.length c a.reads) (hO : Elems MadeD.enc 33 w A' a.outs.length c' a.outs) (hR2 : Elems ReadD.enc 34 w B b.reads.length d b.reads) (hO2 : Elems MadeD.enc 33 w B' b.outs.length d' b.outs)
    (hp : Pow w) (s1 : a.small) (s2 : b.small) :
    Calls Tryd.prog 6 #[.agg (a.cells A c A' c').toArray, .agg (b.cells B d B' d').toArray] w fun e w' => e = .returned (.bool true) ∧ Below w.heap.size w w' := by
  have wa := fun (W : World) (h : Below w.heap.size w W) => wide_any a A c A' c' W (hR.below h) (hO.below h)
  have wb := fun (W : World) (h : Below w.heap.size w W) => wide_any b B d B' d' W (hR2.below h) (hO2.below h)
  have ba := fun (W : World) (h : Below w.heap.size w W) (hq : Pow W) => bytes_any a A c A' c' W (hR.below h) (hO.below h) s1 hq
  have bb := fun (W : World) (h : Below w.heap.size w W) (hq : Pow W) => bytes_any b B d B' d' W (hR2.below h) (hO2.below h) s2 hq
  have cs1 := fun (W : World) (h : Below w.heap.size w W) (n1 : TS.wide a = false) (n2 : TS.wide b = false) => same_any a b A c A' c' B d B' d' W (hR.below h) (hO.below h) (hR2.below h) (hO2.below h) (wide_small n1).1 (wide_small n1).2 (wide_small n2).1 (wide_small n2).2
  have cs2 := fun (W : World) (h : Below w.heap.size w W) (n1 : TS.wide a = false) (n2 : TS.wide b = false) => sameRef_any a b A c A' c' B d B' d' W (hR.below h) (hO.below h) (hR2.below h) (hO2.below h) (wide_small n1).1 (wide_small n1).2 (wide_small n2).1 (wide_small n2).2
  have cs3 := fun (W : World) (h : Below w.heap.size w W) (n1 : TS.wide a = false) => same_any a a A c A' c' A c A' c' W (hR.below h) (hO.below h) (hR.below h) (hO.below h) (wide_small n1).1 (wide_small n1).2 (wide_small n1).1 (wide_small n1).2
  rw [TS.sameT_refl a] at cs3
  have htell : TS.checkErr a = 0 → TS.checkErr b = 0 → ((TB.out a).toList == (TB.out b).toList) = TS.sameT a b := TS.bytes_tell
  obtain ⟨cs, hcs⟩ : ∃ cs, a.cells A c A' c' = cs := ⟨_, rfl⟩
  obtain ⟨ds, hds⟩ : ∃ ds, b.cells B d B' d' = ds := ⟨_, rfl⟩
  have la := a.cells_len A c A' c'
  have lb := b.cells_len B d B' d'
  rw [hcs] at wa ba cs1 cs2 cs3 la ⊢
  rw [hds] at wb bb cs1 cs2 lb ⊢
  obtain ⟨X, hX, hb, hz, h1, h2⟩ := two_boxes w cs ds 29
  have hT : TwoAt w cs ds X := ⟨hb, h1, h2, hp.below hb⟩
  have hld1 : ∀ W : World, TwoAt w cs ds W → (Instr.loadAt 29 (.pointer (some ⟨w.heap.size, 0, none⟩))).run Tryd.prog W = .ok (.agg cs.toArray) W := fun W h => run_loadAt_mid W w.heap.size 0 29 cs _ h.2.1 Tryd.underlying29 rfl (by rw [la]; kernel_rfl)
  have hld2 : ∀ W : World, TwoAt w cs ds W → (Instr.loadAt 29 (.pointer (some ⟨w.heap.size + 1, 0, none⟩))).run Tryd.prog W = .ok (.agg ds.toArray) W := fun W h => run_loadAt_mid W (w.heap.size + 1) 0 29 ds _ h.2.2.1 Tryd.underlying29 rfl (by rw [lb]; kernel_rfl)
  obtain ⟨q, hq⟩ : ∃ q, TS.sameT a b = q := ⟨_, rfl⟩
  rw [hq] at cs1 cs2 htell
  obtain ⟨za, hza⟩ : ∃ za, TS.wide a = za := ⟨_, rfl⟩
  obtain ⟨zb, hzb⟩ : ∃ zb, TS.wide b = zb := ⟨_, rfl⟩
  rw [hza] at wa cs1 cs2 cs3
  rw [hzb] at wb cs1 cs2
  obtain ⟨xa, hxa⟩ : ∃ xa, TS.checkErr a = xa := ⟨_, rfl⟩
  obtain ⟨xb, hxb⟩ : ∃ xb, TS.checkErr b = xb := ⟨_, rfl⟩
  obtain ⟨oa, hoa⟩ : ∃ oa, TB.out a = oa := ⟨_, rfl⟩
  obtain ⟨ob, hob⟩ : ∃ ob, TB.out b = ob := ⟨_, rfl⟩
  rw [hxa, hoa] at ba htell
  rw [hxb, hob] at bb htell
  have WA := Lib.hid wa
  have WB := Lib.hid wb
  have BA := Lib.hid ba
  have BB := Lib.hid bb
  have C1 := Lib.hid cs1
  have C2 := Lib.hid cs2
  have C3 := Lib.hid cs3
  have HX := Lib.hid hX
  have LA := Lib.hid la
  have LB := Lib.hid lb
  have HT := Lib.hid hT
  have D1 := Lib.hid hld1
  have D2 := Lib.hid hld2
  have TELL := Lib.hid htell
  clear wa wb ba bb cs1 cs2 cs3 hcs hds la lb hX hb hz h1 h2 hT hld1 hld2 htell hq hza hzb hxa hxb hoa hob hR hO hR2 hO2 s1 s2 hp
  go_enter Tryd.func6, Tryd.ntmps6
  go_wp2_with fail
  rw [HX.out]
  refine (alive_any _ HT.out.2.2.2).mono ?_
  rintro e w1 ⟨rfl, hb1⟩
  have H1 := Lib.hid (HT.out.later hb1)
  clear hb1 HT HX
  go_wp2_with (refine wpList_load_mid rfl 29 _ rfl w.heap.size 0 rfl cs _ H1.out.2.1 Tryd.underlying29 rfl (by rw [LA.out]; kernel_rfl) ?_)
  refine (WA.out _ H1.out.1).mono ?_
  rintro e w2 ⟨rfl, hb2⟩
  have H2 := Lib.hid (H1.out.later hb2)
  clear hb2 H1
  cases za with
  | true =>
    go_wp2_with fail
    go_ret
    exact ⟨rfl, H2.out.1⟩
  | false =>
    go_wp2_with (refine wpList_load_mid_g 29 _ rfl (by rfl) (w.heap.size + 1) 0 rfl ds _ H2.out.2.2.1 Tryd.underlying29 rfl (by rw [LB.out]; kernel_rfl) ?_)
    refine (WB.out _ H2.out.1).mono ?_
    rintro e w3 ⟨rfl, hb3⟩
    have H3 := H2.out.later hb3
    clear hb3 H2
    cases zb with
    | true =>
      have HE := Lib.hid H3.1
      clear H3
      go_wp2_with fail
      go_ret
      exact ⟨rfl, HE.out⟩
    | false =>
      go_wp2_with fail
      have hd1 := D1.out
      have hd2 := D2.out
      clear hd1 hd2
      cases q with
      | true =>
        refine wp_region_held_drew (S := TwoAt w cs ds) (by kernel_rfl) H3.drew (fun hHeld => ?_)
        clear H3
        refine wpAnyH_take (i := 0) (v := .agg cs.toArray) rfl (by kernel_rfl) (by kernel_rfl) (by kernel_rfl) (fun _ _ _ h => h) (yieldsIf_load_mid (by rfl) 29 _ rfl (w.heap.size) 0 rfl cs _ (fun _ h => h.2.1) Tryd.underlying29 rfl (by rw [LA.out]; kernel_rfl)) hHeld ?_
        try simp only [Act.put, List.setIfInBounds_toArray, List.set_cons_zero, List.set_cons_succ]
        refine wpAnyH_take (i := 1) (v := .agg ds.toArray) rfl (by kernel_rfl) (by kernel_rfl) (by kernel_rfl) (fun _ _ _ h => h) (yieldsIf_load_mid (by rfl) 29 _ rfl (w.heap.size + 1) 0 rfl ds _ (fun _ h => h.2.2.1) Tryd.underlying29 rfl (by rw [LB.out]; kernel_rfl)) hHeld ?_
        try simp only [Act.put, List.setIfInBounds_toArray, List.set_cons_zero, List.set_cons_succ]
        refine wpAnyH_take (i := 3) (v := .agg cs.toArray) rfl (by kernel_rfl) (by kernel_rfl) (by kernel_rfl) (fun _ _ _ h => h) (yieldsIf_load_mid (by rfl) 29 _ rfl (w.heap.size) 0 rfl cs _ (fun _ h => h.2.1) Tryd.underlying29 rfl (by rw [LA.out]; kernel_rfl)) hHeld ?_
        try simp only [Act.put, List.setIfInBounds_toArray, List.set_cons_zero, List.set_cons_succ]
        refine wpAnyH_take (i := 4) (v := .agg ds.toArray) rfl (by kernel_rfl) (by kernel_rfl) (by kernel_rfl) (fun _ _ _ h => h) (yieldsIf_load_mid (by rfl) 29 _ rfl (w.heap.size + 1) 0 rfl ds _ (fun _ h => h.2.2.1) Tryd.underlying29 rfl (by rw [LB.out]; kernel_rfl)) hHeld ?_
        try simp only [Act.put, List.setIfInBounds_toArray, List.set_cons_zero, List.set_cons_succ]
        refine wpAnyH_ready (rs := [2]) (by kernel_rfl) (by simp) ?_
        refine AllReadyH.cons rfl (fun K hK => ?_) AllReadyH.nil
        rw [if_pos (by rfl)]
        go_simp
        refine (C1.out _ hHeld.1 (by trivial) (by trivial)).mono ?_
        rintro e w4 ⟨rfl, hb4⟩
        have hS4 := hHeld.later hb4
        clear hb4 hHeld
        go_wp2_with fail
        refine hK.out _ _ hS4 (fun hHeld => ?_)
        clear hK K hS4
        try simp only [Act.put, List.setIfInBounds_toArray, List.set_cons_zero, List.set_cons_succ]
        refine wpAnyH_ready (rs := [5]) (by kernel_rfl) (by simp) ?_
        refine AllReadyH.cons rfl (fun K hK => ?_) AllReadyH.nil
        rw [if_pos (by rfl)]
        go_simp
        refine (C2.out _ hHeld.1 (by trivial) (by trivial)).mono ?_
        rintro e w4 ⟨rfl, hb4⟩
        have hS4 := hHeld.later hb4
        clear hb4 hHeld
        go_wp2_with fail
        refine hK.out _ _ hS4 (fun hHeld => ?_)
        clear hK K hS4
        try simp only [Act.put, List.setIfInBounds_toArray, List.set_cons_zero, List.set_cons_succ]
        refine wpAnyH_take (i := 6) (v := .bool false) rfl (by kernel_rfl) (by kernel_rfl) (by kernel_rfl) (fun _ _ _ h => h) (Or.inl ⟨by rfl, fun w _ => by go_simp <;> rfl⟩) hHeld ?_
        try simp only [Act.put, List.setIfInBounds_toArray, List.set_cons_zero, List.set_cons_succ]
        refine wpAnyH_take (i := 7) (v := .bool false) rfl (by kernel_rfl) (by kernel_rfl) (by kernel_rfl) (fun _ _ _ h => h) (Or.inl ⟨by rfl, fun w _ => by go_simp <;> rfl⟩) hHeld ?_
        try simp only [Act.put, List.setIfInBounds_toArray, List.set_cons_zero, List.set_cons_succ]
        refine wpAnyH_take (i := 8) (v := .agg cs.toArray) rfl (by kernel_rfl) (by kernel_rfl) (by kernel_rfl) (fun _ _ _ h => h) (yieldsIf_load_mid (by rfl) 29 _ rfl (w.heap.size) 0 rfl cs _ (fun _ h => h.2.1) Tryd.underlying29 rfl (by rw [LA.out]; kernel_rfl)) hHeld ?_
        try simp only [Act.put, List.setIfInBounds_toArray, List.set_cons_zero, List.set_cons_succ]
        refine wpAnyH_take (i := 9) (v := .agg cs.toArray) rfl (by kernel_rfl) (by kernel_rfl) (by kernel_rfl) (fun _ _ _ h => h) (yieldsIf_load_mid (by rfl) 29 _ rfl (w.heap.size) 0 rfl cs _ (fun _ h => h.2.1) Tryd.underlying29 rfl (by rw [LA.out]; kernel_rfl)) hHeld ?_
        try simp only [Act.put, List.setIfInBounds_toArray, List.set_cons_zero, List.set_cons_succ]
        refine wpAnyH_ready (rs := [10]) (by kernel_rfl) (by simp) ?_
        refine AllReadyH.cons rfl (fun K hK => ?_) AllReadyH.nil
        rw [if_pos (by rfl)]
        go_simp
        refine (C3.out _ hHeld.1 (by trivial)).mono ?_
        rintro e w4 ⟨rfl, hb4⟩
        have hS4 := hHeld.later hb4
        clear hb4 hHeld
        go_wp2_with fail
        refine hK.out _ _ hS4 (fun hHeld => ?_)
        clear hK K hS4
        try simp only [Act.put, List.setIfInBounds_toArray, List.set_cons_zero, List.set_cons_succ]
        refine wpAnyH_take (i := 11) (v := .bool false) rfl (by kernel_rfl) (by kernel_rfl) (by kernel_rfl) (fun _ _ _ h => h) (Or.inl ⟨by rfl, fun w _ => by go_simp <;> rfl⟩) hHeld ?_
        try simp only [Act.put, List.setIfInBounds_toArray, List.set_cons_zero, List.set_cons_succ]
        refine wpAnyH_take (i := 12) (v := .bool false) rfl (by kernel_rfl) (by kernel_rfl) (by kernel_rfl) (fun _ _ _ h => h) (Or.inl ⟨by rfl, fun w _ => by go_simp <;> rfl⟩) hHeld ?_
        try simp only [Act.put, List.setIfInBounds_toArray, List.set_cons_zero, List.set_cons_succ]
        refine wpAnyH_done (by kernel_rfl) ?_ _
        have H4 := Lib.hid hHeld
        clear hHeld
        go_wp2_with (refine wpList_load_mid rfl 29 _ rfl w.heap.size 0 rfl cs _ H4.out.2.1 Tryd.underlying29 rfl (by rw [LA.out]; kernel_rfl) ?_)
        refine (BA.out _ H4.out.1 H4.out.2.2.2).mono ?_
        rintro e w5 ⟨rfl, hb5⟩
        have H5 := Lib.hid (H4.out.later hb5)
        clear hb5 H4
        go_wp2_with (refine wpList_load_mid rfl 29 _ rfl (w.heap.size + 1) 0 rfl ds _ H5.out.2.2.1 Tryd.underlying29 rfl (by rw [LB.out]; kernel_rfl) ?_)
        refine (BB.out _ H5.out.1 H5.out.2.2.2).mono ?_
        rintro e w6 ⟨rfl, hb6⟩
        have H6 := Lib.hid (H5.out.later hb6)
        clear hb6 H5
        by_cases hx : xa = 0
        · subst hx
          by_cases hy : xb = 0
          · subst hy
            have htl := TELL.out rfl rfl
            go_wp2_with (first | (refine wpList_load_mid_g 29 _ rfl (by rfl) w.heap.size 0 rfl cs _ H6.out.2.1 Tryd.underlying29 rfl (by rw [LA.out]; kernel_rfl) ?_) | (refine wpList_load_mid_g 29 _ rfl (by rfl) (w.heap.size + 1) 0 rfl ds _ H6.out.2.2.1 Tryd.underlying29 rfl (by rw [LB.out]; kernel_rfl) ?_))
            refine (C2.out _ H6.out.1 (by trivial) (by trivial)).mono ?_
            rintro e w7 ⟨rfl, hb7⟩
            have H7 := Lib.hid (H6.out.later hb7)
            clear hb7
            go_wp2_with fail
            go_ret
            exact ⟨retB (by simp [htl]), H7.out.1⟩
          · have hy1 : (xb == 0) = false := by simpa using hy
            have hy2 : (xb != 0) = true := by simpa using hy
            clear hy
            go_wp2_with fail
            go_ret
            exact ⟨rfl, H6.out.1⟩
        · have hx1 : (xa == 0) = false := by simpa using hx
          have hx2 : (xa != 0) = true := by simpa using hx
          clear hx
          go_wp2_with fail
          go_ret
          exact ⟨rfl, H6.out.1⟩
      | false =>
        refine wp_region_held_drew (S := TwoAt w cs ds) (by kernel_rfl) H3.drew (fun hHeld => ?_)
        clear H3
        refine wpAnyH_take (i := 0) (v := .agg cs.toArray) rfl (by kernel_rfl) (by kernel_rfl) (by kernel_rfl) (fun _ _ _ h => h) (yieldsIf_load_mid (by rfl) 29 _ rfl (w.heap.size) 0 rfl cs _ (fun _ h => h.2.1) Tryd.underlying29 rfl (by rw [LA.out]; kernel_rfl)) hHeld ?_
        try simp only [Act.put, List.setIfInBounds_toArray, List.set_cons_zero, List.set_cons_succ]
        refine wpAnyH_take (i := 1) (v := .agg ds.toArray) rfl (by kernel_rfl) (by kernel_rfl) (by kernel_rfl) (fun _ _ _ h => h) (yieldsIf_load_mid (by rfl) 29 _ rfl (w.heap.size + 1) 0 rfl ds _ (fun _ h => h.2.2.1) Tryd.underlying29 rfl (by rw [LB.out]; kernel_rfl)) hHeld ?_
        try simp only [Act.put, List.setIfInBounds_toArray, List.set_cons_zero, List.set_cons_succ]
        refine wpAnyH_take (i := 3) (v := .agg cs.toArray) rfl (by kernel_rfl) (by kernel_rfl) (by kernel_rfl) (fun _ _ _ h => h) (yieldsIf_load_mid (by rfl) 29 _ rfl (w.heap.size) 0 rfl cs _ (fun _ h => h.2.1) Tryd.underlying29 rfl (by rw [LA.out]; kernel_rfl)) hHeld ?_
        try simp only [Act.put, List.setIfInBounds_toArray, List.set_cons_zero, List.set_cons_succ]
        refine wpAnyH_take (i := 4) (v := .agg ds.toArray) rfl (by kernel_rfl) (by kernel_rfl) (by kernel_rfl) (fun _ _ _ h => h) (yieldsIf_load_mid (by rfl) 29 _ rfl (w.heap.size + 1) 0 rfl ds _ (fun _ h => h.2.2.1) Tryd.underlying29 rfl (by rw [LB.out]; kernel_rfl)) hHeld ?_
        try simp only [Act.put, List.setIfInBounds_toArray, List.set_cons_zero, List.set_cons_succ]
        refine wpAnyH_ready (rs := [2]) (by kernel_rfl) (by simp) ?_
        refine AllReadyH.cons rfl (fun K hK => ?_) AllReadyH.nil
        rw [if_pos (by rfl)]
        go_simp
        refine (C1.out _ hHeld.1 (by trivial) (by trivial)).mono ?_
        rintro e w4 ⟨rfl, hb4⟩
        have hS4 := hHeld.later hb4
        clear hb4 hHeld
        go_wp2_with fail
        refine hK.out _ _ hS4 (fun hHeld => ?_)
        clear hK K hS4
        try simp only [Act.put, List.setIfInBounds_toArray, List.set_cons_zero, List.set_cons_succ]
        refine wpAnyH_ready (rs := [5]) (by kernel_rfl) (by simp) ?_
        refine AllReadyH.cons rfl (fun K hK => ?_) AllReadyH.nil
        rw [if_pos (by rfl)]
        go_simp
        refine (C2.out _ hHeld.1 (by trivial) (by trivial)).mono ?_
        rintro e w4 ⟨rfl, hb4⟩
        have hS4 := hHeld.later hb4
        clear hb4 hHeld
        go_wp2_with fail
        refine hK.out _ _ hS4 (fun hHeld => ?_)
        clear hK K hS4
        try simp only [Act.put, List.setIfInBounds_toArray, List.set_cons_zero, List.set_cons_succ]
        refine wpAnyH_take (i := 6) (v := .bool false) rfl (by kernel_rfl) (by kernel_rfl) (by kernel_rfl) (fun _ _ _ h => h) (Or.inl ⟨by rfl, fun w _ => by go_simp <;> rfl⟩) hHeld ?_
        try simp only [Act.put, List.setIfInBounds_toArray, List.set_cons_zero, List.set_cons_succ]
        refine wpAnyH_take (i := 7) (v := .bool false) rfl (by kernel_rfl) (by kernel_rfl) (by kernel_rfl) (fun _ _ _ h => h) (Or.inl ⟨by rfl, fun w _ => by go_simp <;> rfl⟩) hHeld ?_
        try simp only [Act.put, List.setIfInBounds_toArray, List.set_cons_zero, List.set_cons_succ]
        refine wpAnyH_take (i := 8) (v := .agg cs.toArray) rfl (by kernel_rfl) (by kernel_rfl) (by kernel_rfl) (fun _ _ _ h => h) (yieldsIf_load_mid (by rfl) 29 _ rfl (w.heap.size) 0 rfl cs _ (fun _ h => h.2.1) Tryd.underlying29 rfl (by rw [LA.out]; kernel_rfl)) hHeld ?_
        try simp only [Act.put, List.setIfInBounds_toArray, List.set_cons_zero, List.set_cons_succ]
        refine wpAnyH_take (i := 9) (v := .agg cs.toArray) rfl (by kernel_rfl) (by kernel_rfl) (by kernel_rfl) (fun _ _ _ h => h) (yieldsIf_load_mid (by rfl) 29 _ rfl (w.heap.size) 0 rfl cs _ (fun _ h => h.2.1) Tryd.underlying29 rfl (by rw [LA.out]; kernel_rfl)) hHeld ?_
        try simp only [Act.put, List.setIfInBounds_toArray, List.set_cons_zero, List.set_cons_succ]
        refine wpAnyH_ready (rs := [10]) (by kernel_rfl) (by simp) ?_
        refine AllReadyH.cons rfl (fun K hK => ?_) AllReadyH.nil
        rw [if_pos (by rfl)]
        go_simp
        refine (C3.out _ hHeld.1 (by trivial)).mono ?_
        rintro e w4 ⟨rfl, hb4⟩
        have hS4 := hHeld.later hb4
        clear hb4 hHeld
        go_wp2_with fail
        refine hK.out _ _ hS4 (fun hHeld => ?_)
        clear hK K hS4
        try simp only [Act.put, List.setIfInBounds_toArray, List.set_cons_zero, List.set_cons_succ]
        refine wpAnyH_take (i := 11) (v := .bool false) rfl (by kernel_rfl) (by kernel_rfl) (by kernel_rfl) (fun _ _ _ h => h) (Or.inl ⟨by rfl, fun w _ => by go_simp <;> rfl⟩) hHeld ?_
        try simp only [Act.put, List.setIfInBounds_toArray, List.set_cons_zero, List.set_cons_succ]
        refine wpAnyH_take (i := 12) (v := .bool false) rfl (by kernel_rfl) (by kernel_rfl) (by kernel_rfl) (fun _ _ _ h => h) (Or.inl ⟨by rfl, fun w _ => by go_simp <;> rfl⟩) hHeld ?_
        try simp only [Act.put, List.setIfInBounds_toArray, List.set_cons_zero, List.set_cons_succ]
        refine wpAnyH_done (by kernel_rfl) ?_ _
        have H4 := Lib.hid hHeld
        clear hHeld
        go_wp2_with (refine wpList_load_mid rfl 29 _ rfl w.heap.size 0 rfl cs _ H4.out.2.1 Tryd.underlying29 rfl (by rw [LA.out]; kernel_rfl) ?_)
        refine (BA.out _ H4.out.1 H4.out.2.2.2).mono ?_
        rintro e w5 ⟨rfl, hb5⟩
        have H5 := Lib.hid (H4.out.later hb5)
        clear hb5 H4
        go_wp2_with (refine wpList_load_mid rfl 29 _ rfl (w.heap.size + 1) 0 rfl ds _ H5.out.2.2.1 Tryd.underlying29 rfl (by rw [LB.out]; kernel_rfl) ?_)
        refine (BB.out _ H5.out.1 H5.out.2.2.2).mono ?_
        rintro e w6 ⟨rfl, hb6⟩
        have H6 := Lib.hid (H5.out.later hb6)
        clear hb6 H5
        by_cases hx : xa = 0
        · subst hx
          by_cases hy : xb = 0
          · subst hy
            have htl := TELL.out rfl rfl
            go_wp2_with (first | (refine wpList_load_mid_g 29 _ rfl (by rfl) w.heap.size 0 rfl cs _ H6.out.2.1 Tryd.underlying29 rfl (by rw [LA.out]; kernel_rfl) ?_) | (refine wpList_load_mid_g 29 _ rfl (by rfl) (w.heap.size + 1) 0 rfl ds _ H6.out.2.2.1 Tryd.underlying29 rfl (by rw [LB.out]; kernel_rfl) ?_))
            refine (C2.out _ H6.out.1 (by trivial) (by trivial)).mono ?_
            rintro e w7 ⟨rfl, hb7⟩
            have H7 := Lib.hid (H6.out.later hb7)
            clear hb7
            go_wp2_with fail
            go_ret
            exact ⟨retB (by simp [htl]), H7.out.1⟩
          · have hy1 : (xb == 0) = false := by simpa using hy
            have hy2 : (xb != 0) = true := by simpa using hy
            clear hy
            go_wp2_with fail
            go_ret
            exact ⟨rfl, H6.out.1⟩
        · have hx1 : (xa == 0) = false := by simpa using hx
          have hx2 : (xa != 0) = true := by simpa using hx
          clear hx
          go_wp2_with fail
          go_ret
          exact ⟨rfl, H6.out.1⟩
end Go.Proofs.YtcaookphoiopbaaDoor
