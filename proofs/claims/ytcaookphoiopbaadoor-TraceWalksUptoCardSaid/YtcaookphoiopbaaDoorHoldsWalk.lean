/- The law on what holds: what it computes. -/
import Derived.Test.YtcaookphoiopbaaDoorAlive
import Derived.Test.YtcaookphoiopbaaDoorHoldsPure
import Derived.Test.YtcaookphoiopbaaDoorTraceRefHolds
import Derived.Test.YtcaookphoiopbaaDoorElems
namespace Go.Proofs.YtcaookphoiopbaaDoor
open Go.RowKit Go.Shelf

/-- The box of the trace lies where it was laid. -/
def BoxAt (w : World) (cs : List Value) (W : World) : Prop := Below w.heap.size w W ∧ W.rangeAt w.heap.size 0 cs ∧ w.heap.size + 1 ≤ W.heap.size
theorem BoxAt.later {w W X : World} {cs : List Value} (h : BoxAt w cs W) (hb : Below W.heap.size W X) : BoxAt w cs X := ⟨below_then h.1 h.1.size hb, range_below hb h.2.1, Nat.le_trans h.2.2 hb.size⟩
theorem BoxAt.low {w W X : World} {cs : List Value} (h : BoxAt w cs W) (hb : Below (w.heap.size + 1) W X) : BoxAt w cs X := ⟨h.1.trans (hb.mono (Nat.le_succ _)), range_low hb (Nat.lt_succ_self _) h.2.1, Nat.le_trans h.2.2 hb.size⟩
theorem BoxAt.new (w : World) (cs : List Value) (t : TypeId) : BoxAt w cs (w.alloc (.cells cs.toArray t)) := ⟨below_box _, range_new w cs t, by simp⟩
theorem own_none (w : World) (B : Nat) (hB : B ≤ w.heap.size) : (w.alloc (.cells #[] 32)).ownsRow B 32 34 (.slice (some ⟨w.heap.size, 0, none⟩) 0 0) 0 [] :=
  ⟨rfl, Or.inr ⟨w.heap.size, 0, #[], rfl, hB, World.alloc_heap_new w _, Nat.le_refl _, by unfold maxLen; omega, rfl, rfl⟩⟩
theorem infoRead2 : (Tryd.prog.info? 32).map (fun i => (i.zero, i.size, i.bytes)) = some (some (.agg (ReadD.enc ⟨⟨#[]⟩, false, Dig.zero⟩).toArray), 34, 56) := by kernel_rfl
theorem grown_below {B : Nat} {W X : World} {v : Value} {e s n : Nat} {xs : List Value} (ho : W.ownsRow B e s v n xs) (hB : B ≤ W.heap.size) (hg : W.grownBy X v.ownBlock) : Below B W X :=
  (Below.refl B W).grown hg hB (fun j hj => by
    rcases ho.2 with ⟨rfl, _⟩ | ⟨g, cap, cur, rfl, hb, _⟩
    · simp [Value.ownBlock] at hj
    · simp only [Value.ownBlock, Option.some.injEq] at hj
      omega)

theorem all_own {known more : List ReadD} {n m : Nat} {w : World} {B : Nat} {v : Value} (h1 : known.length = n) (h2 : more.length = m) (h : w.ownsRow B 32 34 v (0 + n + m) ([] ++ known.flatMap ReadD.enc ++ more.flatMap ReadD.enc)) :
    w.ownsRow B 32 34 v (known ++ more).length ((known ++ more).flatMap ReadD.enc) := by
  subst h1 h2
  rw [List.length_append, List.flatMap_append]
  simpa using h

set_option maxHeartbeats 8000000 in
set_option maxRecDepth 100000 in
theorem traceHolds_any (t : TraceD) (A : Option Addr) (c : Nat) (A' : Option Addr) (c' : Nat) (K : Option Addr) (n d : Nat) (known : List ReadD) (M : Option Addr) (m d' : Nat) (more : List ReadD) (w : World)
    (hR : Elems ReadD.enc 34 w A t.reads.length c t.reads) (hO : Elems MadeD.enc 33 w A' t.outs.length c' t.outs) (hK : Elems ReadD.enc 34 w K n d known) (hM : Elems ReadD.enc 34 w M m d' more) (hp : Pow w) :
    Calls Tryd.prog 4 #[.agg (t.cells A c A' c').toArray, .slice K n d, .slice M m d'] w fun e w' => e = .returned (.bool true) ∧ Below w.heap.size w w' := by
  have cw := fun (W : World) (h : Below w.heap.size w W) => wide_any t A c A' c' W (hR.below h) (hO.below h)
  by_cases hz : TS.wide t = true
  · obtain ⟨cs, hcs⟩ : ∃ cs, t.cells A c A' c' = cs := ⟨_, rfl⟩
    have hl := t.cells_len A c A' c'
    rw [hcs] at cw hl ⊢
    rw [hz] at cw
    have CW := Lib.hid cw
    have HL := Lib.hid hl
    have HB := Lib.hid (BoxAt.new w cs 29)
    have hp0 : Pow (w.alloc (.cells cs.toArray 29)) := hp.below (below_box _)
    clear cw hcs hl hR hO hK hM
    go_enter Tryd.func4, Tryd.ntmps4
    go_wp2_with (first | (go_at_call 11; refine (alive_any _ hp0).mono ?_; rintro e w1 ⟨rfl, hb1⟩; have H1 := Lib.hid (HB.out.later hb1)) | (refine wpList_load_mid rfl 29 _ rfl w.heap.size 0 rfl cs _ H1.out.2.1 Tryd.underlying29 rfl (by rw [HL.out]; kernel_rfl) ?_) | (go_at_call 14; refine (CW.out _ H1.out.1).mono ?_; rintro e w2 ⟨rfl, hb2⟩; have H2 := Lib.hid (H1.out.later hb2)))
    go_ret
    exact ⟨rfl, H2.out.1⟩
  have hz' : TS.wide t = false := by simpa using hz
  have hsz : t.reads.length ≤ 60 := by
    unfold TS.wide at hz'
    simp only [Bool.or_eq_false_iff, decide_eq_false_iff_not] at hz'
    omega
  have ch := fun (W : World) (h : Below w.heap.size w W) (hn : n ≤ 60) => holds_any t A c A' c' K n d known W (hR.below h) (hK.below h) (by omega) (by omega)
  have cr := fun (W : World) (h : Below w.heap.size w W) (hn : n ≤ 60) => refHolds_any t A c A' c' K n d known W (hR.below h) (hK.below h) (by omega) (by omega)
  have c2 := fun (W : World) (A2 : Option Addr) (k2 : Nat) (h : Below w.heap.size w W) (hE : Elems ReadD.enc 34 W A2 (known.length + more.length) k2 (known ++ more)) (hn : known.length + more.length ≤ 1000) => holds_any t A c A' c' A2 (known.length + more.length) k2 (known ++ more) W (hR.below h) hE (by omega) (by omega)
  have ce := fun (W : World) (h : Below w.heap.size w W) => empty_any t A c A' c' W (hR.below h) (by omega)
  have ck := fun (W : World) (p : ByteArray) (h : Below w.heap.size w W) (hn : m ≤ 60) => knows_any M m d' more p W (hM.below h) (by omega)
  have l1 := TS.holds_sure known more t.reads
  have l2 := TS.holds_lack known more t.reads
  unfold TS.empty at l1
  obtain ⟨cs, hcs⟩ : ∃ cs, t.cells A c A' c' = cs := ⟨_, rfl⟩
  have hl := t.cells_len A c A' c'
  rw [hcs] at cw ch cr c2 ce hl ⊢
  rw [hz'] at cw
  obtain ⟨em, hem⟩ : ∃ em, (t.reads.any fun r => r.path.toList == []) = em := ⟨_, rfl⟩
  rw [hem] at ce l1
  obtain ⟨ok, hok⟩ : ∃ ok, (TS.holds known t.reads).1 = ok := ⟨_, rfl⟩
  obtain ⟨p, hpp⟩ : ∃ p, (TS.holds known t.reads).2 = p := ⟨_, rfl⟩
  obtain ⟨ok2, hok2⟩ : ∃ ok2, (TS.holds (known ++ more) t.reads).1 = ok2 := ⟨_, rfl⟩
  obtain ⟨p2, hp2⟩ : ∃ p2, (TS.holds (known ++ more) t.reads).2 = p2 := ⟨_, rfl⟩
  simp only [hok, hpp] at ch cr l1 l2
  simp only [hok2, hp2] at c2 l1 l2
  obtain ⟨kn, hkn⟩ : ∃ kn, TS.knows more p = kn := ⟨_, rfl⟩
  rw [hkn] at l2
  have ck' := fun W h hn => ck W p h hn
  rw [hkn] at ck'
  have CW := Lib.hid cw
  have CH := Lib.hid ch
  have CR := Lib.hid cr
  have C2 := Lib.hid c2
  have CE := Lib.hid ce
  have CK := Lib.hid ck'
  have L1 := Lib.hid l1
  have L2 := Lib.hid l2
  have HL := Lib.hid hl
  have HB := Lib.hid (BoxAt.new w cs 29)
  have HK := Lib.hid hK
  have HM := Lib.hid hM
  have hp0 : Pow (w.alloc (.cells cs.toArray 29)) := hp.below (below_box _)
  clear cw ch cr c2 ce ck ck' l1 l2 hcs hl hem hok hpp hok2 hp2 hkn hz hz' hsz hR hO hK hM
  by_cases hn : 60 < n
  · go_enter Tryd.func4, Tryd.ntmps4
    go_wp2_with (first | (go_at_call 11; refine (alive_any _ hp0).mono ?_; rintro e w1 ⟨rfl, hb1⟩; have H1 := Lib.hid (HB.out.later hb1)) | (refine wpList_load_mid rfl 29 _ rfl w.heap.size 0 rfl cs _ H1.out.2.1 Tryd.underlying29 rfl (by rw [HL.out]; kernel_rfl) ?_) | (go_at_call 14; refine (CW.out _ H1.out.1).mono ?_; rintro e w2 ⟨rfl, hb2⟩; have H2 := Lib.hid (H1.out.later hb2)))
    all_goals first
      | (exfalso; omega)
      | (go_ret; exact ⟨rfl, H2.out.1⟩)
  by_cases hm : 60 < m
  · have hn' : n ≤ 60 := by omega
    go_enter Tryd.func4, Tryd.ntmps4
    go_wp2_with (first | (go_at_call 11; refine (alive_any _ hp0).mono ?_; rintro e w1 ⟨rfl, hb1⟩; have H1 := Lib.hid (HB.out.later hb1)) | (refine wpList_load_mid rfl 29 _ rfl w.heap.size 0 rfl cs _ H1.out.2.1 Tryd.underlying29 rfl (by rw [HL.out]; kernel_rfl) ?_) | (go_at_call 14; refine (CW.out _ H1.out.1).mono ?_; rintro e w2 ⟨rfl, hb2⟩; have H2 := Lib.hid (H1.out.later hb2)))
    all_goals first
      | (exfalso; omega)
      | (go_ret; exact ⟨rfl, H2.out.1⟩)
  have hn' : n ≤ 60 := by omega
  have hm' : m ≤ 60 := by omega
  obtain ⟨i0, hi0, hz0, hz1, hz2⟩ := info_parts infoRead2
  have HI := Lib.hid (And.intro hi0 (And.intro hz0 (And.intro hz1 hz2)))
  clear hn hm hi0 hz0 hz1 hz2
  go_enter Tryd.func4, Tryd.ntmps4
  go_wp2_with (first | (go_at_call 11; refine (alive_any _ hp0).mono ?_; rintro e w1 ⟨rfl, hb1⟩; have H1 := Lib.hid (HB.out.later hb1)) | (refine wpList_load_mid rfl 29 _ rfl w.heap.size 0 rfl cs _ H1.out.2.1 Tryd.underlying29 rfl (by rw [HL.out]; kernel_rfl) ?_) | (go_at_call 14; refine (CW.out _ H1.out.1).mono ?_; rintro e w2 ⟨rfl, hb2⟩; have H2 := Lib.hid (H1.out.later hb2)) | (refine wpList_load_mid rfl 29 _ rfl w.heap.size 0 rfl cs _ H2.out.2.1 Tryd.underlying29 rfl (by rw [HL.out]; kernel_rfl) ?_) | (go_at_call 15; have hq2 := H2.out.1; have hcc := CH.out _ hq2 hn'; with_reducible refine hcc.mono ?_; clear hq2 hcc; rintro e w3 ⟨rfl, hb3⟩; have H3 := Lib.hid (H2.out.later hb3)) | (refine wpList_load_mid rfl 29 _ rfl w.heap.size 0 rfl cs _ H3.out.2.1 Tryd.underlying29 rfl (by rw [HL.out]; kernel_rfl) ?_) | (go_at_call 16; refine (CR.out _ H3.out.1 hn').mono ?_; rintro e w4 ⟨rfl, hb4⟩; have H4 := Lib.hid (H3.out.later hb4)) | (refine wpList_append_elems rfl _ _ 26 rfl ReadD.enc 34 ReadD.enc_len ReadD.enc_one (w.heap.size + 1) 32 i0 _ 56 Tryd.underlying26 HI.out.1 HI.out.2.1 HI.out.2.2.1 HI.out.2.2.2 rfl (by decide) _ 0 [] rfl (own_none w4 _ H4.out.2.2) K n d known rfl (HK.out.below (H4.out.later (below_box _)).1) (by unfold maxLen; omega) (by omega) (H4.out.later (below_box _)).2.2 ?_; intro v5 w5 hown5 hgr5; have H5 := Lib.hid ((H4.out.later (below_box _)).low (grown_below (own_none w4 _ H4.out.2.2) (H4.out.later (below_box _)).2.2 hgr5)); have HO5 := Lib.hid hown5; clear hown5 hgr5) | (refine wpList_append_elems rfl _ _ 26 rfl ReadD.enc 34 ReadD.enc_len ReadD.enc_one (w.heap.size + 1) 32 i0 _ 56 Tryd.underlying26 HI.out.1 HI.out.2.1 HI.out.2.2.1 HI.out.2.2.2 rfl (by decide) v5 (0 + n) ([] ++ known.flatMap ReadD.enc) rfl HO5.out M m d' more rfl (HM.out.below H5.out.1) (by unfold maxLen; omega) (by omega) H5.out.2.2 ?_; intro v6 w6 hown6 hgr6; have H6 := Lib.hid (H5.out.low (grown_below HO5.out H5.out.2.2 hgr6)); obtain ⟨A2, k2, rfl, hE6⟩ := own_elems ReadD.enc 34 ReadD.enc_len (all_own HK.out.len HM.out.len hown6); have HE6 := Lib.hid hE6; clear hown6 hgr6 hE6) | (refine wpList_load_mid rfl 29 _ rfl w.heap.size 0 rfl cs _ H6.out.2.1 Tryd.underlying29 rfl (by rw [HL.out]; kernel_rfl) ?_))
  have hlen : known.length + more.length ≤ 1000 := by rw [HK.out.len, HM.out.len]; omega
  have hE6 : Elems ReadD.enc 34 w6 A2 (known.length + more.length) k2 (known ++ more) := by
    have := HE6.out
    rwa [List.length_append] at this
  refine (C2.out _ A2 k2 H6.out.1 hE6 hlen).mono ?_
  rintro e w7 ⟨rfl, hb7⟩
  have H7 := Lib.hid (H6.out.later hb7)
  clear hlen hE6 hb7
  cases hpe : (p.toList == []) with
  | true =>
    have hpn : p.toList = [] := by simpa using hpe
    rcases L1.out hpn with ⟨h1, h2⟩ | h1
    · have h2e : (p2.toList == []) = true := by simpa using h2
      subst h1
      clear L1 L2
      go_wp2_with (first | (refine wpList_load_mid_g 29 _ rfl (by rfl) w.heap.size 0 rfl cs _ H7.out.2.1 Tryd.underlying29 rfl (by rw [HL.out]; kernel_rfl) ?_) | (refine wpList_load_mid rfl 29 _ rfl w.heap.size 0 rfl cs _ H7.out.2.1 Tryd.underlying29 rfl (by rw [HL.out]; kernel_rfl) ?_) | (go_at_call 17; refine (CE.out _ H7.out.1).mono ?_; rintro e w8 ⟨rfl, hb8⟩))
      all_goals first | (go_ret; exact ⟨rfl, H7.out.1⟩) | (go_ret; exact ⟨rfl, (H7.out.later hb8).1⟩)
    · subst h1
      clear L1 L2
      cases hq : (p2.toList == []) with
      | true =>
        have hqn : p2.toList = [] := by simpa using hq
        cases ok2 <;> cases ok
        all_goals go_wp2_with (first | (refine wpList_load_mid_g 29 _ rfl (by rfl) w.heap.size 0 rfl cs _ H7.out.2.1 Tryd.underlying29 rfl (by rw [HL.out]; kernel_rfl) ?_) | (refine wpList_load_mid rfl 29 _ rfl w.heap.size 0 rfl cs _ H7.out.2.1 Tryd.underlying29 rfl (by rw [HL.out]; kernel_rfl) ?_) | (go_at_call 17; refine (CE.out _ H7.out.1).mono ?_; rintro e w8 ⟨rfl, hb8⟩))
        all_goals first | (go_ret; exact ⟨rfl, H7.out.1⟩) | (go_ret; exact ⟨rfl, (H7.out.later hb8).1⟩)
      | false =>
        have hqn : ¬ p2.toList = [] := by simpa using hq
        cases ok2 <;> cases ok
        all_goals go_wp2_with (first | (refine wpList_load_mid_g 29 _ rfl (by rfl) w.heap.size 0 rfl cs _ H7.out.2.1 Tryd.underlying29 rfl (by rw [HL.out]; kernel_rfl) ?_) | (refine wpList_load_mid rfl 29 _ rfl w.heap.size 0 rfl cs _ H7.out.2.1 Tryd.underlying29 rfl (by rw [HL.out]; kernel_rfl) ?_) | (go_at_call 17; refine (CE.out _ H7.out.1).mono ?_; rintro e w8 ⟨rfl, hb8⟩))
        all_goals first | (go_ret; exact ⟨rfl, H7.out.1⟩) | (go_ret; exact ⟨rfl, (H7.out.later hb8).1⟩)
  | false =>
    have hpn : ¬ p.toList = [] := by simpa using hpe
    rcases L2.out hpn with ⟨h1, h2⟩ | ⟨h1, h2 | h2⟩
    · have h2e : (p2.toList == []) = true := by simpa using h2
      subst h1
      clear L1 L2
      go_wp2_with (first | (go_at_call 18; refine (CK.out _ H7.out.1 hm').mono ?_; rintro e w8 ⟨rfl, hb8⟩))
      all_goals first | (go_ret; exact ⟨rfl, H7.out.1⟩) | (go_ret; exact ⟨rfl, (H7.out.later hb8).1⟩)
    · have h2e : (p2.toList == p.toList) = false := by simpa using h2
      subst h1
      clear L1 L2
      go_wp2_with (first | (go_at_call 18; refine (CK.out _ H7.out.1 hm').mono ?_; rintro e w8 ⟨rfl, hb8⟩))
      all_goals first | (go_ret; exact ⟨rfl, H7.out.1⟩) | (go_ret; exact ⟨rfl, (H7.out.later hb8).1⟩)
    · subst h1 h2
      clear L1 L2
      cases hq : (p2.toList == p.toList) with
      | true =>
        have hqn : p2.toList = p.toList := by simpa using hq
        go_wp2_with (first | (go_at_call 18; refine (CK.out _ H7.out.1 hm').mono ?_; rintro e w8 ⟨rfl, hb8⟩))
        all_goals first | (go_ret; exact ⟨rfl, H7.out.1⟩) | (go_ret; exact ⟨rfl, (H7.out.later hb8).1⟩)
      | false =>
        have hqn : ¬ p2.toList = p.toList := by simpa using hq
        go_wp2_with (first | (go_at_call 18; refine (CK.out _ H7.out.1 hm').mono ?_; rintro e w8 ⟨rfl, hb8⟩))
        all_goals first | (go_ret; exact ⟨rfl, H7.out.1⟩) | (go_ret; exact ⟨rfl, (H7.out.later hb8).1⟩)
end Go.Proofs.YtcaookphoiopbaaDoor
