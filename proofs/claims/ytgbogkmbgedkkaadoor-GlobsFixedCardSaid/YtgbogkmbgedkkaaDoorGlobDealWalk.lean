/- globs.Match's function 'deal': how a pattern's parts are dealt to a path's, with what is known kept in a map. -/
import Derived.Test.YtgbogkmbgedkkaaDoorGlobMap
import Derived.Test.YtgbogkmbgedkkaaDoorGlobMay
import Derived.Test.YtgbogkmbgedkkaaDoorGlobOne
import Derived.Deep.RegionHeld3
namespace Go.Proofs.YtgbogkmbgedkkaaDoor
open Go.RowKit Go.Shelf

/-- The boxes of what 'deal' captures, and where the texts lie; none of it in the map's block. -/
structure Lies (w : World) (m bp bn bm bd : Nat) (A : Option Addr) (n c : Nat) (A' : Option Addr) (n' c' : Nat) (ps ns : List ByteArray) : Prop where
  cp : w.cell? ⟨bp, 0, none⟩ = some (.slice A n c)
  cn : w.cell? ⟨bn, 0, none⟩ = some (.slice A' n' c')
  cm : w.cell? ⟨bm, 0, none⟩ = some (.map (some m))
  cd : w.cell? ⟨bd, 0, none⟩ = some (.func (.func 31) #[] #[.pointer (some ⟨bp, 0, none⟩), .pointer (some ⟨bn, 0, none⟩), .pointer (some ⟨bm, 0, none⟩), .pointer (some ⟨bd, 0, none⟩)])
  ep : Elems encT 1 w A n c ps
  en : Elems encT 1 w A' n' c' ns
  ne : bp ≠ m ∧ bn ≠ m ∧ bm ≠ m ∧ bd ≠ m
  lp : ∀ b o, A = some ⟨b, o, none⟩ → b ≠ m
  ln : ∀ b o, A' = some ⟨b, o, none⟩ → b ≠ m

theorem elems_grown {w w' : World} {m : Nat} {A : Option Addr} {n c : Nat} {xs : List ByteArray} (h : Elems encT 1 w A n c xs) (hl : ∀ b o, A = some ⟨b, o, none⟩ → b ≠ m) (hg : w.grownBy w' (some m)) : Elems encT 1 w' A n c xs :=
  ⟨h.len, h.cap, fun hn => by
    obtain ⟨b, o, e, hlt, hr⟩ := h.at_ hn
    have hb := hl b o e
    exact ⟨b, o, e, Nat.lt_of_lt_of_le hlt hg.size, fun j x hx i v hv => hg.cell (hr j x hx i v hv) (fun h => hb (Option.some.inj h))⟩⟩
theorem Lies.grown {w w' : World} {m bp bn bm bd : Nat} {A : Option Addr} {n c : Nat} {A' : Option Addr} {n' c' : Nat} {ps ns : List ByteArray} (h : Lies w m bp bn bm bd A n c A' n' c' ps ns) (hg : w.grownBy w' (some m)) : Lies w' m bp bn bm bd A n c A' n' c' ps ns :=
  ⟨hg.cell h.cp (fun e => h.ne.1 (Option.some.inj e)), hg.cell h.cn (fun e => h.ne.2.1 (Option.some.inj e)), hg.cell h.cm (fun e => h.ne.2.2.1 (Option.some.inj e)), hg.cell h.cd (fun e => h.ne.2.2.2 (Option.some.inj e)),
    elems_grown h.ep h.lp hg, elems_grown h.en h.ln hg, h.ne, h.lp, h.ln⟩
theorem Elems.text {w : World} {A : Option Addr} {n c : Nat} {xs : List ByteArray} (h : Elems encT 1 w A n c xs) {i : Nat} {x : ByteArray} (hx : xs[i]? = some x) : ∃ b o, A = some ⟨b, o, none⟩ ∧ w.cell? ⟨b, o + i, none⟩ = some (.string x) := by
  have hi : i < n := by
    have := (List.getElem?_eq_some_iff.1 hx).1
    rw [h.len] at this
    exact this
  obtain ⟨b, o, e, _, hr⟩ := h.at_ (by omega)
  have := hr i x hx 0 (.string x) rfl
  rw [Nat.mul_one, Nat.add_zero] at this
  exact ⟨b, o, e, this⟩

theorem deal_end (m bp bn bm bd : Nat) (A : Option Addr) (n c : Nat) (A' : Option Addr) (n' c' : Nat) (ps ns : List ByteArray) (hn' : n' ≤ 1000) (k : Nat) (hk : k ≤ n') (w : World)
    (hL : Lies w m bp bn bm bd A n c A' n' c' ps ns) :
    Calls Tryd.prog 31 #[.int .i64 n, .int .i64 k, .pointer (some ⟨bp, 0, none⟩), .pointer (some ⟨bn, 0, none⟩), .pointer (some ⟨bm, 0, none⟩), .pointer (some ⟨bd, 0, none⟩)] w
      fun e w' => e = .returned (.bool (GS.dealAt ps ns n k)) ∧ w' = w := by
  have hd : GS.dealAt ps ns n k = decide (k = n') := by
    have := GS.dealAt_end (ps := ps) (ns := ns) (k := k) (by rw [hL.en.len]; exact hk)
    rw [hL.ep.len, hL.en.len] at this
    exact this
  obtain ⟨R, hR⟩ : ∃ R, GS.dealAt ps ns n k = R := ⟨_, rfl⟩
  rw [hR] at hd ⊢
  have cp := hL.cp
  have cn := hL.cn
  have HD := Lib.hid hd
  clear hd hR hL
  go_enter Tryd.func31, Tryd.ntmps31
  by_cases hkn : k = n'
  · subst hkn
    go_wp2_with fail
    go_ret
    exact ⟨retB (by rw [HD.out]; simp), rfl⟩
  · have hkn' : ¬ (k : Int) = n' := by omega
    go_wp2_with fail
    go_ret
    exact ⟨retB (by rw [HD.out]; simp [hkn]; exact hkn'), rfl⟩

theorem grown_drew {w w' : World} {row : Option Nat} (h : w.drew.grownBy w' row) : w.grownBy w' row := ⟨h.os, h.tape, h.output, h.size, h.block⟩
theorem wrap_step {i : Nat} (h : i ≤ 1000) : IntKind.i64.wrap ((i : Int) + 1) = (i : Int) + 1 := IntWalk.i64_in _ ⟨by omega, by omega⟩
theorem five_drew {w : World} {a b c d e : Addr} {u v x y z : Value} (h : w.cell? a = some u ∧ w.cell? b = some v ∧ w.cell? c = some x ∧ w.cell? d = some y ∧ w.cell? e = some z) :
    w.drew.cell? a = some u ∧ w.drew.cell? b = some v ∧ w.drew.cell? c = some x ∧ w.drew.cell? d = some y ∧ w.drew.cell? e = some z := h
theorem five_grown {m : Nat} {w w' : World} {a b c d e : Addr} {u v x y z : Value} (h : w.cell? a = some u ∧ w.cell? b = some v ∧ w.cell? c = some x ∧ w.cell? d = some y ∧ w.cell? e = some z)
    (hg : w.grownBy w' (some m)) (hne : a.block ≠ m ∧ b.block ≠ m ∧ c.block ≠ m ∧ d.block ≠ m ∧ e.block ≠ m) :
    w'.cell? a = some u ∧ w'.cell? b = some v ∧ w'.cell? c = some x ∧ w'.cell? d = some y ∧ w'.cell? e = some z :=
  ⟨hg.cell h.1 (fun k => hne.1 (Option.some.inj k)), hg.cell h.2.1 (fun k => hne.2.1 (Option.some.inj k)), hg.cell h.2.2.1 (fun k => hne.2.2.1 (Option.some.inj k)), hg.cell h.2.2.2.1 (fun k => hne.2.2.2.1 (Option.some.inj k)), hg.cell h.2.2.2.2 (fun k => hne.2.2.2.2 (Option.some.inj k))⟩

set_option maxHeartbeats 2000000 in
set_option maxRecDepth 100000 in
theorem deal_sign (m bp bn bm bd : Nat) (b1 o1 n c : Nat) (b2 o2 n' c' : Nat) (ps ns : List ByteArray) (hn : n ≤ 1000) (hn' : n' ≤ 1000) (i k q T : Nat) (w : World) (hi : i < n) (hk : k < n') (hT1 : 1 ≤ T) (hL : Lies w m bp bn bm bd (some ⟨b1, o1, none⟩) n c (some ⟨b2, o2, none⟩) n' c' ps ns) (hO : OwnsNo w m q (GS.dealAt ps ns)) (x y : ByteArray) (hxs : x.size ≤ 1000000) (hys : y.size ≤ 1000000) (hc1 : w.cell? ⟨b1, o1 + i, none⟩ = some (.string x)) (hc2 : w.cell? ⟨b2, o2 + k, none⟩ = some (.string y)) (hss : (x.toList == [42, 42]) = false) (hrun : (Instr.lookup 39 (.map (some m)) (.agg #[.int .i64 i, .int .i64 k]) false).run Tryd.prog w = .ok (.bool false) w) (a R2 : Bool) (ha : GS.one (GS.bl x) (GS.bl y) = a) (call2 : ∀ w1, Lies w1 m bp bn bm bd (some ⟨b1, o1, none⟩) n c (some ⟨b2, o2, none⟩) n' c' ps ns → OwnsNo w1 m q (GS.dealAt ps ns) → Calls Tryd.prog 31 #[.int .i64 ((i : Int) + 1), .int .i64 ((k : Int) + 1), .pointer (some ⟨bp, 0, none⟩), .pointer (some ⟨bn, 0, none⟩), .pointer (some ⟨bm, 0, none⟩), .pointer (some ⟨bd, 0, none⟩)] w1 fun e w' => e = .returned (.bool R2) ∧ w1.grownBy w' (some m) ∧ ∃ q', q' + 1 ≤ q + T ∧ OwnsNo w' m q' (GS.dealAt ps ns)) :
    Calls Tryd.prog 31 #[.int .i64 i, .int .i64 k, .pointer (some ⟨bp, 0, none⟩), .pointer (some ⟨bn, 0, none⟩), .pointer (some ⟨bm, 0, none⟩), .pointer (some ⟨bd, 0, none⟩)] w fun e w' => e = .returned (.bool (a && R2)) ∧ w.grownBy w' (some m) ∧ ∃ q', q' + 1 ≤ q + T * 2 ∧ OwnsNo w' m q' (GS.dealAt ps ns) := by
  have cp := hL.cp
  have cn := hL.cn
  have cm := hL.cm
  have cd := hL.cd
  have hnin : ¬ (i : Int) = n := by omega
  have hi0 : i ≤ 1000 := by omega
  have hk0 : k ≤ 1000 := by omega
  have NE : Hid ((⟨bp, 0, none⟩ : Addr).block ≠ m ∧ (⟨bn, 0, none⟩ : Addr).block ≠ m ∧ (⟨bd, 0, none⟩ : Addr).block ≠ m ∧ (⟨b1, o1 + i, none⟩ : Addr).block ≠ m ∧ (⟨b2, o2 + k, none⟩ : Addr).block ≠ m) := Lib.hid ⟨hL.ne.1, hL.ne.2.1, hL.ne.2.2.2, hL.lp _ _ rfl, hL.ln _ _ rfl⟩
  have co := fun W => one_any x y W hxs hys
  have ha' := ha
  unfold GS.bl at ha ha'
  rw [ha] at co
  have CO := Lib.hid co
  have cq := fun W => one_quiet x y W hxs hys
  rw [ha'] at cq
  have CQ := Lib.hid cq
  have HO0 := Lib.hid hO
  have HLL := Lib.hid (hL.grown (w' := w.drew) ⟨rfl, rfl, rfl, Nat.le_refl _, fun _ _ _ => rfl⟩)
  have HO := Lib.hid (hO.kept (w' := w.drew) (row := none) ⟨rfl, rfl, rfl, Nat.le_refl _, fun _ _ _ => rfl⟩ (by simp))
  have C2 := Lib.hid call2
  clear hL hO call2 co ha ha' cq
  cases a with
  | true =>
    go_enter Tryd.func31, Tryd.ntmps31
    go_wp2_with fail
    go_region_held3 (fun w' => w'.cell? ⟨bp, 0, none⟩ = some (.slice (some ⟨b1, o1, none⟩) n c) ∧ w'.cell? ⟨bn, 0, none⟩ = some (.slice (some ⟨b2, o2, none⟩) n' c') ∧ w'.cell? ⟨bd, 0, none⟩ = some (.func (.func 31) #[] #[.pointer (some ⟨bp, 0, none⟩), .pointer (some ⟨bn, 0, none⟩), .pointer (some ⟨bm, 0, none⟩), .pointer (some ⟨bd, 0, none⟩)]) ∧ w'.cell? ⟨b1, o1 + i, none⟩ = some (.string x) ∧ w'.cell? ⟨b2, o2 + k, none⟩ = some (.string y))
      (first | assumption | (refine five_drew ?_; first | assumption | exact ⟨by assumption, by assumption, by assumption, by assumption, by assumption⟩) | (exact five_grown (by assumption) (by assumption) NE.out))
      (first | (go_at_call 32; refine (CO.out _).mono ?_; rintro e w1 ⟨rfl, hb1⟩; have hg1 := grown_of_below hb1 (some m)) | (go_at_call 31; rw [wrap_step hi0, wrap_step hk0]; refine (C2.out _ (HLL.out.grown hg1) (HO.out.below hb1)).mono ?_; rintro e w2 ⟨rfl, hg2, q2, hq2, ho2⟩))
    go_wp2_with fail
    go_ret
    exact ⟨rfl, grown_trans (grown_drew hg1) hg2, q2, by omega, ho2⟩
  | false =>
    go_enter Tryd.func31, Tryd.ntmps31
    go_wp2_with fail
    go_quiet ((go_at_call 32; exact Calls.quiet_of (CQ.out _)))
    go_wp2_with fail
    go_ret
    exact ⟨rfl, ⟨rfl, rfl, rfl, Nat.le_refl _, fun _ _ _ => rfl⟩, q, by omega, HO0.out.kept (row := none) ⟨rfl, rfl, rfl, Nat.le_refl _, fun _ _ _ => rfl⟩ (by simp)⟩

set_option maxHeartbeats 2000000 in
set_option maxRecDepth 100000 in
theorem deal_star1 (m bp bn bm bd : Nat) (b1 o1 n c : Nat) (A' : Option Addr) (n' c' : Nat) (ps ns : List ByteArray) (hn : n ≤ 1000) (hn' : n' ≤ 1000) (i k q T : Nat) (w : World) (hi : i + 1 < n) (hT1 : 1 ≤ T) (hq : q + T * 2 ≤ 1099511627776) (hk : k ≤ n') (hL : Lies w m bp bn bm bd (some ⟨b1, o1, none⟩) n c A' n' c' ps ns) (hc1 : w.cell? ⟨b1, o1 + i, none⟩ = some (.string ⟨#[42, 42]⟩)) (hrun : (Instr.lookup 39 (.map (some m)) (.agg #[.int .i64 i, .int .i64 k]) false).run Tryd.prog w = .ok (.bool false) w) (R1 : Bool) (call1 : Calls Tryd.prog 31 #[.int .i64 ((i : Int) + 1), .int .i64 k, .pointer (some ⟨bp, 0, none⟩), .pointer (some ⟨bn, 0, none⟩), .pointer (some ⟨bm, 0, none⟩), .pointer (some ⟨bd, 0, none⟩)] w fun e w' => e = .returned (.bool R1) ∧ w.grownBy w' (some m) ∧ ∃ q', q' + 1 ≤ q + T ∧ OwnsNo w' m q' (GS.dealAt ps ns)) (R : Bool) (hR : GS.dealAt ps ns i k = R) (hlast : R = (R1 || false)) (hone : R1 = true ∨ n' ≤ k) :
    Calls Tryd.prog 31 #[.int .i64 i, .int .i64 k, .pointer (some ⟨bp, 0, none⟩), .pointer (some ⟨bn, 0, none⟩), .pointer (some ⟨bm, 0, none⟩), .pointer (some ⟨bd, 0, none⟩)] w fun e w' => e = .returned (.bool R) ∧ w.grownBy w' (some m) ∧ ∃ q', q' + 1 ≤ q + T * 2 ∧ OwnsNo w' m q' (GS.dealAt ps ns) := by
  have cp := hL.cp
  have cn := hL.cn
  have cm := hL.cm
  have cd := hL.cd
  have hnin : ¬ (i : Int) = n := by omega
  have HLL := Lib.hid hL
  have C1 := Lib.hid call1
  have HRR := Lib.hid hR
  clear hR hL call1
  cases R1 with
  | true =>
    obtain rfl : R = true := by simpa using hlast
    clear hone hlast
    go_enter Tryd.func31, Tryd.ntmps31
    go_wp2_with (first | (go_at_call 31; refine C1.out.mono ?_; rintro e w1 ⟨rfl, hg1, q1, hq1, ho1⟩; have hL1 := HLL.out.grown hg1; have cn1 := hL1.cn; have cm1 := hL1.cm; have cd1 := hL1.cd; have HL1 := Lib.hid hL1; clear hL1) | (at_mapUpdate; refine wpList_no_put rfl _ _ _ rfl m q1 (GS.dealAt ps ns) rfl ho1 (by unfold maxLen; omega) i k (by omega) (by omega) rfl false rfl (fun h => by cases h) ?_; intro w9 ho9 hg9))
    go_ret
    exact ⟨rfl, grown_trans hg1 hg9, q1 + 1, by omega, ho9⟩
  | false =>
    obtain rfl : R = false := by simpa using hlast
    have hk3 : n' ≤ k := by rcases hone with h | h; cases h; exact h
    clear hone hlast
    go_enter Tryd.func31, Tryd.ntmps31
    go_wp2_with (first | (go_at_call 31; refine C1.out.mono ?_; rintro e w1 ⟨rfl, hg1, q1, hq1, ho1⟩; have hL1 := HLL.out.grown hg1; have cn1 := hL1.cn; have cm1 := hL1.cm; have cd1 := hL1.cd; have HL1 := Lib.hid hL1; clear hL1) | (at_mapUpdate; refine wpList_no_put rfl _ _ _ rfl m q1 (GS.dealAt ps ns) rfl ho1 (by unfold maxLen; omega) i k (by omega) (by omega) rfl true rfl (fun _ => HRR.out) ?_; intro w9 ho9 hg9))
    go_ret
    exact ⟨rfl, grown_trans hg1 hg9, q1 + 1, by omega, ho9⟩

set_option maxHeartbeats 2000000 in
set_option maxRecDepth 100000 in
theorem deal_star2 (m bp bn bm bd : Nat) (b1 o1 n c : Nat) (A' : Option Addr) (n' c' : Nat) (ps ns : List ByteArray) (hn : n ≤ 1000) (hn' : n' ≤ 1000) (i k q T : Nat) (w : World) (hi : i + 1 < n) (hq : q + T * 2 ≤ 1099511627776) (hk : k < n') (hL : Lies w m bp bn bm bd (some ⟨b1, o1, none⟩) n c A' n' c' ps ns) (hc1 : w.cell? ⟨b1, o1 + i, none⟩ = some (.string ⟨#[42, 42]⟩)) (hrun : (Instr.lookup 39 (.map (some m)) (.agg #[.int .i64 i, .int .i64 k]) false).run Tryd.prog w = .ok (.bool false) w) (call1 : Calls Tryd.prog 31 #[.int .i64 ((i : Int) + 1), .int .i64 k, .pointer (some ⟨bp, 0, none⟩), .pointer (some ⟨bn, 0, none⟩), .pointer (some ⟨bm, 0, none⟩), .pointer (some ⟨bd, 0, none⟩)] w fun e w' => e = .returned (.bool false) ∧ w.grownBy w' (some m) ∧ ∃ q', q' + 1 ≤ q + T ∧ OwnsNo w' m q' (GS.dealAt ps ns)) (R : Bool) (call2 : ∀ q1 w1, q1 + T ≤ 1099511627776 → Lies w1 m bp bn bm bd (some ⟨b1, o1, none⟩) n c A' n' c' ps ns → OwnsNo w1 m q1 (GS.dealAt ps ns) → Calls Tryd.prog 31 #[.int .i64 i, .int .i64 ((k : Int) + 1), .pointer (some ⟨bp, 0, none⟩), .pointer (some ⟨bn, 0, none⟩), .pointer (some ⟨bm, 0, none⟩), .pointer (some ⟨bd, 0, none⟩)] w1 fun e w' => e = .returned (.bool R) ∧ w1.grownBy w' (some m) ∧ ∃ q', q' + 1 ≤ q1 + T ∧ OwnsNo w' m q' (GS.dealAt ps ns)) (hR : GS.dealAt ps ns i k = R) :
    Calls Tryd.prog 31 #[.int .i64 i, .int .i64 k, .pointer (some ⟨bp, 0, none⟩), .pointer (some ⟨bn, 0, none⟩), .pointer (some ⟨bm, 0, none⟩), .pointer (some ⟨bd, 0, none⟩)] w fun e w' => e = .returned (.bool R) ∧ w.grownBy w' (some m) ∧ ∃ q', q' + 1 ≤ q + T * 2 ∧ OwnsNo w' m q' (GS.dealAt ps ns) := by
  have cp := hL.cp
  have cn := hL.cn
  have cm := hL.cm
  have cd := hL.cd
  have hnin : ¬ (i : Int) = n := by omega
  have HLL := Lib.hid hL
  have C1 := Lib.hid call1
  have C2 := Lib.hid call2
  have HRR := Lib.hid hR
  clear hR hL call1 call2
  cases R with
  | true =>
    go_enter Tryd.func31, Tryd.ntmps31
    go_wp2_with (first | (go_at_call 31; refine (C2.out q1 w1 (by omega) HL1.out ho1).mono ?_; rintro e w2 ⟨rfl, hg2, q2, hq2, ho2⟩; have cm2 := (HL1.out.grown hg2).cm) | (go_at_call 31; refine C1.out.mono ?_; rintro e w1 ⟨rfl, hg1, q1, hq1, ho1⟩; have hL1 := HLL.out.grown hg1; have cn1 := hL1.cn; have cm1 := hL1.cm; have cd1 := hL1.cd; have HL1 := Lib.hid hL1; clear hL1) | (at_mapUpdate; refine wpList_no_put rfl _ _ _ rfl m q2 (GS.dealAt ps ns) rfl ho2 (by unfold maxLen; omega) i k (by omega) (by omega) rfl false rfl (fun h => by cases h) ?_; intro w9 ho9 hg9))
    go_ret
    exact ⟨rfl, grown_trans (grown_trans hg1 hg2) hg9, q2 + 1, by omega, ho9⟩
  | false =>
    go_enter Tryd.func31, Tryd.ntmps31
    go_wp2_with (first | (go_at_call 31; refine (C2.out q1 w1 (by omega) HL1.out ho1).mono ?_; rintro e w2 ⟨rfl, hg2, q2, hq2, ho2⟩; have cm2 := (HL1.out.grown hg2).cm) | (go_at_call 31; refine C1.out.mono ?_; rintro e w1 ⟨rfl, hg1, q1, hq1, ho1⟩; have hL1 := HLL.out.grown hg1; have cn1 := hL1.cn; have cm1 := hL1.cm; have cd1 := hL1.cd; have HL1 := Lib.hid hL1; clear hL1) | (at_mapUpdate; refine wpList_no_put rfl _ _ _ rfl m q2 (GS.dealAt ps ns) rfl ho2 (by unfold maxLen; omega) i k (by omega) (by omega) rfl true rfl (fun _ => HRR.out) ?_; intro w9 ho9 hg9))
    go_ret
    exact ⟨rfl, grown_trans (grown_trans hg1 hg2) hg9, q2 + 1, by omega, ho9⟩

set_option maxHeartbeats 4000000 in
set_option maxRecDepth 100000 in
theorem deal_any (m bp bn bm bd : Nat) (A : Option Addr) (n c : Nat) (A' : Option Addr) (n' c' : Nat) (ps ns : List ByteArray) (hn : n ≤ 1000) (hn' : n' ≤ 1000) (hps : ∀ s ∈ ps, s.size ≤ 1000000) (hns : ∀ s ∈ ns, s.size ≤ 1000000) : ∀ (r i k q : Nat) (w : World), i ≤ n → k ≤ n' → (n - i) + (n' - k) ≤ r → q + 2 ^ r ≤ 1099511627776 → 
    Lies w m bp bn bm bd A n c A' n' c' ps ns → OwnsNo w m q (GS.dealAt ps ns) →
    Calls Tryd.prog 31 #[.int .i64 i, .int .i64 k, .pointer (some ⟨bp, 0, none⟩), .pointer (some ⟨bn, 0, none⟩), .pointer (some ⟨bm, 0, none⟩), .pointer (some ⟨bd, 0, none⟩)] w
      fun e w' => e = .returned (.bool (GS.dealAt ps ns i k)) ∧ w.grownBy w' (some m) ∧ ∃ q', q' + 1 ≤ q + 2 ^ r ∧ OwnsNo w' m q' (GS.dealAt ps ns) := by
  intro r
  induction r with
  | zero =>
    intro i k q w hi hk hr hq hL hO
    obtain rfl : i = n := by omega
    refine (deal_end m bp bn bm bd A i c A' n' c' ps ns hn' k hk w hL).mono ?_
    rintro e w' ⟨rfl, rfl⟩
    exact ⟨rfl, World.grownBy.refl _ _, q, by simp, hO⟩
  | succ r ih =>
    intro i k q w hi hk hr hq hL hO
    by_cases hin : i = n
    · subst hin
      refine (deal_end m bp bn bm bd A i c A' n' c' ps ns hn' k hk w hL).mono ?_
      rintro e w' ⟨rfl, rfl⟩
      exact ⟨rfl, World.grownBy.refl _ _, q, by have := Nat.one_le_two_pow (n := r + 1); omega, hO⟩
    obtain ⟨T, hT⟩ : ∃ T, 2 ^ r = T := ⟨_, rfl⟩
    have hT1 : 1 ≤ T := by rw [← hT]; exact Nat.one_le_two_pow
    rw [Nat.pow_succ, hT] at hq ⊢
    rw [hT] at ih
    have hlt : i < n := by omega
    have hlen : i < ps.length := by rw [hL.ep.len]; exact hlt
    obtain ⟨x, hx⟩ : ∃ x, ps[i]? = some x := ⟨ps[i], by simp⟩
    have hxs := hps x (List.mem_of_getElem? hx)
    obtain ⟨b1, o1, rfl, hc1⟩ := hL.ep.text hx
    obtain ⟨y, hrun, hy⟩ := hO.has (i := i) (k := k) (by omega) (by omega)
    unfold pairV at hrun
    have cp := hL.cp
    have cn := hL.cn
    have cm := hL.cm
    have cd := hL.cd
    obtain ⟨R, hR⟩ : ∃ R, GS.dealAt ps ns i k = R := ⟨_, rfl⟩
    have HRR := Lib.hid hR
    rw [hR] at hy ⊢
    clear hR
    have hnin : ¬ (i : Int) = n := by omega
    cases y with
    | true =>
      have HY := Lib.hid (hy rfl)
      have HO := Lib.hid hO
      clear hy hO hL ih hT hlen hx hxs hps hns
      go_enter Tryd.func31, Tryd.ntmps31
      go_wp2_with fail
      go_ret
      exact ⟨retB HY.out.symm, World.grownBy.refl _ _, q, by omega, HO.out⟩
    | false =>
      clear hy
      by_cases hss : x = ⟨#[42, 42]⟩
      · have hbl : GS.bl x = GS.ss := by rw [hss]; rfl
        by_cases hlast : i + 1 = n
        · have hd := GS.dealAt_last (ns := ns) (k := k) hx hbl (by rw [hL.ep.len]; exact hlast)
          rw [HRR.out, hL.en.len] at hd
          have HD := Lib.hid hd
          have HO := Lib.hid hO
          subst hss
          clear hd hO hL ih hT hlen hx hxs hps hns hbl
          have hl2 : n ≤ i + 1 := by omega
          clear hlast
          go_enter Tryd.func31, Tryd.ntmps31
          by_cases hk2 : k < n'
          · go_wp2_with fail
            go_ret
            exact ⟨retB (by rw [HD.out, decide_eq_true hk2]), World.grownBy.refl _ _, q, by omega, HO.out⟩
          · have hk3 : ¬ (k : Int) < n' := by omega
            go_wp2_with fail
            go_ret
            exact ⟨retB (by rw [HD.out, decide_eq_false hk2]), World.grownBy.refl _ _, q, by omega, HO.out⟩
        · have hd := GS.dealAt_star (ns := ns) (k := k) hx hbl (by rw [hL.ep.len]; omega)
          rw [HRR.out, hL.en.len] at hd
          obtain ⟨a, ha⟩ : ∃ a, GS.dealAt ps ns (i + 1) k = a := ⟨_, rfl⟩
          rw [ha] at hd
          have call1 := ih (i + 1) k q w (by omega) hk (by omega) (by omega) hL hO
          rw [ha] at call1
          have hl2 : i + 1 < n := by omega
          rw [show ((i + 1 : Nat) : Int) = (i : Int) + 1 from rfl] at call1
          subst hss
          by_cases hk2 : k < n'
          · have call2 := fun q1 w1 h1 h2 h3 => ih i (k + 1) q1 w1 (by omega) hk2 (by omega) h1 h2 h3
            rw [show ((k + 1 : Nat) : Int) = (k : Int) + 1 from rfl] at call2
            cases a with
            | true =>
              exact deal_star1 m bp bn bm bd b1 o1 n c A' n' c' ps ns hn hn' i k q T w hl2 hT1 hq hk hL hc1 hrun true call1 R HRR.out (by rw [hd]; rfl) (Or.inl rfl)
            | false =>
              rw [decide_eq_true hk2, Bool.false_or, Bool.true_and] at hd
              rw [← hd] at call2
              exact deal_star2 m bp bn bm bd b1 o1 n c A' n' c' ps ns hn hn' i k q T w hl2 hq hk2 hL hc1 hrun call1 R call2 HRR.out
          · rw [decide_eq_false hk2, Bool.false_and] at hd
            exact deal_star1 m bp bn bm bd b1 o1 n c A' n' c' ps ns hn hn' i k q T w hl2 hT1 hq hk hL hc1 hrun a call1 R HRR.out hd (Or.inr (by omega))
      · have hbl : GS.bl x ≠ GS.ss := by
          intro h
          apply hss
          have h' : x.data.toList = [42, 42] := h
          exact ByteArray.ext (Array.ext' h')
        have hxl : (x.toList == [42, 42]) = false := by
          rw [ByteArray.toList_eq, beq_eq_false_iff_ne]
          exact hbl
        by_cases hk2 : k < n'
        · have hlen2 : k < ns.length := by rw [hL.en.len]; exact hk2
          obtain ⟨y, hy⟩ : ∃ y, ns[k]? = some y := ⟨ns[k], by simp⟩
          have hys := hns y (List.mem_of_getElem? hy)
          obtain ⟨b2, o2, rfl, hc2⟩ := hL.en.text hy
          have hd := GS.dealAt_sign hx hbl hy
          rw [HRR.out] at hd
          have call2 := fun w1 h2 h3 => ih (i + 1) (k + 1) q w1 (by omega) hk2 (by omega) (by omega) h2 h3
          rw [show ((i + 1 : Nat) : Int) = (i : Int) + 1 from rfl, show ((k + 1 : Nat) : Int) = (k : Int) + 1 from rfl] at call2
          rw [hd]
          exact deal_sign m bp bn bm bd b1 o1 n c b2 o2 n' c' ps ns hn hn' i k q T w hlt hk2 hT1 hL hO x y hxs hys hc1 hc2 hxl hrun _ _ rfl call2
        · have hd := GS.dealAt_sign0 (ns := ns) (k := k) hx hbl (by rw [hL.en.len]; omega)
          rw [HRR.out] at hd
          have HD := Lib.hid hd
          have HO := Lib.hid hO
          clear hd hO hL ih hT hlen hx hxs hps hns hbl hss
          have hkd : decide ((k : Int) < n') = false := decide_eq_false (by omega)
          go_enter Tryd.func31, Tryd.ntmps31
          go_wp2_with fail
          go_quiet (fail)
          go_wp2_with fail
          go_ret
          exact ⟨retB HD.out.symm, ⟨rfl, rfl, rfl, Nat.le_refl _, fun _ _ _ => rfl⟩, q, by omega, HO.out.kept (row := none) ⟨rfl, rfl, rfl, Nat.le_refl _, fun _ _ _ => rfl⟩ (by simp)⟩
end Go.Proofs.YtgbogkmbgedkkaaDoor
