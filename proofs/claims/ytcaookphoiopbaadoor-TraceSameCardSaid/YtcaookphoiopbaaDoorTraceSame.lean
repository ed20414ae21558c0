/- trace.Same, and the reference's Same: are two traces alike. -/
import Derived.Test.YtcaookphoiopbaaDoorTraceEq
import Derived.Test.YtcaookphoiopbaaDoorTraceHolds
namespace Go.Proofs.YtcaookphoiopbaaDoor
open Go.RowKit
namespace TS
/-- Two rows held against each other, element by element. -/
def eqL {α : Type} (same : α → α → Bool) : List α → List α → Bool
  | [], [] => true
  | x :: l, y :: m => same x y && eqL same l m
  | _, _ => false
theorem eqL_len {α : Type} {same : α → α → Bool} : ∀ {l m : List α}, l.length ≠ m.length → eqL same l m = false
  | [], [], h => absurd rfl h
  | [], _ :: _, _ => rfl
  | _ :: _, [], _ => rfl
  | x :: l, y :: m, h => by
    unfold eqL
    rw [eqL_len (by simpa using h), Bool.and_false]
theorem eqL_drop {α : Type} {same : α → α → Bool} {l m : List α} {k : Nat} {x y : α} (hx : l[k]? = some x) (hy : m[k]? = some y) : eqL same (l.drop k) (m.drop k) = (same x y && eqL same (l.drop (k + 1)) (m.drop (k + 1))) := by
  obtain ⟨hk, rfl⟩ := List.getElem?_eq_some_iff.1 hx
  obtain ⟨hk', rfl⟩ := List.getElem?_eq_some_iff.1 hy
  rw [List.drop_eq_getElem_cons hk, List.drop_eq_getElem_cons hk']
  rfl
def sameT (a b : TraceD) : Bool := (a.key.bs == b.key.bs) && (eqL ReadD.same a.reads b.reads && eqL MadeD.same a.outs b.outs)
end TS

theorem load_made {B b o : Nat} {w X : World} {r : MadeD} (hb : Below B w X) (hlt : b < B) (h : w.rangeAt b o r.enc) :
    (Instr.loadAt 34 (.pointer (some ⟨b, o, none⟩))).run Tryd.prog X = .ok (.agg r.enc.toArray) X :=
  run_loadAt_mid X b o 34 r.enc _ (range_low hb hlt h) Tryd.underlying34 rfl (by rw [r.enc_len]; kernel_rfl)

set_option maxHeartbeats 1000000 in
set_option maxRecDepth 100000 in
theorem equalR_any (A : Option Addr) (n c : Nat) (xs : List ReadD) (B : Option Addr) (m d : Nat) (ys : List ReadD) (w : World) (hX : Elems ReadD.enc 34 w A n c xs) (hY : Elems ReadD.enc 34 w B m d ys) (hn : n ≤ 1000000000) (hm : m ≤ 1000000000) :
    Calls Tryd.prog 39 #[.slice A n c, .slice B m d] w fun e w' => e = .returned (.bool (TS.eqL ReadD.same xs ys)) ∧ Below w.heap.size w w' := by
  obtain ⟨H, hH⟩ : ∃ H, TS.eqL ReadD.same xs ys = H := ⟨_, rfl⟩
  rw [hH]
  have HH := Lib.hid hH
  clear hH
  by_cases hnm : n = m
  · subst hnm
    go_enter Tryd.func39, Tryd.ntmps39
    go_wp2
    go_loopw [13] (fun i wr => ∃ k : Nat, k ≤ n ∧ i = .int .i64 k ∧ Below w.heap.size w wr ∧ H = TS.eqL ReadD.same (xs.drop k) (ys.drop k)) (fun i _ => n - (intOf i).toNat)
    case atStart => exact ⟨0, by omega, rfl, Below.refl _ _, HH.out.symm⟩
    case round =>
      obtain ⟨k, hk, rfl, hbW, hsp⟩ := hrel
      clear HH
      by_cases hlt : k < n
      · obtain ⟨b, o, rfl, hbl, hel⟩ := hX.at_ (by omega)
        obtain ⟨b', o', rfl, hbl', hel'⟩ := hY.at_ (by omega)
        have hlx := hX.len
        have hly := hY.len
        obtain ⟨x, hx⟩ : ∃ x, xs[k]? = some x := ⟨xs[k], by simp⟩
        obtain ⟨y, hy⟩ : ∃ y, ys[k]? = some y := ⟨ys[k], by simp⟩
        have hst := TS.eqL_drop (same := ReadD.same) hx hy
        rw [← hsp] at hst
        obtain ⟨z, hz⟩ : ∃ z, x.same y = z := ⟨_, rfl⟩
        have hne := neq_read x y
        rw [hz] at hne hst
        have HNE := Lib.hid hne
        have HST := Lib.hid hst
        have HE := Lib.hid (hel k x hx)
        have HE' := Lib.hid (hel' k y hy)
        have HB := Lib.hid hbW
        have hl1 := fun nn => load_read (below_draws HB.out nn) hbl HE.out
        have hl2 := fun nn => load_read (below_draws HB.out nn) hbl' HE'.out
        clear hz hx hy hel hel' hne hst hsp hlx hly hbW
        go_wp2_with fail
        refine wp_region_quiet_lit (by kernel_rfl) (by kernel_rfl) ?_
        repeat (go_big_quiet_step (fail))
        refine wpQuiet_load 32 _ rfl rfl _ _ rfl (fun w' ⟨nn, hw⟩ => by rw [hw]; exact hl1 nn) _ rfl ?_
        simp [Act.put]
        repeat (go_big_quiet_step (fail))
        refine wpQuiet_load 32 _ rfl rfl _ _ rfl (fun w' ⟨nn, hw⟩ => by rw [hw]; exact hl2 nn) _ rfl ?_
        simp [Act.put]
        refine wpQuiet_binop .neq 32 32 _ _ rfl rfl _ _ _ rfl rfl (fun w => run_eqGuard_agg w .neq 32 _ _ _ _ readGuard) HNE.out _ rfl ?_
        simp [Act.put]
        refine wpQuiet_nil ?_
        intro nq
        cases z with
        | true =>
          go_wp2_with fail
          go_roundw
          case rel => exact ⟨k + 1, by omega, by go_num, below_draws HB.out _, by rw [HST.out, Bool.true_and]⟩
          case measure => simp [intOf]; omega
        | false =>
          go_wp2_with fail
          go_ret
          exact ⟨retB (by rw [HST.out, Bool.false_and]), by first | exact below_draws HB.out _ | exact below_draws (below_draws HB.out _) _⟩
      · obtain rfl : k = n := by omega
        have hfin : H = true := by
          rw [hsp, List.drop_of_length_le (by rw [hX.len]; omega), List.drop_of_length_le (by rw [hY.len]; omega)]
          rfl
        have HF := Lib.hid hfin
        clear hsp hfin
        go_wp2_with fail
        go_ret
        exact ⟨retB HF.out.symm, hbW⟩
  · have hfin : H = false := by
      rw [← HH.out]
      exact TS.eqL_len (by rw [hX.len, hY.len]; exact hnm)
    have HF := Lib.hid hfin
    have h1 : ((n : Int) == (m : Int)) = false := by rw [beq_eq_false_iff_ne]; omega
    have h2 : ((n : Int) != (m : Int)) = true := by rw [bne_iff_ne]; omega
    have h3 : (n == m) = false := by rw [beq_eq_false_iff_ne]; exact hnm
    have h4 : (n != m) = true := by rw [bne_iff_ne]; exact hnm
    clear HH hfin hnm
    go_enter Tryd.func39, Tryd.ntmps39
    go_wp2
    go_ret
    exact ⟨retB HF.out.symm, Below.refl _ _⟩

set_option maxHeartbeats 1000000 in
set_option maxRecDepth 100000 in
theorem equalM_any (A : Option Addr) (n c : Nat) (xs : List MadeD) (B : Option Addr) (m d : Nat) (ys : List MadeD) (w : World) (hX : Elems MadeD.enc 33 w A n c xs) (hY : Elems MadeD.enc 33 w B m d ys) (hn : n ≤ 1000000000) (hm : m ≤ 1000000000) :
    Calls Tryd.prog 40 #[.slice A n c, .slice B m d] w fun e w' => e = .returned (.bool (TS.eqL MadeD.same xs ys)) ∧ Below w.heap.size w w' := by
  obtain ⟨H, hH⟩ : ∃ H, TS.eqL MadeD.same xs ys = H := ⟨_, rfl⟩
  rw [hH]
  have HH := Lib.hid hH
  clear hH
  by_cases hnm : n = m
  · subst hnm
    go_enter Tryd.func40, Tryd.ntmps40
    go_wp2
    go_loopw [13] (fun i wr => ∃ k : Nat, k ≤ n ∧ i = .int .i64 k ∧ Below w.heap.size w wr ∧ H = TS.eqL MadeD.same (xs.drop k) (ys.drop k)) (fun i _ => n - (intOf i).toNat)
    case atStart => exact ⟨0, by omega, rfl, Below.refl _ _, HH.out.symm⟩
    case round =>
      obtain ⟨k, hk, rfl, hbW, hsp⟩ := hrel
      clear HH
      by_cases hlt : k < n
      · obtain ⟨b, o, rfl, hbl, hel⟩ := hX.at_ (by omega)
        obtain ⟨b', o', rfl, hbl', hel'⟩ := hY.at_ (by omega)
        have hlx := hX.len
        have hly := hY.len
        obtain ⟨x, hx⟩ : ∃ x, xs[k]? = some x := ⟨xs[k], by simp⟩
        obtain ⟨y, hy⟩ : ∃ y, ys[k]? = some y := ⟨ys[k], by simp⟩
        have hst := TS.eqL_drop (same := MadeD.same) hx hy
        rw [← hsp] at hst
        obtain ⟨z, hz⟩ : ∃ z, x.same y = z := ⟨_, rfl⟩
        have hne := neq_made x y
        rw [hz] at hne hst
        have HNE := Lib.hid hne
        have HST := Lib.hid hst
        have HE := Lib.hid (hel k x hx)
        have HE' := Lib.hid (hel' k y hy)
        have HB := Lib.hid hbW
        have hl1 := fun nn => load_made (below_draws HB.out nn) hbl HE.out
        have hl2 := fun nn => load_made (below_draws HB.out nn) hbl' HE'.out
        clear hz hx hy hel hel' hne hst hsp hlx hly hbW
        go_wp2_with fail
        refine wp_region_quiet_lit (by kernel_rfl) (by kernel_rfl) ?_
        repeat (go_big_quiet_step (fail))
        refine wpQuiet_load 34 _ rfl rfl _ _ rfl (fun w' ⟨nn, hw⟩ => by rw [hw]; exact hl1 nn) _ rfl ?_
        simp [Act.put]
        repeat (go_big_quiet_step (fail))
        refine wpQuiet_load 34 _ rfl rfl _ _ rfl (fun w' ⟨nn, hw⟩ => by rw [hw]; exact hl2 nn) _ rfl ?_
        simp [Act.put]
        refine wpQuiet_binop .neq 34 34 _ _ rfl rfl _ _ _ rfl rfl (fun w => run_eqGuard_agg w .neq 34 _ _ _ _ madeGuard) HNE.out _ rfl ?_
        simp [Act.put]
        refine wpQuiet_nil ?_
        intro nq
        cases z with
        | true =>
          go_wp2_with fail
          go_roundw
          case rel => exact ⟨k + 1, by omega, by go_num, below_draws HB.out _, by rw [HST.out, Bool.true_and]⟩
          case measure => simp [intOf]; omega
        | false =>
          go_wp2_with fail
          go_ret
          exact ⟨retB (by rw [HST.out, Bool.false_and]), by first | exact below_draws HB.out _ | exact below_draws (below_draws HB.out _) _⟩
      · obtain rfl : k = n := by omega
        have hfin : H = true := by
          rw [hsp, List.drop_of_length_le (by rw [hX.len]; omega), List.drop_of_length_le (by rw [hY.len]; omega)]
          rfl
        have HF := Lib.hid hfin
        clear hsp hfin
        go_wp2_with fail
        go_ret
        exact ⟨retB HF.out.symm, hbW⟩
  · have hfin : H = false := by
      rw [← HH.out]
      exact TS.eqL_len (by rw [hX.len, hY.len]; exact hnm)
    have HF := Lib.hid hfin
    have h1 : ((n : Int) == (m : Int)) = false := by rw [beq_eq_false_iff_ne]; omega
    have h2 : ((n : Int) != (m : Int)) = true := by rw [bne_iff_ne]; omega
    have h3 : (n == m) = false := by rw [beq_eq_false_iff_ne]; exact hnm
    have h4 : (n != m) = true := by rw [bne_iff_ne]; exact hnm
    clear HH hfin hnm
    go_enter Tryd.func40, Tryd.ntmps40
    go_wp2
    go_ret
    exact ⟨retB HF.out.symm, Below.refl _ _⟩

/-- Two traces in their boxes. -/
theorem two_boxes (w : World) (cs ds : List Value) (t : TypeId) : ∃ X, (w.alloc (.cells cs.toArray t)).alloc (.cells ds.toArray t) = X ∧ Below w.heap.size w X ∧ X.heap.size = w.heap.size + 2 ∧ X.rangeAt w.heap.size 0 cs ∧ X.rangeAt (w.heap.size + 1) 0 ds := by
  refine ⟨_, rfl, ((Below.refl _ w).alloc (Nat.le_refl _) _).alloc (by simp) _, by simp, range_below (below_box _) (range_new w cs t), ?_⟩
  have := range_new (w.alloc (.cells cs.toArray t)) ds t
  simpa using this

set_option maxHeartbeats 1000000 in
set_option maxRecDepth 100000 in
theorem same_any (a b : TraceD) (A : Option Addr) (c : Nat) (A' : Option Addr) (c' : Nat) (B : Option Addr) (d : Nat) (B' : Option Addr) (d' : Nat) (w : World)
    (hR : Elems ReadD.enc 34 w A a.reads.length c a.reads) (hO : Elems MadeD.enc 33 w A' a.outs.length c' a.outs) (hR2 : Elems ReadD.enc 34 w B b.reads.length d b.reads) (hO2 : Elems MadeD.enc 33 w B' b.outs.length d' b.outs)
    (n1 : a.reads.length ≤ 1000000000) (n2 : a.outs.length ≤ 1000000000) (n3 : b.reads.length ≤ 1000000000) (n4 : b.outs.length ≤ 1000000000) :
    Calls Tryd.prog 20 #[.agg (a.cells A c A' c').toArray, .agg (b.cells B d B' d').toArray] w fun e w' => e = .returned (.bool (TS.sameT a b)) ∧ Below w.heap.size w w' := by
  have cr := fun (W : World) (h : Below w.heap.size w W) => equalR_any A _ c a.reads B _ d b.reads W (hR.below h) (hR2.below h) n1 n3
  have cm := fun (W : World) (h : Below w.heap.size w W) => equalM_any A' _ c' a.outs B' _ d' b.outs W (hO.below h) (hO2.below h) n2 n4
  have heq := eql_dig a.key b.key
  have hng := digGuard
  obtain ⟨cs, hcs⟩ : ∃ cs, a.cells A c A' c' = cs := ⟨_, rfl⟩
  obtain ⟨ds, hds⟩ : ∃ ds, b.cells B d B' d' = ds := ⟨_, rfl⟩
  obtain ⟨X, hX, hb, hz, h1, h2⟩ := two_boxes w (a.cells A c A' c') (b.cells B d B' d') 29
  have k1 := TraceD.cells_key h1
  have k2 := TraceD.cells_key h2
  have c1 := h1 32 _ (a.cell32 A c A' c')
  have c2 := h1 33 _ (a.cell33 A c A' c')
  have c3 := h2 32 _ (b.cell32 B d B' d')
  have c4 := h2 33 _ (b.cell33 B d B' d')
  rw [hcs, hds] at hX
  rw [hcs, hds]
  simp only [Nat.zero_add] at c1 c2 c3 c4
  have hsp : TS.sameT a b = ((a.key.bs == b.key.bs) && (TS.eqL ReadD.same a.reads b.reads && TS.eqL MadeD.same a.outs b.outs)) := rfl
  obtain ⟨R, hRR⟩ : ∃ R, TS.sameT a b = R := ⟨_, rfl⟩
  rw [hRR] at hsp ⊢
  obtain ⟨q, hq⟩ : ∃ q, (a.key.bs == b.key.bs) = q := ⟨_, rfl⟩
  obtain ⟨r, hr⟩ : ∃ r, TS.eqL ReadD.same a.reads b.reads = r := ⟨_, rfl⟩
  obtain ⟨m, hm⟩ : ∃ m, TS.eqL MadeD.same a.outs b.outs = m := ⟨_, rfl⟩
  rw [hq] at heq
  rw [hr] at cr
  rw [hm] at cm
  rw [hq, hr, hm] at hsp
  have HSP := Lib.hid hsp
  have HX := Lib.hid hX
  have HB := Lib.hid hb
  have K1 := Lib.hid k1
  have K2 := Lib.hid k2
  have CR := Lib.hid cr
  have CM := Lib.hid cm
  have CC := Lib.hid (And.intro c1 (And.intro c2 (And.intro c3 c4)))
  clear hcs hds h1 h2 hRR hq hr hm hsp hX hb hz k1 k2 cr cm hR hO hR2 hO2 c1 c2 c3 c4
  go_enter Tryd.func20, Tryd.ntmps20
  cases q with
  | false =>
    go_wp2_with (first | (refine wpList_load_mid rfl 25 _ rfl w.heap.size 0 rfl a.key.enc _ (by rw [HX.out]; exact K1.out) Tryd.underlying25 rfl (by rw [a.key.enc_len]; kernel_rfl) ?_) | (refine wpList_load_mid rfl 25 _ rfl (w.heap.size + 1) 0 rfl b.key.enc _ (by rw [HX.out]; exact K2.out) Tryd.underlying25 rfl (by rw [b.key.enc_len]; kernel_rfl) ?_))
    go_ret
    exact ⟨retB (by rw [HSP.out, Bool.false_and]), by rw [HX.out]; exact HB.out⟩
  | true =>
    have e1 : ((w.alloc (.cells cs.toArray 29)).alloc (.cells ds.toArray 29)).cell? ⟨w.heap.size, 32, none⟩ = some (.slice A a.reads.length c) := by rw [HX.out]; exact CC.out.1
    have e3 : ((w.alloc (.cells cs.toArray 29)).alloc (.cells ds.toArray 29)).cell? ⟨w.heap.size + 1, 32, none⟩ = some (.slice B b.reads.length d) := by rw [HX.out]; exact CC.out.2.2.1
    go_wp2_with (first | (refine wpList_load_mid rfl 25 _ rfl w.heap.size 0 rfl a.key.enc _ (by rw [HX.out]; exact K1.out) Tryd.underlying25 rfl (by rw [a.key.enc_len]; kernel_rfl) ?_) | (refine wpList_load_mid rfl 25 _ rfl (w.heap.size + 1) 0 rfl b.key.enc _ (by rw [HX.out]; exact K2.out) Tryd.underlying25 rfl (by rw [b.key.enc_len]; kernel_rfl) ?_))
    refine (CR.out _ (by rw [HX.out]; exact HB.out)).mono ?_
    rintro e w1 ⟨rfl, hb1⟩
    rw [HX.out] at hb1
    have f2 := cell_below hb1 CC.out.2.1
    have f4 := cell_below hb1 CC.out.2.2.2
    have H1 := Lib.hid (below_then HB.out HB.out.size hb1)
    clear hb1 e1 e3
    cases r with
    | false =>
      go_wp2_with fail
      go_ret
      exact ⟨retB (by rw [HSP.out]; rfl), H1.out⟩
    | true =>
      go_wp2_with fail
      refine (CM.out _ H1.out).mono ?_
      rintro e w2 ⟨rfl, hb2⟩
      have H2 := Lib.hid (below_then H1.out H1.out.size hb2)
      clear hb2
      go_wp2_with fail
      go_ret
      exact ⟨retB (by rw [HSP.out]; rfl), H2.out⟩
end Go.Proofs.YtcaookphoiopbaaDoor
