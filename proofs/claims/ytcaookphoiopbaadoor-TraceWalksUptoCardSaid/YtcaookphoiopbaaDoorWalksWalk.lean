/- The law on a trace that is told what it asks for: what it computes. -/
import Derived.Test.YtcaookphoiopbaaDoorWalksPure
import Derived.Test.YtcaookphoiopbaaDoorHoldsWalk
import Derived.Test.YtcaookphoiopbaaDoorBuildOne
namespace Go.Proofs.YtcaookphoiopbaaDoor
open Go.RowKit Go.Shelf

theorem take_flat {rs : List ReadD} {k : Nat} {r : ReadD} (h : rs[k]? = some r) : (rs.take k).flatMap ReadD.enc ++ [r].flatMap ReadD.enc = (rs.take (k + 1)).flatMap ReadD.enc := by
  obtain ⟨hk, rfl⟩ := List.getElem?_eq_some_iff.1 h
  rw [← List.flatMap_append, List.take_append_getElem hk]
theorem grown_of_box (W : World) (o : Obj) : W.grownBy (W.alloc o) none := ⟨rfl, rfl, rfl, by simp, fun i hi _ => (below_box (w := W) o).block i hi⟩
theorem elems_one (W : World) (r : ReadD) : Elems ReadD.enc 34 (W.alloc (.cells r.enc.toArray 32)) (some ⟨W.heap.size, 0, none⟩) 1 1 [r] :=
  ⟨rfl, Nat.le_refl _, fun _ => ⟨W.heap.size, 0, rfl, by simp, fun j x hx => by
    have hj : j = 0 := by
      have := (List.getElem?_eq_some_iff.1 hx).1
      simpa using this
    subst hj
    simp at hx
    subst hx
    rw [Nat.zero_mul]
    exact range_new W r.enc _⟩⟩

set_option maxHeartbeats 8000000 in
set_option maxRecDepth 100000 in
theorem traceWalks_any (t : TraceD) (A : Option Addr) (c : Nat) (A' : Option Addr) (c' : Nat) (w : World)
    (hR : Elems ReadD.enc 34 w A t.reads.length c t.reads) (hO : Elems MadeD.enc 33 w A' t.outs.length c' t.outs) (hp : Pow w)
    (hr : ∀ r ∈ t.reads, r.path.size ≤ 8796093022207) (ho : ∀ m ∈ t.outs, m.path.size ≤ 8796093022207) :
    Calls Tryd.prog 5 #[.agg (t.cells A c A' c').toArray] w fun e w' => e = .returned (.bool true) ∧ Below w.heap.size w w' := by
  have cw := fun (W : World) (h : Below w.heap.size w W) => wide_any t A c A' c' W (hR.below h) (hO.below h)
  have cc := fun (W : World) (h : Below w.heap.size w W) => refCheck_any t A c A' c' W (hR.below h) (hO.below h) hr ho
  have ch := fun (W : World) (K : Option Addr) (k d : Nat) (h : Below w.heap.size w W) (hE : Elems ReadD.enc 34 W K k d (t.reads.take k)) (hk : k ≤ 1000) (hn : t.reads.length ≤ 1000) => holds_any t A c A' c' K k d (t.reads.take k) W (hR.below h) hE (by omega) (by omega)
  obtain ⟨cs, hcs⟩ : ∃ cs, t.cells A c A' c' = cs := ⟨_, rfl⟩
  have hl := t.cells_len A c A' c'
  have h32 := box_cell 29 (t.cell32 A c A' c')
  rw [hcs] at cw cc ch hl h32 ⊢
  have hwn : TS.checkErr t = 0 → ∀ (k : Nat) (r : ReadD), t.reads[k]? = some r → TS.holds (t.reads.take k) t.reads = (false, r.path) := fun h k r hk => TS.walks_next h hk
  have hwe : TS.checkErr t = 0 → TS.holds t.reads t.reads = (true, ⟨#[]⟩) := TS.walks_end
  have hle : TS.checkErr t = 0 → t.reads.length ≤ 500 := fun h => (TS.check_parts h).1
  obtain ⟨rs, hrs⟩ : ∃ rs, t.reads = rs := ⟨_, rfl⟩
  rw [hrs] at hR ch h32 hwn hwe hle
  obtain ⟨x, hx⟩ : ∃ x, TS.checkErr t = x := ⟨_, rfl⟩
  rw [hx] at cc hwn hwe hle
  obtain ⟨z, hz⟩ : ∃ z, TS.wide t = z := ⟨_, rfl⟩
  rw [hz] at cw
  clear hcs hrs hx hz hO hr ho
  have HL := Lib.hid hl
  have HB := Lib.hid (BoxAt.new w cs 29)
  have hp0 : Pow (w.alloc (.cells cs.toArray 29)) := hp.below (below_box _)
  have H32 := Lib.hid (h32 w)
  have CW := Lib.hid cw
  have CC := Lib.hid cc
  have CH := Lib.hid ch
  clear cw cc ch hl h32
  go_enter Tryd.func5, Tryd.ntmps5
  go_wp2_with (first | (go_at_call 11; refine (alive_any _ hp0).mono ?_; rintro e w1 ⟨rfl, hb1⟩; have H1 := Lib.hid (HB.out.later hb1); have H321 := Lib.hid (cell_below hb1 H32.out); clear hb1) | (refine wpList_load_mid rfl 29 _ rfl w.heap.size 0 rfl cs _ H1.out.2.1 Tryd.underlying29 rfl (by rw [HL.out]; kernel_rfl) ?_))
  refine (CW.out _ H1.out.1).mono ?_
  rintro e w2 ⟨rfl, hb2⟩
  have H2 := Lib.hid (H1.out.later hb2)
  have H322 := Lib.hid (cell_below hb2 H321.out)
  clear hb2 H1 H321 H32 HB hp0 CW
  cases z with
  | true =>
    go_wp2_with fail
    go_ret
    exact ⟨rfl, H2.out.1⟩
  | false =>
    go_wp2_with (refine wpList_load_mid_g 29 _ rfl (by rfl) w.heap.size 0 rfl cs _ H2.out.2.1 Tryd.underlying29 rfl (by rw [HL.out]; kernel_rfl) ?_)
    refine (CC.out _ H2.out.1).mono ?_
    rintro e w3 ⟨rfl, hb3⟩
    have H3 := Lib.hid (H2.out.later hb3)
    have H323 := Lib.hid (cell_below hb3 H322.out)
    clear hb3 H2 H322 CC
    by_cases hx0 : x = 0
    · subst hx0
      have HWN := Lib.hid (hwn rfl)
      have HWE := Lib.hid (hwe rfl)
      have hle' := hle rfl
      clear hwn hwe hle
      obtain ⟨i0, hi0, hz0, hz1, hz2⟩ := info_parts infoRead2
      have HI := Lib.hid (And.intro hi0 (And.intro hz0 (And.intro hz1 hz2)))
      clear hi0 hz0 hz1 hz2
      go_wp2_with fail
      go_loopw [3, 4] (fun v i wr => ∃ k : Nat, k ≤ rs.length ∧ i = .int .i64 k ∧ wr.ownsRow (w.heap.size + 1) 32 34 v k ((rs.take k).flatMap ReadD.enc) ∧ BoxAt w cs wr ∧ wr.cell? ⟨w.heap.size, 32, none⟩ = some (.slice A rs.length c)) (fun _ i _ => rs.length - (intOf i).toNat)
      case atStart => exact ⟨0, by omega, rfl, ⟨rfl, Or.inl ⟨rfl, rfl⟩⟩, H3.out, H323.out⟩
      case round =>
        obtain ⟨k, hk, rfl, hown, hbx, hc32⟩ := hrel
        have hlen : (rs.take k).length = k := by rw [List.length_take]; omega
        obtain ⟨K, d, hv, hE⟩ := own_elems (xs := rs.take k) ReadD.enc 34 ReadD.enc_len (by rw [hlen]; exact hown)
        rw [hlen] at hv hE
        subst hv
        have HO := Lib.hid hown
        have HE := Lib.hid hE
        have HX := Lib.hid hbx
        clear hown hlen hE hbx H3 H323
        by_cases hlt : k < rs.length
        · obtain ⟨b, o, rfl, hbl, hel⟩ := hR.at_ (by omega)
          obtain ⟨r, hm⟩ : ∃ r, rs[k]? = some r := ⟨rs[k], by simp⟩
          have HM := Lib.hid hm
          have hcc := CH.out _ K k d HX.out.1 HE.out (by omega) (by omega)
          rw [HWN.out k r hm] at hcc
          have HCC := Lib.hid hcc
          have HEL := Lib.hid (hel k r hm)
          clear hcc hm hel
          go_wp2_with (refine wpList_load_mid rfl 29 _ rfl w.heap.size 0 rfl cs _ HX.out.2.1 Tryd.underlying29 rfl (by rw [HL.out]; kernel_rfl) ?_)
          refine HCC.out.mono ?_
          rintro e w4 ⟨rfl, hb4⟩
          have HX4 := Lib.hid (HX.out.later hb4)
          have hc4 := cell_below hb4 hc32
          have hrg := range_low HX4.out.1 hbl HEL.out
          have hcp := (ReadD.cells hrg).1
          have HRG := Lib.hid hrg
          have HO4 := Lib.hid (HO.out.kept (row := none) ⟨hb4.os, hb4.tape, hb4.output, hb4.size, fun i hi _ => hb4.block i hi⟩ (Classical.em _))
          clear hb4 hc32 hrg HCC
          go_wp2_with (first | (refine wpList_load_mid rfl 32 _ rfl b (o + k * 34) rfl r.enc _ HRG.out Tryd.underlying32 rfl (by rw [r.enc_len]; kernel_rfl) ?_) | (refine wpList_one rfl 26 32 _ rfl Tryd.underlying26 r.enc rfl (built_read r) ?_) | (refine wpList_append_elems rfl _ _ 26 rfl ReadD.enc 34 ReadD.enc_len ReadD.enc_one (w.heap.size + 1) 32 i0 _ 56 Tryd.underlying26 HI.out.1 HI.out.2.1 HI.out.2.2.1 HI.out.2.2.2 rfl (by decide) (.slice K k d) k ((rs.take k).flatMap ReadD.enc) rfl (HO4.out.kept (row := none) (grown_of_box _ _) (Classical.em _)) (some ⟨w4.heap.size, 0, none⟩) 1 1 [r] rfl (elems_one w4 r) (by unfold maxLen; omega) (by omega) (Nat.le_trans HX4.out.2.2 (by simp)) ?_; intro v5 w5 hown5 hgr5; have HO5 := Lib.hid hown5; have HG5 := Lib.hid hgr5; clear hown5 hgr5))
          have hlow := grown_below (HO4.out.kept (row := none) (grown_of_box w4 (.cells r.enc.toArray 32)) (Classical.em _)) (Nat.le_trans HX4.out.2.2 (by simp)) HG5.out
          have hb4 := (HX4.out.later (below_box (.cells r.enc.toArray 32))).low hlow
          have hc5 := (hlow.cell (p := ⟨w.heap.size, 32, none⟩) (Nat.lt_succ_self _)).trans (cell_below (below_box (.cells r.enc.toArray 32)) hc4)
          have ho5 := HO5.out
          rw [take_flat HM.out] at ho5
          exact ⟨⟨k + 1, by omega, by go_num, ho5, hb4, hc5⟩, by simp only [intOf]; omega⟩
        · obtain rfl : k = rs.length := by omega
          have hcc := CH.out _ K rs.length d HX.out.1 HE.out (by omega) (by omega)
          rw [List.take_length, HWE.out] at hcc
          have HCC := Lib.hid hcc
          clear hcc
          go_wp2_with (refine wpList_load_mid rfl 29 _ rfl w.heap.size 0 rfl cs _ HX.out.2.1 Tryd.underlying29 rfl (by rw [HL.out]; kernel_rfl) ?_)
          refine HCC.out.mono ?_
          rintro e w4 ⟨rfl, hb4⟩
          have hend := (HX.out.later hb4).1
          have HEND := Lib.hid hend
          clear hb4 hend hc32
          go_wp2_with fail
          go_ret
          exact ⟨rfl, HEND.out⟩
    · have hx1 : (x == 0) = false := by simpa using hx0
      have hx2 : (x != 0) = true := by simpa using hx0
      clear hwn hwe hle hx0
      go_wp2_with fail
      go_ret
      exact ⟨rfl, H3.out.1⟩
end Go.Proofs.YtcaookphoiopbaaDoor
