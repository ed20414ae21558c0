/- The law on limits: what it computes. -/
import Derived.Test.YtcaookphoiopbaaDoorAlive
import Derived.Test.YtcaookphoiopbaaDoorLimitsPure
import Derived.Deep.RegionLaw
namespace Go.Proofs.YtcaookphoiopbaaDoor
open Go.RowKit Go.Shelf

def valR (l : List ReadD) : List Value := l.flatMap ReadD.enc
def valM (l : List MadeD) : List Value := l.flatMap MadeD.enc
def boxC (u u' : Value) : List Value := Dig.zero.enc ++ [u, u']
theorem boxC_32 (u u' : Value) : (boxC u u')[32]? = some u := by simp [boxC, Dig.zero.enc_len]
theorem boxC_33 (u u' : Value) : (boxC u u')[33]? = some u' := by simp [boxC, Dig.zero.enc_len]
theorem boxC_len (u u' : Value) : (boxC u u').length = 34 := by simp [boxC, Dig.zero.enc_len]

theorem boxC_set32 (u u' x : Value) : (boxC u u').set 32 x = boxC x u' := by
  unfold boxC
  rw [List.set_append_right _ _ (by rw [Dig.zero.enc_len]; omega), Dig.zero.enc_len]
  rfl
theorem boxC_set33 (u u' x : Value) : (boxC u u').set 33 x = boxC u x := by
  unfold boxC
  rw [List.set_append_right _ _ (by rw [Dig.zero.enc_len]; omega), Dig.zero.enc_len]
  rfl
theorem infoRead : (Tryd.prog.info? 32).map (fun i => (i.zero, i.size, i.bytes)) = some (some (.agg (ReadD.enc ⟨⟨#[]⟩, false, Dig.zero⟩).toArray), 34, 56) := by kernel_rfl
theorem infoMade : (Tryd.prog.info? 34).map (fun i => (i.zero, i.size, i.bytes)) = some (some (.agg (MadeD.enc ⟨⟨#[]⟩, Dig.zero⟩).toArray), 33, 48) := by kernel_rfl

/-- A trace that grows in a box: what it holds, what its fields hold. -/
structure Lim (N : Nat) (w : World) (u u' : Value) (rs : List ReadD) (v : Value) (ms : List MadeD) (v' : Value) (W : World) : Prop where
  box : W.heap[N]? = some (.cells (boxC u u').toArray 29 (0, 0))
  ownR : W.ownsRow (N + 1) 32 34 v rs.length (valR rs)
  ownO : W.ownsRow (N + 1) 34 33 v' ms.length (valM ms)
  below : Below N w W
  lt : N < W.heap.size
  pow : Pow W

theorem Lim.cellR {N : Nat} {w : World} {u u' : Value} {rs : List ReadD} {v : Value} {ms : List MadeD} {v' : Value} {W : World} (h : Lim N w u u' rs v ms v' W) : W.cell? ⟨N, 32, none⟩ = some u := by
  rw [cell_of_row _ N 32 _ _ _ h.box]
  simpa using boxC_32 u u'
theorem Lim.cellO {N : Nat} {w : World} {u u' : Value} {rs : List ReadD} {v : Value} {ms : List MadeD} {v' : Value} {W : World} (h : Lim N w u u' rs v ms v' W) : W.cell? ⟨N, 33, none⟩ = some u' := by
  rw [cell_of_row _ N 33 _ _ _ h.box]
  simpa using boxC_33 u u'
theorem Lim.frozen {N : Nat} {w : World} {u u' : Value} {rs : List ReadD} {v : Value} {ms : List MadeD} {v' : Value} {W : World} (h : Lim N w u u' rs v ms v' W) (j : Nat) : W.frozen? ⟨N, j, none⟩ = false := by
  simp [World.frozen?, h.box]

theorem Lim.later {N : Nat} {w : World} {u u' : Value} {rs : List ReadD} {v : Value} {ms : List MadeD} {v' : Value} {W X : World} (h : Lim N w u u' rs v ms v' W) (hb : Below W.heap.size W X) : Lim N w u u' rs v ms v' X := by
  have hg : W.grownBy X none := ⟨hb.os, hb.tape, hb.output, hb.size, fun i hi _ => hb.block i hi⟩
  have hn : ∀ {e : TypeId} {s n : Nat} {y : Value} {xs : List Value}, W.ownsRow (N + 1) e s y n xs → y.ownBlock = none ∨ y.ownBlock ≠ none := fun _ => by
    by_cases h : (Value.ownBlock ‹Value›) = none
    · exact Or.inl h
    · exact Or.inr h
  exact ⟨heap_below hb h.box, h.ownR.kept hg (hn h.ownR), h.ownO.kept hg (hn h.ownO), h.below.trans (hb.mono (Nat.le_of_lt h.lt)), Nat.lt_of_lt_of_le h.lt hb.size, h.pow.below hb⟩

/-- Two rows of elements of other types lie apart. -/
theorem rows_apart {W : World} {base e e' s s' n n' : Nat} {v v' : Value} {xs xs' : List Value} (hte : e ≠ e') (h : W.ownsRow base e s v n xs) (h' : W.ownsRow base e' s' v' n' xs') : v.ownBlock = none ∨ v.ownBlock ≠ v'.ownBlock := by
  rcases h.2 with ⟨rfl, _⟩ | ⟨g, cap, cur, rfl, _, hh, _⟩
  · exact Or.inl rfl
  · refine Or.inr fun e1 => ?_
    rcases h'.2 with ⟨rfl, _⟩ | ⟨g', cap', cur', rfl, _, hh', _⟩
    · simp [Value.ownBlock] at e1
    · simp only [Value.ownBlock, Option.some.injEq] at e1
      subst e1
      rw [hh] at hh'
      simp only [Option.some.injEq, Obj.cells.injEq] at hh'
      exact hte hh'.2.1
theorem own_ge {W : World} {base e s n : Nat} {v : Value} {xs : List Value} (h : W.ownsRow base e s v n xs) : ∀ j, v.ownBlock = some j → base ≤ j := by
  intro j hj
  rcases h.2 with ⟨rfl, _⟩ | ⟨g, cap, cur, rfl, hb, _⟩
  · simp [Value.ownBlock] at hj
  · simp only [Value.ownBlock, Option.some.injEq] at hj
    omega

theorem Lim.moreR {N : Nat} {w : World} {u u' : Value} {rs : List ReadD} {v : Value} {ms : List MadeD} {v' : Value} {W X : World} {r : ReadD} {v2 : Value} (h : Lim N w u u' rs v ms v' W) (hg : W.grownBy X v.ownBlock)
    (ho : X.ownsRow (N + 1) 32 34 v2 (rs.length + 1) (valR rs ++ r.enc)) (hpw : 0 < N) : Lim N w u u' (rs ++ [r]) v2 ms v' X := by
  have hge := own_ge h.ownR
  have hb : Below N W X := (Below.refl N W).grown hg (Nat.le_of_lt h.lt) (fun j e => by have := hge j e; omega)
  refine ⟨(hg.block N h.lt (fun e => by have := hge N e.symm; omega)).trans h.box, ?_, h.ownO.kept hg (rows_apart (by decide) h.ownO h.ownR), h.below.trans hb, Nat.lt_of_lt_of_le h.lt hg.size, var?_below (B := N) hb powAt hpw h.pow⟩
  simpa [valR] using ho
theorem Lim.moreO {N : Nat} {w : World} {u u' : Value} {rs : List ReadD} {v : Value} {ms : List MadeD} {v' : Value} {W X : World} {m : MadeD} {v2 : Value} (h : Lim N w u u' rs v ms v' W) (hg : W.grownBy X v'.ownBlock)
    (ho : X.ownsRow (N + 1) 34 33 v2 (ms.length + 1) (valM ms ++ m.enc)) (hpw : 0 < N) : Lim N w u u' rs v (ms ++ [m]) v2 X := by
  have hge := own_ge h.ownO
  have hb : Below N W X := (Below.refl N W).grown hg (Nat.le_of_lt h.lt) (fun j e => by have := hge j e; omega)
  refine ⟨(hg.block N h.lt (fun e => by have := hge N e.symm; omega)).trans h.box, h.ownR.kept hg (rows_apart (by decide) h.ownR h.ownO), ?_, h.below.trans hb, Nat.lt_of_lt_of_le h.lt hg.size, var?_below (B := N) hb powAt hpw h.pow⟩
  simpa [valM] using ho

theorem Lim.put {N : Nat} {w : World} {u u' z z' : Value} {rs : List ReadD} {v : Value} {ms : List MadeD} {v' : Value} {W : World} (h : Lim N w u u' rs v ms v' W) (j : Nat) (x : Value) (hx : (boxC u u').set j x = boxC z z') (hpw : 0 < N) :
    Lim N w z z' rs v ms v' (W.setCell ⟨N, j, none⟩ x) := by
  have hg : W.grownBy (W.setCell ⟨N, j, none⟩ x) (some N) := ⟨rfl, rfl, rfl, by simp [World.setCell], fun i hi hne => Below.heap_setCell W _ x i (fun e => hne (by rw [e]))⟩
  have hb : Below N W (W.setCell ⟨N, j, none⟩ x) := ⟨rfl, rfl, rfl, by simp [World.setCell], fun i hi => Below.heap_setCell W _ x i (by show i ≠ N; omega)⟩
  have hgR := own_ge h.ownR
  have hgO := own_ge h.ownO
  refine ⟨?_, h.ownR.kept hg (Or.inr fun e => by have := hgR N e; omega), h.ownO.kept hg (Or.inr fun e => by have := hgO N e; omega), h.below.trans hb, Nat.lt_of_lt_of_le h.lt hb.size, var?_below (B := N) hb powAt hpw h.pow⟩
  have h0 := h.box
  simp only [World.setCell, Array.getElem?_modify, h0, if_true, Option.map_some]
  rw [← hx]
  simp

theorem flat_at {α : Type} (enc : α → List Value) (k : Nat) (hk : ∀ x, (enc x).length = k) : ∀ (xs : List α) (j : Nat) (x : α) (i : Nat) (u : Value), xs[j]? = some x → (enc x)[i]? = some u → (xs.flatMap enc)[j * k + i]? = some u
  | [], _, _, _, _, h, _ => by simp at h
  | y :: ys, 0, x, i, u, h, hu => by
    simp at h
    subst h
    rw [List.flatMap_cons, Nat.zero_mul, Nat.zero_add, List.getElem?_append_left (List.getElem?_eq_some_iff.1 hu).1]
    exact hu
  | y :: ys, j + 1, x, i, u, h, hu => by
    rw [List.flatMap_cons, List.getElem?_append_right (by rw [hk, Nat.succ_mul]; omega), hk, show (j + 1) * k + i - k = j * k + i by rw [Nat.succ_mul]; omega]
    exact flat_at enc k hk ys j x i u (by simpa using h) hu

/-- An own row, as a slice of elements. -/
theorem own_elems {α : Type} (enc : α → List Value) (k : Nat) (hk : ∀ x, (enc x).length = k) {W : World} {base e : TypeId} {v : Value} {xs : List α} (h : W.ownsRow base e k v xs.length (xs.flatMap enc)) : ∃ A c, v = .slice A xs.length c ∧ Elems enc k W A xs.length c xs := by
  have h0 := h
  rcases h.2 with ⟨rfl, hn⟩ | ⟨g, cap, cur, rfl, _, hh, hc, _⟩
  · refine ⟨none, 0, by rw [hn], rfl, by omega, fun h => by omega⟩
  · refine ⟨_, _, rfl, rfl, hc, fun _ => ⟨g, 0, rfl, lt_of_block hh, fun j x hx i u hu => ?_⟩⟩
    have := h0.cells (g := g) rfl (j * k + i) u (flat_at enc k hk xs j x i u hx hu)
    rw [Addr.add_mid] at this
    rwa [Nat.zero_add, ← Nat.zero_add (j * k)] at this

theorem news_lit (t : TypeId) (l : List Value) (W : World) : ∀ j u, l[j]? = some u → (W.alloc (.cells l.toArray t)).cell? ((⟨W.heap.size, 0, none⟩ : Addr).add j) = some u :=
  World.news_of_block (cs := l.toArray) (t := t) (fr := (0, 0)) (heap_alloc_new W _)

theorem nameM_eq (k : Nat) : LM.nameM k = ⟨(⟨#[111, 117, 116, 47]⟩ : ByteArray) ++ ⟨(NM.name k).toArray⟩, Dig.zero⟩ := by
  have e : (⟨(LM.out4 ++ NM.name k).toArray⟩ : ByteArray) = (⟨#[111, 117, 116, 47]⟩ : ByteArray) ++ ⟨(NM.name k).toArray⟩ := by
    apply ByteArray.ext
    rw [ByteArray.data_append]
    simp [LM.out4]
  unfold LM.nameM
  rw [e]
theorem lim_start (w1 : World) (hp : Pow w1) : Lim w1.heap.size w1 (.slice none 0 0) (.slice none 0 0) (LM.readsTo 0) (.slice none 0 0) [] (.slice none 0 0) (w1.alloc (.cells (boxC (.slice none 0 0) (.slice none 0 0)).toArray 29)) :=
  ⟨World.alloc_heap_new w1 _, World.ownsRow_nil _ _ _ _, World.ownsRow_nil _ _ _ _, below_box _, by simp, hp.below (below_box _)⟩

set_option maxHeartbeats 8000000 in
set_option maxRecDepth 100000 in
theorem limits_any (a b : Nat) (ha : a < 65536) (hb : b < 65536) (w : World) (hp : Pow w) :
    Calls Tryd.prog 3 #[.int .u16 a, .int .u16 b] w fun e w' => e = .returned (.bool true) ∧ Below w.heap.size w w' := by
  go_enter Tryd.func3, Tryd.ntmps3
  go_wp2_with (first | (go_at_call 11; refine (alive_any w hp).mono ?_; rintro e w1 ⟨rfl, hb1⟩))
  have hp1 := hp.below hb1
  obtain ⟨m, hm⟩ : ∃ m, a % 600 = m := ⟨_, rfl⟩
  obtain ⟨n, hn⟩ : ∃ n, b % 1100 = n := ⟨_, rfl⟩
  have hma : (a : Int) % 600 = m := by omega
  have hnb : (b : Int) % 1100 = n := by omega
  have hm6 : m ≤ 599 := by omega
  have hn6 : n ≤ 1099 := by omega
  clear hm hn
  have hst := lim_start w1 hp1
  have hpl := hp1.lt
  obtain ⟨N, hN⟩ : ∃ N, w1.heap.size = N := ⟨_, rfl⟩
  rw [hN] at hst hpl ⊢
  have HN := Lib.hid hN
  have HPL := Lib.hid hpl
  have HST := Lib.hid hst
  have HB1 := Lib.hid hb1
  clear hN hpl hst hb1
  go_loopw [6] (fun i wr => ∃ (k : Nat) (v : Value), k ≤ m ∧ i = .int .i64 k ∧ Lim N w1 v (.slice none 0 0) (LM.readsTo k) v [] (.slice none 0 0) wr) (fun i _ => m - (intOf i).toNat)
  case atStart => exact ⟨0, .slice none 0 0, by omega, rfl, HST.out⟩
  case round =>
    obtain ⟨k, v, hk, rfl, hL⟩ := hrel
    clear HST
    by_cases hlt : k < m
    · have hlen : (LM.readsTo k).length = k := by simp [LM.readsTo]
      obtain ⟨nm, hnm⟩ : ∃ nm, (⟨(NM.name k).toArray⟩ : ByteArray) = nm := ⟨_, rfl⟩
      have cn := fun W => name_any k (by omega) W
      rw [hnm] at cn
      have CN := Lib.hid cn
      have HNM := Lib.hid hnm
      obtain ⟨i0, hi0, hz0, hz1, hz2⟩ := info_parts infoRead
      have HI := Lib.hid (And.intro hi0 (And.intro hz0 (And.intro hz1 hz2)))
      have H0 := Lib.hid (hL.later (below_drew1 (Below.refl _ _)))
      have hc0 := H0.out.cellR
      clear hi0 hz0 hz1 hz2 hL cn hnm
      go_wp2_with fail
      go_region_law (first | (go_simp; go_at_call 12; refine (CN.out _).mono ?_; rintro e w2 ⟨rfl, hb2⟩; have H2 := Lib.hid (H0.out.later hb2); have hc2 := H2.out.cellR; have hc2' := fun o => (H2.out.later (below_box o)).cellR; clear hb2; go_wp2_with fail) | (refine step_append_lies _ (by rfl) _ _ _ (by rfl) (N + 1) 32 i0 _ 34 56 Tryd.underlying26 HI.out.1 HI.out.2.1 HI.out.2.2.1 HI.out.2.2.2 (by rfl) (by decide) v (LM.readsTo k).length (valR (LM.readsTo k)) (by rfl) ((H2.out.later (below_box _)).ownR) ⟨w2.heap.size, 0, none⟩ 1 1 (ReadD.enc ⟨nm, false, Dig.zero⟩) (by rfl) (by rfl) (news_lit 32 (ReadD.enc ⟨nm, false, Dig.zero⟩) w2) (ReadD.enc_one _) (by omega) (by unfold maxLen; omega) (by omega) (by have := H2.out.lt; simp; omega) (w2.heap.size + 1) (by simp) ?_; intro g' cap' w3 hown3 hgr3 hat3 hlt3; have H3 := Lib.hid ((H2.out.later (below_box _)).moreR hgr3 hown3 HPL.out); have hc3 := H3.out.cellR; have hf3 := H3.out.frozen 32; clear hown3 hgr3 hat3 hlt3))
      all_goals (go_wp2_with fail; go_roundw; case' rel => exact ⟨k + 1, .slice (some ⟨g', 0, none⟩) (k + 1) cap', by omega, by go_num, by rw [LM.readsTo_succ, show LM.nameR k = ⟨nm, false, Dig.zero⟩ from by rw [← HNM.out]; rfl]; have h := H3.out; rw [hlen] at h; exact h.put 32 _ (boxC_set32 _ _ _) HPL.out⟩)
      all_goals (simp only [intOf]; omega)
    · obtain rfl : m = k := by omega
      have HL := Lib.hid hL
      clear hL hk hlt
      go_wp2_with fail
      clear hma
      go_loopw [7] (fun i wr => ∃ (k : Nat) (v' : Value), k ≤ n ∧ i = .int .i64 k ∧ Lim N w1 v v' (LM.readsTo (m)) v (LM.outsTo k) v' wr) (fun i _ => n - (intOf i).toNat)
      case atStart => exact ⟨0, .slice none 0 0, by omega, rfl, HL.out⟩
      case round =>
        obtain ⟨k, v', hk, rfl, hL⟩ := hrel
        clear HL
        by_cases hlt : k < n
        · have hlen : (LM.outsTo k).length = k := by simp [LM.outsTo]
          obtain ⟨nm, hnm⟩ : ∃ nm, (⟨(NM.name k).toArray⟩ : ByteArray) = nm := ⟨_, rfl⟩
          have cn := fun W => name_any k (by omega) W
          have hms : nm.size = 4 := by
            rw [← hnm]
            show (NM.name k).toArray.size = 4
            rw [List.size_toArray]
            exact acc_len k 4
          have em := nameM_eq k
          rw [hnm] at cn em
          have CN := Lib.hid cn
          have EM := Lib.hid em
          obtain ⟨i0, hi0, hz0, hz1, hz2⟩ := info_parts infoMade
          have HI := Lib.hid (And.intro hi0 (And.intro hz0 (And.intro hz1 hz2)))
          have H0 := Lib.hid (hL.later (below_drew1 (Below.refl _ _)))
          have hc0 := H0.out.cellO
          clear hi0 hz0 hz1 hz2 hL cn hnm em
          go_wp2_with fail
          go_region_law (first | (go_simp; go_at_call 12; refine (CN.out _).mono ?_; rintro e w2 ⟨rfl, hb2⟩; have H2 := Lib.hid (H0.out.later hb2); have hc2 := H2.out.cellO; have hc2' := fun o => (H2.out.later (below_box o)).cellO; clear hb2; go_wp2_with fail) | (refine step_append_lies _ (by rfl) _ _ _ (by rfl) (N + 1) 34 i0 _ 33 48 Tryd.underlying27 HI.out.1 HI.out.2.1 HI.out.2.2.1 HI.out.2.2.2 (by rfl) (by decide) v' (LM.outsTo k).length (valM (LM.outsTo k)) (by rfl) ((H2.out.later (below_box _)).ownO) ⟨w2.heap.size, 0, none⟩ 1 1 (MadeD.enc ⟨(⟨#[111, 117, 116, 47]⟩ : ByteArray) ++ nm, Dig.zero⟩) (by rfl) (by rfl) (news_lit 34 (MadeD.enc ⟨(⟨#[111, 117, 116, 47]⟩ : ByteArray) ++ nm, Dig.zero⟩) w2) (MadeD.enc_one _) (by omega) (by unfold maxLen; omega) (by omega) (by have := H2.out.lt; simp; omega) (w2.heap.size + 1) (by simp) ?_; intro g' cap' w3 hown3 hgr3 hat3 hlt3; have H3 := Lib.hid ((H2.out.later (below_box _)).moreO hgr3 hown3 HPL.out); have hc3 := H3.out.cellO; have hf3 := H3.out.frozen 33; clear hown3 hgr3 hat3 hlt3))
          all_goals (go_wp2_with fail; go_roundw; case' rel => exact ⟨k + 1, .slice (some ⟨g', 0, none⟩) (k + 1) cap', by omega, by go_num, by rw [LM.outsTo_succ, EM.out]; have h := H3.out; rw [hlen] at h; exact h.put 33 _ (boxC_set33 _ _ _) HPL.out⟩)
          all_goals (simp only [intOf]; omega)
        · obtain rfl : n = k := by omega
          have eR : valR (LM.readsTo m) = (LM.readsTo m).flatMap ReadD.enc := rfl
          have eM : valM (LM.outsTo n) = (LM.outsTo n).flatMap MadeD.enc := rfl
          obtain ⟨A, c, rfl, hR⟩ := own_elems ReadD.enc 34 ReadD.enc_len (eR ▸ hL.ownR)
          obtain ⟨A', c', rfl, hO⟩ := own_elems MadeD.enc 33 MadeD.enc_len (eM ▸ hL.ownO)
          have hlR : (LM.readsTo m).length = m := by simp [LM.readsTo]
          have hlM : (LM.outsTo n).length = n := by simp [LM.outsTo]
          have hc32 := hL.cellR
          have hc33 := hL.cellO
          have hrg : wr.rangeAt N 0 ((LM.lim m n).cells A c A' c') := fun j u hu => by
            rw [cell_of_row _ N (0 + j) _ _ _ hL.box, Nat.zero_add, List.getElem?_toArray]
            exact hu
          have cc := fun W h k => check_any (LM.lim m n) A c A' c' W h k (LM.lim_small m n)
          have hcl := (LM.lim m n).cells_len A c A' c'
          obtain ⟨cs, hcs⟩ : ∃ cs, (LM.lim m n).cells A c A' c' = cs := ⟨_, rfl⟩
          rw [hcs] at hrg cc hcl
          have HB := Lib.hid hL.below
          have HLT := Lib.hid hL.lt
          have HR := Lib.hid hR
          have HO := Lib.hid hO
          rw [hlR] at hc32
          rw [hlM] at hc33
          by_cases hbig : 500 < m ∨ 1000 < n
          · rw [LM.lim_big m n hbig] at cc
            have CC := Lib.hid cc
            have HRG := Lib.hid hrg
            have HCL := Lib.hid hcl
            clear cc hrg hcl hcs hR hO hL eR eM hlR hlM hk hlt
            go_wp2_with (first | (refine wpList_load_mid rfl 29 _ rfl N 0 rfl cs _ HRG.out Tryd.underlying29 rfl (by rw [HCL.out]; kernel_rfl) ?_) | (go_at_call 13; refine (CC.out _ HR.out HO.out).mono ?_; rintro e w5 ⟨rfl, hb5⟩))
            all_goals first
              | (exfalso; omega)
              | (go_ret; exact ⟨rfl, below_then HB1.out HB1.out.size (by rw [HN.out]; exact HB.out.trans (hb5.mono (Nat.le_of_lt HLT.out)))⟩)
          · rw [LM.lim_ok m n (by omega) (by omega)] at cc
            have CC := Lib.hid cc
            have HRG := Lib.hid hrg
            have HCL := Lib.hid hcl
            have hs1 : m ≤ 500 := by omega
            have hs2 : n ≤ 1000 := by omega
            clear cc hrg hcl hcs hR hO hL eR eM hlR hlM hk hlt hbig
            go_wp2_with (first | (refine wpList_load_mid rfl 29 _ rfl N 0 rfl cs _ HRG.out Tryd.underlying29 rfl (by rw [HCL.out]; kernel_rfl) ?_) | (go_at_call 13; refine (CC.out _ HR.out HO.out).mono ?_; rintro e w5 ⟨rfl, hb5⟩))
            all_goals first
              | (exfalso; omega)
              | (go_ret; exact ⟨rfl, below_then HB1.out HB1.out.size (by rw [HN.out]; exact HB.out.trans (hb5.mono (Nat.le_of_lt HLT.out)))⟩)
end Go.Proofs.YtcaookphoiopbaaDoor
