/- globs.Match: whether a pattern matches a path. -/
import Derived.Test.YtgbogkmbgedkkaaDoorGlobDealWalk
import Derived.Test.YtgbogkmbgedkkaaDoorPathMay
import Derived.Laws.EntriesVeiled
namespace Go.Proofs.YtgbogkmbgedkkaaDoor
open Go.RowKit Go.Shelf

theorem two_facts {w X : World} {ls : List ByteArray} (h : (w.alloc (.cells (ls.map Value.string).toArray 9)).alloc (.cells #[.slice (some ⟨w.heap.size, 0, none⟩) ls.length ls.length] 28) = X) :
    Below w.heap.size w X ∧ X.heap.size = w.heap.size + 2 ∧ X.cell? ⟨w.heap.size + 1, 0, none⟩ = some (.slice (some ⟨w.heap.size, 0, none⟩) ls.length ls.length) ∧ Elems encT 1 X (some ⟨w.heap.size, 0, none⟩) ls.length ls.length ls := by
  subst h
  have hE := texts_at w ls ls.length (Nat.le_refl _) 9
  refine ⟨(below_box _).trans ((below_box _).mono (by simp)), by simp, ?_, hE.below (below_box _)⟩
  simp


theorem five_facts {X Z : World} {B : Nat} {ls ks : List ByteArray} (hs : X.heap.size = B + 2) (c1 : X.cell? ⟨B + 1, 0, none⟩ = some (.slice (some ⟨B, 0, none⟩) ls.length ls.length)) (e1 : Elems encT 1 X (some ⟨B, 0, none⟩) ls.length ls.length ls)
    (hZ : ((((X.alloc (.cells (ks.map Value.string).toArray 9)).alloc (.cells #[.slice (some ⟨B + 2, 0, none⟩) ks.length ks.length] 28)).alloc (.map #[] 0)).alloc (.cells #[.map (some (B + 2 + 1 + 1))] 39)).alloc
      (.cells #[.func (.func 31) #[] #[.pointer (some ⟨B + 1, 0, none⟩), .pointer (some ⟨B + 2 + 1, 0, none⟩), .pointer (some ⟨B + 2 + 1 + 1 + 1, 0, none⟩), .pointer (some ⟨B + 2 + 1 + 1 + 1 + 1, 0, none⟩)]] 40) = Z) :
    Lies Z (B + 2 + 1 + 1) (B + 1) (B + 2 + 1) (B + 2 + 1 + 1 + 1) (B + 2 + 1 + 1 + 1 + 1) (some ⟨B, 0, none⟩) ls.length ls.length (some ⟨B + 2, 0, none⟩) ks.length ks.length ls ks ∧ OwnsNo Z (B + 2 + 1 + 1) 0 (GS.dealAt ls ks) ∧ Below X.heap.size X Z := by
  have hE := texts_at X ks ks.length (Nat.le_refl _) 9
  have b1 := below_box (w := X) (.cells (ks.map Value.string).toArray 9)
  have z1 : (X.alloc (.cells (ks.map Value.string).toArray 9)).heap.size = B + 2 + 1 := by simp [hs]
  rw [hs] at hE
  obtain ⟨W1, h1⟩ : ∃ W1, X.alloc (.cells (ks.map Value.string).toArray 9) = W1 := ⟨_, rfl⟩
  rw [h1] at hZ hE b1 z1
  have b2 := below_box (w := W1) (.cells #[.slice (some ⟨B + 2, 0, none⟩) ks.length ks.length] 28)
  have c2 := box_cell (cs := [Value.slice (some ⟨B + 2, 0, none⟩) ks.length ks.length]) (j := 0) 28 rfl W1
  have z2 : (W1.alloc (.cells #[.slice (some ⟨B + 2, 0, none⟩) ks.length ks.length] 28)).heap.size = B + 2 + 1 + 1 := by simp [z1]
  rw [z1] at c2
  obtain ⟨W2, h2⟩ : ∃ W2, W1.alloc (.cells #[.slice (some ⟨B + 2, 0, none⟩) ks.length ks.length] 28) = W2 := ⟨_, rfl⟩
  rw [h2] at hZ b2 z2
  have c2' : W2.cell? ⟨B + 2 + 1, 0, none⟩ = _ := h2 ▸ c2
  have b3 := below_box (w := W2) (.map #[] 0)
  have o3 := OwnsNo.made W2 (GS.dealAt ls ks)
  have z3 : (W2.alloc (.map #[] 0)).heap.size = B + 2 + 1 + 1 + 1 := by simp [z2]
  rw [z2] at o3
  obtain ⟨W3, h3⟩ : ∃ W3, W2.alloc (.map #[] 0) = W3 := ⟨_, rfl⟩
  rw [h3] at hZ b3 z3 o3
  have b4 := below_box (w := W3) (.cells #[.map (some (B + 2 + 1 + 1))] 39)
  have c4 := box_cell (cs := [Value.map (some (B + 2 + 1 + 1))]) (j := 0) 39 rfl W3
  have z4 : (W3.alloc (.cells #[.map (some (B + 2 + 1 + 1))] 39)).heap.size = B + 2 + 1 + 1 + 1 + 1 := by simp [z3]
  rw [z3] at c4
  obtain ⟨W4, h4⟩ : ∃ W4, W3.alloc (.cells #[.map (some (B + 2 + 1 + 1))] 39) = W4 := ⟨_, rfl⟩
  rw [h4] at hZ b4 z4
  have c4' : W4.cell? ⟨B + 2 + 1 + 1 + 1, 0, none⟩ = _ := h4 ▸ c4
  have b5 := box_facts (cs := [_]) hZ
  have c5 := b5.2.2 0 _ rfl
  rw [z4] at c5
  have hZ4 := b5.1
  have k3 : Below W3.heap.size W3 Z := below_then b4 b4.size hZ4
  have k2 : Below W2.heap.size W2 Z := below_then b3 b3.size k3
  have k1 : Below W1.heap.size W1 Z := below_then b2 b2.size k2
  have k0 : Below X.heap.size X Z := below_then b1 b1.size k1
  refine ⟨⟨cell_below k0 c1, cell_below k2 c2', cell_below hZ4 c4', c5, e1.below k0, hE.below k1, ⟨by omega, by omega, by omega, by omega⟩, fun b o e => by cases e; omega, fun b o e => by cases e; omega⟩, (o3.below k3), k0⟩

set_option maxHeartbeats 2000000 in
set_option maxRecDepth 100000 in
theorem match_any (p s : ByteArray) (m : Int) (w : World) (hp : p.size ≤ 1000000) (hs : s.size ≤ 1000000) (hm : w.cell? ⟨0, 0, none⟩ = some (.int .i64 m)) :
    Calls Tryd.prog 11 #[.string p, .string s] w fun e w' => e = .returned (.bool (GS.matches_ p.data.toList s.data.toList)) ∧ Below w.heap.size w w' := by
  have cg := gmay_any p m w hp hm
  have cm := fun W => may_any s W (by omega)
  obtain ⟨R, hR⟩ : ∃ R, GS.matches_ p.data.toList s.data.toList = R := ⟨_, rfl⟩
  have hR' := hR
  unfold GS.matches_ at hR'
  rw [hR]
  obtain ⟨a, ha⟩ : ∃ a, GS.may p.data.toList = a := ⟨_, rfl⟩
  obtain ⟨b, hb⟩ : ∃ b, PS.may s.data.toList = b := ⟨_, rfl⟩
  rw [ha] at hR' cg
  rw [hb] at hR' cm
  have CG := Lib.hid cg
  have CM := Lib.hid cm
  have HM := Lib.hid hm
  have HR := Lib.hid hR'
  clear cg cm hR hR' hm
  cases a with
  | false =>
    go_enter Tryd.func11, Tryd.ntmps11
    go_wp2_with (first | (go_at_call 9; refine CG.out.mono ?_; rintro e w1 ⟨rfl, hb1⟩))
    go_ret
    exact ⟨retB HR.out, hb1⟩
  | true =>
    cases b with
    | false =>
      have hmf : ∀ (fn : Fn) (first cap : Array Value) (w : World), (Instr.makeFunc fn first cap).run Tryd.prog w = .ok (.func fn first cap) w := fun _ _ _ _ => rfl
      have hmm := @run_makeMap Tryd.prog
      go_enter Tryd.func11, Tryd.ntmps11
      go_wp2_with (first | (go_at_call 9; refine CG.out.mono ?_; rintro e w1 ⟨rfl, hb1⟩) | (go_at_call 30; refine (CM.out _).mono ?_; rintro e w2 ⟨rfl, hb2⟩))
      go_ret
      exact ⟨retB HR.out, below_then hb1 hb1.size hb2⟩
    | true =>
      have cs := fun W (h : W.cell? ⟨0, 0, none⟩ = some (.int .i64 m)) => Tryd.strings_Split p ⟨#[47]⟩ m W (by omega) h (Nat.le_refl _)
      have ct := fun W (h : W.cell? ⟨0, 0, none⟩ = some (.int .i64 m)) => Tryd.strings_Split s ⟨#[47]⟩ m W (by omega) h (Nat.le_refl _)
      obtain ⟨ls, hls⟩ : ∃ ls, Lib.splitB ⟨#[47]⟩ 0 (Lib.countB p ⟨#[47]⟩) p = ls := ⟨_, rfl⟩
      obtain ⟨ks, hks⟩ : ∃ ks, Lib.splitB ⟨#[47]⟩ 0 (Lib.countB s ⟨#[47]⟩) s = ks := ⟨_, rfl⟩
      have hlen := Lib.splitB_all ⟨#[47]⟩ (Nat.le_refl _) 0 _ p rfl
      have klen := Lib.splitB_all ⟨#[47]⟩ (Nat.le_refl _) 0 _ s rfl
      rw [hls] at cs hlen
      rw [hks] at ct klen
      rw [← hlen] at cs
      rw [← klen] at ct
      have CS := Lib.hid cs
      have CT := Lib.hid ct
      have hsp := split_stroke _ p rfl
      have ksp := split_stroke _ s rfl
      have h16 : ls.length ≤ 16 := by
        unfold GS.may at ha
        simp only [Bool.and_eq_true, decide_eq_true_eq] at ha
        have := ha.1
        rw [← hsp, List.length_map, hls] at this
        exact this
      have k16 : ks.length ≤ 16 := by
        unfold PS.may at hb
        simp only [Bool.and_eq_true, decide_eq_true_eq] at hb
        have := hb.1
        rw [← ksp, List.length_map, hks] at this
        exact this
      have hms : ∀ t ∈ ls, t.size ≤ 1000000 := fun t ht => Nat.le_trans (mem_splitB (s := p) t (by rw [hls]; exact ht)) hp
      have kms : ∀ t ∈ ks, t.size ≤ 1000000 := fun t ht => Nat.le_trans (mem_splitB (s := s) t (by rw [hks]; exact ht)) hs
      have hpow : 0 + 2 ^ (ls.length + ks.length) ≤ 1099511627776 := by
        have := Nat.pow_le_pow_right (n := 2) (by omega) (show ls.length + ks.length ≤ 40 by omega)
        omega
      have cd := fun mm bp bn bm bd A A' W hL hO => deal_any mm bp bn bm bd A ls.length ls.length A' ks.length ks.length ls ks (by omega) (by omega) hms kms (ls.length + ks.length) 0 0 0 W (by omega) (by omega) (by omega) hpow hL hO
      have hD : GS.dealAt ls ks 0 0 = R := by
        rw [← HR.out, ← hsp, ← ksp, hls, hks]
        rfl
      rw [hD] at cd
      have CD := Lib.hid cd
      clear cs ct hlen klen hsp ksp h16 k16 hms kms hpow cd hD ha hb hls hks
      have hmf : ∀ (fn : Fn) (first cap : Array Value) (w : World), (Instr.makeFunc fn first cap).run Tryd.prog w = .ok (.func fn first cap) w := fun _ _ _ _ => rfl
      have hmm := @run_makeMap Tryd.prog
      go_enter Tryd.func11, Tryd.ntmps11
      go_wp2_with (first | (go_at_call 9; refine CG.out.mono ?_; rintro e w1 ⟨rfl, hb1⟩) | (go_at_call 30; refine (CM.out _).mono ?_; rintro e w2 ⟨rfl, hb2⟩; have hm2 := cell_below (below_then hb1 hb1.size hb2) HM.out) | (go_at_call 24; refine (CS.out w2 hm2).mono ?_; rintro e w3 ⟨rfl, rfl⟩) | (go_at_call 24; refine calls_name ?_; intro X hX; obtain ⟨hXb, hXs, hXc, hXe⟩ := two_facts hX; refine (CT.out X (cell_below hXb hm2)).mono ?_; rintro e w4 ⟨rfl, rfl⟩; clear hX) | (go_at_call 31; refine calls_name ?_; intro Z hZ; obtain ⟨hL, hO, hbZ⟩ := five_facts hXs hXc hXe hZ; refine (CD.out _ _ _ _ _ _ _ Z hL hO).mono ?_; rintro e w9 ⟨rfl, hg9, _⟩; clear hZ))
      go_ret
      refine ⟨rfl, ?_⟩
      have q2 := below_then hb1 hb1.size hb2
      have q3 := below_then q2 q2.size hXb
      have q4 := below_then q3 q3.size hbZ
      exact q4.grown hg9 q4.size (fun k hk => by cases hk; have := q2.size; omega)
end Go.Proofs.YtgbogkmbgedkkaaDoor
