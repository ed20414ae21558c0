/- A range over a function at an outermost loop, in plain steps: entering it, one round of it. Any program; no numbers. -/
import Derived.RangeFuncIn
import Derived.RangeFuncRecord
import Derived.RangeFuncBound
import Derived.RangeFuncCalls
import Derived.RangeFuncLeaves
import Derived.RangeFuncNested
import Derived.Shelf.Abstract
import Derived.WalkKit
import Derived.OwnWalkIn
import Derived.TacticsInMore
import Derived.LoopNIn
import Derived.LoopIn
namespace Go.Proofs.YtgbogkmbgedkkaaDoor
open Go.RowKit
namespace RNG
variable {P : Program} {n : Nat}

/-- The record of the loop. -/
def record (fn : FuncId) (tmps : Array Value) (ps : Array Tmp) (assign body : Code) (D : Nat) (st : LoopState) (j : Option Code) : Loop :=
  { state := st, pending := j, fn := fn, tmps := tmps, params := ps, assign := assign, body := body, defers := D }

/-- The world in which the iterator begins. -/
def laid (w : World) (fn : FuncId) (tmps : Array Value) (ps : Array Tmp) (assign body : Code) : World :=
  (w.alloc (.deferred (some []))).alloc (.loop (record fn tmps ps assign body w.heap.size .ready none))

theorem laid_size (w : World) (fn : FuncId) (tmps : Array Value) (ps : Array Tmp) (assign body : Code) : (laid w fn tmps ps assign body).heap.size = w.heap.size + 2 := by
  simp [laid]

theorem laid_loop (w : World) (fn : FuncId) (tmps : Array Value) (ps : Array Tmp) (assign body : Code) :
    (laid w fn tmps ps assign body).heap[w.heap.size + 1]? = some (.loop (record fn tmps ps assign body w.heap.size .ready none)) := by
  have := World.alloc_heap_new (w.alloc (.deferred (some []))) (.loop (record fn tmps ps assign body w.heap.size .ready none))
  rwa [World.size_alloc] at this

theorem laid_defer (w : World) (fn : FuncId) (tmps : Array Value) (ps : Array Tmp) (assign body : Code) :
    (laid w fn tmps ps assign body).heap[w.heap.size]? = some (.deferred (some [])) :=
  (Below.heap_alloc _ _ _ (by simp)).trans (World.alloc_heap_new w _)

theorem laid_old (w : World) (fn : FuncId) (tmps : Array Value) (ps : Array Tmp) (assign body : Code) (k : Nat) (h : k < w.heap.size) :
    (laid w fn tmps ps assign body).heap[k]? = w.heap[k]? :=
  (Below.heap_alloc _ _ _ (by simp; omega)).trans (Below.heap_alloc _ _ _ h)

theorem laid_below (w : World) (fn : FuncId) (tmps : Array Value) (ps : Array Tmp) (assign body : Code) : Below w.heap.size w (laid w fn tmps ps assign body) :=
  ((Below.refl _ w).alloc (Nat.le_refl _) _).alloc (by simp) _

/-- Entering: the iterator is called; it returns, and the record says how the loop was left. -/
theorem enter {g : Operand} {ps : Array Tmp} {assign body : Code} {Q : Exit → Act → World → Prop} {a : Act} {w : World} {gf : Nat} {lb : Array Value}
    (hg : a.eval g = .func (.func gf) #[] lb) (eg : ∀ args w, (callFunc gf args).run P w = .ok (.enter gf args) w)
    (h : ∀ fn r W1, r = record fn a.tmps ps assign body w.heap.size → W1.heap.size = w.heap.size + 2 → Below w.heap.size w W1 → W1.heap[w.heap.size]? = some (.deferred (some [])) → W1.heap[w.heap.size + 1]? = some (.loop (r .ready none)) →
      CallsIn Fence.wide (n - 1) P gf (#[.func (.yield (w.heap.size + 1)) #[] #[]] ++ lb) W1 fun e W2 =>
      (∃ v, e = .returned v) ∧
      ((W2.heap[w.heap.size + 1]? = some (.loop (r .ready none)) ∧
        Q .normal { a with defers := { target := .collected w.heap.size, args := #[] } :: a.defers } (W2.putObj (w.heap.size + 1) (.loop (r .exhausted none)))) ∨
       ∃ c, W2.heap[w.heap.size + 1]? = some (.loop (r .done (some c))) ∧
        c.wpIn Fence.wide n P Q { a with defers := { target := .collected w.heap.size, args := #[] } :: a.defers } (W2.putObj (w.heap.size + 1) (.loop (r .exhausted (some c)))))) :
    (Code.rangeFunc g ps assign body).wpIn Fence.wide n P Q a w := by
  refine wpIn_rangeFunc fun fn _ => ?_
  refine ⟨w.heap.size + 1, [{ target := .collected w.heap.size, args := #[] }], laid w fn a.tmps ps assign body,
    { target := .fn (.func gf) lb, args := #[.func (.yield (w.heap.size + 1)) #[] #[]] }, laid w fn a.tmps ps assign body, gf,
    #[.func (.yield (w.heap.size + 1)) #[] #[]] ++ lb, laid w fn a.tmps ps assign body, ?_, ?_, fun _ _ => trivial, ?_, fun h => by simp [Fence.wide] at h, ?_⟩
  · exact run_enterLoop_outer _ _ _ _ _
  · simp only [resolve, hg]
    simp [go_sem]
  · simp [invoke, go_sem, eg]
  · refine (h fn _ _ rfl (laid_size ..) (laid_below ..) (laid_defer ..) (laid_loop ..)).mono ?_
    rintro e W2 ⟨⟨v, rfl⟩, ⟨hl, hq⟩ | ⟨c, hl, hq⟩⟩
    · exact ⟨none, _, run_endLoop (P := P) hl (by simp [record]), hq⟩
    · exact ⟨some c, _, run_endLoop (P := P) hl (by simp [record]), hq⟩

/-- How the body of a round may end. -/
def roundEnd (r : LoopState → Option Code → Loop) (l : Nat) (R : Ending → World → Prop) : Exit → Act → World → Prop
  | .normal, _, W3 => W3.heap[l]? = some (.loop (r .busy none)) ∧ R (.returned (.bool true)) (W3.putObj l (.loop (r .ready none)))
  | .ret, _, W3 => W3.heap[l]? = some (.loop (r .busy none)) ∧ R (.returned (.bool false)) (W3.putObj l (.loop (r .done (some .ret))))
  | .exit id, _, W3 => W3.heap[l]? = some (.loop (r .busy none)) ∧ R (.returned (.bool false)) (W3.putObj l (.loop (r .done (some (.exit id)))))
  | .goto _, _, _ => False
  | .panic _, _, _ => False
  | .outgrown, _, _ => False

/-- One round: what the body must show at each of its ends. -/
theorem round {ps : Array Tmp} {assign body : Code} {l D fn : Nat} {tmps args : Array Value} {W : World} {R : Ending → World → Prop} {r : LoopState → Option Code → Loop}
    (hr : r = record fn tmps ps assign body D) (hl : W.heap[l]? = some (.loop (r .ready none))) (hs : args.size = ps.size)
    (h : assign.wpIn (Fence.wide.inRound l) n P (Exit.then (fun a1 w1 => w1 = W ∧ body.wpIn (Fence.wide.inRound l) n P (roundEnd r l R) a1 (W.putObj l (.loop (r .busy none)))) (fun _ _ _ => False))
      { tmps := (ps.zip args).foldl (fun t (p, v) => t.setIfInBounds p v) tmps, defers := [] } W) :
    YieldAt Fence.wide n P l args W R := by
  subst hr
  refine ⟨fn, _, assign, body, run_yield (P := P) hl (by simpa [record] using hs), roundIn_of_wpIn trivial (wpIn_mono h ?_)⟩
  rintro e a1 w1 hp
  cases e with
  | normal =>
    obtain ⟨rfl, hb⟩ := hp
    refine ⟨_, run_beginRound hl rfl, wpIn_mono hb ?_⟩
    rintro e a3 W3 hp
    cases e with
    | normal => exact ⟨_, _, run_endRound (P := P) none hp.1, hp.2⟩
    | ret => exact ⟨_, _, run_endRound (P := P) (some .ret) hp.1, hp.2⟩
    | exit id => exact ⟨_, _, run_endRound (P := P) (some (.exit id)) hp.1, hp.2⟩
    | goto t => exact hp.elim
    | panic ch => exact hp.elim
    | outgrown => exact hp.elim
  | ret => exact hp
  | exit id => exact hp
  | goto t => exact hp
  | panic ch => exact hp
  | outgrown => exact hp

end RNG
end Go.Proofs.YtgbogkmbgedkkaaDoor
