/- A range over a function whose rounds never leave it: the function's own contract, at the world where the loop's record lies. -/
import Derived.Test.YtjmnomohmijbpaaDoorRegionIn
import Derived.RangeFuncIn
import Derived.RangeFuncRecord
import Derived.RangeFuncSeq
namespace Go.Proofs.YtjmnomohmijbpaaDoor
open Go.RowKit
section
variable {P : Program}
theorem wp_rangeFunc_J {g : Operand} {ps : Array Tmp} {assign body : Code} {Q : Exit → Act → World → Prop} {a : Act} {w : World} {gf : Nat} {lb : Array Value}
    (hg : a.eval g = .func (.func gf) #[] lb) (eg : ∀ args w, (callFunc gf args).run P w = .ok (.enter gf args) w)
    (h : ∀ (rec_ : Loop) (w1 : World), rec_.state = .ready → rec_.pending = none → rec_.params = ps → rec_.tmps = a.tmps → rec_.assign = assign → rec_.body = body →
      w1 = (w.alloc (.deferred (some []))).alloc (.loop rec_) →
      Calls P gf (#[.func (.yield (w.heap.size + 1)) #[] #[]] ++ lb) w1 fun e w2 => (∃ v, e = .returned v) ∧ w2.heap[w.heap.size + 1]? = some (.loop rec_) ∧
        Q .normal { a with defers := { target := .collected w.heap.size, args := #[] } :: a.defers } (w2.putObj (w.heap.size + 1) (.loop { rec_ with state := .exhausted }))) :
    (Code.rangeFunc g ps assign body).wp P Q a w := by
  refine (wpIn_wide (n := 1)).1 (wpIn_rangeFunc ?_)
  intro fn _
  rw [show Fence.wide.round = none from rfl]
  obtain ⟨rc, hrc⟩ : ∃ rc : Loop, rc = { state := .ready, pending := none, fn := fn, tmps := a.tmps, params := ps, assign := assign, body := body, defers := w.heap.size } := ⟨_, rfl⟩
  obtain ⟨W1, hW1⟩ : ∃ W1, (w.alloc (.deferred (some []))).alloc (.loop rc) = W1 := ⟨_, rfl⟩
  refine ⟨w.heap.size + 1, [{ target := .collected w.heap.size, args := #[] }], W1, { target := .fn (.func gf) lb, args := #[.func (.yield (w.heap.size + 1)) #[] #[]] }, W1, gf,
    #[.func (.yield (w.heap.size + 1)) #[] #[]] ++ lb, W1, ?_, ?_, fun _ _ => trivial, ?_, (fun e => by cases e), ?_⟩
  · rw [← hW1, hrc]; exact run_enterLoop_outer _ _ _ _ _
  · simp only [resolve, hg]
    simp [go_sem]
  · simp [invoke, go_sem, eg]
  · refine callsIn_wide.2 ((h rc W1 (by rw [hrc]) (by rw [hrc]) (by rw [hrc]) (by rw [hrc]) (by rw [hrc]) (by rw [hrc]) hW1.symm).mono ?_)
    rintro e w2 ⟨⟨v, rfl⟩, hl, hq⟩
    exact ⟨none, _, (run_endLoop (P := P) hl (by rw [hrc]; simp)).trans (by rw [show rc.pending = none by rw [hrc]]), hq⟩
theorem yield_J {l : Nat} {r : Loop} {W : World} {args : Array Value} {R : Ending → World → Prop} (hl : W.heap[l]? = some (.loop r)) (hs : args.size = r.params.size)
    (h : r.assign.wpIn (Fence.wide.inRound l) 0 P (Exit.then (fun a₁ w₁ => ∃ w₂, (Instr.beginRound l).run P w₁ = .ok () w₂ ∧ r.body.wpIn (Fence.wide.inRound l) 0 P (roundPost P l R) a₁ w₂) (fun _ _ _ => False))
      { tmps := (r.params.zip args).foldl (fun tmps (t, a) => tmps.setIfInBounds t a) r.tmps, defers := [] } W) : YieldAt Fence.wide 0 P l args W R :=
  ⟨_, _, _, _, run_yield hl hs, roundIn_of_wpIn trivial h⟩
end
end Go.Proofs.YtjmnomohmijbpaaDoor
