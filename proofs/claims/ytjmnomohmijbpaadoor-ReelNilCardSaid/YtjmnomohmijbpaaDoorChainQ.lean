/- Plain facts of the chain. -/
import Derived.Test.YtjmnomohmijbpaaDoorChainP
namespace Go.Proofs.YtjmnomohmijbpaaDoor
open Go.RowKit
theorem chainP_facts (bs : List (BitVec 8)) : ∀ (fuel i at_ : Nat), i ≤ 100000 → at_ ≤ bs.length →
    (∀ x, x ∈ (chainP bs fuel i at_).1 → 16 ≤ x.at_ ∧ x.at_ + x.len ≤ bs.length) ∧ (chainP bs fuel i at_).1.length + i ≤ 100000 ∧ (chainP bs fuel i at_).2 ≤ bs.length := by
  intro fuel
  induction fuel with
  | zero => intro i at_ hi ha; exact ⟨(fun x hx => by simp [chainP] at hx), (by simpa [chainP] using hi), (by simpa [chainP] using ha)⟩
  | succ f ih =>
    intro i at_ hi ha
    by_cases h1 : i = 100000 ∨ bs.length < at_ + 16
    · rw [chainP, if_pos h1]
      exact ⟨(fun x hx => by simp at hx), (by simpa using hi), ha⟩
    · rw [chainP, if_neg h1]
      by_cases h2 : (bs.drop at_).take 16 = linkB i (four4 (bs.drop (at_ + 8))) ∧ at_ + 16 + four4 (bs.drop (at_ + 8)) ≤ bs.length
      · simp only [if_pos h2]
        obtain ⟨a, b, c⟩ := ih (i + 1) (at_ + 16 + four4 (bs.drop (at_ + 8))) (by omega) h2.2
        refine ⟨fun x hx => ?_, by simp only [List.length_cons]; omega, c⟩
        rcases List.mem_cons.1 hx with rfl | hx
        · exact ⟨by simp, h2.2⟩
        · exact a x hx
      · simp only [if_neg h2]
        exact ⟨(fun x hx => by simp at hx), (by simpa using hi), ha⟩
end Go.Proofs.YtjmnomohmijbpaaDoor
