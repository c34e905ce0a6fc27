/- Along the chain: the medium's word; a scope that begins with its label. -/
import Derived.Test.YtjmnomohmijbpaaDoorChainP
import Derived.Scope
import Derived.ScopeJumps
namespace Go.Proofs.YtjmnomohmijbpaaDoor
open Go.RowKit
theorem jump_mono {l : Nat} {J J' : Act → World → Prop} {Q : Exit → Act → World → Prop} (h : ∀ a w, J a w → J' a w) : ∀ (e : Exit) (a : Act) (w : World), Exit.jump l J Q e a w → Exit.jump l J' Q e a w
  | .goto _, a, w, hq => ⟨hq.1, h a w hq.2⟩
  | .normal, _, _, hq => hq
  | .ret, _, _, hq => hq
  | .exit _, _, _, hq => hq
  | .panic _, _, _, hq => hq
  | .outgrown, _, _, hq => hq
theorem wp_scope_head {P : Program} {Q : Exit → Act → World → Prop} {a : Act} {w : World} {r0 rest : Code} (l : Nat) (J : Act → World → Prop) (μ : Act → World → Nat) (hf : findLabel (r0.seq ((Code.label l).seq rest)) l = some (Code.skip.seq rest))
    (h0 : ∀ K : Act → World → Prop, (∀ a w, J a w → K a w) → r0.wp P (Exit.then K (Exit.jump l J Q)) a w)
    (pass : ∀ a w, J a w → rest.wp P (Exit.jump l (fun a' w' => J a' w' ∧ μ a' w' < μ a w) Q) a w) : (Code.scope (r0.seq ((Code.label l).seq rest))).wp P Q a w := by
  refine wp_scope_jumps l J μ hf (wp_seq (h0 _ fun a w hJ => wp_seq (wp_label ?_))) (fun a w hJ => wp_seq (wp_skip (pass a w hJ)))
  exact wp_mono (pass a w hJ) (jump_mono fun _ _ h => h.1)
/-- what is read of the chain at a place: nothing, if it is not there -/
def RdS (c : Ctx) (w0 : World) (F : List Nat) (v : Value) (pre : List Rcp) (at_ Lg : Nat) (x : Value) (w : World) : Prop :=
  ∃ F', ChS c w F' v pre at_ (Lg + 1) at_ ∧ Step w0 w F F' ∧
    ((c.bs.length < at_ + 16 ∧ x = .slice none 0 0) ∨ (at_ + 16 ≤ c.bs.length ∧ ∃ A, x = .slice A 16 16 ∧ RBytes w w.heap.size A 16 ((c.bs.drop at_).take 16)))
theorem read_chain (c : Ctx) (w : World) (F : List Nat) (v : Value) (pre : List Rcp) (at_ Lg : Nat) (h : ChS c w F v pre at_ Lg at_) (hb28 : c.bs.length ≤ 268435456) (hL : Lg ≤ 1000000000) :
    Calls Tryd.prog 22 #[.pointer (some ⟨c.m, 0, none⟩), .int .i64 at_, .int .i64 (16 : Int)] w fun e w' => ∃ x, e = .returned (.tuple #[x, .int .i64 0]) ∧ RdS c w F v pre at_ Lg x w' := by
  rcases Nat.lt_or_ge c.bs.length (at_ + 16) with hs | hs
  · refine (rread_no c.m F c.bs Lg at_ 16 w h.med hs (by omega)).mono ?_
    rintro e w' ⟨rfl, rfl⟩
    exact ⟨_, rfl, F, h.more (Nat.le_succ _), Step.refl _ _, .inl ⟨hs, rfl⟩⟩
  · refine (rread_yes c.m F c.bs Lg at_ 16 w h.med hs hb28 hL).mono ?_
    rintro e w' ⟨A, rfl, hR, F', hM, hS⟩
    exact ⟨_, rfl, F', h.med' hS hM, hS, .inr ⟨hs, A, rfl, hR.1⟩⟩
/-- the error's box, written with what it holds -/
theorem ChS.err {c : Ctx} {w : World} {F : List Nat} {v : Value} {pre : List Rcp} {at_ Lg beh : Nat} (h : ChS c w F v pre at_ Lg beh) : ChS c (w.setCell ⟨c.E, 0, none⟩ (.int .i64 0)) F v pre at_ Lg beh := by
  have hs := (Step.refl w [c.E]).setCell (p := ⟨c.E, 0, none⟩) (by simp) (.int .i64 0)
  have hF : c.E ∉ F := fun hk => (h.nF _ hk).2.2.2.2.1 rfl
  have hl := h.lts
  have ob : ∀ {g : Nat} {t : TypeId} {cs : Array Value}, Blk w g t cs → t ≠ 27 → Blk (w.setCell ⟨c.E, 0, none⟩ (.int .i64 0)) g t cs := fun hb hne => hs.blk hb (by have := hb.ne_ h.e hne; simp; exact this)
  refine ⟨h.med.step hs (fun k hk he => hF (by simp at he; rwa [← he])), ⟨ob h.reel.blk (by decide), hs.owns h.reel.own (fun k hk he => own_blk_ne h.reel.own h.e (by decide) (by simp at he; rwa [← he]))⟩, ob h.b1 (by decide), ob h.b2 (by decide), ob h.b3 (by decide), h.e.set_ 0 _, ?_, ?_, ob h.b7 (by decide), h.nF, h.nv⟩
  · refine (hs.block _ hl.2.2.2.2.2.1 (fun he => ?_)).trans h.loop
    have e : c.l = c.E := by simpa using he
    have := h.loop; rw [e, h.e] at this; cases this
  · refine (hs.block _ hl.2.2.2.2.2.2 (fun he => ?_)).trans h.dfr
    have e : c.D = c.E := by simpa using he
    have := h.dfr; rw [e, h.e] at this; cases this
end Go.Proofs.YtjmnomohmijbpaaDoor
