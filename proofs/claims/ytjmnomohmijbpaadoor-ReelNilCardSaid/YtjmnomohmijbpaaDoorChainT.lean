/- Along the chain, seen from where it all began. -/
import Derived.Test.YtjmnomohmijbpaaDoorChainL
namespace Go.Proofs.YtjmnomohmijbpaaDoor
open Go.RowKit
structure ChT (c : Ctx) (w0 : World) (F0 : List Nat) (w : World) (F : List Nat) (v : Value) (pre : List Rcp) (at_ Lg beh : Nat) : Prop where
  st : ChS c w F v pre at_ Lg beh
  since : Step w0 w F0 F
  vge : ∀ k, v.ownBlock = some k → w0.heap.size ≤ k
/-- the blocks that are written lie beyond where it all began -/
structure CGe (c : Ctx) (w0 : World) : Prop where
  b : w0.heap.size ≤ c.b
  b1 : w0.heap.size ≤ c.B1
  e : w0.heap.size ≤ c.E
  l : w0.heap.size ≤ c.l
section
variable {c : Ctx} {w0 w w' : World} {F0 F : List Nat} {v : Value} {pre : List Rcp} {at_ Lg beh : Nat}
theorem ChT.below (h : ChT c w0 F0 w F v pre at_ Lg beh) (hb : Below w.heap.size w w') : ChT c w0 F0 w' F v pre at_ Lg beh :=
  ⟨h.st.below hb, h.since.on (Step.of_below hb []) (by simp) (fun _ h => .inl h), h.vge⟩
theorem ChT.more {Lg' : Nat} (h : ChT c w0 F0 w F v pre at_ Lg beh) (hl : Lg ≤ Lg') : ChT c w0 F0 w F v pre at_ Lg' beh := ⟨h.st.more hl, h.since, h.vge⟩
theorem ChT.behind (h : ChT c w0 F0 w F v pre at_ Lg beh) (hg : CGe c w0) (beh' : Nat) : ChT c w0 F0 (w.setCell ⟨c.b, 6, none⟩ (.int .i64 beh')) F v pre at_ Lg beh' :=
  ⟨h.st.behind beh', h.since.on ((Step.refl w [c.b]).setCell (by simp) _) (fun x hx => .inr (by simp at hx; rw [hx]; exact hg.b)) (fun _ h => .inl h), h.vge⟩
theorem ChT.place (h : ChT c w0 F0 w F v pre at_ Lg beh) (hg : CGe c w0) (at' : Nat) : ChT c w0 F0 (w.setCell ⟨c.B1, 0, none⟩ (.int .i64 at')) F v pre at' Lg beh :=
  ⟨h.st.place at', h.since.on ((Step.refl w [c.B1]).setCell (by simp) _) (fun x hx => .inr (by simp at hx; rw [hx]; exact hg.b1)) (fun _ h => .inl h), h.vge⟩
theorem ChT.err (h : ChT c w0 F0 w F v pre at_ Lg beh) (hg : CGe c w0) : ChT c w0 F0 (w.setCell ⟨c.E, 0, none⟩ (.int .i64 0)) F v pre at_ Lg beh :=
  ⟨h.st.err, h.since.on ((Step.refl w [c.E]).setCell (by simp) _) (fun x hx => .inr (by simp at hx; rw [hx]; exact hg.e)) (fun _ h => .inl h), h.vge⟩
def RdT (c : Ctx) (w0 : World) (F0 : List Nat) (v : Value) (pre : List Rcp) (at_ Lg : Nat) (x : Value) (w : World) : Prop :=
  ∃ F', ChT c w0 F0 w F' v pre at_ (Lg + 1) at_ ∧
    ((c.bs.length < at_ + 16 ∧ x = .slice none 0 0) ∨ (at_ + 16 ≤ c.bs.length ∧ ∃ A, x = .slice A 16 16 ∧ RBytes w w.heap.size A 16 ((c.bs.drop at_).take 16)))
theorem read_chainT (h : ChT c w0 F0 w F v pre at_ Lg at_) (hb28 : c.bs.length ≤ 268435456) (hL : Lg ≤ 1000000000) :
    Calls Tryd.prog 22 #[.pointer (some ⟨c.m, 0, none⟩), .int .i64 at_, .int .i64 (16 : Int)] w fun e w' => ∃ x, e = .returned (.tuple #[x, .int .i64 0]) ∧ RdT c w0 F0 v pre at_ Lg x w' := by
  refine (read_chain c w F v pre at_ Lg h.st hb28 hL).mono ?_
  rintro e w' ⟨x, rfl, F', hS, hs, hx⟩
  exact ⟨x, rfl, F', ⟨hS, h.since.trans hs, h.vge⟩, hx⟩
/-- what the loads along the chain find -/
structure ChR (c : Ctx) (w : World) (at_ : Nat) : Prop where
  k1 : w.cell? ⟨c.B1, 0, none⟩ = some (.int .i64 at_)
  k2 : w.cell? ⟨c.B2, 0, none⟩ = some (.pointer (some ⟨c.b, 0, none⟩))
  kb : w.cell? ⟨c.b, 0, none⟩ = some (.pointer (some ⟨c.m, 0, none⟩))
  med : ∃ F L, Med w c.m F c.bs L
theorem ChT.reads (h : ChT c w0 F0 w F v pre at_ Lg beh) : ChR c w at_ :=
  ⟨h.st.b1.cell_some rfl, h.st.b2.cell_some rfl, h.st.reel.blk.cell_some rfl, F, Lg, h.st.med⟩
end
end Go.Proofs.YtjmnomohmijbpaaDoor
