/- The chain of a medium's bytes, plainly; what a walk along it holds. -/
import Derived.Test.YtjmnomohmijbpaaDoorRLabel2
import Derived.Test.YtjmnomohmijbpaaDoorFinish
import Derived.Test.YtjmnomohmijbpaaDoorRegionIn
import Derived.RangeFuncIn
import Derived.RangeFuncRecord
import Derived.RangeFuncSeq
namespace Go.Proofs.YtjmnomohmijbpaaDoor
open Go.RowKit
/-- link by link, from a place on: the records, and where it ends -/
def chainP (bs : List (BitVec 8)) : Nat → Nat → Nat → List Rcp × Nat
  | 0, _, at_ => ([], at_)
  | fuel + 1, i, at_ =>
    if i = 100000 ∨ bs.length < at_ + 16 then ([], at_)
    else
      let n := four4 (bs.drop (at_ + 8))
      if (bs.drop at_).take 16 = linkB i n ∧ at_ + 16 + n ≤ bs.length then
        let r := chainP bs fuel (i + 1) (at_ + 16 + n)
        (⟨i, at_ + 16, n⟩ :: r.1, r.2)
      else ([], at_)
section
variable {w w' w0 W W' : World} {F F' F0 S S' : List Nat}
/-- what has gone on since w0 goes on -/
theorem Step.on (h : Step w0 W F0 F) (k : Step W W' S S') (hS : ∀ x, x ∈ S → x ∈ F ∨ w0.heap.size ≤ x) (hF : ∀ x, x ∈ F' → x ∈ F ∨ w0.heap.size ≤ x) : Step w0 W' F0 F' := by
  refine ⟨k.os.trans h.os, k.tape.trans h.tape, k.output.trans h.output, Nat.le_trans h.size k.size, fun x hx hn => ?_, fun x hx => ?_⟩
  · refine (k.block x (Nat.lt_of_lt_of_le hx h.size) (fun hm => ?_)).trans (h.block x hx hn)
    rcases hS x hm with e | e
    · rcases h.foot x e with e2 | e2
      · exact hn e2
      · omega
    · omega
  · rcases hF x hx with e | e
    · exact h.foot x e
    · exact .inr e
theorem MedS.more {m : Nat} {bs : List (BitVec 8)} {L L' : Nat} {s : Int} (h : MedS w m F bs L s) (hl : L ≤ L') : MedS w m F bs L' s := by
  obtain ⟨vb, vl, nl, ls, hb, h1, h2, h3, h4⟩ := h
  exact ⟨vb, vl, nl, ls, hb, h1, h2, by omega, h4⟩
end
/-- where everything stands: the medium, the reel, the boxes of its place, of the reel, of the error's place; the error; the loop's record; its block for calls put off -/
structure Ctx where
  m : Nat
  b : Nat
  B1 : Nat
  B2 : Nat
  B3 : Nat
  E : Nat
  l : Nat
  D : Nat
  B7 : Nat
  rec_ : Loop
  t : ByteArray
  rate : Int
  start : Int
  bs : List (BitVec 8)
/-- how it stands along the chain -/
structure ChS (c : Ctx) (w : World) (F : List Nat) (v : Value) (pre : List Rcp) (at_ : Nat) (Lg beh : Nat) : Prop where
  med : Med w c.m F c.bs Lg
  reel : Reel w c.b c.m c.t c.rate c.start v pre false beh
  b1 : Blk w c.B1 3 #[.int .i64 at_]
  b2 : Blk w c.B2 31 #[.pointer (some ⟨c.b, 0, none⟩)]
  b3 : Blk w c.B3 57 #[.pointer (some ⟨c.E, 0, none⟩)]
  e : Blk w c.E 27 #[.int .i64 0]
  loop : w.heap[c.l]? = some (.loop c.rec_)
  dfr : w.heap[c.D]? = some (.deferred (some []))
  b7 : Blk w c.B7 31 #[.pointer (some ⟨c.b, 0, none⟩)]
  nF : ∀ k, k ∈ F → k ≠ c.b ∧ k ≠ c.B1 ∧ k ≠ c.B2 ∧ k ≠ c.B3 ∧ k ≠ c.E ∧ k ≠ c.l ∧ k ≠ c.D ∧ k ≠ c.B7
  nv : ∀ k, v.ownBlock = some k → k ∉ F
section
variable {c : Ctx} {w w' : World} {F : List Nat} {v : Value} {pre : List Rcp} {at_ Lg beh : Nat}
theorem ChS.lts (h : ChS c w F v pre at_ Lg beh) : c.b < w.heap.size ∧ c.B1 < w.heap.size ∧ c.B2 < w.heap.size ∧ c.B3 < w.heap.size ∧ c.E < w.heap.size ∧ c.l < w.heap.size ∧ c.D < w.heap.size :=
  ⟨h.reel.blk.lt, h.b1.lt, h.b2.lt, h.b3.lt, h.e.lt, (Array.getElem?_eq_some_iff.1 h.loop).1, (Array.getElem?_eq_some_iff.1 h.dfr).1⟩
theorem ChS.step {S S' : List Nat} (h : ChS c w F v pre at_ Lg beh) (hs : Step w w' S S') (h0 : ∀ k, k ∈ S → k ≠ c.b ∧ k ≠ c.B1 ∧ k ≠ c.B2 ∧ k ≠ c.B3 ∧ k ≠ c.E ∧ k ≠ c.l ∧ k ≠ c.D ∧ k ≠ c.B7 ∧ k ∉ F ∧ v.ownBlock ≠ some k) : ChS c w' F v pre at_ Lg beh := by
  have nb : c.b ∉ S := fun hk => (h0 _ hk).1 rfl
  have n1 : c.B1 ∉ S := fun hk => (h0 _ hk).2.1 rfl
  have n2 : c.B2 ∉ S := fun hk => (h0 _ hk).2.2.1 rfl
  have n3 : c.B3 ∉ S := fun hk => (h0 _ hk).2.2.2.1 rfl
  have n4 : c.E ∉ S := fun hk => (h0 _ hk).2.2.2.2.1 rfl
  have n5 : c.l ∉ S := fun hk => (h0 _ hk).2.2.2.2.2.1 rfl
  have n6 : c.D ∉ S := fun hk => (h0 _ hk).2.2.2.2.2.2.1 rfl
  have n7 : c.B7 ∉ S := fun hk => (h0 _ hk).2.2.2.2.2.2.2.1 rfl
  exact ⟨h.med.step hs (fun k hk hS => (h0 k hS).2.2.2.2.2.2.2.2.1 hk), h.reel.step hs nb (fun k hk hS => (h0 k hS).2.2.2.2.2.2.2.2.2 hk), hs.blk h.b1 n1, hs.blk h.b2 n2, hs.blk h.b3 n3, hs.blk h.e n4,
    (hs.block _ h.lts.2.2.2.2.2.1 n5).trans h.loop, (hs.block _ h.lts.2.2.2.2.2.2 n6).trans h.dfr, hs.blk h.b7 n7, h.nF, h.nv⟩
theorem ChS.below (h : ChS c w F v pre at_ Lg beh) (hb : Below w.heap.size w w') : ChS c w' F v pre at_ Lg beh := h.step (Step.of_below hb []) (fun _ hk => by cases hk)
theorem ChS.drew (h : ChS c w F v pre at_ Lg beh) : ChS c w.drew F v pre at_ Lg beh := h.below ((Below.refl _ _).drew)
theorem ChS.more {Lg' : Nat} (h : ChS c w F v pre at_ Lg beh) (hl : Lg ≤ Lg') : ChS c w F v pre at_ Lg' beh := { h with med := h.med.more hl }
/-- what the medium's own steps leave -/
theorem ChS.med' {F' : List Nat} {Lg' : Nat} (h : ChS c w F v pre at_ Lg beh) (hs : Step w w' F F') (hm : Med w' c.m F' c.bs Lg') : ChS c w' F' v pre at_ Lg' beh := by
  have hl := h.lts
  have nb : c.b ∉ F := fun hk => (h.nF _ hk).1 rfl
  have n1 : c.B1 ∉ F := fun hk => (h.nF _ hk).2.1 rfl
  have n2 : c.B2 ∉ F := fun hk => (h.nF _ hk).2.2.1 rfl
  have n3 : c.B3 ∉ F := fun hk => (h.nF _ hk).2.2.2.1 rfl
  have n4 : c.E ∉ F := fun hk => (h.nF _ hk).2.2.2.2.1 rfl
  have n5 : c.l ∉ F := fun hk => (h.nF _ hk).2.2.2.2.2.1 rfl
  have n6 : c.D ∉ F := fun hk => (h.nF _ hk).2.2.2.2.2.2.1 rfl
  have n7 : c.B7 ∉ F := fun hk => (h.nF _ hk).2.2.2.2.2.2.2 rfl
  have h7 := h.b7.lt
  refine ⟨hm, h.reel.step hs nb h.nv, hs.blk h.b1 n1, hs.blk h.b2 n2, hs.blk h.b3 n3, hs.blk h.e n4, (hs.block _ hl.2.2.2.2.2.1 n5).trans h.loop, (hs.block _ hl.2.2.2.2.2.2 n6).trans h.dfr, hs.blk h.b7 n7, fun k hk => ?_, fun k hk hF => ?_⟩
  · rcases hs.foot k hk with e | e
    · exact h.nF k e
    · refine ⟨?_, ?_, ?_, ?_, ?_, ?_, ?_, ?_⟩ <;> omega
  · exact hs.notin (h.reel.own.lt k hk).2 (h.nv k hk) hF
/-- a store into the reel's place where the chain ends -/
theorem ChS.behind (h : ChS c w F v pre at_ Lg beh) (beh' : Nat) : ChS c (w.setCell ⟨c.b, 6, none⟩ (.int .i64 beh')) F v pre at_ Lg beh' := by
  have hs := (Step.refl w [c.b]).setCell (p := ⟨c.b, 6, none⟩) (by simp) (.int .i64 beh')
  have hF : c.b ∉ F := fun hk => (h.nF _ hk).1 rfl
  have hl := h.lts
  have ob : ∀ {g : Nat} {t : TypeId} {cs : Array Value}, Blk w g t cs → t ≠ 50 → Blk (w.setCell ⟨c.b, 6, none⟩ (.int .i64 beh')) g t cs := fun hb hne => hs.blk hb (by have := hb.ne_ h.reel.blk hne; simp; exact this)
  refine ⟨h.med.step hs (fun k hk he => hF (by simp at he; rwa [← he])), ⟨h.reel.blk.set_ 6 _, hs.owns h.reel.own (fun k hk he => own_blk_ne h.reel.own h.reel.blk (by decide) (by simp at he; rwa [← he]))⟩, ob h.b1 (by decide), ob h.b2 (by decide), ob h.b3 (by decide), ob h.e (by decide), ?_, ?_, ob h.b7 (by decide), h.nF, h.nv⟩
  · refine (hs.block _ hl.2.2.2.2.2.1 (fun he => ?_)).trans h.loop
    have e : c.l = c.b := by simpa using he
    have := h.loop; rw [e, h.reel.blk] at this; cases this
  · refine (hs.block _ hl.2.2.2.2.2.2 (fun he => ?_)).trans h.dfr
    have e : c.D = c.b := by simpa using he
    have := h.dfr; rw [e, h.reel.blk] at this; cases this
/-- a store into the box of its place -/
theorem ChS.place (h : ChS c w F v pre at_ Lg beh) (at' : Nat) : ChS c (w.setCell ⟨c.B1, 0, none⟩ (.int .i64 at')) F v pre at' Lg beh := by
  have hs := (Step.refl w [c.B1]).setCell (p := ⟨c.B1, 0, none⟩) (by simp) (.int .i64 at')
  have hF : c.B1 ∉ F := fun hk => (h.nF _ hk).2.1 rfl
  have hl := h.lts
  have ob : ∀ {g : Nat} {t : TypeId} {cs : Array Value}, Blk w g t cs → t ≠ 3 → Blk (w.setCell ⟨c.B1, 0, none⟩ (.int .i64 at')) g t cs := fun hb hne => hs.blk hb (by have := hb.ne_ h.b1 hne; simp; exact this)
  refine ⟨h.med.step hs (fun k hk he => hF (by simp at he; rwa [← he])), ⟨ob h.reel.blk (by decide), hs.owns h.reel.own (fun k hk he => own_blk_ne h.reel.own h.b1 (by decide) (by simp at he; rwa [← he]))⟩, h.b1.set_ 0 _, ob h.b2 (by decide), ob h.b3 (by decide), ob h.e (by decide), ?_, ?_, ob h.b7 (by decide), h.nF, h.nv⟩
  · refine (hs.block _ hl.2.2.2.2.2.1 (fun he => ?_)).trans h.loop
    have e : c.l = c.B1 := by simpa using he
    have := h.loop; rw [e, h.b1] at this; cases this
  · refine (hs.block _ hl.2.2.2.2.2.2 (fun he => ?_)).trans h.dfr
    have e : c.D = c.B1 := by simpa using he
    have := h.dfr; rw [e, h.b1] at this; cases this
end
end Go.Proofs.YtjmnomohmijbpaaDoor
