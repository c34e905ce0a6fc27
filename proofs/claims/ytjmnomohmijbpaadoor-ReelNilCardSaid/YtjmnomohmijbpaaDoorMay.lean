/- Which labels may be: the program's reel.may. -/
import Derived.Test.YtjmnomohmijbpaaDoorJoin
import Derived.Test.YtjmnomohmijbpaaDoorValid
namespace Go.Proofs.YtjmnomohmijbpaaDoor
open Go.RowKit
/-- the tables of unicode/utf8 as they stand in memory -/
def Tabs (w : World) : Prop := Lib.Utf8Tabs 0 1 w
theorem Tabs.below {w w' : World} (h : Tabs w) (hb : Below w.heap.size w w') : Tabs w' := Utf8Tabs_below h hb
/-- none of these blocks is one of the tables' -/
def Far (S : List Nat) : Prop := ∀ k, k ∈ S → k ≠ 0 ∧ k ≠ 1
theorem Tabs.lt {w : World} (h : Tabs w) : 0 < w.heap.size ∧ 1 < w.heap.size :=
  ⟨block_lt_of_cell (h.1 0 (by omega)), block_lt_of_cell (h.2 0 (by omega)).1⟩
theorem Tabs.step {w w' : World} {S S' : List Nat} (h : Tabs w) (hs : Step w w' S S') (hf : Far S) : Tabs w' := by
  have h1 := hs.block _ h.lt.1 (fun hk => (hf _ hk).1 rfl)
  have h2 := hs.block _ h.lt.2 (fun hk => (hf _ hk).2 rfl)
  exact ⟨fun c hc => (World.cell?_of_block h1).trans (h.1 c hc), fun i hi => ⟨(World.cell?_of_block h2).trans (h.2 i hi).1, (World.cell?_of_block h2).trans (h.2 i hi).2⟩⟩
theorem Far.step {w w' : World} {S S' : List Nat} (hf : Far S) (hs : Step w w' S S') (h : Tabs w) : Far S' := fun k hk => by
  rcases hs.foot k hk with e | e
  · exact hf k e
  · have := h.lt; exact ⟨by omega, by omega⟩
/-- may a label be? -/
def mayB (t : ByteArray) (rate start : Int) : Bool := decide ((t.size : Int) ≤ 100) && (Lib.validD t.data.toList && (decide (1 ≤ rate) && (decide (rate ≤ 7) && (decide (0 ≤ start) && decide (start ≤ 5183999)))))
def labV (t : ByteArray) (rate start : Int) : Value := .agg #[.string t, .int .i64 rate, .int .i64 start]
set_option maxRecDepth 100000 in
set_option maxHeartbeats 1000000 in
theorem may_any (t : ByteArray) (rate start : Int) (w : World) (hT : Tabs w) (hs : t.size ≤ 9223372036854775807) :
    Calls Tryd.prog 14 #[labV t rate start] w fun e w' => e = .returned (.bool (mayB t rate start)) ∧ Below w.heap.size w w' := by
  unfold labV mayB
  obtain ⟨b1, e1⟩ : ∃ b, decide ((t.size : Int) ≤ 100) = b := ⟨_, rfl⟩
  obtain ⟨b2, e2⟩ : ∃ b, Lib.validD t.data.toList = b := ⟨_, rfl⟩
  obtain ⟨b3, e3⟩ : ∃ b, decide (1 ≤ rate) = b := ⟨_, rfl⟩
  obtain ⟨b4, e4⟩ : ∃ b, decide (rate ≤ 7) = b := ⟨_, rfl⟩
  obtain ⟨b5, e5⟩ : ∃ b, decide (0 ≤ start) = b := ⟨_, rfl⟩
  obtain ⟨b6, e6⟩ : ∃ b, decide (start ≤ 5183999) = b := ⟨_, rfl⟩
  rw [e1, e2, e3, e4, e5, e6]
  go_enter Tryd.func14, Tryd.ntmps14
  cases b1 with
  | false =>
    go_wp2_with fail
    go_ret
    exact ⟨rfl, (Below.refl w.heap.size w).alloc (Nat.le_refl _) _⟩
  | true =>
    have hA : Below w.heap.size w (w.alloc (Obj.cells #[.string t, .int .i64 rate, .int .i64 start] 25)) := (Below.refl w.heap.size w).alloc (Nat.le_refl _) _
    have hk : Blk (w.alloc (Obj.cells #[.string t, .int .i64 rate, .int .i64 start] 25)) w.heap.size 25 #[.string t, .int .i64 rate, .int .i64 start] := Blk.new _ _ _
    go_wp2_with fail
    refine (Tryd.valid_any t _ hs (Tabs.below hT hA)).mono ?_
    rw [e2]
    rintro e w1 ⟨rfl, hb1⟩
    have hw1 : Below w.heap.size w w1 := hA.trans (hb1.mono (Nat.le_of_lt hk.lt))
    have hk1 := hk.below hb1 hk.lt
    have k1 : w1.cell? ⟨w.heap.size, 1, none⟩ = some (.int .i64 rate) := hk1.cell_some rfl
    have k2 : w1.cell? ⟨w.heap.size, 2, none⟩ = some (.int .i64 start) := hk1.cell_some rfl
    cases b2 with
    | false =>
      go_wp2_with fail
      go_ret
      exact ⟨rfl, hw1⟩
    | true =>
      cases b3 with
      | false =>
        go_wp2_with fail
        go_ret
        exact ⟨rfl, hw1⟩
      | true =>
        cases b4 with
        | false =>
          go_wp2_with fail
          go_ret
          exact ⟨rfl, hw1⟩
        | true =>
          cases b5 with
          | false =>
            go_wp2_with fail
            go_ret
            exact ⟨rfl, hw1⟩
          | true =>
            cases b6 with
            | false =>
              go_wp2_with fail
              go_ret
              exact ⟨rfl, hw1⟩
            | true =>
              go_wp2_with fail
              go_ret
              exact ⟨rfl, hw1⟩
end Go.Proofs.YtjmnomohmijbpaaDoor
