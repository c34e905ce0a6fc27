/- The law ReelNil: Create, Continue and Open of no medium; alive. -/
import Derived.Test.YtjmnomohmijbpaaDoorAlive
namespace Go.Proofs.YtjmnomohmijbpaaDoor
open Go.RowKit
set_option maxRecDepth 100000 in
theorem create_nil (a b c : Value) (w : World) :
    Calls Tryd.prog 6 #[.pointer none, .agg #[a, b, c]] w fun e w' => e = .returned (.tuple #[.pointer none, .int .i64 1]) ∧ Below w.heap.size w w' := by
  go_enter Tryd.func6, Tryd.ntmps6
  go_wp2_with fail
  go_ret2
  exact ⟨rfl, (Below.refl _ _).alloc (Nat.le_refl _) _⟩
set_option maxRecDepth 100000 in
theorem open_nil (w : World) :
    Calls Tryd.prog 8 #[.pointer none] w fun e w' => e = .returned (.tuple #[.pointer none, .int .i64 1]) ∧ w' = w := by
  refine callsIn_wide.1 (callsIn_of_wp_marks (n := 3) Tryd.func8 rfl trivial (wpIn_wide.2 ?_) rfl)
  simp only [Tryd.ntmps8, List.size_toArray, List.length_cons, List.length_nil, Nat.reduceAdd, Nat.reduceSub, Array.replicate_succ, Array.replicate_zero, List.push_toArray, List.append_toArray, List.nil_append, List.cons_append]
  go_wp2_with fail
  exact ⟨_, results_tmp2 rfl _ _ _, rfl, rfl⟩
set_option maxRecDepth 100000 in
theorem continue_nil (w : World) :
    Calls Tryd.prog 7 #[.pointer none] w fun e w' => e = .returned (.tuple #[.pointer none, .int .i64 1]) ∧ w' = w := by
  go_enter Tryd.func7, Tryd.ntmps7
  go_wp2_with fail
  refine (open_nil _).mono ?_
  rintro e w1 ⟨rfl, rfl⟩
  go_wp2_with fail
  go_ret2
  exact ⟨rfl, rfl⟩
theorem names_any (w : World) (hT : Tabs w) :
    Calls Tryd.prog 3 #[] w fun e w' => e = .returned (.bool true) ∧ Below w.heap.size w w' := by
  go_enter Tryd.func3, Tryd.ntmps3
  go_wp2_with fail
  refine (alive_any _ hT).mono ?_
  rintro e w1 ⟨rfl, hb⟩
  go_wp2_with fail
  go_ret
  exact ⟨rfl, hb⟩
set_option maxRecDepth 100000 in
set_option maxHeartbeats 400000 in
theorem nil_any (a b c : Value) (w : World) (hT : Tabs w) :
    Calls Tryd.prog 4 #[.agg #[a, b, c]] w fun e w' => e = .returned (.bool true) ∧ Below w.heap.size w w' := by
  have hb0 := (Below.refl w.heap.size w).alloc (Nat.le_refl _) (.cells #[a, b, c] 25)
  have hX0 := Blk.new w 25 #[a, b, c]
  have HB := Lib.hid hb0
  go_enter Tryd.func4, Tryd.ntmps4
  go_wp2_with fail
  refine (alive_any _ (hT.below hb0)).mono ?_
  rintro e w1 ⟨rfl, hb1⟩
  have hX1 := hX0.below hb1 hX0.lt
  have k0 := hX1.cell_some (i := 0) (v := a) rfl
  have k1 := hX1.cell_some (i := 1) (v := b) rfl
  have k2 := hX1.cell_some (i := 2) (v := c) rfl
  go_wp2_with fail
  refine (create_nil a b c _).mono ?_
  rintro e w2 ⟨rfl, hb2⟩
  go_wp2_with fail
  refine (continue_nil _).mono ?_
  rintro e w3 ⟨rfl, rfl⟩
  go_wp2_with fail
  refine (open_nil _).mono ?_
  rintro e w4 ⟨rfl, rfl⟩
  go_wp2_with fail
  go_ret
  have hs1 := hb1.size
  have hs0 := hX0.lt
  exact ⟨rfl, (HB.out.trans (hb1.mono (by omega))).trans (hb2.mono (by omega))⟩
end Go.Proofs.YtjmnomohmijbpaaDoor
