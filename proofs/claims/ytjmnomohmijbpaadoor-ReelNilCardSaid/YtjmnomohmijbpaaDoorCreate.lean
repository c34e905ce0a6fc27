/- reel.Create. -/
import Derived.Test.YtjmnomohmijbpaaDoorMed2
import Derived.Test.YtjmnomohmijbpaaDoorLabel
import Derived.Test.YtjmnomohmijbpaaDoorMay
namespace Go.Proofs.YtjmnomohmijbpaaDoor
open Go.RowKit
/-- a writer at block b -/
def Wri (w : World) (b m : Nat) (v : Value) (l : List Rcp) (d : Bool) : Prop :=
  Blk w b 48 #[.pointer (some ⟨m, 0, none⟩), v, .bool d] ∧ w.ownsRow 0 39 3 v l.length (rcpCells l)
theorem summedB_len (bs : List (BitVec 8)) : (summedB bs).length = bs.length + 4 := by simp [summedB_length]
theorem labelB_length (t : ByteArray) (rate start : Int) : (labelB t rate start).length = t.size + 15 := by
  simp only [labelB, summedB_len, List.length_append, strB_length, fourB_length, List.length_cons, List.length_nil]; omega
set_option maxRecDepth 100000 in
set_option maxHeartbeats 1000000 in
theorem create_any (m : Nat) (F : List Nat) (L : Nat) (t : ByteArray) (rate start : Int) (w : World) (h : Med w m F [] L) (hT : Tabs w) (hm : mayB t rate start = true) :
    Calls Tryd.prog 6 #[.pointer (some ⟨m, 0, none⟩), labV t rate start] w fun e w' => ∃ b, e = .returned (.tuple #[.pointer (some ⟨b, 0, none⟩), .int .i64 0]) ∧ w.heap.size ≤ b ∧
      Wri w' b m (.slice none 0 0) [] false ∧ ∃ F', Med w' m F' (labelB t rate start) L ∧ Step w w' F F' ∧ b ∉ F' := by
  have hm' := hm
  simp only [mayB, Bool.and_eq_true, decide_eq_true_eq] at hm'
  obtain ⟨h1, _, h3, h4, h5, h6⟩ := hm'
  have hA : Below w.heap.size w (w.alloc (Obj.cells #[.string t, .int .i64 rate, .int .i64 start] 25)) := (Below.refl w.heap.size w).alloc (Nat.le_refl _) _
  have hk : Blk (w.alloc (Obj.cells #[.string t, .int .i64 rate, .int .i64 start] 25)) w.heap.size 25 #[.string t, .int .i64 rate, .int .i64 start] := Blk.new _ _ _
  have hMA := h.below hA
  have hTA := Tabs.below hT hA
  have hlt := h.lt
  have HA := Lib.hid hA; clear hA
  unfold labV
  go_enter Tryd.func6, Tryd.ntmps6
  go_wp2_with fail
  refine (may_any t rate start _ hTA (by omega)).mono ?_
  rw [hm]
  rintro e w1 ⟨rfl, hb1⟩
  have hM1 := hMA.below hb1
  have hk1 := hk.below hb1 hk.lt
  have k0 : w1.cell? ⟨w.heap.size, 0, none⟩ = some (.string t) := hk1.cell_some rfl
  have k1 : w1.cell? ⟨w.heap.size, 1, none⟩ = some (.int .i64 rate) := hk1.cell_some rfl
  have k2 : w1.cell? ⟨w.heap.size, 2, none⟩ = some (.int .i64 start) := hk1.cell_some rfl
  go_wp2_with fail
  refine (size_any m F [] L _ hM1).mono ?_
  rintro e w2 ⟨rfl, rfl⟩
  go_wp2_with fail
  refine (label_any t rate start _ h3 h4 h5 h6 (by omega)).mono ?_
  rintro e w3 ⟨v, rfl, hF3, hb3⟩
  obtain ⟨A, c, rfl, hR⟩ := hF3.from
  have hM3 := hM1.below hb3
  have hle : w.heap.size ≤ w2.heap.size := Nat.le_trans (Nat.le_of_lt hk.lt) hb1.size
  have hle3 := hb3.size
  go_wp2_with fail
  refine (append_med m F [] (labelB t rate start) L A _ c _ hM3 (hR.apart fun k hk => Nat.lt_of_lt_of_le (hlt k hk) hle) (by rw [labelB_length]; simp; omega)).mono ?_
  rintro e w4 ⟨rfl, F', hM4, hS4⟩
  have hS : Step w w4 F F' := ((Step.of_below HA.out F).trans (Step.of_below hb1 F)).trans ((Step.of_below hb3 F).trans hS4)
  have hw4 : w.heap.size ≤ w4.heap.size := hS.size
  go_wp2_with fail
  go_ret2
  have hlt4 := hM4.lt
  refine ⟨w4.heap.size, rfl, hw4, ⟨Blk.new _ _ _, rfl, .inl ⟨rfl, rfl⟩⟩, F', hM4.below ((Below.refl _ _).alloc (Nat.le_refl _) _), hS.alloc _, fun hk => absurd (hlt4 _ hk) (Nat.lt_irrefl _)⟩
end Go.Proofs.YtjmnomohmijbpaaDoor
