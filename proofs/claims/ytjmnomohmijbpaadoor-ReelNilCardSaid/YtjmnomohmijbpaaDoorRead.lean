/- reel.read, reel.number, the reel's small methods. -/
import Derived.Test.YtjmnomohmijbpaaDoorMed2
import Derived.Test.YtjmnomohmijbpaaDoorForms
import Derived.Test.YtjmnomohmijbpaaDoorRes
namespace Go.Proofs.YtjmnomohmijbpaaDoor
open Go.RowKit
set_option maxHeartbeats 1000000 in
theorem rread_yes (m : Nat) (F : List Nat) (bs : List (BitVec 8)) (L : Nat) (at_ n : Nat) (w : World) (h : Med w m F bs L) (hn : at_ + n ≤ bs.length) (hb28 : bs.length ≤ 268435456) (hL : L ≤ 1000000000) :
    Calls Tryd.prog 22 #[.pointer (some ⟨m, 0, none⟩), .int .i64 at_, .int .i64 n] w fun e w' => ∃ A', e = .returned (.tuple #[.slice A' n n, .int .i64 0]) ∧
      RFrom w' w.heap.size 1 A' n (((bs.drop at_).take n).map u8v) ∧ ∃ F', Med w' m F' bs (L + 1) ∧ Step w w' F F' := by
  go_enter Tryd.func22, Tryd.ntmps22
  go_wp2_with fail
  refine (Read_yes m F bs L at_ n w h hn hb28 hL).mono ?_
  rintro e w1 ⟨A', rfl, hR, F', hM, hS⟩
  go_wp2_with fail
  go_ret2
  exact ⟨A', rfl, hR, F', hM, hS⟩
set_option maxHeartbeats 1000000 in
theorem rread_no (m : Nat) (F : List Nat) (bs : List (BitVec 8)) (L : Nat) (at_ n : Nat) (w : World) (h : Med w m F bs L) (hn : bs.length < at_ + n) (h2 : n ≤ 4611686018427387904) :
    Calls Tryd.prog 22 #[.pointer (some ⟨m, 0, none⟩), .int .i64 at_, .int .i64 n] w fun e w' => e = .returned (.tuple #[.slice none 0 0, .int .i64 0]) ∧ w' = w := by
  go_enter Tryd.func22, Tryd.ntmps22
  go_wp2_with fail
  refine (Read_no m F bs L at_ n w h hn h2).mono ?_
  rintro e w1 ⟨rfl, rfl⟩
  go_wp2_with fail
  go_ret2
  exact ⟨rfl, rfl⟩
/-- what four bytes say -/
def four4 (bs : List (BitVec 8)) : Nat := numB (bs.take 4)
set_option maxHeartbeats 1000000 in
theorem four4_any (bs : List (BitVec 8)) (A : Option Addr) (n c : Nat) (w : World) (hr : RBytes w w.heap.size A n bs) (hn : 4 ≤ n) (hc : n ≤ c) :
    Calls Tryd.prog 29 #[.slice A n c] w fun e w' => e = .returned (.int .i64 (four4 bs)) ∧ w' = w := by
  have hr4 : RBytes w w.heap.size A 4 (bs.take 4) := by
    have := hr.take hn
    rw [Nat.mul_one, ← List.map_take] at this
    exact this
  have hlt : numB (bs.take 4) < 4294967296 := by
    have h := numB_lt (bs.take 4)
    have hl : (bs.take 4).length ≤ 4 := by rw [List.length_take]; omega
    exact Nat.lt_of_lt_of_le h (Nat.pow_le_pow_right (by omega) (by omega : 8 * (bs.take 4).length ≤ 32))
  obtain ⟨q, hq⟩ : ∃ q, numB (bs.take 4) = q := ⟨_, rfl⟩
  have hq4 : four4 bs = q := hq
  rw [hq4]
  rw [hq] at hlt
  have H := number_any (bs.take 4) A 4 c w hr4 (by omega) (by omega)
  rw [hq] at H
  go_enter Tryd.func29, Tryd.ntmps29
  go_wp2_with fail
  refine H.mono ?_
  rintro e w1 ⟨rfl, rfl⟩
  clear hq4
  go_wp2_with fail
  all_goals go_ret
  exact ⟨rfl, rfl⟩
/-- a reel at block b -/
structure Reel (w : World) (b m : Nat) (t : ByteArray) (rate start : Int) (v : Value) (l : List Rcp) (fin : Bool) (beh : Nat) : Prop where
  blk : Blk w b 50 #[.pointer (some ⟨m, 0, none⟩), .string t, .int .i64 rate, .int .i64 start, v, .bool fin, .int .i64 beh]
  own : w.ownsRow 0 39 3 v l.length (rcpCells l)
theorem Reel.step {w w' : World} {b m : Nat} {t : ByteArray} {rate start : Int} {v : Value} {l : List Rcp} {fin : Bool} {beh : Nat} {S S' : List Nat} (h : Reel w b m t rate start v l fin beh) (hs : Step w w' S S') (hb : b ∉ S) (hv : ∀ k, v.ownBlock = some k → k ∉ S) : Reel w' b m t rate start v l fin beh :=
  ⟨hs.blk h.blk hb, hs.owns h.own hv⟩
theorem Reel.below {w w' : World} {b m : Nat} {t : ByteArray} {rate start : Int} {v : Value} {l : List Rcp} {fin : Bool} {beh : Nat} (h : Reel w b m t rate start v l fin beh) (hb : Below w.heap.size w w') : Reel w' b m t rate start v l fin beh :=
  h.step (Step.of_below hb []) (by simp) (fun _ _ => by simp)
section
variable (b m : Nat) (t : ByteArray) (rate start : Int) (v : Value) (l : List Rcp) (fin : Bool) (beh : Nat) (w : World) (h : Reel w b m t rate start v l fin beh)
include h
theorem count_any : Calls Tryd.prog 13 #[.pointer (some ⟨b, 0, none⟩)] w fun e w' => e = .returned (.int .i64 l.length) ∧ w' = w := by
  obtain ⟨A, c, rfl⟩ := slice_form h.own
  have c1 := h.blk.cell_some (i := 4) (v := .slice A l.length c) rfl
  go_enter Tryd.func13, Tryd.ntmps13
  go_wp2_with fail
  go_ret
  exact ⟨rfl, rfl⟩
theorem finished_any : Calls Tryd.prog 12 #[.pointer (some ⟨b, 0, none⟩)] w fun e w' => e = .returned (.bool fin) ∧ w' = w := by
  have c1 := h.blk.cell_some (i := 5) (v := .bool fin) rfl
  go_enter Tryd.func12, Tryd.ntmps12
  go_wp2_with fail
  go_ret
  exact ⟨rfl, rfl⟩
end
end Go.Proofs.YtjmnomohmijbpaaDoor
