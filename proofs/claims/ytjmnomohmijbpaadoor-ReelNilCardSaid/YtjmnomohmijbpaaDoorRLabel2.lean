/- reel.readLabel where the label is not whole. -/
import Derived.Test.YtjmnomohmijbpaaDoorRLabel
namespace Go.Proofs.YtjmnomohmijbpaaDoor
open Go.RowKit
theorem take_6 (t : ByteArray) (rate start : Int) (k : Nat) (hk : 7 ≤ k) : ((labelB t rate start).take k).getD 6 0 = BitVec.ofNat 8 t.size := by
  have h := lab_6 t rate start []
  rw [List.append_nil, List.getD_eq_getElem?_getD] at h
  rw [List.getD_eq_getElem?_getD, List.getElem?_take_of_lt (by omega)]
  exact h
def lab0 : Value := .agg #[.string ⟨#[]⟩, .int .i64 0, .int .i64 0]
set_option maxRecDepth 100000 in
set_option maxHeartbeats 1000000 in
theorem readLabel_short (m : Nat) (F : List Nat) (L : Nat) (t : ByteArray) (rate start : Int) (Bs : List (BitVec 8)) (k : Nat) (w : World) (h : Med w m F Bs L) (hBs : Bs = (labelB t rate start).take k) (hk15 : k < t.size + 15) (ht : t.size ≤ 100) (hL : L ≤ 1000000000) :
    Calls Tryd.prog 19 #[.pointer (some ⟨m, 0, none⟩)] w fun e w' => e = .returned (.tuple #[lab0, .int .i64 0, .int .i64 0]) ∧
      ∃ F', Med w' m F' Bs (L + 1) ∧ Step w w' F F' := by
  have hBl : Bs.length = k := by rw [hBs, List.length_take, labelB_length]; omega
  have hmin : min (115 : Int) (Bs.length : Int) = (k : Int) := by omega
  have hr0 : ((Bs.drop 0).take k) = (labelB t rate start).take k := by rw [List.drop_zero, List.take_of_length_le (by omega), hBs]
  have h28 : Bs.length ≤ 268435456 := by omega
  have h0k : 0 + k ≤ Bs.length := by omega
  have HB := Lib.hid hBs; have HBl := Lib.hid hBl
  clear hBs hBl
  have hA : Below w.heap.size w (w.alloc (Obj.cells #[.string ⟨#[]⟩, .int .i64 0, .int .i64 0] 25)) := (Below.refl w.heap.size w).alloc (Nat.le_refl _) _
  have hk : Blk (w.alloc (Obj.cells #[.string ⟨#[]⟩, .int .i64 0, .int .i64 0] 25)) w.heap.size 25 #[.string ⟨#[]⟩, .int .i64 0, .int .i64 0] := Blk.new _ _ _
  have hMA := h.below hA
  have HA := Lib.hid hA; clear hA
  have hwR : w.heap.size ∉ F := fun hk => Nat.lt_irrefl _ (h.lt _ hk)
  have fin : ∀ (w1 : World) (F1 : List Nat), Med w1 m F1 Bs (L + 1) → Step (w.alloc (Obj.cells #[.string ⟨#[]⟩, .int .i64 0, .int .i64 0] 25)) w1 F F1 →
      ∃ F', Med (((w1.setCell ⟨w.heap.size, 0, none⟩ (.string ⟨#[]⟩)).setCell ⟨w.heap.size, 1, none⟩ (.int .i64 0)).setCell ⟨w.heap.size, 2, none⟩ (.int .i64 0)) m F' Bs (L + 1) ∧
        Step w (((w1.setCell ⟨w.heap.size, 0, none⟩ (.string ⟨#[]⟩)).setCell ⟨w.heap.size, 1, none⟩ (.int .i64 0)).setCell ⟨w.heap.size, 2, none⟩ (.int .i64 0)) F F' := by
    intro w1 F1 hM1 hS1
    have hwR1 : w.heap.size ∉ F1 := hS1.notin hk.lt hwR
    have hS5 := (((Step.refl w1 [w.heap.size]).setCell (p := ⟨w.heap.size, 0, none⟩) (by simp) (.string ⟨#[]⟩)).setCell (p := ⟨w.heap.size, 1, none⟩) (by simp) (.int .i64 0)).setCell (p := ⟨w.heap.size, 2, none⟩) (by simp) (.int .i64 0)
    have hSw : Step w w1 F F1 := (Step.of_below HA.out F).trans hS1
    exact ⟨F1, hM1.step hS5 (fun k hk he => hwR1 (by simp at he; rwa [← he])), hS5.os.trans hSw.os, hS5.tape.trans hSw.tape, hS5.output.trans hSw.output, Nat.le_trans hSw.size hS5.size, fun k hk hn => (hS5.block k (Nat.lt_of_lt_of_le hk hSw.size) (by simp; omega)).trans (hSw.block k hk hn), fun k hk => hSw.foot k hk⟩
  have hR3 : ∀ w1 : World, Blk w1 w.heap.size 25 #[.string ⟨#[]⟩, .int .i64 0, .int .i64 0] → Blk (((w1.setCell ⟨w.heap.size, 0, none⟩ (.string ⟨#[]⟩)).setCell ⟨w.heap.size, 1, none⟩ (.int .i64 0)).setCell ⟨w.heap.size, 2, none⟩ (.int .i64 0)) w.heap.size 25 #[.string ⟨#[]⟩, .int .i64 0, .int .i64 0] :=
    fun w1 h => ((h.set_ 0 (.string ⟨#[]⟩)).set_ 1 (.int .i64 0)).set_ 2 (.int .i64 0)
  by_cases hk7 : k < 7
  all_goals
    have hd7 : decide ((k : Int) < 7) = (decide (k < 7) : Bool) := by simp only [decide_eq_decide]; omega
    simp only [hk7, decide_true, decide_false] at hd7
    go_enter Tryd.func19, Tryd.ntmps19
    go_wp2_with fail
    refine (size_any m F Bs L _ hMA).mono ?_
    rintro e w1 ⟨rfl, rfl⟩
    go_wp2_with fail
    refine (rread_yes m F Bs L 0 k _ hMA h0k h28 hL).mono ?_
    rw [hr0]
    rintro e w1 ⟨A, rfl, hR, F1, hM1, hS1⟩
    have hk1 := hS1.blk hk hwR
    have ck0 := hk1.cell_some (i := 0) (v := .string ⟨#[]⟩) rfl
    have ck1 := hk1.cell_some (i := 1) (v := .int .i64 0) rfl
    have ck2 := hk1.cell_some (i := 2) (v := .int .i64 0) rfl
    have fk0 := hk1.frozen 0
    have fk1 := hk1.frozen 1
    have fk2 := hk1.frozen 2
    have HR := Lib.hid hR; clear hR
  · go_wp2_with fail
    exact bodyPost_ret (results_row_tmp2 rfl _ _ w.heap.size 25 _ _ rfl (hR3 _ hk1) Tryd.underlying25 rfl info_lab) rfl ⟨rfl, fin _ _ hM1 hS1⟩
  · have hrb : RBytes w1 w1.heap.size A k ((labelB t rate start).take k) := HR.out.1
    obtain ⟨b, o, rfl, _, _⟩ := Reads.plain hrb (by omega) (by omega)
    obtain ⟨ad6, e6, _, c6⟩ := RBytes.at_ hrb (k := 6) (by omega)
    obtain rfl := Option.some.inj e6
    rw [add_plain] at c6
    rw [take_6 t rate start k (by omega), show u8v (BitVec.ofNat 8 t.size) = .int .u8 (t.size : Int) from int_eq (by rw [BitVec.toNat_ofNat]; omega)] at c6
    have h6k : (6 : Int) < (k : Int) := by omega
    have hnS : decide ((k : Int) < 7 + (t.size : Int) + 8) = true := by simp; omega
    clear hrb
    go_wp2_with fail
    exact bodyPost_ret (results_row_tmp2 rfl _ _ w.heap.size 25 _ _ rfl (hR3 _ hk1) Tryd.underlying25 rfl info_lab) rfl ⟨rfl, fin _ _ hM1 hS1⟩
end Go.Proofs.YtjmnomohmijbpaaDoor
