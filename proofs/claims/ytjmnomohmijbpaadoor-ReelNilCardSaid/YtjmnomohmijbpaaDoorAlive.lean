/- dailieslaw16.alive: the document's first example. -/
import Derived.Test.YtjmnomohmijbpaaDoorOpen
namespace Go.Proofs.YtjmnomohmijbpaaDoor
open Go.RowKit
/-- the title of the example -/
def tA : ByteArray := ⟨#[97]⟩
theorem tA_size : tA.size = 1 := rfl
theorem tA_may : mayB tA 2 0 = true := by decide +kernel
theorem lab_len : (labelB tA 2 0).length = 16 := by rw [labelB_length, tA_size]
theorem end_len : (endB [] 16).length = 24 := by decide +kernel
theorem chain_alive : chainP (labelB tA 2 0 ++ endB [] 16) ((labelB tA 2 0 ++ endB [] 16).length + 1) 0 (tA.size + 15) = ([], 16) := by
  show (if _ then _ else _) = _
  rw [if_neg (by decide +kernel)]
  show (if _ then _ else _) = _
  rw [if_neg (by decide +kernel), tA_size]
theorem drop_alive : List.drop 16 (labelB tA 2 0 ++ endB [] 16) = endB [] 16 := by
  rw [List.drop_append_of_le_length (by rw [lab_len]; exact Nat.le_refl _), List.drop_of_length_le (by rw [lab_len]; exact Nat.le_refl _), List.nil_append]
set_option maxRecDepth 100000 in
set_option maxHeartbeats 2000000 in
theorem alive_any (w : World) (hT : Tabs w) :
    Calls Tryd.prog 5 #[] w fun e w' => e = .returned (.bool true) ∧ Below w.heap.size w w' := by
  go_enter Tryd.func5, Tryd.ntmps5
  go_wp2_with fail
  refine (new_med _).mono ?_
  rintro e w1 ⟨rfl, hM1, hb1⟩
  have hT1 := hT.below hb1
  have hs1 : w.heap.size < w1.heap.size := hM1.mem.2
  go_wp2_with fail
  have htA : (⟨#[97]⟩ : ByteArray) = tA := rfl
  rw [htA]
  refine (create_any w.heap.size [w.heap.size] 0 tA 2 0 w1 hM1 hT1 tA_may).mono ?_
  rintro e w2 ⟨b, rfl, hbge, hW2, F2, hM2, hS2, hbF⟩
  go_wp2_with fail
  refine (size_any _ F2 _ _ _ hM2).mono ?_
  rw [lab_len]
  rintro e w3 ⟨rfl, rfl⟩
  go_wp2_with fail
  refine (finish_any b w.heap.size (.slice none 0 0) [] F2 (labelB tA 2 0) 0 _ hW2 hM2 hbF (fun k hk => by cases hk) (fun x hx => by cases hx) (by simp) (by rw [lab_len, end_len]; omega)).mono ?_
  rw [lab_len, end_len]
  rintro e w4 ⟨rfl, hW4, F4, hM4, hS4⟩
  unfold rcpV
  go_wp2_with fail
  have h2 : ∀ k, k ∈ F2 → w.heap.size ≤ k := hS2.ge (Nat.le_of_lt hs1) (fun k hk => by simp only [List.mem_singleton] at hk; omega)
  have hs3 := hS2.size
  have hb3 : Below w.heap.size w w3 := hb1.trans (hS2.below (Nat.le_of_lt hs1) (fun k hk => by simp only [List.mem_singleton] at hk; omega))
  have hbS : ∀ k, k ∈ b :: F2 → w.heap.size ≤ k := fun k hk => by
    rcases List.mem_cons.1 hk with e | e
    · omega
    · exact h2 k e
  have h4 : ∀ k, k ∈ F4 → w.heap.size ≤ k := fun k hk => hS4.ge (by omega) hbS k (List.mem_cons_of_mem _ hk)
  have hb4 : Below w.heap.size w w4 := hb3.trans (hS4.below (by omega) hbS)
  have hT4 : Tabs w4 := hT.below hb4
  have hF4 : Far F4 := fun k hk => by have := h4 k hk; have := hT.lt; exact ⟨by omega, by omega⟩
  have hba := (Below.refl w4.heap.size w4).alloc (Nat.le_refl _) (.cells #[.int .i64 0, .int .i64 16, .int .i64 24] 39)
  have hX := Blk.new w4 39 #[.int .i64 0, .int .i64 16, .int .i64 24]
  refine (open_hid w.heap.size F4 0 tA 2 0 (labelB tA 2 0 ++ endB [] 16) (endB [] 16) _ ([], 16) (hM4.below hba) (Lib.hid rfl) (hT4.below hba) hF4 tA_may (by rw [List.length_append, lab_len, end_len]; omega) (by omega) (Lib.hid chain_alive)).mono ?_
  unfold OpenEnd
  rintro e w5 ⟨g, v, rfl, hg, hR5, hv5, F5, L5, _, hM5, hS5, _, _⟩
  have hX5 := hS5.blk hX (fun hk => Nat.lt_irrefl _ (hM4.lt _ hk))
  have kx0 := hX5.cell_some (i := 0) (v := .int .i64 0) rfl
  have kx1 := hX5.cell_some (i := 1) (v := .int .i64 16) rfl
  have kx2 := hX5.cell_some (i := 2) (v := .int .i64 24) rfl
  have hdec : decide (List.drop 16 (labelB tA 2 0 ++ endB [] 16) = endB [] 16) = true := by rw [drop_alive]; simp
  rw [hdec] at hR5
  go_wp2_with fail
  refine (finished_any g _ _ _ _ _ _ _ _ _ hR5).mono ?_
  rintro e w6 ⟨rfl, rfl⟩
  go_wp2_with fail
  refine (count_any g _ _ _ _ _ _ _ _ _ hR5).mono ?_
  rintro e w7 ⟨rfl, rfl⟩
  go_wp2_with fail
  go_ret
  have hs4 := hb4.size
  exact ⟨rfl, (hb4.trans (hba.mono hs4)).trans (hS5.below (by simp only [World.size_alloc]; omega) h4)⟩
end Go.Proofs.YtjmnomohmijbpaaDoor
