/- slices.Clone and slices.Clip of bytes. -/
import Derived.Test.YtjmnomohmijbpaaDoorProg
import Derived.Test.YtjmnomohmijbpaaDoorBase
namespace Go.Proofs.YtjmnomohmijbpaaDoor
open Go.RowKit
theorem info_u8s : (Tryd.prog.info? 5).map (fun i => (i.zero, i.size, i.bytes)) = some (some (.int .u8 0), 1, 1) := by kernel_rfl
set_option maxRecDepth 100000 in
set_option maxHeartbeats 400000 in
theorem clone_any (bs : List (BitVec 8)) (A : Option Addr) (n c : Nat) (w : World) (hr : RBytes w w.heap.size A n bs) (hn : n ≤ 140737488355328) :
    Calls Tryd.prog 55 #[.slice A n c] w fun e w' => ∃ A' c', e = .returned (.slice A' n c') ∧ w'.ownsRow w.heap.size 5 1 (.slice A' n c') n (bs.map u8v) ∧ Below w.heap.size w w' := by
  obtain ⟨i0, hi0, hz0, hz1, hz2⟩ := info_parts info_u8s
  cases A with
  | none =>
    have hn0 : n = 0 := by
      rcases Nat.eq_zero_or_pos n with h | h
      · exact h
      · obtain ⟨_, e, _⟩ := hr.2 h; cases e
    subst hn0
    have hb : bs = [] := List.eq_nil_of_length_eq_zero hr.len
    subst hb
    have he := fun (w : World) => Lib.run_eql_slice_nil (P := Tryd.prog) w 44 5 none 0 c 0 0 Tryd.underlying44
    go_enter Tryd.func55, Tryd.ntmps55
    go_wp2
    go_ret
    exact ⟨none, 0, rfl, World.ownsRow_nil _ _ _ _, Below.refl _ _⟩
  | some ad =>
    have he := fun (w : World) => Lib.run_eql_slice_nil (P := Tryd.prog) w 44 5 (some ad) n c 0 0 Tryd.underlying44
    go_enter Tryd.func55, Tryd.ntmps55
    go_wp2_with (at_builtin; (refine wpList_append_any _ rfl (.tmp 5) (.tmp 6) _ rfl w.heap.size 5 i0 _ 1 1 Tryd.underlying44 hi0 hz0 hz1 hz2 rfl (by omega) (.slice (some ⟨w.heap.size, 0, none⟩) 0 0) 0 [] rfl (by exact World.ownsRow_lit w #[] 0 (Nat.le_refl _) (by simp [maxLen]) rfl) w.heap.size (some ad) n c (bs.map u8v) rfl (by exact hr.alloc (Nat.le_refl _) _) (bytesV_one bs) (by simp only [maxLen]; omega) (by omega) (by simp) ?_); intro v1 w2 hown2 hg2 hat2)
    obtain ⟨A1, c1, rfl⟩ := slice_form hown2
    simp only [Nat.zero_add, List.nil_append] at hown2
    go_ret
    refine ⟨A1, c1, ret_eq (by simp), hown2, ((Below.refl _ _).alloc (Nat.le_refl _) _).grown hg2 (by simp) (fun k hk => ?_)⟩
    simp [Value.ownBlock] at hk
    omega
set_option maxHeartbeats 400000 in
theorem clip_any (A : Option Addr) (n c : Nat) (w : World) (hn : n ≤ c) :
    Calls Tryd.prog 54 #[.slice A n c] w fun e w' => e = .returned (.slice A n n) ∧ w' = w := by
  go_enter Tryd.func54, Tryd.ntmps54
  go_wp2
  go_ret
  exact ⟨rfl, rfl⟩
end Go.Proofs.YtjmnomohmijbpaaDoor
