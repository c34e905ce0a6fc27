import Derived.Test.YtjmnomohmijbpaaDoorProg
import Derived.Test.YtjmnomohmijbpaaDoorBase
import Derived.Test.YtjmnomohmijbpaaDoorCrcP
namespace Go.Proofs.YtjmnomohmijbpaaDoor
open Go.RowKit
theorem zeroTab_size : Tryd.zeroCells112.size = 256 := by decide +kernel
theorem sizeTab : (Tryd.prog.info? 112).map (·.size) = some 256 := by kernel_rfl
theorem tab_start_int (k : Nat) (hk : k < 256) : (k : Int) * (16777216 : Int) = ((BitVec.ofNat 32 k <<< 24).toNat : Int) := by
  rw [BitVec.toNat_shiftLeft, BitVec.toNat_ofNat, Nat.shiftLeft_eq]
  omega
theorem tab_start (k : Nat) (hk : k < 256) : (.int .u32 ((k : Int) * 16777216) : Value) = u32v (Crc.many 0 (BitVec.ofNat 32 k <<< 24)) := by
  rw [tab_start_int k hk]; rfl
theorem u32_shl1 (V : BitVec 32) : ((V.toNat : Int) * (2 : Int) % (4294967296 : Int)) = ((V <<< 1).toNat : Int) := by
  rw [BitVec.toNat_shiftLeft, Nat.shiftLeft_eq]; omega
theorem u32_top (V : BitVec 32) : (V.msb = true) ↔ V.toNat / 2147483648 = 1 := by
  rw [BitVec.msb_eq_decide]
  simp
  have := V.isLt
  omega
theorem bits_xor_u32 (a b : BitVec 32) : bits .xor .u32 (a.toNat : Int) (b.toNat : Int) = ((a ^^^ b).toNat : Int) := by
  have h1 : BitVec.ofInt 32 (a.toNat : Int) = a := by simp
  have h2 : BitVec.ofInt 32 (b.toNat : Int) = b := by simp
  show IntKind.u32.wrap ((BitVec.ofInt 32 (a.toNat : Int) ^^^ BitVec.ofInt 32 (b.toNat : Int)).toNat : Int) = _
  rw [h1, h2, IntKind.wrap_u32]
  have := (a ^^^ b).isLt
  omega
theorem one_hi (V : BitVec 32) (h : V.msb = true) : (.int .u32 (bits .xor .u32 ((V.toNat : Int) * (2 : Int) % (4294967296 : Int)) 79764919) : Value) = u32v (Crc.one V) := by
  unfold Crc.one
  rw [if_pos h, u32_shl1]
  exact congrArg (Value.int .u32) (bits_xor_u32 (V <<< 1) Crc.poly)
theorem one_lo (V : BitVec 32) (h : ¬ V.msb = true) : (.int .u32 ((V.toNat : Int) * (2 : Int) % (4294967296 : Int)) : Value) = u32v (Crc.one V) := by
  unfold Crc.one
  rw [if_neg h, u32_shl1]
/-- the table as Go has it in memory -/
def tabV : Array Value := ((List.range 256).map fun i => u32v (Crc.tab i)).toArray
theorem tabV_size : tabV.size = 256 := by simp [tabV]
theorem tabV_get {i : Nat} (h : i < 256) : tabV[i]? = some (u32v (Crc.tab i)) := by simp [tabV, h]
theorem tabV_one : ∀ v ∈ tabV, v.oneCell' = true := by
  intro v hv; simp [tabV] at hv; obtain ⟨i, _, rfl⟩ := hv; rfl
theorem tabV_info : (Tryd.prog.info? 112).map (·.size) = some tabV.size := by rw [sizeTab, tabV_size]
theorem tab_all (T : Array Value) (hT : T.size = 256) (hv : ∀ j, j < 256 → T[j]? = some (u32v (Crc.tab j))) : T = tabV := by
  unfold tabV
  apply Array.ext_getElem?
  intro i
  by_cases h : i < 256
  · rw [hv i h]; simp [h]
  · rw [Array.getElem?_eq_none (by omega)]; simp [h]
set_option maxRecDepth 100000 in
set_option maxHeartbeats 400000 in
theorem table_any (w : World) :
    Calls Tryd.prog 64 #[] w fun e w' => e = .returned (.agg tabV) ∧ Below w.heap.size w w' := by
  go_enter Tryd.func64, Tryd.ntmps64
  go_wp2
  go_loopg [4] 256 (fun r i wr => ∃ k T, r + k = 256 ∧ i = .int .i64 (k : Nat) ∧ Below w.heap.size w wr ∧ Blk wr w.heap.size 112 Tryd.zeroCells112 ∧ Blk wr (w.heap.size + 1) 112 T ∧ T.size = 256 ∧ ∀ j, j < k → T[j]? = some (u32v (Crc.tab j)))
  case atStart =>
    refine ⟨0, Tryd.zeroCells112, rfl, rfl, ((Below.refl _ _).alloc (Nat.le_refl _) _).alloc (by simp) _, (Blk.new _ _ _).alloc _, ?_, zeroTab_size, fun j hj => absurd hj (by omega)⟩
    have := Blk.new (w.alloc (.cells Tryd.zeroCells112 112)) 112 Tryd.zeroCells112
    simpa using this
  case round =>
    obtain ⟨k, T, hk, rfl, hb, h0, h1, hT, hv⟩ := hrel
    have Hv := Lib.hid hv; have Hk := Lib.hid hk; have HT := Lib.hid hT; clear hv hk hT
    by_cases hlt : k < 256
    · have hfz := h1.frozen k
      obtain ⟨c0, hc0⟩ : ∃ c, T[k]? = some c := ⟨_, Array.getElem?_eq_getElem (by rw [HT.out]; exact hlt)⟩
      have hce := h1.cell_some hc0
      clear hc0
      go_wp2
      go_loop [3, 10] (fun v i => ∃ m : Nat, m ≤ 8 ∧ i = .int .i64 m ∧ v = u32v (Crc.many m (BitVec.ofNat 32 k <<< 24))) (fun _ i => 8 - (intOf i).toNat)
      case atStart => exact ⟨0, by omega, rfl, tab_start k hlt⟩
      case round =>
        obtain ⟨m, hm, rfl, rfl⟩ := hrel
        have Hm := Lib.hid (Crc.many_succ m (BitVec.ofNat 32 k <<< 24))
        by_cases hl8 : m < 8
        · generalize Crc.many m (BitVec.ofNat 32 k <<< 24) = V at *
          by_cases ht : V.msb = true
          · have hb1 : (((V.toNat : Int) / 2147483648) == 1) = true := by have := (u32_top V).1 ht; simp; omega
            have HT1 := Lib.hid ht; clear ht
            go_wp2
            go_round
            case rel => exact ⟨m + 1, by omega, by go_num, by rw [Hm.out]; exact one_hi V HT1.out⟩
            case measure => simp [intOf]; omega
          · have hb1 : (((V.toNat : Int) / 2147483648) == 1) = false := by have := mt (u32_top V).2 ht; simp; omega
            have HT1 := Lib.hid ht; clear ht
            go_wp2
            go_round
            case rel => exact ⟨m + 1, by omega, by go_num, by rw [Hm.out]; exact one_lo V HT1.out⟩
            case measure => simp [intOf]; omega
        · obtain rfl : m = 8 := by omega
          clear Hm
          generalize hV : Crc.many 8 (BitVec.ofNat 32 k <<< 24) = V
          have HV := Lib.hid hV; clear hV
          go_wp2
          go_roundg (gk - 1)
          case measure => have := Hk.out; omega
          case rel =>
            refine ⟨k + 1, T.setIfInBounds k (u32v V), by have := Hk.out; omega, by go_num, hb.setCell (by simp) _, h0.far (by simp) _, h1.set_ k _, by simpa using HT.out, fun j hj => ?_⟩
            rw [Array.getElem?_setIfInBounds]
            by_cases e : k = j
            · subst e; rw [if_pos rfl, if_pos (by rw [HT.out]; exact hlt)]; rw [← HV.out]; rfl
            · rw [if_neg e]; exact Hv.out j (by omega)
    · obtain rfl : k = 256 := by have := Hk.out; omega
      have hTa := tab_all T HT.out Hv.out
      subst hTa
      go_wp2_with (first
        | (refine wpList_load_row rfl 112 (.tmp 1) rfl (w.heap.size + 1) rfl 112 tabV (0, 0) _ h1 Tryd.underlying112 rfl tabV_info ?_)
        | (refine wpList_store_row rfl 112 (.tmp 0) (.tmp 25) rfl w.heap.size rfl 112 Tryd.zeroCells112 tabV rfl h0 tabV_info ?sz ?one ?_))
      case sz => rw [tabV_size, zeroTab_size]
      case one => exact tabV_one
      refine bodyPost_ret (v := .agg tabV) ?_ rfl ⟨rfl, ?_⟩
      · exact results_cell_row rfl _ _ w.heap.size 112 tabV (0, 0) _ rfl (h0.row tabV) Tryd.underlying112 rfl tabV_info
      · exact below_setRow hb (Nat.le_refl _) tabV
end Go.Proofs.YtjmnomohmijbpaaDoor
