import Derived.Test.YtjmnomohmijbpaaDoorCrc
namespace Go.Proofs.YtjmnomohmijbpaaDoor
open Go.RowKit
theorem bits_xor_u8 (a b : BitVec 8) : bits .xor .u8 (a.toNat : Int) (b.toNat : Int) = ((a ^^^ b).toNat : Int) := by
  have h1 : BitVec.ofInt 8 (a.toNat : Int) = a := by simp
  have h2 : BitVec.ofInt 8 (b.toNat : Int) = b := by simp
  show IntKind.u8.wrap ((BitVec.ofInt 8 (a.toNat : Int) ^^^ BitVec.ofInt 8 (b.toNat : Int)).toNat : Int) = _
  rw [h1, h2, IntKind.wrap_u8]
  have := (a ^^^ b).isLt
  omega
theorem row_xor (V : BitVec 32) (c : BitVec 8) : bits .xor .u8 ((V.toNat : Int) / (16777216 : Int)) (c.toNat : Int) = ((Crc.row V c : Nat) : Int) := by
  have h : ((V.toNat : Int) / (16777216 : Int)) = (((V >>> 24).truncate 8).toNat : Int) := by
    simp only [BitVec.truncate_eq_setWidth, BitVec.toNat_setWidth, BitVec.toNat_ushiftRight, Nat.shiftRight_eq_div_pow]
    have := V.isLt
    omega
  rw [h]; exact bits_xor_u8 _ _
theorem byte_int (V : BitVec 32) (c : BitVec 8) : bits .xor .u32 ((V.toNat : Int) * (256 : Int) % (4294967296 : Int)) ((Crc.tab (Crc.row V c)).toNat : Int) = ((Crc.byte V c).toNat : Int) := by
  have h : (V.toNat : Int) * (256 : Int) % (4294967296 : Int) = ((V <<< 8).toNat : Int) := by
    rw [BitVec.toNat_shiftLeft, Nat.shiftLeft_eq]; omega
  rw [h]; exact bits_xor_u32 _ _
set_option maxRecDepth 100000 in
set_option maxHeartbeats 400000 in
theorem divide_any (r : BitVec 32) (bs : List (BitVec 8)) (A : Option Addr) (n c : Nat) (w : World) (hr : RBytes w w.heap.size A n bs) (hn : n ≤ 4611686018427387904) :
    Calls Tryd.prog 63 #[u32v r, .slice A n c] w fun e w' => e = .returned (u32v (Crc.divide r bs)) ∧ Below w.heap.size w w' := by
  go_enter Tryd.func63, Tryd.ntmps63
  go_wp2_with (first
    | (go_at_call 64; refine (table_any _).mono ?_; rintro e w1 ⟨rfl, hb1⟩)
    | (refine wpList_store_row rfl 112 (.tmp 5) (.tmp 8) rfl _ rfl 112 Tryd.zeroCells112 tabV rfl ?blk tabV_info ?sz tabV_one ?_))
  case blk => exact Blk.new w1 112 Tryd.zeroCells112
  case sz => rw [tabV_size, zeroTab_size]
  have hB : Blk ((w1.alloc (.cells Tryd.zeroCells112 112)).setRow w1.heap.size tabV) w1.heap.size 112 tabV := (Blk.new w1 112 Tryd.zeroCells112).row tabV
  have hb2 : Below w.heap.size w ((w1.alloc (.cells Tryd.zeroCells112 112)).setRow w1.heap.size tabV) := below_setRow (hb1.alloc hb1.size _) hb1.size tabV
  have hr2 := hr.below hb2
  generalize w1.heap.size = g at *
  generalize (w1.alloc (.cells Tryd.zeroCells112 112)).setRow g tabV = wl at *
  have hlen := hr.len
  have Hlen := Lib.hid hlen; clear hlen
  clear hb1
  go_loop [0, 11] (fun r' i => ∃ k : Nat, k ≤ n ∧ i = .int .i64 k ∧ r' = u32v (Crc.divide r (bs.take k))) (fun _ i => n - (intOf i).toNat)
  case atStart => exact ⟨0, Nat.zero_le _, rfl, rfl⟩
  case round =>
    obtain ⟨k, hk, rfl, rfl⟩ := hrel
    generalize hV : Crc.divide r (bs.take k) = V at *
    have HV := Lib.hid hV; clear hV
    by_cases hlt : k < n
    · obtain ⟨ad, rfl, _, hc⟩ := RBytes.at_ hr2 hlt
      have hd := Crc.divide_snoc r (bs.take k) (bs.getD k 0)
      rw [← take_succ_getD bs k 0 (by rw [Hlen.out]; exact hlt), HV.out] at hd
      have Hd := Lib.hid hd; clear hd
      generalize bs.getD k 0 = b at *
      have hx := row_xor V b
      have hl := Crc.row_lt V b
      have ht := hB.cell_some (tabV_get hl)
      have Hi := Lib.hid (byte_int V b)
      generalize Crc.row V b = i at *
      generalize Crc.tab i = T at *
      go_wp2
      go_round
      case rel => exact ⟨k + 1, by omega, by go_num, by rw [Hd.out, Hi.out]⟩
      case measure => simp [intOf]; omega
    · obtain rfl : k = n := by omega
      go_wp2
      go_ret
      refine ⟨?_, hb2⟩
      rw [← HV.out, List.take_of_length_le (by rw [Hlen.out]; omega)]
      rfl
theorem u32_not (V : BitVec 32) : bits .xor .u32 IntKind.u32.max (V.toNat : Int) = ((~~~ V).toNat : Int) := by
  have h : IntKind.u32.max = ((BitVec.allOnes 32).toNat : Int) := by decide +kernel
  rw [h, bits_xor_u32, BitVec.allOnes_xor]
/-- a sum of bytes goes on -/
theorem more_any (r : BitVec 32) (bs : List (BitVec 8)) (A : Option Addr) (n c : Nat) (w : World) (hr : RBytes w w.heap.size A n bs) (hn : n ≤ 4611686018427387904) :
    Calls Tryd.prog 50 #[u32v r, .slice A n c] w fun e w' => e = .returned (u32v (Crc.more r bs)) ∧ Below w.heap.size w w' := by
  have hs : IntKind.u32.signed = false := rfl
  have h1 := u32_not r
  have h2 := u32_not (Crc.divide (~~~ r) bs)
  have h3 : Crc.more r bs = ~~~ Crc.divide (~~~ r) bs := rfl
  generalize ~~~ r = r1 at *
  generalize ~~~ Crc.divide r1 bs = r2 at *
  have H3 := Lib.hid h3; clear h3
  go_enter Tryd.func50, Tryd.ntmps50
  go_wp2_with (go_at_call 63; refine (divide_any r1 bs A n c w hr hn).mono ?_; rintro e w1 ⟨rfl, hb1⟩)
  go_ret
  exact ⟨by rw [H3.out]; rfl, hb1⟩
/-- the sum of bytes -/
theorem sum_any (bs : List (BitVec 8)) (A : Option Addr) (n c : Nat) (w : World) (hr : RBytes w w.heap.size A n bs) (hn : n ≤ 4611686018427387904) :
    Calls Tryd.prog 37 #[.slice A n c] w fun e w' => e = .returned (u32v (Crc.sum bs)) ∧ Below w.heap.size w w' := by
  go_enter Tryd.func37, Tryd.ntmps37
  go_wp2_with (go_at_call 50; refine (more_any 0 bs _ _ _ _ hr hn).mono ?_; rintro e w1 ⟨rfl, hb1⟩)
  go_ret
  exact ⟨rfl, hb1⟩
end Go.Proofs.YtjmnomohmijbpaaDoor
