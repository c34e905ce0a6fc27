/- bits.Big and bits.Number (and the small ones that they call). -/
import Derived.Test.YtjmnomohmijbpaaDoorProg
import Derived.Test.YtjmnomohmijbpaaDoorBase
namespace Go.Proofs.YtjmnomohmijbpaaDoor
open Go.RowKit
/-- a number in so many bytes, the highest first -/
def bigB (n k : Nat) : List (BitVec 8) := (List.range k).map fun i => BitVec.ofNat 8 (n / 2 ^ (8 * (k - 1 - i)))
theorem bigB_length (n k : Nat) : (bigB n k).length = k := by simp [bigB]
set_option maxHeartbeats 400000 in
theorem fits64_any (v : Nat) (k : Nat) (hk : k ≤ 63) (w : World) :
    Calls Tryd.prog 51 #[.int .u64 v, .int .i64 k] w fun e w' => e = .returned (.bool (decide (v / 2 ^ k = 0))) ∧ w = w' := by
  have h : ((v : Int) / 2 ^ k == 0) = decide (v / 2 ^ k = 0) := by
    have h1 : ((v : Int) / 2 ^ k) = ((v / 2 ^ k : Nat) : Int) := by simp
    rw [h1, Bool.eq_iff_iff, beq_iff_eq, decide_eq_true_iff]; omega
  have H := Lib.hid h; clear h
  go_enter Tryd.func51, Tryd.ntmps51
  go_wp2
  go_ret
  exact ⟨ret_eq (bool_eq H.out), rfl⟩
theorem fits64_yes (v : Nat) (x : Int) (h0 : 0 ≤ x) (h1 : x ≤ 63) (hv : v < 2 ^ x.toNat) (w : World) :
    Calls Tryd.prog 51 #[.int .u64 v, .int .i64 x] w fun e w' => e = .returned (.bool true) ∧ w = w' := by
  obtain ⟨k, rfl⟩ := Int.eq_ofNat_of_zero_le h0
  refine (fits64_any v k (by omega) w).mono fun e w' ⟨he, hw⟩ => ⟨?_, hw⟩
  rw [he, decide_eq_true (Nat.div_eq_of_lt (by simpa using hv))]
theorem u64_low8 (x : Nat) (h : x < 18446744073709551616) : bits .and .u64 (x : Int) 255 % 256 = ((BitVec.ofNat 8 x).toNat : Int) := by
  have h1 : bits .and .u64 (x : Int) 255 = ((x % 256 : Nat) : Int) := by
    show IntKind.u64.wrap ((BitVec.ofInt 64 (x : Int) &&& BitVec.ofInt 64 255).toNat : Int) = _
    have e1 : BitVec.ofInt 64 (x : Int) = BitVec.ofNat 64 x := BitVec.ofInt_natCast ..
    have e2 : BitVec.ofInt 64 255 = BitVec.ofNat 64 255 := rfl
    have e3 : (BitVec.ofNat 64 x &&& BitVec.ofNat 64 255).toNat = x % 256 := by
      rw [BitVec.toNat_and, BitVec.toNat_ofNat, BitVec.toNat_ofNat, Nat.mod_eq_of_lt (by omega)]
      exact Nat.and_two_pow_sub_one_eq_mod x 8
    rw [e1, e2, e3, IntKind.wrap_u64]; omega
  rw [h1, BitVec.toNat_ofNat]; omega
set_option maxHeartbeats 400000 in
theorem piece64_any (v : Nat) (k : Nat) (hk : k ≤ 63) (hv : v < 18446744073709551616) (w : World) :
    Calls Tryd.prog 52 #[.int .u64 v, .int .i64 k, .int .i64 8] w fun e w' => e = .returned (u8v (BitVec.ofNat 8 (v / 2 ^ k))) ∧ ∃ n, w' = w.drewN n := by
  have h : bits .and .u64 ((v : Int) / 2 ^ k) 255 % 256 = ((BitVec.ofNat 8 (v / 2 ^ k)).toNat : Int) := by
    rw [← u64_low8 (v / 2 ^ k) (Nat.lt_of_le_of_lt (Nat.div_le_self _ _) hv)]; simp
  generalize BitVec.ofNat 8 (v / 2 ^ k) = b at *
  have H := Lib.hid h; clear h hv
  go_enter Tryd.func52, Tryd.ntmps52
  go_wp2
  go_quiet (fail)
  go_wp2
  go_ret
  exact ⟨ret_eq (int_eq H.out), _, rfl⟩
/-- eight bits of a number from a place on -/
def pieceB (v : Nat) (x : Int) : BitVec 8 := BitVec.ofNat 8 (v / 2 ^ x.toNat)
theorem piece64_int (v : Nat) (x : Int) (h0 : 0 ≤ x) (h1 : x ≤ 63) (hv : v < 18446744073709551616) (w : World) :
    Calls Tryd.prog 52 #[.int .u64 v, .int .i64 x, .int .i64 8] w fun e w' => e = .returned (u8v (pieceB v x)) ∧ ∃ n, w' = w.drewN n := by
  obtain ⟨k, rfl⟩ := Int.eq_ofNat_of_zero_le h0
  exact piece64_any v k (by omega) hv w
theorem pw_drewN {B : Nat} {w W : World} (h : Below B w W) (n : Nat) : Below B w (W.drewN n) := ⟨h.os, h.tape, h.output, h.size, h.block⟩
theorem bytesV_set (bs : List (BitVec 8)) (i : Nat) (b : BitVec 8) : (bytesV bs).setIfInBounds i (u8v b) = bytesV (bs.set i b) := by
  apply Array.ext_getElem?
  intro j
  simp only [bytesV, Array.getElem?_setIfInBounds, List.getElem?_toArray, List.getElem?_map, List.getElem?_set, List.size_toArray, List.length_map]
  split <;> (try split) <;> simp
theorem info_u8 : (Tryd.prog.info? 5).map (fun i => (i.zero, i.size, i.bytes)) = some (some (.int .u8 0), 1, 1) := by kernel_rfl
theorem made_bytes (k : Nat) : madeCells #[.int .u8 0] k = bytesV (List.replicate k 0) := by
  apply Array.ext_getElem?
  intro i
  by_cases h : i < k
  · have h1 : i % 1 = 0 := Nat.mod_one i
    simp [madeCells, bytesV, h, h1]
  · simp [madeCells, bytesV, h]
set_option maxRecDepth 100000 in
set_option maxHeartbeats 800000 in
theorem big_any (v : Nat) (k : Nat) (h1 : 1 ≤ k) (h8 : k ≤ 8) (hv : v < 2 ^ (8 * k)) (w : World) :
    Calls Tryd.prog 38 #[.int .u64 v, .int .i64 k] w fun e w' => ∃ g, e = .returned (.tuple #[.slice (some ⟨g, 0, none⟩) k k, .int .i64 0]) ∧
      w.heap.size ≤ g ∧ Blk w' g 5 (bytesV (bigB v k)) ∧ Below w.heap.size w w' := by
  obtain ⟨i0, hi0, hz0, hz1, hz2⟩ := info_parts info_u8
  have hv64 : v < 18446744073709551616 := Nat.lt_of_lt_of_le hv (by
    have : (2 : Nat) ^ (8 * k) ≤ 2 ^ 64 := Nat.pow_le_pow_right (by omega) (by omega)
    omega)
  have hfit : decide (v / 2 ^ (8 * k) = 0) = true := by simpa using Nat.div_eq_of_lt hv
  have Hf := Lib.hid hfit; have Hv := Lib.hid hv; have H64 := Lib.hid hv64
  clear hfit hv hv64
  have Hq : Hid (v < 2 ^ ((8 : Int) * (k : Int)).toNat) := by
    have e : ((8 : Int) * (k : Int)).toNat = 8 * k := by omega
    show v < 2 ^ ((8 : Int) * (k : Int)).toNat
    rw [e]; exact Hv.out
  by_cases h : k < 8
  all_goals
    go_enter Tryd.func38, Tryd.ntmps38
    go_wp2_with (first
      | (go_at_call 51; ((with_reducible refine (fits64_yes v _ (by omega) (by omega) Hq.out _).mono ?_); rintro e w1 ⟨rfl, rfl⟩))
      | (at_make; refine wpList_make_row _ rfl _ _ 44 rfl 5 i0 (.int .u8 0) Tryd.underlying44 hi0 hz0 hz1 rfl .i64 .i64 k rfl rfl (by rw [hz2]; omega) (by omega) ?_))
    rw [made_bytes]
    go_loopg [27] k (fun r i wr => ∃ j ds, r + j = k ∧ i = .int .i64 (j : Nat) ∧ Below w.heap.size w wr ∧ Blk wr w.heap.size 5 (bytesV ds) ∧ ds.length = k ∧ ∀ i, i < j → ds.getD i 0 = (bigB v k).getD i 0)
    case atStart => exact ⟨0, _, rfl, rfl, (Below.refl _ _).alloc (Nat.le_refl _) _, Blk.new _ _ _, by simp, fun i hi => absurd hi (by omega)⟩
    case round =>
      obtain ⟨j, ds, hj, rfl, hb, hB, hl, hd⟩ := hrel
      have Hj := Lib.hid hj; have Hl := Lib.hid hl; have Hd := Lib.hid hd
      clear hj hl hd
      by_cases hlt : j < k
      · have hfz := hB.frozen j
        have hce := hB.cell_some (bytesV_get ds j (by rw [Hl.out]; exact hlt))
        go_wp2_with (first
          | (go_at_call 52; ((with_reducible refine (piece64_int v _ (by omega) (by omega) H64.out _).mono ?_); rintro e w1 ⟨rfl, ⟨nd, rfl⟩⟩)))
        go_roundg (gk - 1)
        case measure => have := Hj.out; omega
        case rel =>
          refine ⟨j + 1, ds.set j (pieceB v ((8 : Int) * ((k : Int) - 1 - (j : Int)))), by have := Hj.out; omega, by go_num, ?_, ?_, by rw [List.length_set]; exact Hl.out, fun i hi => ?_⟩
          · exact Below.setCell (pw_drewN hb nd) (by simp) _
          · have hs := (hB.drewN nd).set_ j (u8v (pieceB v ((8 : Int) * ((k : Int) - 1 - (j : Int)))))
            rw [bytesV_set] at hs
            exact hs
          · rw [List.getD_eq_getElem?_getD, List.getElem?_set]
            by_cases e : j = i
            · subst e
              rw [if_pos rfl, if_pos (by rw [Hl.out]; exact hlt)]
              have e2 : ((8 : Int) * ((k : Int) - 1 - (j : Int))).toNat = 8 * (k - 1 - j) := by omega
              unfold pieceB
              rw [e2]
              simp [bigB, List.getD_eq_getElem?_getD, hlt]
            · rw [if_neg e]
              have := Hd.out i (by omega)
              rw [List.getD_eq_getElem?_getD] at this
              exact this
      · go_wp2
        go_ret2
        have hj : j = k := by have := Hj.out; omega
        refine ⟨_, rfl, Nat.le_refl _, ?_, hb⟩
        have hds : ds = bigB v k := by
          apply List.ext_getElem?
          intro i
          by_cases hi : i < k
          · have := Hd.out i (by omega)
            rw [List.getD_eq_getElem?_getD, List.getD_eq_getElem?_getD, List.getElem?_eq_getElem (by rw [Hl.out]; exact hi), List.getElem?_eq_getElem (by rw [bigB_length]; exact hi)] at this
            rw [List.getElem?_eq_getElem (by rw [Hl.out]; exact hi), List.getElem?_eq_getElem (by rw [bigB_length]; exact hi)]
            exact congrArg some this
          · rw [List.getElem?_eq_none (by rw [Hl.out]; omega), List.getElem?_eq_none (by rw [bigB_length]; omega)]
        rw [← hds]; exact hB
/-- what bytes say -/
def numB (bs : List (BitVec 8)) : Nat := bs.foldl (fun a b => a * 256 + b.toNat) 0
theorem numB_snoc (l : List (BitVec 8)) (b : BitVec 8) : numB (l ++ [b]) = numB l * 256 + b.toNat := by
  unfold numB; rw [List.foldl_append]; rfl
theorem numB_lt_rev (l : List (BitVec 8)) : numB l.reverse < 2 ^ (8 * l.length) := by
  induction l with
  | nil => decide
  | cons b l ih =>
    rw [List.reverse_cons, numB_snoc, List.length_cons]
    have := b.isLt
    have e : (2 : Nat) ^ (8 * (l.length + 1)) = 2 ^ (8 * l.length) * 256 := by rw [show 8 * (l.length + 1) = 8 * l.length + 8 by omega, Nat.pow_add]
    rw [e]; omega
theorem numB_lt (l : List (BitVec 8)) : numB l < 2 ^ (8 * l.length) := by
  have := numB_lt_rev l.reverse
  simpa using this
theorem wraps_u64 (n : Int) (h₀ : 0 ≤ n) (h₁ : n < 2 ^ 64) : IntKind.u64.wrap n = n := by rw [IntKind.wrap_u64]; omega
theorem num_step (a : Nat) (b : BitVec 8) (h : a < 72057594037927936) : bits .or .u64 ((a : Int) * (256 : Int)) (b.toNat : Int) = ((a * 256 + b.toNat : Nat) : Int) := by
  have hb := b.isLt
  rw [bits_join .u64 64 (by decide) wraps_u64 8 ((a : Int) * 256) (b.toNat : Int) (by omega) (by omega) (by omega) (by omega) (by omega) (by omega)]
  omega
set_option maxRecDepth 100000 in
set_option maxHeartbeats 400000 in
theorem number_any (bs : List (BitVec 8)) (A : Option Addr) (n c : Nat) (w : World) (hr : RBytes w w.heap.size A n bs) (h1 : 1 ≤ n) (h8 : n ≤ 8) :
    Calls Tryd.prog 39 #[.slice A n c] w fun e w' => e = .returned (.tuple #[.int .u64 (numB bs : Nat), .int .i64 0]) ∧ w = w' := by
  have Hlen := Lib.hid hr.len
  go_enter Tryd.func39, Tryd.ntmps39
  go_wp2
  go_loop [4, 17] (fun v i => ∃ k : Nat, k ≤ n ∧ i = .int .i64 k ∧ v = .int .u64 (numB (bs.take k) : Nat)) (fun _ i => n - (intOf i).toNat)
  case atStart => exact ⟨0, Nat.zero_le _, rfl, rfl⟩
  case round =>
    obtain ⟨k, hk, rfl, rfl⟩ := hrel
    by_cases hlt : k < n
    · obtain ⟨ad, rfl, _, hc⟩ := RBytes.at_ hr hlt
      have hs := numB_snoc (bs.take k) (bs.getD k 0)
      rw [← take_succ_getD bs k 0 (by rw [Hlen.out]; exact hlt)] at hs
      have Hs := Lib.hid hs; clear hs
      have hv : numB (bs.take k) < 72057594037927936 := by
        have h := numB_lt (bs.take k)
        have hl : (bs.take k).length ≤ 7 := by rw [List.length_take]; omega
        have : (2 : Nat) ^ (8 * (bs.take k).length) ≤ 2 ^ 56 := Nat.pow_le_pow_right (by omega) (by omega)
        omega
      have hn := num_step _ (bs.getD k 0) hv
      generalize numB (bs.take k) = V at *
      generalize bs.getD k 0 = b at *
      have Hn := Lib.hid hn; clear hn
      have hv' : (V : Int) < 72057594037927936 := by omega
      clear hv
      go_wp2
      go_round
      case rel => exact ⟨k + 1, by omega, by go_num, int_eq (by rw [Hn.out, Hs.out])⟩
      case measure => simp [intOf]; omega
    · obtain rfl : k = n := by omega
      go_wp2
      go_ret2
      refine ⟨?_, rfl⟩
      rw [List.take_of_length_le (by rw [Hlen.out]; omega)]
      rfl
end Go.Proofs.YtjmnomohmijbpaaDoor
