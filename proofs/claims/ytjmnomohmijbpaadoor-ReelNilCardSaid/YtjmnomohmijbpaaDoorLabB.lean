/- A label's bytes, looked at from its front. No program in sight. -/
import Derived.Test.YtjmnomohmijbpaaDoorCreate
import Derived.Test.YtjmnomohmijbpaaDoorRead
import Derived.Test.YtjmnomohmijbpaaDoorStr
namespace Go.Proofs.YtjmnomohmijbpaaDoor
open Go.RowKit
theorem numB_fourB (n : Nat) (h : n < 4294967296) : numB (fourB n) = n := by
  have e : fourB n = [BitVec.ofNat 8 (n / 16777216), BitVec.ofNat 8 (n / 65536), BitVec.ofNat 8 (n / 256), BitVec.ofNat 8 n] := by
    simp [fourB, bigB, List.range_succ]
  rw [e]
  simp only [numB, List.foldl_cons, List.foldl_nil, BitVec.toNat_ofNat]
  omega
theorem four4_fourB (n : Nat) (h : n < 4294967296) (r : List (BitVec 8)) : four4 (fourB n ++ r) = n := by
  unfold four4
  rw [List.take_left' (fourB_length n), numB_fourB n h]
theorem numB_four_of {a : List (BitVec 8)} (ha : a.length = 4) : fourB (numB a) = a := by
  obtain ⟨x, y, z, u, rfl⟩ : ∃ x y z u, a = [x, y, z, u] := by
    match a, ha with
    | [x, y, z, u], _ => exact ⟨x, y, z, u, rfl⟩
  have hx := x.isLt; have hy := y.isLt; have hz := z.isLt; have hu := u.isLt
  have e : numB [x, y, z, u] = x.toNat * 16777216 + y.toNat * 65536 + z.toNat * 256 + u.toNat := by
    simp only [numB, List.foldl_cons, List.foldl_nil]; omega
  rw [e]
  have e2 : ∀ n, fourB n = [BitVec.ofNat 8 (n / 16777216), BitVec.ofNat 8 (n / 65536), BitVec.ofNat 8 (n / 256), BitVec.ofNat 8 n] := by
    intro n; simp [fourB, bigB, List.range_succ]
  rw [e2]
  have k1 : BitVec.ofNat 8 ((x.toNat * 16777216 + y.toNat * 65536 + z.toNat * 256 + u.toNat) / 16777216) = x := by apply BitVec.eq_of_toNat_eq; simp only [BitVec.toNat_ofNat]; omega
  have k2 : BitVec.ofNat 8 ((x.toNat * 16777216 + y.toNat * 65536 + z.toNat * 256 + u.toNat) / 65536) = y := by apply BitVec.eq_of_toNat_eq; simp only [BitVec.toNat_ofNat]; omega
  have k3 : BitVec.ofNat 8 ((x.toNat * 16777216 + y.toNat * 65536 + z.toNat * 256 + u.toNat) / 256) = z := by apply BitVec.eq_of_toNat_eq; simp only [BitVec.toNat_ofNat]; omega
  have k4 : BitVec.ofNat 8 (x.toNat * 16777216 + y.toNat * 65536 + z.toNat * 256 + u.toNat) = u := by apply BitVec.eq_of_toNat_eq; simp only [BitVec.toNat_ofNat]; omega
  rw [k1, k2, k3, k4]
/-- the sum's bytes behind a label -/
def labelS (t : ByteArray) (rate start : Int) : List (BitVec 8) := fourB (Crc.sum ([82#8, 69#8, 69#8, 76#8] ++ [1#8, BitVec.ofInt 8 rate, BitVec.ofNat 8 t.size] ++ strB t ++ fourB start.toNat)).toNat
theorem labelB_cons (t : ByteArray) (rate start : Int) : labelB t rate start = 82#8 :: 69#8 :: 69#8 :: 76#8 :: 1#8 :: BitVec.ofInt 8 rate :: BitVec.ofNat 8 t.size :: (strB t ++ (fourB start.toNat ++ labelS t rate start)) := by
  simp [labelB, summedB, labelS, List.append_assoc]
section
variable (t : ByteArray) (rate start : Int) (r : List (BitVec 8))
theorem lab_5 : (labelB t rate start ++ r).getD 5 0 = BitVec.ofInt 8 rate := by rw [labelB_cons]; rfl
theorem lab_6 : (labelB t rate start ++ r).getD 6 0 = BitVec.ofNat 8 t.size := by rw [labelB_cons]; rfl
theorem lab_title : ((labelB t rate start ++ r).drop 7).take t.size = strB t := by
  rw [labelB_cons]
  simp only [List.cons_append, List.drop_succ_cons, List.drop_zero, List.append_assoc]
  exact List.take_left' (strB_length t)
theorem lab_rest : (labelB t rate start ++ r).drop (7 + t.size) = fourB start.toNat ++ (labelS t rate start ++ r) := by
  rw [labelB_cons, ← List.drop_drop]
  simp only [List.cons_append, List.drop_succ_cons, List.drop_zero, List.append_assoc]
  exact List.drop_left' (strB_length t)
theorem lab_whole : (labelB t rate start ++ r).take (t.size + 15) = labelB t rate start := List.take_left' (labelB_length t rate start)
end
end Go.Proofs.YtjmnomohmijbpaaDoor
