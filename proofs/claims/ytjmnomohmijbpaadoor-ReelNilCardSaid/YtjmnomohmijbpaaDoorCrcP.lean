/- CRC in plain Lean: the byte table by eight steps, the division byte by byte; the document's division bit by bit leaves the same. No program in sight. -/
import Derived.WalkKit
namespace Go.Proofs.YtjmnomohmijbpaaDoor
open Go.RowKit
namespace Crc
abbrev W := BitVec 32
def poly : W := 0x04c11db7#32
/-- one step: a coefficient more behind the rest -/
def one (v : W) : W := if v.msb then (v <<< 1) ^^^ poly else v <<< 1
def many : Nat → W → W
  | 0, v => v
  | n + 1, v => many n (one v)
theorem many_succ (n : Nat) (v : W) : many (n + 1) v = one (many n v) := by
  induction n generalizing v with
  | zero => rfl
  | succ n ih => show many (n + 1) (one v) = one (many n (one v)); exact ih (one v)
def tab (i : Nat) : W := many 8 (BitVec.ofNat 32 i <<< 24)
def byte (rest : W) (c : BitVec 8) : W := (rest <<< 8) ^^^ tab (((rest >>> 24).truncate 8 ^^^ c).toNat)
def divide (rest : W) (bs : List (BitVec 8)) : W := bs.foldl byte rest
def more (sum : W) (bs : List (BitVec 8)) : W := ~~~ divide (~~~ sum) bs
def sum (bs : List (BitVec 8)) : W := more 0 bs

theorem one_xor (a b : W) : one (a ^^^ b) = one a ^^^ one b := by
  unfold one
  rw [BitVec.msb_xor, BitVec.shiftLeft_xor_distrib]
  cases a.msb <;> cases b.msb <;> simp
  · rw [← BitVec.xor_assoc]
  · rw [BitVec.xor_assoc, BitVec.xor_assoc, BitVec.xor_comm poly]
  · rw [BitVec.xor_assoc, ← BitVec.xor_assoc poly, BitVec.xor_comm poly, BitVec.xor_assoc _ poly, BitVec.xor_self, BitVec.xor_zero]
theorem many_xor (n : Nat) (a b : W) : many n (a ^^^ b) = many n a ^^^ many n b := by
  induction n generalizing a b with
  | zero => rfl
  | succ n ih => show many n (one (a ^^^ b)) = _; rw [one_xor, ih]; rfl
theorem many_add (m n : Nat) (v : W) : many (m + n) v = many n (many m v) := by
  induction m generalizing v with
  | zero => rw [Nat.zero_add]; rfl
  | succ m ih => rw [Nat.succ_add]; show many (m + n) (one v) = many n (many m (one v)); exact ih (one v)

/-! the document's way: bit by bit -/
def bit (b : Bool) : W := if b then 1#32 else 0#32
def top (b : Bool) : W := if b then 0x80000000#32 else 0#32
def stp (r : W) (b : Bool) : W := one r ^^^ bit b
def fold (r : W) (l : List Bool) : W := l.foldl stp r
/-- the register's way: a bit is put to the highest -/
def reg (r : W) (b : Bool) : W := one (r ^^^ top b)
theorem bit_xor (a b : Bool) : bit (a ^^ b) = bit a ^^^ bit b := by cases a <;> cases b <;> rfl
theorem many_bit (b : Bool) : many 32 (bit b) = one (top b) := by cases b <;> decide +kernel
theorem many_zero (n : Nat) : many n 0#32 = 0#32 := by
  induction n with
  | zero => rfl
  | succ n ih => exact ih
theorem reg_many (r : W) (l : List Bool) : l.foldl reg (many 32 r) = many 32 (fold r l) := by
  induction l generalizing r with
  | nil => rfl
  | cons b l ih =>
    have h : reg (many 32 r) b = many 32 (stp r b) := by
      unfold reg stp
      rw [one_xor, many_xor, many_bit, ← many_succ]
      rfl
    show l.foldl reg (reg (many 32 r) b) = many 32 (fold (stp r b) l)
    rw [h]; exact ih _
theorem reg_lin (a b : W) (l : List Bool) : l.foldl reg (a ^^^ b) = l.foldl reg a ^^^ many l.length b := by
  induction l generalizing a b with
  | nil => rfl
  | cons c l ih =>
    have h : reg (a ^^^ b) c = reg a c ^^^ one b := by
      unfold reg; rw [BitVec.xor_assoc, BitVec.xor_comm b, ← BitVec.xor_assoc, one_xor]
    show l.foldl reg (reg (a ^^^ b) c) = l.foldl reg (reg a c) ^^^ many (l.length + 1) b
    rw [h]; exact ih _ _
/-- the register's way is the long division of the bits with 32 noughts behind, a state's bits put to it -/
theorem fold_append (r : W) (l m : List Bool) : fold r (l ++ m) = fold (fold r l) m := List.foldl_append ..
theorem fold_zeros (n : Nat) (r : W) : fold r (List.replicate n false) = many n r := by
  induction n generalizing r with
  | zero => rfl
  | succ n ih =>
    show fold (stp r false) (List.replicate n false) = many n (one r)
    have h : stp r false = one r := by simp [stp, bit]
    rw [h]; exact ih _
theorem fold_lin (a b : W) : ∀ (l m : List Bool), l.length = m.length → fold (a ^^^ b) (List.zipWith (· ^^ ·) l m) = fold a l ^^^ fold b m := by
  intro l
  induction l generalizing a b with
  | nil => intro m h; cases m with | nil => rfl | cons _ _ => cases h
  | cons x l ih =>
    intro m h
    cases m with
    | nil => cases h
    | cons y m =>
      have hs : stp (a ^^^ b) (x ^^ y) = stp a x ^^^ stp b y := by
        unfold stp
        rw [one_xor, bit_xor, BitVec.xor_assoc, BitVec.xor_assoc, ← BitVec.xor_assoc (one b), BitVec.xor_comm (one b), BitVec.xor_assoc (bit x)]
      show fold (stp (a ^^^ b) (x ^^ y)) (List.zipWith (· ^^ ·) l m) = fold (stp a x) l ^^^ fold (stp b y) m
      rw [hs]
      exact ih _ _ m (by simpa using h)
/-- the bits of a state, the highest first -/
def bitsOf (n : Nat) (v : Nat) : List Bool := (List.range n).map fun i => v.testBit (n - 1 - i)
theorem bitsOf_succ (n v : Nat) : bitsOf (n + 1) v = bitsOf n (v / 2) ++ [v.testBit 0] := by
  unfold bitsOf
  rw [List.range_succ, List.map_append]
  congr 1
  · apply List.map_congr_left
    intro i hi
    have hi' : i < n := by simpa using hi
    rw [show n + 1 - 1 - i = (n - 1 - i) + 1 by omega, Nat.testBit_succ]
  · simp
theorem bitsOf_length (n v : Nat) : (bitsOf n v).length = n := by simp [bitsOf]
theorem one_small (v : Nat) (h : v < 2147483648) (b : Bool) : stp (BitVec.ofNat 32 v) b = BitVec.ofNat 32 (2 * v + b.toNat) := by
  have hm : (BitVec.ofNat 32 v).msb = false := by rw [BitVec.msb_eq_decide]; simp; omega
  unfold stp one
  rw [hm]
  apply BitVec.eq_of_toNat_eq
  have he : (BitVec.ofNat 32 v <<< 1).toNat = 2 * v := by
    rw [BitVec.toNat_shiftLeft, BitVec.toNat_ofNat, Nat.shiftLeft_eq]; omega
  simp only [Bool.false_eq_true, if_false]
  rw [BitVec.toNat_xor, he, BitVec.toNat_ofNat]
  cases b
  · simp [bit]; omega
  · have hx : 2 * v ^^^ 1 = 2 * v + 1 := by
      apply Nat.eq_of_testBit_eq; intro i
      cases i with
      | zero => simp [Nat.testBit_zero]
      | succ i => rw [Nat.testBit_xor, Nat.testBit_succ, Nat.testBit_succ, Nat.testBit_succ]; simp; congr 1; omega
    simp [bit, hx]; omega
theorem fold_bitsOf (n v : Nat) (hn : n ≤ 32) (hv : v < 2 ^ n) : fold 0#32 (bitsOf n v) = BitVec.ofNat 32 v := by
  induction n generalizing v with
  | zero => obtain rfl : v = 0 := by omega
            rfl
  | succ n ih =>
    rw [bitsOf_succ, fold_append, ih (v / 2) (by omega) (by omega)]
    show stp _ _ = _
    have h31 : v / 2 < 2147483648 := by
      have : (2 : Nat) ^ (n + 1) ≤ 2 ^ 32 := Nat.pow_le_pow_right (by omega) hn
      omega
    rw [one_small _ h31]
    congr 1
    rw [Nat.testBit_zero]
    have := Nat.mod_two_eq_zero_or_one v
    rcases this with h | h <;> simp [h] <;> omega
/-- all of it: the bits, a state put to the first 32 -/
theorem long_is_reg (s : W) (M : List Bool) :
    fold 0#32 (List.zipWith (· ^^ ·) (M ++ List.replicate 32 false) (bitsOf 32 s.toNat ++ List.replicate M.length false)) = M.foldl reg s := by
  have h0 := fold_lin 0#32 0#32 (M ++ List.replicate 32 false) (bitsOf 32 s.toNat ++ List.replicate M.length false) (by simp [bitsOf_length]; omega)
  rw [BitVec.xor_self] at h0
  rw [h0, fold_append, fold_append, fold_zeros, fold_zeros, fold_bitsOf 32 s.toNat (by omega) s.isLt]
  have h1 := reg_many 0#32 M
  rw [many_zero] at h1
  have h2 := reg_lin 0#32 s M
  rw [BitVec.zero_xor] at h2
  rw [h2, h1]
  simp
theorem many_low (n : Nat) (v : W) (hn : n ≤ 32) (h : v.toNat < 2 ^ (32 - n)) : many n v = v <<< n := by
  induction n generalizing v with
  | zero => simp [many]
  | succ n ih =>
    have hp : (2 : Nat) ^ (32 - n) = 2 * 2 ^ (32 - (n + 1)) := by
      rw [show 32 - n = (32 - (n + 1)) + 1 by omega, Nat.pow_succ]; omega
    have hq : (2 : Nat) ^ (32 - (n + 1)) ≤ 2 ^ 31 := Nat.pow_le_pow_right (by omega) (by omega)
    have hm : v.msb = false := by rw [BitVec.msb_eq_decide]; simp; omega
    have ho : one v = v <<< 1 := by unfold one; rw [hm]; rfl
    have ht : (v <<< 1).toNat = 2 * v.toNat := by rw [BitVec.toNat_shiftLeft, Nat.shiftLeft_eq]; omega
    show many n (one v) = _
    rw [ho, ih _ (by omega) (by omega), ← BitVec.shiftLeft_add, Nat.add_comm]
theorem byte_top : ∀ c : BitVec 8, many 32 (BitVec.ofNat 32 c.toNat) = tab c.toNat := by decide +kernel
theorem tab_xor (a b : BitVec 8) : tab ((a ^^^ b).toNat) = tab a.toNat ^^^ tab b.toNat := by
  unfold tab
  rw [← many_xor, ← BitVec.shiftLeft_xor_distrib]
  congr 2
  apply BitVec.eq_of_toNat_eq
  rw [BitVec.toNat_xor, BitVec.toNat_ofNat, BitVec.toNat_xor, BitVec.toNat_ofNat, BitVec.toNat_ofNat]
  have ha := a.isLt; have hb := b.isLt
  have hx : a.toNat ^^^ b.toNat < 2 ^ 8 := Nat.xor_lt_two_pow ha hb
  rw [Nat.mod_eq_of_lt (by omega), Nat.mod_eq_of_lt (by omega), Nat.mod_eq_of_lt (by omega)]
theorem many8_rest (r : W) : many 8 r = (r <<< 8) ^^^ tab ((r >>> 24).truncate 8).toNat := by
  have hr : r = (r &&& 0xffffff#32) ^^^ ((r >>> 24) <<< 24) := by
    apply BitVec.eq_of_getLsbD_eq
    intro i hi
    have hff : (0xffffff#32).getLsbD i = decide (i < 24) := by
      have : ∀ i, i < 32 → (0xffffff#32).getLsbD i = decide (i < 24) := by decide
      exact this i hi
    simp only [BitVec.getLsbD_xor, BitVec.getLsbD_and, BitVec.getLsbD_shiftLeft, BitVec.getLsbD_ushiftRight, hff]
    by_cases h : i < 24
    · simp [h]
    · simp [h, hi]; congr 1; omega
  have hl : (r &&& 0xffffff#32).toNat < 2 ^ (32 - 8) := by
    rw [BitVec.toNat_and]; exact Nat.and_lt_two_pow _ (by decide)
  have hs : (r &&& 0xffffff#32) <<< 8 = r <<< 8 := by
    apply BitVec.eq_of_getLsbD_eq
    intro i hi
    have hff : ∀ i, i < 32 → (0xffffff#32).getLsbD i = decide (i < 24) := by decide
    simp only [BitVec.getLsbD_shiftLeft, BitVec.getLsbD_and]
    by_cases h : i < 8
    · simp [h]
    · rw [hff (i - 8) (by omega)]; simp [h, hi]; omega
  have ht : tab ((r >>> 24).truncate 8).toNat = many 8 ((r >>> 24) <<< 24) := by
    unfold tab
    congr 2
    apply BitVec.eq_of_toNat_eq
    simp only [BitVec.toNat_ofNat, BitVec.toNat_setWidth, BitVec.toNat_ushiftRight, Nat.shiftRight_eq_div_pow]
    have := r.isLt
    omega
  conv => lhs; rw [hr, many_xor, many_low 8 _ (by omega) hl, hs]
  rw [ht]
theorem byte_reg (r : W) (c : BitVec 8) : (bitsOf 8 c.toNat).foldl reg r = byte r c := by
  have h2 := reg_lin 0#32 r (bitsOf 8 c.toNat)
  have h1 := reg_many 0#32 (bitsOf 8 c.toNat)
  rw [many_zero, fold_bitsOf 8 c.toNat (by omega) c.isLt, byte_top] at h1
  rw [BitVec.zero_xor] at h2
  rw [h2, h1, bitsOf_length, many8_rest]
  unfold byte
  rw [tab_xor, BitVec.xor_comm, BitVec.xor_assoc]
/-- the bits of bytes -/
def stream (bs : List (BitVec 8)) : List Bool := bs.flatMap fun c => bitsOf 8 c.toNat
theorem stream_length (bs : List (BitVec 8)) : (stream bs).length = 8 * bs.length := by
  induction bs with
  | nil => rfl
  | cons c bs ih => show (bitsOf 8 c.toNat ++ stream bs).length = _; rw [List.length_append, bitsOf_length, ih]; simp; omega
theorem divide_reg (r : W) (bs : List (BitVec 8)) : (stream bs).foldl reg r = divide r bs := by
  induction bs generalizing r with
  | nil => rfl
  | cons c bs ih =>
    show (bitsOf 8 c.toNat ++ stream bs).foldl reg r = divide (byte r c) bs
    rw [List.foldl_append, byte_reg]; exact ih _
/-- the document's division leaves what the table's leaves -/
theorem long_divide (s : W) (bs : List (BitVec 8)) :
    fold 0#32 (List.zipWith (· ^^ ·) (stream bs ++ List.replicate 32 false) (bitsOf 32 s.toNat ++ List.replicate (8 * bs.length) false)) = divide s bs := by
  rw [← stream_length, long_is_reg, divide_reg]
theorem divide_snoc (r : W) (l : List (BitVec 8)) (c : BitVec 8) : divide r (l ++ [c]) = byte (divide r l) c := by
  unfold divide; rw [List.foldl_append]; rfl
/-- which row of the table a byte takes -/
def row (V : W) (c : BitVec 8) : Nat := ((V >>> 24).truncate 8 ^^^ c).toNat
theorem row_lt (V : W) (c : BitVec 8) : row V c < 256 := ((V >>> 24).truncate 8 ^^^ c).isLt
end Crc
end Go.Proofs.YtjmnomohmijbpaaDoor
