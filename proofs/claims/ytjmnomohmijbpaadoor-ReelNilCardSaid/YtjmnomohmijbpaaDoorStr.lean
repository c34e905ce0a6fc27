/- Bytes as strings; bytes.Equal. -/
import Derived.Test.YtjmnomohmijbpaaDoorJoin
import Derived.Test.YtjmnomohmijbpaaDoorShelf
import Derived.Laws.BytesArg
namespace Go.Proofs.YtjmnomohmijbpaaDoor
open Go.RowKit
/-- the string of some bytes -/
def txt (bs : List (BitVec 8)) : ByteArray := ⟨(u8l bs).toArray⟩
theorem txt_size (bs : List (BitVec 8)) : (txt bs).size = bs.length := by simp [txt, ByteArray.size, u8l_length]
theorem strB_txt (bs : List (BitVec 8)) : strB (txt bs) = bs := by
  simp only [strB, txt, u8l, List.map_map]
  exact List.map_id _
theorem txt_strB (t : ByteArray) : txt (strB t) = t := by
  cases t with | mk d =>
  simp only [strB, txt, u8l, List.map_map]
  have : (UInt8.ofBitVec ∘ fun x : UInt8 => x.toBitVec) = id := by funext x; rfl
  rw [this, List.map_id]
theorem txt_inj {a b : List (BitVec 8)} (h : txt a = txt b) : a = b := by rw [← strB_txt a, h, strB_txt]
theorem txt_nums (bs : List (BitVec 8)) : strOfNums (bs.map fun b => (b.toNat : Int)) = txt bs := by
  simp only [strOfNums, txt, u8l, List.map_map]
  congr 1
  congr 1
  apply List.map_congr_left
  intro b _
  simp only [Function.comp, Int.toNat_natCast]
  apply UInt8.toNat_inj.1
  have := b.isLt
  simp
theorem run_str {w : World} {B : Nat} {A : Option Addr} {n c : Nat} {bs : List (BitVec 8)} (h : RBytes w B A n bs) :
    (convert 44 9 (.slice A n c)).run Tryd.prog w = .ok (.string (txt bs)) w := by
  rcases Nat.eq_zero_or_pos n with h0 | h0
  · have hl := h.len
    rw [h0] at hl
    obtain rfl := List.eq_nil_of_length_eq_zero hl
    subst h0
    rw [run_convert_bytes_string w _ _ _ _ 0 c Tryd.underlying44 Tryd.underlying5 Tryd.underlying9]
    cases A with
    | none => simp [Conv.bytesToString]; rfl
    | some a => simp [Conv.bytesToString, loadCells, loadCellsFrom]; rfl
  · obtain ⟨b, o, rfl, _, hc⟩ := Reads.plain h h0 (by omega)
    rw [← txt_nums]
    refine run_convert_bytes_arg w _ _ Tryd.underlying44 Tryd.underlying5 b o n c _ (by rw [List.length_map]; exact h.len) (fun i hi => ?_) _ Tryd.underlying9
    have hl := h.len
    rw [hc i (u8v (bs.getD i 0)) (by rw [List.getElem?_map, List.getD_eq_getElem?_getD, List.getElem?_eq_getElem (by omega)]; rfl)]
    simp only [List.getD_eq_getElem?_getD, List.getElem?_map, List.getElem?_eq_getElem (show i < bs.length by omega)]
    rfl
theorem equal_any (xs ys : List (BitVec 8)) (A A' : Option Addr) (n n' c c' : Nat) (w : World) {B B' : Nat} (hx : RBytes w B A n xs) (hy : RBytes w B' A' n' ys) :
    Calls Tryd.prog 23 #[.slice A n c, .slice A' n' c'] w fun e w' => e = .returned (.bool (decide (xs = ys))) ∧ w' = w := by
  refine (Tryd.bytes_Equal_strs _ _ (txt xs) (txt ys) w (run_str hx) (run_str hy)).mono ?_
  rintro e w' ⟨rfl, rfl⟩
  refine ⟨?_, rfl⟩
  congr 2
  rw [Bool.eq_iff_iff, beq_iff_eq, decide_eq_true_iff]
  refine ⟨fun h => ?_, fun h => by rw [h]⟩
  simp only [Lib.toList_data, txt, List.toList_toArray] at h
  have : u8l xs = u8l ys := h
  have inj : ∀ a b : BitVec 8, UInt8.ofBitVec a = UInt8.ofBitVec b → a = b := fun a b h => by injection h
  exact List.map_inj_right (f := UInt8.ofBitVec) inj |>.1 this
end Go.Proofs.YtjmnomohmijbpaaDoor
