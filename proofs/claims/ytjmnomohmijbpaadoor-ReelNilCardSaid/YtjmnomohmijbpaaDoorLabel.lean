/- The bytes of a label: its statement draws its order; each operation is looked at once. (Printed by label_gen.py.) -/
import Derived.Test.YtjmnomohmijbpaaDoorForms
import Derived.Test.YtjmnomohmijbpaaDoorRegion
namespace Go.Proofs.YtjmnomohmijbpaaDoor
open Go.RowKit
/-- a label's bytes -/
def labelB (t : ByteArray) (rate start : Int) : List (BitVec 8) := summedB ([82#8, 69#8, 69#8, 76#8] ++ [1#8, BitVec.ofInt 8 rate, BitVec.ofNat 8 t.size] ++ strB t ++ fourB start.toNat)

structure LabF (w0 : World) (tL tB : TypeId) (B : Nat) (t : ByteArray) (rate start : Int) (D : Nat → Bool) (u2 u3 u4 u5 u6 u7 u8 u9 u10 u11 u12 u13 u14 u15 u16 u17 u18 u19 u20 : Value) (w : World) : Prop where
  below : Below w0.heap.size w0 w
  l0 : w.cell? ⟨B, 0, none⟩ = some (.string t)
  l1 : w.cell? ⟨B, 1, none⟩ = some (.int .i64 rate)
  l2 : w.cell? ⟨B, 2, none⟩ = some (.int .i64 start)
  f0 : D 0 = true → D 1 = false → ∃ g, u3 = .slice (some ⟨g, 0, none⟩) 4 4 ∧ w0.heap.size ≤ g ∧ Blk w g tB (bytesV [82#8, 69#8, 69#8, 76#8])
  f1 : D 1 = true → FreshB w0.heap.size w u4 [82#8, 69#8, 69#8, 76#8]
  f2 : D 2 = true → u5 = .pointer (some ⟨B, 1, none⟩)
  f3 : D 3 = true → u6 = .int .i64 rate
  f4 : D 4 = true → u7 = u8v (BitVec.ofInt 8 rate)
  f5 : D 5 = true → u8 = .pointer (some ⟨B, 0, none⟩)
  f6 : D 6 = true → u9 = .string t
  f7 : D 7 = true → u10 = .int .i64 t.size
  f8 : D 8 = true → u11 = u8v (BitVec.ofNat 8 t.size)
  f9 : D 9 = true → FreshB w0.heap.size w u12 [1#8, BitVec.ofInt 8 rate, BitVec.ofNat 8 t.size]
  f10 : D 10 = true → u13 = .pointer (some ⟨B, 0, none⟩)
  f11 : D 11 = true → u14 = .string t
  f12 : D 12 = true → ∃ A c, u15 = .slice A t.size c ∧ RBytes w w.heap.size A t.size (strB t)
  f13 : D 13 = true → u16 = .pointer (some ⟨B, 2, none⟩)
  f14 : D 14 = true → u17 = .int .i64 start
  f15 : D 15 = true → FreshB w0.heap.size w u18 (fourB start.toNat)
  f16 : D 16 = true → ∃ b, u19 = .slice (some ⟨b, 0, none⟩) 4 4 ∧ ∃ vs, Parts w b vs [[82#8, 69#8, 69#8, 76#8], [1#8, BitVec.ofInt 8 rate, BitVec.ofNat 8 t.size], strB t, fourB start.toNat]
  f17 : D 17 = true → FreshB w0.heap.size w u20 (labelB t rate start)
  f18 : D 18 = true → FreshB w0.heap.size w u2 (labelB t rate start)
theorem LabF.mono {w0 : World} {tL tB : TypeId} {B : Nat} {t : ByteArray} {rate start : Int} {D : Nat → Bool} {u2 u3 u4 u5 u6 u7 u8 u9 u10 u11 u12 u13 u14 u15 u16 u17 u18 u19 u20 : Value} {w w' : World} (F : LabF w0 tL tB B t rate start D u2 u3 u4 u5 u6 u7 u8 u9 u10 u11 u12 u13 u14 u15 u16 u17 u18 u19 u20 w) (hb : Later w w') (hbelow : Below w0.heap.size w0 w') (h0 : D 1 = false → D 0 = true → ∃ g, u3 = .slice (some ⟨g, 0, none⟩) 4 4 ∧ w0.heap.size ≤ g ∧ Blk w' g tB (bytesV [82#8, 69#8, 69#8, 76#8])) : LabF w0 tL tB B t rate start D u2 u3 u4 u5 u6 u7 u8 u9 u10 u11 u12 u13 u14 u15 u16 u17 u18 u19 u20 w' :=
  { below := hbelow,
    l0 := hb.get F.l0,
    l1 := hb.get F.l1,
    l2 := hb.get F.l2,
    f0 := fun h => fun h1 => h0 h1 h,
    f1 := fun h => (F.f1 h).later hb,
    f2 := fun h => (F.f2 h),
    f3 := fun h => (F.f3 h),
    f4 := fun h => (F.f4 h),
    f5 := fun h => (F.f5 h),
    f6 := fun h => (F.f6 h),
    f7 := fun h => (F.f7 h),
    f8 := fun h => (F.f8 h),
    f9 := fun h => (F.f9 h).later hb,
    f10 := fun h => (F.f10 h),
    f11 := fun h => (F.f11 h),
    f12 := fun h => (F.f12 h).elim fun A h => h.elim fun c h => ⟨A, c, h.1, h.2.later hb⟩,
    f13 := fun h => (F.f13 h),
    f14 := fun h => (F.f14 h),
    f15 := fun h => (F.f15 h).later hb,
    f16 := fun h => (F.f16 h).elim fun b h => ⟨b, h.1, h.2.elim fun vs h => ⟨vs, h.later hb⟩⟩,
    f17 := fun h => (F.f17 h).later hb,
    f18 := fun h => (F.f18 h).later hb }
theorem LabF.set0 {w0 : World} {tL tB : TypeId} {B : Nat} {t : ByteArray} {rate start : Int} {D : Nat → Bool} {u2 u3 u4 u5 u6 u7 u8 u9 u10 u11 u12 u13 u14 u15 u16 u17 u18 u19 u20 v : Value} {w : World} (F : LabF w0 tL tB B t rate start D u2 u3 u4 u5 u6 u7 u8 u9 u10 u11 u12 u13 u14 u15 u16 u17 u18 u19 u20 w) (hn : D 1 = false → ∃ g, v = .slice (some ⟨g, 0, none⟩) 4 4 ∧ w0.heap.size ≤ g ∧ Blk w g tB (bytesV [82#8, 69#8, 69#8, 76#8])) : LabF w0 tL tB B t rate start (fun j => D j || j == 0) u2 v u4 u5 u6 u7 u8 u9 u10 u11 u12 u13 u14 u15 u16 u17 u18 u19 u20 w :=
  { below := F.below,
    l0 := F.l0,
    l1 := F.l1,
    l2 := F.l2,
    f0 := fun _ => fun h1 => hn (by simpa using h1),
    f1 := fun h => F.f1 (by simpa using h),
    f2 := fun h => F.f2 (by simpa using h),
    f3 := fun h => F.f3 (by simpa using h),
    f4 := fun h => F.f4 (by simpa using h),
    f5 := fun h => F.f5 (by simpa using h),
    f6 := fun h => F.f6 (by simpa using h),
    f7 := fun h => F.f7 (by simpa using h),
    f8 := fun h => F.f8 (by simpa using h),
    f9 := fun h => F.f9 (by simpa using h),
    f10 := fun h => F.f10 (by simpa using h),
    f11 := fun h => F.f11 (by simpa using h),
    f12 := fun h => F.f12 (by simpa using h),
    f13 := fun h => F.f13 (by simpa using h),
    f14 := fun h => F.f14 (by simpa using h),
    f15 := fun h => F.f15 (by simpa using h),
    f16 := fun h => F.f16 (by simpa using h),
    f17 := fun h => F.f17 (by simpa using h),
    f18 := fun h => F.f18 (by simpa using h) }
theorem LabF.set1 {w0 : World} {tL tB : TypeId} {B : Nat} {t : ByteArray} {rate start : Int} {D : Nat → Bool} {u2 u3 u4 u5 u6 u7 u8 u9 u10 u11 u12 u13 u14 u15 u16 u17 u18 u19 u20 v : Value} {w : World} (F : LabF w0 tL tB B t rate start D u2 u3 u4 u5 u6 u7 u8 u9 u10 u11 u12 u13 u14 u15 u16 u17 u18 u19 u20 w) (hn : FreshB w0.heap.size w v [82#8, 69#8, 69#8, 76#8]) : LabF w0 tL tB B t rate start (fun j => D j || j == 1) u2 u3 v u5 u6 u7 u8 u9 u10 u11 u12 u13 u14 u15 u16 u17 u18 u19 u20 w :=
  { below := F.below,
    l0 := F.l0,
    l1 := F.l1,
    l2 := F.l2,
    f0 := fun h => fun h1 => by simp at h1,
    f1 := fun _ => hn,
    f2 := fun h => F.f2 (by simpa using h),
    f3 := fun h => F.f3 (by simpa using h),
    f4 := fun h => F.f4 (by simpa using h),
    f5 := fun h => F.f5 (by simpa using h),
    f6 := fun h => F.f6 (by simpa using h),
    f7 := fun h => F.f7 (by simpa using h),
    f8 := fun h => F.f8 (by simpa using h),
    f9 := fun h => F.f9 (by simpa using h),
    f10 := fun h => F.f10 (by simpa using h),
    f11 := fun h => F.f11 (by simpa using h),
    f12 := fun h => F.f12 (by simpa using h),
    f13 := fun h => F.f13 (by simpa using h),
    f14 := fun h => F.f14 (by simpa using h),
    f15 := fun h => F.f15 (by simpa using h),
    f16 := fun h => F.f16 (by simpa using h),
    f17 := fun h => F.f17 (by simpa using h),
    f18 := fun h => F.f18 (by simpa using h) }
theorem LabF.set2 {w0 : World} {tL tB : TypeId} {B : Nat} {t : ByteArray} {rate start : Int} {D : Nat → Bool} {u2 u3 u4 u5 u6 u7 u8 u9 u10 u11 u12 u13 u14 u15 u16 u17 u18 u19 u20 v : Value} {w : World} (F : LabF w0 tL tB B t rate start D u2 u3 u4 u5 u6 u7 u8 u9 u10 u11 u12 u13 u14 u15 u16 u17 u18 u19 u20 w) (hn : v = .pointer (some ⟨B, 1, none⟩)) : LabF w0 tL tB B t rate start (fun j => D j || j == 2) u2 u3 u4 v u6 u7 u8 u9 u10 u11 u12 u13 u14 u15 u16 u17 u18 u19 u20 w :=
  { below := F.below,
    l0 := F.l0,
    l1 := F.l1,
    l2 := F.l2,
    f0 := fun h => fun h1 => F.f0 (by simpa using h) (by simpa using h1),
    f1 := fun h => F.f1 (by simpa using h),
    f2 := fun _ => hn,
    f3 := fun h => F.f3 (by simpa using h),
    f4 := fun h => F.f4 (by simpa using h),
    f5 := fun h => F.f5 (by simpa using h),
    f6 := fun h => F.f6 (by simpa using h),
    f7 := fun h => F.f7 (by simpa using h),
    f8 := fun h => F.f8 (by simpa using h),
    f9 := fun h => F.f9 (by simpa using h),
    f10 := fun h => F.f10 (by simpa using h),
    f11 := fun h => F.f11 (by simpa using h),
    f12 := fun h => F.f12 (by simpa using h),
    f13 := fun h => F.f13 (by simpa using h),
    f14 := fun h => F.f14 (by simpa using h),
    f15 := fun h => F.f15 (by simpa using h),
    f16 := fun h => F.f16 (by simpa using h),
    f17 := fun h => F.f17 (by simpa using h),
    f18 := fun h => F.f18 (by simpa using h) }
theorem LabF.set3 {w0 : World} {tL tB : TypeId} {B : Nat} {t : ByteArray} {rate start : Int} {D : Nat → Bool} {u2 u3 u4 u5 u6 u7 u8 u9 u10 u11 u12 u13 u14 u15 u16 u17 u18 u19 u20 v : Value} {w : World} (F : LabF w0 tL tB B t rate start D u2 u3 u4 u5 u6 u7 u8 u9 u10 u11 u12 u13 u14 u15 u16 u17 u18 u19 u20 w) (hn : v = .int .i64 rate) : LabF w0 tL tB B t rate start (fun j => D j || j == 3) u2 u3 u4 u5 v u7 u8 u9 u10 u11 u12 u13 u14 u15 u16 u17 u18 u19 u20 w :=
  { below := F.below,
    l0 := F.l0,
    l1 := F.l1,
    l2 := F.l2,
    f0 := fun h => fun h1 => F.f0 (by simpa using h) (by simpa using h1),
    f1 := fun h => F.f1 (by simpa using h),
    f2 := fun h => F.f2 (by simpa using h),
    f3 := fun _ => hn,
    f4 := fun h => F.f4 (by simpa using h),
    f5 := fun h => F.f5 (by simpa using h),
    f6 := fun h => F.f6 (by simpa using h),
    f7 := fun h => F.f7 (by simpa using h),
    f8 := fun h => F.f8 (by simpa using h),
    f9 := fun h => F.f9 (by simpa using h),
    f10 := fun h => F.f10 (by simpa using h),
    f11 := fun h => F.f11 (by simpa using h),
    f12 := fun h => F.f12 (by simpa using h),
    f13 := fun h => F.f13 (by simpa using h),
    f14 := fun h => F.f14 (by simpa using h),
    f15 := fun h => F.f15 (by simpa using h),
    f16 := fun h => F.f16 (by simpa using h),
    f17 := fun h => F.f17 (by simpa using h),
    f18 := fun h => F.f18 (by simpa using h) }
theorem LabF.set4 {w0 : World} {tL tB : TypeId} {B : Nat} {t : ByteArray} {rate start : Int} {D : Nat → Bool} {u2 u3 u4 u5 u6 u7 u8 u9 u10 u11 u12 u13 u14 u15 u16 u17 u18 u19 u20 v : Value} {w : World} (F : LabF w0 tL tB B t rate start D u2 u3 u4 u5 u6 u7 u8 u9 u10 u11 u12 u13 u14 u15 u16 u17 u18 u19 u20 w) (hn : v = u8v (BitVec.ofInt 8 rate)) : LabF w0 tL tB B t rate start (fun j => D j || j == 4) u2 u3 u4 u5 u6 v u8 u9 u10 u11 u12 u13 u14 u15 u16 u17 u18 u19 u20 w :=
  { below := F.below,
    l0 := F.l0,
    l1 := F.l1,
    l2 := F.l2,
    f0 := fun h => fun h1 => F.f0 (by simpa using h) (by simpa using h1),
    f1 := fun h => F.f1 (by simpa using h),
    f2 := fun h => F.f2 (by simpa using h),
    f3 := fun h => F.f3 (by simpa using h),
    f4 := fun _ => hn,
    f5 := fun h => F.f5 (by simpa using h),
    f6 := fun h => F.f6 (by simpa using h),
    f7 := fun h => F.f7 (by simpa using h),
    f8 := fun h => F.f8 (by simpa using h),
    f9 := fun h => F.f9 (by simpa using h),
    f10 := fun h => F.f10 (by simpa using h),
    f11 := fun h => F.f11 (by simpa using h),
    f12 := fun h => F.f12 (by simpa using h),
    f13 := fun h => F.f13 (by simpa using h),
    f14 := fun h => F.f14 (by simpa using h),
    f15 := fun h => F.f15 (by simpa using h),
    f16 := fun h => F.f16 (by simpa using h),
    f17 := fun h => F.f17 (by simpa using h),
    f18 := fun h => F.f18 (by simpa using h) }
theorem LabF.set5 {w0 : World} {tL tB : TypeId} {B : Nat} {t : ByteArray} {rate start : Int} {D : Nat → Bool} {u2 u3 u4 u5 u6 u7 u8 u9 u10 u11 u12 u13 u14 u15 u16 u17 u18 u19 u20 v : Value} {w : World} (F : LabF w0 tL tB B t rate start D u2 u3 u4 u5 u6 u7 u8 u9 u10 u11 u12 u13 u14 u15 u16 u17 u18 u19 u20 w) (hn : v = .pointer (some ⟨B, 0, none⟩)) : LabF w0 tL tB B t rate start (fun j => D j || j == 5) u2 u3 u4 u5 u6 u7 v u9 u10 u11 u12 u13 u14 u15 u16 u17 u18 u19 u20 w :=
  { below := F.below,
    l0 := F.l0,
    l1 := F.l1,
    l2 := F.l2,
    f0 := fun h => fun h1 => F.f0 (by simpa using h) (by simpa using h1),
    f1 := fun h => F.f1 (by simpa using h),
    f2 := fun h => F.f2 (by simpa using h),
    f3 := fun h => F.f3 (by simpa using h),
    f4 := fun h => F.f4 (by simpa using h),
    f5 := fun _ => hn,
    f6 := fun h => F.f6 (by simpa using h),
    f7 := fun h => F.f7 (by simpa using h),
    f8 := fun h => F.f8 (by simpa using h),
    f9 := fun h => F.f9 (by simpa using h),
    f10 := fun h => F.f10 (by simpa using h),
    f11 := fun h => F.f11 (by simpa using h),
    f12 := fun h => F.f12 (by simpa using h),
    f13 := fun h => F.f13 (by simpa using h),
    f14 := fun h => F.f14 (by simpa using h),
    f15 := fun h => F.f15 (by simpa using h),
    f16 := fun h => F.f16 (by simpa using h),
    f17 := fun h => F.f17 (by simpa using h),
    f18 := fun h => F.f18 (by simpa using h) }
theorem LabF.set6 {w0 : World} {tL tB : TypeId} {B : Nat} {t : ByteArray} {rate start : Int} {D : Nat → Bool} {u2 u3 u4 u5 u6 u7 u8 u9 u10 u11 u12 u13 u14 u15 u16 u17 u18 u19 u20 v : Value} {w : World} (F : LabF w0 tL tB B t rate start D u2 u3 u4 u5 u6 u7 u8 u9 u10 u11 u12 u13 u14 u15 u16 u17 u18 u19 u20 w) (hn : v = .string t) : LabF w0 tL tB B t rate start (fun j => D j || j == 6) u2 u3 u4 u5 u6 u7 u8 v u10 u11 u12 u13 u14 u15 u16 u17 u18 u19 u20 w :=
  { below := F.below,
    l0 := F.l0,
    l1 := F.l1,
    l2 := F.l2,
    f0 := fun h => fun h1 => F.f0 (by simpa using h) (by simpa using h1),
    f1 := fun h => F.f1 (by simpa using h),
    f2 := fun h => F.f2 (by simpa using h),
    f3 := fun h => F.f3 (by simpa using h),
    f4 := fun h => F.f4 (by simpa using h),
    f5 := fun h => F.f5 (by simpa using h),
    f6 := fun _ => hn,
    f7 := fun h => F.f7 (by simpa using h),
    f8 := fun h => F.f8 (by simpa using h),
    f9 := fun h => F.f9 (by simpa using h),
    f10 := fun h => F.f10 (by simpa using h),
    f11 := fun h => F.f11 (by simpa using h),
    f12 := fun h => F.f12 (by simpa using h),
    f13 := fun h => F.f13 (by simpa using h),
    f14 := fun h => F.f14 (by simpa using h),
    f15 := fun h => F.f15 (by simpa using h),
    f16 := fun h => F.f16 (by simpa using h),
    f17 := fun h => F.f17 (by simpa using h),
    f18 := fun h => F.f18 (by simpa using h) }
theorem LabF.set7 {w0 : World} {tL tB : TypeId} {B : Nat} {t : ByteArray} {rate start : Int} {D : Nat → Bool} {u2 u3 u4 u5 u6 u7 u8 u9 u10 u11 u12 u13 u14 u15 u16 u17 u18 u19 u20 v : Value} {w : World} (F : LabF w0 tL tB B t rate start D u2 u3 u4 u5 u6 u7 u8 u9 u10 u11 u12 u13 u14 u15 u16 u17 u18 u19 u20 w) (hn : v = .int .i64 t.size) : LabF w0 tL tB B t rate start (fun j => D j || j == 7) u2 u3 u4 u5 u6 u7 u8 u9 v u11 u12 u13 u14 u15 u16 u17 u18 u19 u20 w :=
  { below := F.below,
    l0 := F.l0,
    l1 := F.l1,
    l2 := F.l2,
    f0 := fun h => fun h1 => F.f0 (by simpa using h) (by simpa using h1),
    f1 := fun h => F.f1 (by simpa using h),
    f2 := fun h => F.f2 (by simpa using h),
    f3 := fun h => F.f3 (by simpa using h),
    f4 := fun h => F.f4 (by simpa using h),
    f5 := fun h => F.f5 (by simpa using h),
    f6 := fun h => F.f6 (by simpa using h),
    f7 := fun _ => hn,
    f8 := fun h => F.f8 (by simpa using h),
    f9 := fun h => F.f9 (by simpa using h),
    f10 := fun h => F.f10 (by simpa using h),
    f11 := fun h => F.f11 (by simpa using h),
    f12 := fun h => F.f12 (by simpa using h),
    f13 := fun h => F.f13 (by simpa using h),
    f14 := fun h => F.f14 (by simpa using h),
    f15 := fun h => F.f15 (by simpa using h),
    f16 := fun h => F.f16 (by simpa using h),
    f17 := fun h => F.f17 (by simpa using h),
    f18 := fun h => F.f18 (by simpa using h) }
theorem LabF.set8 {w0 : World} {tL tB : TypeId} {B : Nat} {t : ByteArray} {rate start : Int} {D : Nat → Bool} {u2 u3 u4 u5 u6 u7 u8 u9 u10 u11 u12 u13 u14 u15 u16 u17 u18 u19 u20 v : Value} {w : World} (F : LabF w0 tL tB B t rate start D u2 u3 u4 u5 u6 u7 u8 u9 u10 u11 u12 u13 u14 u15 u16 u17 u18 u19 u20 w) (hn : v = u8v (BitVec.ofNat 8 t.size)) : LabF w0 tL tB B t rate start (fun j => D j || j == 8) u2 u3 u4 u5 u6 u7 u8 u9 u10 v u12 u13 u14 u15 u16 u17 u18 u19 u20 w :=
  { below := F.below,
    l0 := F.l0,
    l1 := F.l1,
    l2 := F.l2,
    f0 := fun h => fun h1 => F.f0 (by simpa using h) (by simpa using h1),
    f1 := fun h => F.f1 (by simpa using h),
    f2 := fun h => F.f2 (by simpa using h),
    f3 := fun h => F.f3 (by simpa using h),
    f4 := fun h => F.f4 (by simpa using h),
    f5 := fun h => F.f5 (by simpa using h),
    f6 := fun h => F.f6 (by simpa using h),
    f7 := fun h => F.f7 (by simpa using h),
    f8 := fun _ => hn,
    f9 := fun h => F.f9 (by simpa using h),
    f10 := fun h => F.f10 (by simpa using h),
    f11 := fun h => F.f11 (by simpa using h),
    f12 := fun h => F.f12 (by simpa using h),
    f13 := fun h => F.f13 (by simpa using h),
    f14 := fun h => F.f14 (by simpa using h),
    f15 := fun h => F.f15 (by simpa using h),
    f16 := fun h => F.f16 (by simpa using h),
    f17 := fun h => F.f17 (by simpa using h),
    f18 := fun h => F.f18 (by simpa using h) }
theorem LabF.set9 {w0 : World} {tL tB : TypeId} {B : Nat} {t : ByteArray} {rate start : Int} {D : Nat → Bool} {u2 u3 u4 u5 u6 u7 u8 u9 u10 u11 u12 u13 u14 u15 u16 u17 u18 u19 u20 v : Value} {w : World} (F : LabF w0 tL tB B t rate start D u2 u3 u4 u5 u6 u7 u8 u9 u10 u11 u12 u13 u14 u15 u16 u17 u18 u19 u20 w) (hn : FreshB w0.heap.size w v [1#8, BitVec.ofInt 8 rate, BitVec.ofNat 8 t.size]) : LabF w0 tL tB B t rate start (fun j => D j || j == 9) u2 u3 u4 u5 u6 u7 u8 u9 u10 u11 v u13 u14 u15 u16 u17 u18 u19 u20 w :=
  { below := F.below,
    l0 := F.l0,
    l1 := F.l1,
    l2 := F.l2,
    f0 := fun h => fun h1 => F.f0 (by simpa using h) (by simpa using h1),
    f1 := fun h => F.f1 (by simpa using h),
    f2 := fun h => F.f2 (by simpa using h),
    f3 := fun h => F.f3 (by simpa using h),
    f4 := fun h => F.f4 (by simpa using h),
    f5 := fun h => F.f5 (by simpa using h),
    f6 := fun h => F.f6 (by simpa using h),
    f7 := fun h => F.f7 (by simpa using h),
    f8 := fun h => F.f8 (by simpa using h),
    f9 := fun _ => hn,
    f10 := fun h => F.f10 (by simpa using h),
    f11 := fun h => F.f11 (by simpa using h),
    f12 := fun h => F.f12 (by simpa using h),
    f13 := fun h => F.f13 (by simpa using h),
    f14 := fun h => F.f14 (by simpa using h),
    f15 := fun h => F.f15 (by simpa using h),
    f16 := fun h => F.f16 (by simpa using h),
    f17 := fun h => F.f17 (by simpa using h),
    f18 := fun h => F.f18 (by simpa using h) }
theorem LabF.set10 {w0 : World} {tL tB : TypeId} {B : Nat} {t : ByteArray} {rate start : Int} {D : Nat → Bool} {u2 u3 u4 u5 u6 u7 u8 u9 u10 u11 u12 u13 u14 u15 u16 u17 u18 u19 u20 v : Value} {w : World} (F : LabF w0 tL tB B t rate start D u2 u3 u4 u5 u6 u7 u8 u9 u10 u11 u12 u13 u14 u15 u16 u17 u18 u19 u20 w) (hn : v = .pointer (some ⟨B, 0, none⟩)) : LabF w0 tL tB B t rate start (fun j => D j || j == 10) u2 u3 u4 u5 u6 u7 u8 u9 u10 u11 u12 v u14 u15 u16 u17 u18 u19 u20 w :=
  { below := F.below,
    l0 := F.l0,
    l1 := F.l1,
    l2 := F.l2,
    f0 := fun h => fun h1 => F.f0 (by simpa using h) (by simpa using h1),
    f1 := fun h => F.f1 (by simpa using h),
    f2 := fun h => F.f2 (by simpa using h),
    f3 := fun h => F.f3 (by simpa using h),
    f4 := fun h => F.f4 (by simpa using h),
    f5 := fun h => F.f5 (by simpa using h),
    f6 := fun h => F.f6 (by simpa using h),
    f7 := fun h => F.f7 (by simpa using h),
    f8 := fun h => F.f8 (by simpa using h),
    f9 := fun h => F.f9 (by simpa using h),
    f10 := fun _ => hn,
    f11 := fun h => F.f11 (by simpa using h),
    f12 := fun h => F.f12 (by simpa using h),
    f13 := fun h => F.f13 (by simpa using h),
    f14 := fun h => F.f14 (by simpa using h),
    f15 := fun h => F.f15 (by simpa using h),
    f16 := fun h => F.f16 (by simpa using h),
    f17 := fun h => F.f17 (by simpa using h),
    f18 := fun h => F.f18 (by simpa using h) }
theorem LabF.set11 {w0 : World} {tL tB : TypeId} {B : Nat} {t : ByteArray} {rate start : Int} {D : Nat → Bool} {u2 u3 u4 u5 u6 u7 u8 u9 u10 u11 u12 u13 u14 u15 u16 u17 u18 u19 u20 v : Value} {w : World} (F : LabF w0 tL tB B t rate start D u2 u3 u4 u5 u6 u7 u8 u9 u10 u11 u12 u13 u14 u15 u16 u17 u18 u19 u20 w) (hn : v = .string t) : LabF w0 tL tB B t rate start (fun j => D j || j == 11) u2 u3 u4 u5 u6 u7 u8 u9 u10 u11 u12 u13 v u15 u16 u17 u18 u19 u20 w :=
  { below := F.below,
    l0 := F.l0,
    l1 := F.l1,
    l2 := F.l2,
    f0 := fun h => fun h1 => F.f0 (by simpa using h) (by simpa using h1),
    f1 := fun h => F.f1 (by simpa using h),
    f2 := fun h => F.f2 (by simpa using h),
    f3 := fun h => F.f3 (by simpa using h),
    f4 := fun h => F.f4 (by simpa using h),
    f5 := fun h => F.f5 (by simpa using h),
    f6 := fun h => F.f6 (by simpa using h),
    f7 := fun h => F.f7 (by simpa using h),
    f8 := fun h => F.f8 (by simpa using h),
    f9 := fun h => F.f9 (by simpa using h),
    f10 := fun h => F.f10 (by simpa using h),
    f11 := fun _ => hn,
    f12 := fun h => F.f12 (by simpa using h),
    f13 := fun h => F.f13 (by simpa using h),
    f14 := fun h => F.f14 (by simpa using h),
    f15 := fun h => F.f15 (by simpa using h),
    f16 := fun h => F.f16 (by simpa using h),
    f17 := fun h => F.f17 (by simpa using h),
    f18 := fun h => F.f18 (by simpa using h) }
theorem LabF.set12 {w0 : World} {tL tB : TypeId} {B : Nat} {t : ByteArray} {rate start : Int} {D : Nat → Bool} {u2 u3 u4 u5 u6 u7 u8 u9 u10 u11 u12 u13 u14 u15 u16 u17 u18 u19 u20 v : Value} {w : World} (F : LabF w0 tL tB B t rate start D u2 u3 u4 u5 u6 u7 u8 u9 u10 u11 u12 u13 u14 u15 u16 u17 u18 u19 u20 w) (hn : ∃ A c, v = .slice A t.size c ∧ RBytes w w.heap.size A t.size (strB t)) : LabF w0 tL tB B t rate start (fun j => D j || j == 12) u2 u3 u4 u5 u6 u7 u8 u9 u10 u11 u12 u13 u14 v u16 u17 u18 u19 u20 w :=
  { below := F.below,
    l0 := F.l0,
    l1 := F.l1,
    l2 := F.l2,
    f0 := fun h => fun h1 => F.f0 (by simpa using h) (by simpa using h1),
    f1 := fun h => F.f1 (by simpa using h),
    f2 := fun h => F.f2 (by simpa using h),
    f3 := fun h => F.f3 (by simpa using h),
    f4 := fun h => F.f4 (by simpa using h),
    f5 := fun h => F.f5 (by simpa using h),
    f6 := fun h => F.f6 (by simpa using h),
    f7 := fun h => F.f7 (by simpa using h),
    f8 := fun h => F.f8 (by simpa using h),
    f9 := fun h => F.f9 (by simpa using h),
    f10 := fun h => F.f10 (by simpa using h),
    f11 := fun h => F.f11 (by simpa using h),
    f12 := fun _ => hn,
    f13 := fun h => F.f13 (by simpa using h),
    f14 := fun h => F.f14 (by simpa using h),
    f15 := fun h => F.f15 (by simpa using h),
    f16 := fun h => F.f16 (by simpa using h),
    f17 := fun h => F.f17 (by simpa using h),
    f18 := fun h => F.f18 (by simpa using h) }
theorem LabF.set13 {w0 : World} {tL tB : TypeId} {B : Nat} {t : ByteArray} {rate start : Int} {D : Nat → Bool} {u2 u3 u4 u5 u6 u7 u8 u9 u10 u11 u12 u13 u14 u15 u16 u17 u18 u19 u20 v : Value} {w : World} (F : LabF w0 tL tB B t rate start D u2 u3 u4 u5 u6 u7 u8 u9 u10 u11 u12 u13 u14 u15 u16 u17 u18 u19 u20 w) (hn : v = .pointer (some ⟨B, 2, none⟩)) : LabF w0 tL tB B t rate start (fun j => D j || j == 13) u2 u3 u4 u5 u6 u7 u8 u9 u10 u11 u12 u13 u14 u15 v u17 u18 u19 u20 w :=
  { below := F.below,
    l0 := F.l0,
    l1 := F.l1,
    l2 := F.l2,
    f0 := fun h => fun h1 => F.f0 (by simpa using h) (by simpa using h1),
    f1 := fun h => F.f1 (by simpa using h),
    f2 := fun h => F.f2 (by simpa using h),
    f3 := fun h => F.f3 (by simpa using h),
    f4 := fun h => F.f4 (by simpa using h),
    f5 := fun h => F.f5 (by simpa using h),
    f6 := fun h => F.f6 (by simpa using h),
    f7 := fun h => F.f7 (by simpa using h),
    f8 := fun h => F.f8 (by simpa using h),
    f9 := fun h => F.f9 (by simpa using h),
    f10 := fun h => F.f10 (by simpa using h),
    f11 := fun h => F.f11 (by simpa using h),
    f12 := fun h => F.f12 (by simpa using h),
    f13 := fun _ => hn,
    f14 := fun h => F.f14 (by simpa using h),
    f15 := fun h => F.f15 (by simpa using h),
    f16 := fun h => F.f16 (by simpa using h),
    f17 := fun h => F.f17 (by simpa using h),
    f18 := fun h => F.f18 (by simpa using h) }
theorem LabF.set14 {w0 : World} {tL tB : TypeId} {B : Nat} {t : ByteArray} {rate start : Int} {D : Nat → Bool} {u2 u3 u4 u5 u6 u7 u8 u9 u10 u11 u12 u13 u14 u15 u16 u17 u18 u19 u20 v : Value} {w : World} (F : LabF w0 tL tB B t rate start D u2 u3 u4 u5 u6 u7 u8 u9 u10 u11 u12 u13 u14 u15 u16 u17 u18 u19 u20 w) (hn : v = .int .i64 start) : LabF w0 tL tB B t rate start (fun j => D j || j == 14) u2 u3 u4 u5 u6 u7 u8 u9 u10 u11 u12 u13 u14 u15 u16 v u18 u19 u20 w :=
  { below := F.below,
    l0 := F.l0,
    l1 := F.l1,
    l2 := F.l2,
    f0 := fun h => fun h1 => F.f0 (by simpa using h) (by simpa using h1),
    f1 := fun h => F.f1 (by simpa using h),
    f2 := fun h => F.f2 (by simpa using h),
    f3 := fun h => F.f3 (by simpa using h),
    f4 := fun h => F.f4 (by simpa using h),
    f5 := fun h => F.f5 (by simpa using h),
    f6 := fun h => F.f6 (by simpa using h),
    f7 := fun h => F.f7 (by simpa using h),
    f8 := fun h => F.f8 (by simpa using h),
    f9 := fun h => F.f9 (by simpa using h),
    f10 := fun h => F.f10 (by simpa using h),
    f11 := fun h => F.f11 (by simpa using h),
    f12 := fun h => F.f12 (by simpa using h),
    f13 := fun h => F.f13 (by simpa using h),
    f14 := fun _ => hn,
    f15 := fun h => F.f15 (by simpa using h),
    f16 := fun h => F.f16 (by simpa using h),
    f17 := fun h => F.f17 (by simpa using h),
    f18 := fun h => F.f18 (by simpa using h) }
theorem LabF.set15 {w0 : World} {tL tB : TypeId} {B : Nat} {t : ByteArray} {rate start : Int} {D : Nat → Bool} {u2 u3 u4 u5 u6 u7 u8 u9 u10 u11 u12 u13 u14 u15 u16 u17 u18 u19 u20 v : Value} {w : World} (F : LabF w0 tL tB B t rate start D u2 u3 u4 u5 u6 u7 u8 u9 u10 u11 u12 u13 u14 u15 u16 u17 u18 u19 u20 w) (hn : FreshB w0.heap.size w v (fourB start.toNat)) : LabF w0 tL tB B t rate start (fun j => D j || j == 15) u2 u3 u4 u5 u6 u7 u8 u9 u10 u11 u12 u13 u14 u15 u16 u17 v u19 u20 w :=
  { below := F.below,
    l0 := F.l0,
    l1 := F.l1,
    l2 := F.l2,
    f0 := fun h => fun h1 => F.f0 (by simpa using h) (by simpa using h1),
    f1 := fun h => F.f1 (by simpa using h),
    f2 := fun h => F.f2 (by simpa using h),
    f3 := fun h => F.f3 (by simpa using h),
    f4 := fun h => F.f4 (by simpa using h),
    f5 := fun h => F.f5 (by simpa using h),
    f6 := fun h => F.f6 (by simpa using h),
    f7 := fun h => F.f7 (by simpa using h),
    f8 := fun h => F.f8 (by simpa using h),
    f9 := fun h => F.f9 (by simpa using h),
    f10 := fun h => F.f10 (by simpa using h),
    f11 := fun h => F.f11 (by simpa using h),
    f12 := fun h => F.f12 (by simpa using h),
    f13 := fun h => F.f13 (by simpa using h),
    f14 := fun h => F.f14 (by simpa using h),
    f15 := fun _ => hn,
    f16 := fun h => F.f16 (by simpa using h),
    f17 := fun h => F.f17 (by simpa using h),
    f18 := fun h => F.f18 (by simpa using h) }
theorem LabF.set16 {w0 : World} {tL tB : TypeId} {B : Nat} {t : ByteArray} {rate start : Int} {D : Nat → Bool} {u2 u3 u4 u5 u6 u7 u8 u9 u10 u11 u12 u13 u14 u15 u16 u17 u18 u19 u20 v : Value} {w : World} (F : LabF w0 tL tB B t rate start D u2 u3 u4 u5 u6 u7 u8 u9 u10 u11 u12 u13 u14 u15 u16 u17 u18 u19 u20 w) (hn : ∃ b, v = .slice (some ⟨b, 0, none⟩) 4 4 ∧ ∃ vs, Parts w b vs [[82#8, 69#8, 69#8, 76#8], [1#8, BitVec.ofInt 8 rate, BitVec.ofNat 8 t.size], strB t, fourB start.toNat]) : LabF w0 tL tB B t rate start (fun j => D j || j == 16) u2 u3 u4 u5 u6 u7 u8 u9 u10 u11 u12 u13 u14 u15 u16 u17 u18 v u20 w :=
  { below := F.below,
    l0 := F.l0,
    l1 := F.l1,
    l2 := F.l2,
    f0 := fun h => fun h1 => F.f0 (by simpa using h) (by simpa using h1),
    f1 := fun h => F.f1 (by simpa using h),
    f2 := fun h => F.f2 (by simpa using h),
    f3 := fun h => F.f3 (by simpa using h),
    f4 := fun h => F.f4 (by simpa using h),
    f5 := fun h => F.f5 (by simpa using h),
    f6 := fun h => F.f6 (by simpa using h),
    f7 := fun h => F.f7 (by simpa using h),
    f8 := fun h => F.f8 (by simpa using h),
    f9 := fun h => F.f9 (by simpa using h),
    f10 := fun h => F.f10 (by simpa using h),
    f11 := fun h => F.f11 (by simpa using h),
    f12 := fun h => F.f12 (by simpa using h),
    f13 := fun h => F.f13 (by simpa using h),
    f14 := fun h => F.f14 (by simpa using h),
    f15 := fun h => F.f15 (by simpa using h),
    f16 := fun _ => hn,
    f17 := fun h => F.f17 (by simpa using h),
    f18 := fun h => F.f18 (by simpa using h) }
theorem LabF.set17 {w0 : World} {tL tB : TypeId} {B : Nat} {t : ByteArray} {rate start : Int} {D : Nat → Bool} {u2 u3 u4 u5 u6 u7 u8 u9 u10 u11 u12 u13 u14 u15 u16 u17 u18 u19 u20 v : Value} {w : World} (F : LabF w0 tL tB B t rate start D u2 u3 u4 u5 u6 u7 u8 u9 u10 u11 u12 u13 u14 u15 u16 u17 u18 u19 u20 w) (hn : FreshB w0.heap.size w v (labelB t rate start)) : LabF w0 tL tB B t rate start (fun j => D j || j == 17) u2 u3 u4 u5 u6 u7 u8 u9 u10 u11 u12 u13 u14 u15 u16 u17 u18 u19 v w :=
  { below := F.below,
    l0 := F.l0,
    l1 := F.l1,
    l2 := F.l2,
    f0 := fun h => fun h1 => F.f0 (by simpa using h) (by simpa using h1),
    f1 := fun h => F.f1 (by simpa using h),
    f2 := fun h => F.f2 (by simpa using h),
    f3 := fun h => F.f3 (by simpa using h),
    f4 := fun h => F.f4 (by simpa using h),
    f5 := fun h => F.f5 (by simpa using h),
    f6 := fun h => F.f6 (by simpa using h),
    f7 := fun h => F.f7 (by simpa using h),
    f8 := fun h => F.f8 (by simpa using h),
    f9 := fun h => F.f9 (by simpa using h),
    f10 := fun h => F.f10 (by simpa using h),
    f11 := fun h => F.f11 (by simpa using h),
    f12 := fun h => F.f12 (by simpa using h),
    f13 := fun h => F.f13 (by simpa using h),
    f14 := fun h => F.f14 (by simpa using h),
    f15 := fun h => F.f15 (by simpa using h),
    f16 := fun h => F.f16 (by simpa using h),
    f17 := fun _ => hn,
    f18 := fun h => F.f18 (by simpa using h) }
theorem LabF.set18 {w0 : World} {tL tB : TypeId} {B : Nat} {t : ByteArray} {rate start : Int} {D : Nat → Bool} {u2 u3 u4 u5 u6 u7 u8 u9 u10 u11 u12 u13 u14 u15 u16 u17 u18 u19 u20 v : Value} {w : World} (F : LabF w0 tL tB B t rate start D u2 u3 u4 u5 u6 u7 u8 u9 u10 u11 u12 u13 u14 u15 u16 u17 u18 u19 u20 w) (hn : FreshB w0.heap.size w v (labelB t rate start)) : LabF w0 tL tB B t rate start (fun j => D j || j == 18) v u3 u4 u5 u6 u7 u8 u9 u10 u11 u12 u13 u14 u15 u16 u17 u18 u19 u20 w :=
  { below := F.below,
    l0 := F.l0,
    l1 := F.l1,
    l2 := F.l2,
    f0 := fun h => fun h1 => F.f0 (by simpa using h) (by simpa using h1),
    f1 := fun h => F.f1 (by simpa using h),
    f2 := fun h => F.f2 (by simpa using h),
    f3 := fun h => F.f3 (by simpa using h),
    f4 := fun h => F.f4 (by simpa using h),
    f5 := fun h => F.f5 (by simpa using h),
    f6 := fun h => F.f6 (by simpa using h),
    f7 := fun h => F.f7 (by simpa using h),
    f8 := fun h => F.f8 (by simpa using h),
    f9 := fun h => F.f9 (by simpa using h),
    f10 := fun h => F.f10 (by simpa using h),
    f11 := fun h => F.f11 (by simpa using h),
    f12 := fun h => F.f12 (by simpa using h),
    f13 := fun h => F.f13 (by simpa using h),
    f14 := fun h => F.f14 (by simpa using h),
    f15 := fun h => F.f15 (by simpa using h),
    f16 := fun h => F.f16 (by simpa using h),
    f17 := fun h => F.f17 (by simpa using h),
    f18 := fun _ => hn }
theorem ofInt8 (r : Int) (h0 : 0 ≤ r) (h : r < 256) : ((BitVec.ofInt 8 r).toNat : Int) = r := by
  rw [BitVec.toNat_ofInt]; omega
theorem wrapInt8 (r : Int) (h0 : 0 ≤ r) (h : r < 256) : IntKind.u8.wrap r = ((BitVec.ofInt 8 r).toNat : Int) := by
  rw [BitVec.toNat_ofInt, IntKind.wrap_u8]; omega
theorem wrapNat8 (n : Nat) (h : n < 256) : IntKind.u8.wrap (n : Int) = ((BitVec.ofNat 8 n).toNat : Int) := by
  rw [BitVec.toNat_ofNat, IntKind.wrap_u8]; omega
theorem ofNat8 (n : Nat) (h : n < 256) : ((BitVec.ofNat 8 n).toNat : Int) = n := by
  rw [BitVec.toNat_ofNat]; omega
def LabI (w0 : World) (tL tB : TypeId) (B : Nat) (t : ByteArray) (rate start : Int) (v0 : Value) (D : Nat → Bool) (a : Act) (w : World) : Prop :=
  ∃ u2 u3 u4 u5 u6 u7 u8 u9 u10 u11 u12 u13 u14 u15 u16 u17 u18 u19 u20, a = ⟨#[v0, .pointer (some ⟨B, 0, none⟩), u2, u3, u4, u5, u6, u7, u8, u9, u10, u11, u12, u13, u14, u15, u16, u17, u18, u19, u20], []⟩ ∧ LabF w0 tL tB B t rate start D u2 u3 u4 u5 u6 u7 u8 u9 u10 u11 u12 u13 u14 u15 u16 u17 u18 u19 u20 w
set_option maxRecDepth 100000 in
set_option maxHeartbeats 4000000 in
theorem label_any (t : ByteArray) (rate start : Int) (w : World) (hr0 : 1 ≤ rate) (hr : rate ≤ 7) (hs0 : 0 ≤ start) (hs : start ≤ 5183999) (ht : t.size ≤ 100) :
    Calls Tryd.prog 16 #[.agg #[.string t, .int .i64 rate, .int .i64 start]] w fun e w' => ∃ v, e = .returned v ∧ FreshB w.heap.size w' v (labelB t rate start) ∧ Below w.heap.size w w' := by
  go_enter Tryd.func16, Tryd.ntmps16
  go_wp2_with fail
  refine wp_region_inv (by kernel_rfl) (by kernel_rfl) (LabI w 25 5 w.heap.size t rate start (.agg #[.string t, .int .i64 rate, .int .i64 start])) ?_ ?_ ?_
  · refine ⟨_, _, _, _, _, _, _, _, _, _, _, _, _, _, _, _, _, _, _, rfl, ?_⟩
    have hB := Blk.new w 25 #[.string t, .int .i64 rate, .int .i64 start]
    exact { below := ((Below.refl _ _).alloc (Nat.le_refl _) _).drew, l0 := (hB.cell_some (i := 0) rfl), l1 := (hB.cell_some (i := 1) rfl), l2 := (hB.cell_some (i := 2) rfl), f0 := fun h => (by cases h), f1 := fun h => (by cases h), f2 := fun h => (by cases h), f3 := fun h => (by cases h), f4 := fun h => (by cases h), f5 := fun h => (by cases h), f6 := fun h => (by cases h), f7 := fun h => (by cases h), f8 := fun h => (by cases h), f9 := fun h => (by cases h), f10 := fun h => (by cases h), f11 := fun h => (by cases h), f12 := fun h => (by cases h), f13 := fun h => (by cases h), f14 := fun h => (by cases h), f15 := fun h => (by cases h), f16 := fun h => (by cases h), f17 := fun h => (by cases h), f18 := fun h => (by cases h) }
  · intro D a w1 i o hI ho hD hE
    obtain ⟨u2, u3, u4, u5, u6, u7, u8, u9, u10, u11, u12, u13, u14, u15, u16, u17, u18, u19, u20, rfl, F⟩ := hI
    have hr0' : 0 ≤ rate := by omega
    have hr' : rate < 256 := by omega
    have ht' : t.size < 256 := by omega
    have c0 := F.l0
    have c1 := F.l1
    have c2 := F.l2
    match i, ho, hD, hE with
    | 0, ho, hD, hE =>
      obtain rfl := Option.some.inj ho
      refine wpOp_of rfl rfl ?_
      go_simp
      have hb : Below w1.heap.size w1 (w1.alloc (.cells #[.int .u8 82, .int .u8 69, .int .u8 69, .int .u8 76] 5)) := (Below.refl _ _).alloc (Nat.le_refl _) _
      have hn : Blk (w1.alloc (.cells #[.int .u8 82, .int .u8 69, .int .u8 69, .int .u8 76] 5)) w1.heap.size 5 (bytesV [82#8, 69#8, 69#8, 76#8]) := Blk.new _ _ _
      exact ⟨_, _, _, _, _, _, _, _, _, _, _, _, _, _, _, _, _, _, _, rfl, (F.mono (Later.of_below hb) (F.below.trans (hb.mono F.below.size)) (fun a b => (F.f0 b a).elim fun g h => ⟨g, h.1, h.2.1, h.2.2.below hb h.2.2.lt⟩)).set0 (fun _ => ⟨_, rfl, F.below.size, hn⟩)⟩
    | 1, ho, hD, hE =>
      obtain rfl := Option.some.inj ho
      have e0 : D 0 = true := hE ⟨0, .data⟩ (by simp) rfl
      obtain ⟨g, rfl, hg, hB⟩ := F.f0 e0 hD
      have kc : (convert 44 44 (.slice (some ⟨g, 0, none⟩) 4 4)).run Tryd.prog w1 = .ok (.slice (some ⟨g, 0, none⟩) 4 4) (w1.freeze ⟨g, 4, none⟩ 1) := run_convert_mark w1 g _ 4 4 hB
      have hl : Later w1 (w1.freeze ⟨g, 4, none⟩ 1) := freeze_later w1 g _ _ hB
      have hbel : Below w.heap.size w (w1.freeze ⟨g, 4, none⟩ 1) := freeze_below w1 w _ g 4 _ _ hB F.below hg
      have hfr : FreshB w.heap.size w1 (.slice (some ⟨g, 0, none⟩) 4 4) [82#8, 69#8, 69#8, 76#8] := FreshB.of_blk hB hg (by simp [maxLen]) rfl
      have F1 := (F.set1 hfr).mono hl hbel (fun h => by simp at h)
      refine wpOp_of rfl rfl ?_
      go_simp
      exact ⟨_, _, _, _, _, _, _, _, _, _, _, _, _, _, _, _, _, _, _, rfl, F1⟩
    | 2, ho, hD, hE =>
      obtain rfl := Option.some.inj ho
      refine wpOp_of rfl rfl ?_
      go_simp
      exact ⟨_, _, _, _, _, _, _, _, _, _, _, _, _, _, _, _, _, _, _, rfl, F.set2 rfl⟩
    | 3, ho, hD, hE =>
      obtain rfl := Option.some.inj ho
      have e2 : D 2 = true := hE ⟨2, .data⟩ (by simp) rfl
      obtain rfl := F.f2 e2
      refine wpOp_of rfl rfl ?_
      go_simp
      exact ⟨_, _, _, _, _, _, _, _, _, _, _, _, _, _, _, _, _, _, _, rfl, F.set3 rfl⟩
    | 4, ho, hD, hE =>
      obtain rfl := Option.some.inj ho
      have e3 : D 3 = true := hE ⟨3, .data⟩ (by simp) rfl
      obtain rfl := F.f3 e3
      refine wpOp_of rfl rfl ?_
      go_simp
      exact ⟨_, _, _, _, _, _, _, _, _, _, _, _, _, _, _, _, _, _, _, rfl, F.set4 (int_eq (wrapInt8 rate hr0' hr'))⟩
    | 5, ho, hD, hE =>
      obtain rfl := Option.some.inj ho
      refine wpOp_of rfl rfl ?_
      go_simp
      exact ⟨_, _, _, _, _, _, _, _, _, _, _, _, _, _, _, _, _, _, _, rfl, F.set5 rfl⟩
    | 6, ho, hD, hE =>
      obtain rfl := Option.some.inj ho
      have e5 : D 5 = true := hE ⟨5, .data⟩ (by simp) rfl
      obtain rfl := F.f5 e5
      refine wpOp_of rfl rfl ?_
      go_simp
      exact ⟨_, _, _, _, _, _, _, _, _, _, _, _, _, _, _, _, _, _, _, rfl, F.set6 rfl⟩
    | 7, ho, hD, hE =>
      obtain rfl := Option.some.inj ho
      have e6 : D 6 = true := hE ⟨6, .data⟩ (by simp) rfl
      obtain rfl := F.f6 e6
      refine wpOp_of rfl rfl ?_
      go_simp
      exact ⟨_, _, _, _, _, _, _, _, _, _, _, _, _, _, _, _, _, _, _, rfl, F.set7 rfl⟩
    | 8, ho, hD, hE =>
      obtain rfl := Option.some.inj ho
      have e7 : D 7 = true := hE ⟨7, .data⟩ (by simp) rfl
      obtain rfl := F.f7 e7
      refine wpOp_of rfl rfl ?_
      go_simp
      exact ⟨_, _, _, _, _, _, _, _, _, _, _, _, _, _, _, _, _, _, _, rfl, F.set8 (int_eq (wrapNat8 t.size ht'))⟩
    | 9, ho, hD, hE =>
      obtain rfl := Option.some.inj ho
      have e4 : D 4 = true := hE ⟨4, .data⟩ (by simp) rfl
      have e8 : D 8 = true := hE ⟨8, .data⟩ (by simp) rfl
      obtain rfl := F.f4 e4
      obtain rfl := F.f8 e8
      refine wpOp_of rfl rfl ?_
      go_simp
      have hb : Below w1.heap.size w1 (w1.alloc (.cells #[.int .u8 1, u8v (BitVec.ofInt 8 rate), u8v (BitVec.ofNat 8 t.size)] 5)) := (Below.refl _ _).alloc (Nat.le_refl _) _
      have hn : Blk (w1.alloc (.cells #[.int .u8 1, u8v (BitVec.ofInt 8 rate), u8v (BitVec.ofNat 8 t.size)] 5)) w1.heap.size 5 (bytesV [1#8, BitVec.ofInt 8 rate, BitVec.ofNat 8 t.size]) := Blk.new _ _ _
      exact ⟨_, _, _, _, _, _, _, _, _, _, _, _, _, _, _, _, _, _, _, rfl, (F.mono (Later.of_below hb) (F.below.trans (hb.mono F.below.size)) (fun a b => (F.f0 b a).elim fun g h => ⟨g, h.1, h.2.1, h.2.2.below hb h.2.2.lt⟩)).set9 (FreshB.of_blk hn F.below.size (by simp [maxLen]) rfl)⟩
    | 10, ho, hD, hE =>
      obtain rfl := Option.some.inj ho
      refine wpOp_of rfl rfl ?_
      go_simp
      exact ⟨_, _, _, _, _, _, _, _, _, _, _, _, _, _, _, _, _, _, _, rfl, F.set10 rfl⟩
    | 11, ho, hD, hE =>
      obtain rfl := Option.some.inj ho
      have e10 : D 10 = true := hE ⟨10, .data⟩ (by simp) rfl
      obtain rfl := F.f10 e10
      refine wpOp_of rfl rfl ?_
      go_simp
      exact ⟨_, _, _, _, _, _, _, _, _, _, _, _, _, _, _, _, _, _, _, rfl, F.set11 rfl⟩
    | 12, ho, hD, hE =>
      obtain rfl := Option.some.inj ho
      have e11 : D 11 = true := hE ⟨11, .data⟩ (by simp) rfl
      obtain rfl := F.f11 e11
      have kc := Lib.run_convert_string_bytes (P := Tryd.prog) w1 9 44 5 t Tryd.underlying9 Tryd.underlying44 Tryd.underlying5
      have hb := bytes_world_below w1 5 t
      have hrd := bytes_world_reads w1 5 t
      generalize Lib.bytesWorld w1 5 t = w2 at *
      refine wpOp_of rfl rfl ?_
      go_simp
      exact ⟨_, _, _, _, _, _, _, _, _, _, _, _, _, _, _, _, _, _, _, rfl, (F.mono (Later.of_below hb) (F.below.trans (hb.mono F.below.size)) (fun a b => (F.f0 b a).elim fun g h => ⟨g, h.1, h.2.1, h.2.2.below hb h.2.2.lt⟩)).set12 ⟨_, _, rfl, hrd⟩⟩
    | 13, ho, hD, hE =>
      obtain rfl := Option.some.inj ho
      refine wpOp_of rfl rfl ?_
      go_simp
      exact ⟨_, _, _, _, _, _, _, _, _, _, _, _, _, _, _, _, _, _, _, rfl, F.set13 rfl⟩
    | 14, ho, hD, hE =>
      obtain rfl := Option.some.inj ho
      have e13 : D 13 = true := hE ⟨13, .data⟩ (by simp) rfl
      obtain rfl := F.f13 e13
      refine wpOp_of rfl rfl ?_
      go_simp
      exact ⟨_, _, _, _, _, _, _, _, _, _, _, _, _, _, _, _, _, _, _, rfl, F.set14 rfl⟩
    | 15, ho, hD, hE =>
      obtain rfl := Option.some.inj ho
      have e14 : D 14 = true := hE ⟨14, .data⟩ (by simp) rfl
      obtain rfl := F.f14 e14
      refine wpOp_of rfl rfl ?_
      go_simp
      refine (four_any start hs0 (by omega) w1).mono ?_
      rintro e w2 ⟨g, rfl, hg, hB, hb⟩
      exact ⟨_, _, _, _, _, _, _, _, _, _, _, _, _, _, _, _, _, _, _, rfl, (F.mono (Later.of_below hb) (F.below.trans (hb.mono F.below.size)) (fun a b => (F.f0 b a).elim fun g h => ⟨g, h.1, h.2.1, h.2.2.below hb h.2.2.lt⟩)).set15 (FreshB.of_blk hB (by have := F.below.size; omega) (by simp [maxLen, fourB_length]) (fourB_length _))⟩
    | 16, ho, hD, hE =>
      obtain rfl := Option.some.inj ho
      have e1 : D 1 = true := hE ⟨1, .data⟩ (by simp) rfl
      have e9 : D 9 = true := hE ⟨9, .data⟩ (by simp) rfl
      have e12 : D 12 = true := hE ⟨12, .data⟩ (by simp) rfl
      have e15 : D 15 = true := hE ⟨15, .data⟩ (by simp) rfl
      have p1 := F.f1 e1
      have p9 := F.f9 e9
      obtain ⟨A12, c12, rfl, p12⟩ := F.f12 e12
      have p15 := F.f15 e15
      obtain ⟨A1, c1', rfl, r1⟩ := fresh_part p1
      obtain ⟨A9, c9, rfl, r9⟩ := fresh_part p9
      obtain ⟨A15, c15, rfl, r15⟩ := fresh_part p15
      refine wpOp_of rfl rfl ?_
      go_simp
      have hb : Below w1.heap.size w1 (w1.alloc (.cells #[.slice A1 4 c1', .slice A9 3 c9, .slice A12 t.size c12, .slice A15 (fourB start.toNat).length c15] 44)) := (Below.refl _ _).alloc (Nat.le_refl _) _
      have hn := parts4 (Blk.new w1 44 #[.slice A1 4 c1', .slice A9 3 c9, .slice A12 t.size c12, .slice A15 (fourB start.toNat).length c15]) ⟨A1, c1', rfl, r1.later (Later.of_below hb)⟩ ⟨A9, c9, rfl, r9.later (Later.of_below hb)⟩ ⟨A12, c12, (by rw [strB_length]), (by rw [strB_length]; exact p12.later (Later.of_below hb))⟩ ⟨A15, c15, rfl, r15.later (Later.of_below hb)⟩
      exact ⟨_, _, _, _, _, _, _, _, _, _, _, _, _, _, _, _, _, _, _, rfl, (F.mono (Later.of_below hb) (F.below.trans (hb.mono F.below.size)) (fun a b => (F.f0 b a).elim fun g h => ⟨g, h.1, h.2.1, h.2.2.below hb h.2.2.lt⟩)).set16 ⟨_, rfl, _, hn⟩⟩
    | 17, ho, hD, hE =>
      obtain rfl := Option.some.inj ho
      have e16 : D 16 = true := hE ⟨16, .data⟩ (by simp) rfl
      obtain ⟨b, rfl, vs, hP⟩ := F.f16 e16
      have hj := join_any b 4 vs _ w1 rfl (by omega) (by omega) hP (by simp [fourB_length, strB_length]; omega) (by simp)
      refine wpOp_of rfl rfl ?_
      go_simp
      refine (summed_of b 4 _ w1 (by simp) (by simp [fourB_length, strB_length]; omega) hj).mono ?_
      rintro e w2 ⟨v, rfl, hf, hb⟩
      have hf' : FreshB w.heap.size w2 v (labelB t rate start) := by
        have := hf.mono F.below.size
        simpa [labelB] using this
      exact ⟨_, _, _, _, _, _, _, _, _, _, _, _, _, _, _, _, _, _, _, rfl, (F.mono (Later.of_below hb) (F.below.trans (hb.mono F.below.size)) (fun a b => (F.f0 b a).elim fun g h => ⟨g, h.1, h.2.1, h.2.2.below hb h.2.2.lt⟩)).set17 hf'⟩
    | 18, ho, hD, hE =>
      obtain rfl := Option.some.inj ho
      have e17 : D 17 = true := hE ⟨17, .data⟩ (by simp) rfl
      refine wpOp_of rfl rfl ?_
      go_simp
      exact ⟨_, _, _, _, _, _, _, _, _, _, _, _, _, _, _, _, _, _, _, rfl, F.set18 (F.f17 e17)⟩
    | n + 19, ho, hD, hE => simp at ho
  · intro D a w1 hI hall
    obtain ⟨u2, u3, u4, u5, u6, u7, u8, u9, u10, u11, u12, u13, u14, u15, u16, u17, u18, u19, u20, rfl, F⟩ := hI
    have hf := F.f18 (hall 18 (by simp))
    have hb := F.below
    clear F hall
    go_wp2
    go_ret
    exact ⟨u2, rfl, hf, hb⟩
end Go.Proofs.YtjmnomohmijbpaaDoor
