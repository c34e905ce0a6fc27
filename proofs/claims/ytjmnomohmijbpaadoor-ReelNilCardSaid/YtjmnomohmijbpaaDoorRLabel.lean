/- reel.readLabel. -/
import Derived.Test.YtjmnomohmijbpaaDoorLabB
namespace Go.Proofs.YtjmnomohmijbpaaDoor
open Go.RowKit
structure RlA (w0 : World) (m R b o n lB : Nat) (t : ByteArray) (rate start : Int) (sx : List (BitVec 8)) (D : Nat → Bool) (u9 u39 u40 u41 u42 u43 u44 u45 u46 u47 u48 u49 u50 u51 u52 u53 : Value) (w : World) : Prop where
  below : Below w0.heap.size w0 w
  c5 : w.cell? ⟨b, o + 5, none⟩ = some (.int .u8 rate)
  bl : b < w0.heap.size
  rt : RBytes w w0.heap.size (some ⟨b, o + 7, none⟩) t.size (strB t)
  rs : RBytes w w0.heap.size (some ⟨b, o + (7 + t.size), none⟩) (n - (7 + t.size)) (fourB start.toNat ++ sx)
  f0 : D 0 = true → u39 = Value.slice (some ⟨b, o, none⟩) n n
  f1 : D 1 = true → u40 = Value.int IntKind.i64 (t.size : Int)
  f2 : D 2 = true → u41 = Value.int IntKind.i64 (7 + (t.size : Int))
  f3 : D 3 = true → u42 = Value.slice (some ⟨b, o + 7, none⟩) t.size (n - 7)
  f4 : D 4 = true → u43 = Value.string t
  f5 : D 5 = true → u44 = Value.slice (some ⟨b, o, none⟩) n n
  f6 : D 6 = true → u45 = Value.pointer (some ⟨b, o + 5, none⟩)
  f7 : D 7 = true → u46 = Value.int IntKind.u8 rate
  f8 : D 8 = true → u47 = Value.int IntKind.i64 rate
  f9 : D 9 = true → u48 = Value.slice (some ⟨b, o, none⟩) n n
  f10 : D 10 = true → u49 = Value.int IntKind.i64 (t.size : Int)
  f11 : D 11 = true → u50 = Value.int IntKind.i64 (7 + (t.size : Int))
  f12 : D 12 = true → u51 = Value.slice (some ⟨b, o + (7 + t.size), none⟩) (n - (7 + t.size)) (n - (7 + t.size))
  f13 : D 13 = true → u52 = Value.int IntKind.i64 start
  f14 : D 14 = true → u53 = Value.agg #[.string t, .int .i64 rate, .int .i64 start]
  f15 : D 15 = true → ∃ g x y z, u9 = .pointer (some ⟨g, 0, none⟩) ∧ w0.heap.size ≤ g ∧ Blk w g 25 #[x, y, z]
  f16 : D 16 = true → D 15 = true ∧ ∃ g, u9 = .pointer (some ⟨g, 0, none⟩) ∧ w0.heap.size ≤ g ∧ Blk w g 25 #[.string t, .int .i64 rate, .int .i64 start]
theorem RlA.mono {w0 : World} {m R b o n lB : Nat} {t : ByteArray} {rate start : Int} {sx : List (BitVec 8)} {D : Nat → Bool} {u9 u39 u40 u41 u42 u43 u44 u45 u46 u47 u48 u49 u50 u51 u52 u53 : Value} {w w' : World} (F : RlA w0 m R b o n lB t rate start sx D u9 u39 u40 u41 u42 u43 u44 u45 u46 u47 u48 u49 u50 u51 u52 u53 w) (hb : Below w0.heap.size w w') (h15 : D 15 = true → ∃ g x y z, u9 = .pointer (some ⟨g, 0, none⟩) ∧ w0.heap.size ≤ g ∧ Blk w' g 25 #[x, y, z]) (h16 : D 16 = true → D 15 = true ∧ ∃ g, u9 = .pointer (some ⟨g, 0, none⟩) ∧ w0.heap.size ≤ g ∧ Blk w' g 25 #[.string t, .int .i64 rate, .int .i64 start]) : RlA w0 m R b o n lB t rate start sx D u9 u39 u40 u41 u42 u43 u44 u45 u46 u47 u48 u49 u50 u51 u52 u53 w' :=
  { below := F.below.trans hb,
    c5 := (hb.cell F.bl).trans F.c5,
    bl := F.bl,
    rt := Reads.below F.rt hb,
    rs := Reads.below F.rs hb,
    f0 := fun h => (F.f0 h),
    f1 := fun h => (F.f1 h),
    f2 := fun h => (F.f2 h),
    f3 := fun h => (F.f3 h),
    f4 := fun h => (F.f4 h),
    f5 := fun h => (F.f5 h),
    f6 := fun h => (F.f6 h),
    f7 := fun h => (F.f7 h),
    f8 := fun h => (F.f8 h),
    f9 := fun h => (F.f9 h),
    f10 := fun h => (F.f10 h),
    f11 := fun h => (F.f11 h),
    f12 := fun h => (F.f12 h),
    f13 := fun h => (F.f13 h),
    f14 := fun h => (F.f14 h),
    f15 := fun h => h15 h,
    f16 := fun h => h16 h }
theorem RlA.set0 {w0 : World} {m R b o n lB : Nat} {t : ByteArray} {rate start : Int} {sx : List (BitVec 8)} {D : Nat → Bool} {u9 u39 u40 u41 u42 u43 u44 u45 u46 u47 u48 u49 u50 u51 u52 u53 nv : Value} {w : World} (F : RlA w0 m R b o n lB t rate start sx D u9 u39 u40 u41 u42 u43 u44 u45 u46 u47 u48 u49 u50 u51 u52 u53 w) (hn : nv = Value.slice (some ⟨b, o, none⟩) n n) : RlA w0 m R b o n lB t rate start sx (fun j => D j || j == 0) u9 nv u40 u41 u42 u43 u44 u45 u46 u47 u48 u49 u50 u51 u52 u53 w :=
  { below := F.below,
    c5 := F.c5,
    bl := F.bl,
    rt := F.rt,
    rs := F.rs,
    f0 := fun _ => hn,
    f1 := fun h => F.f1 (by simpa using h),
    f2 := fun h => F.f2 (by simpa using h),
    f3 := fun h => F.f3 (by simpa using h),
    f4 := fun h => F.f4 (by simpa using h),
    f5 := fun h => F.f5 (by simpa using h),
    f6 := fun h => F.f6 (by simpa using h),
    f7 := fun h => F.f7 (by simpa using h),
    f8 := fun h => F.f8 (by simpa using h),
    f9 := fun h => F.f9 (by simpa using h),
    f10 := fun h => F.f10 (by simpa using h),
    f11 := fun h => F.f11 (by simpa using h),
    f12 := fun h => F.f12 (by simpa using h),
    f13 := fun h => F.f13 (by simpa using h),
    f14 := fun h => F.f14 (by simpa using h),
    f15 := fun h => F.f15 (by simpa using h),
    f16 := fun h => ⟨by simp [(F.f16 (by simpa using h)).1], (F.f16 (by simpa using h)).2⟩ }
theorem RlA.set1 {w0 : World} {m R b o n lB : Nat} {t : ByteArray} {rate start : Int} {sx : List (BitVec 8)} {D : Nat → Bool} {u9 u39 u40 u41 u42 u43 u44 u45 u46 u47 u48 u49 u50 u51 u52 u53 nv : Value} {w : World} (F : RlA w0 m R b o n lB t rate start sx D u9 u39 u40 u41 u42 u43 u44 u45 u46 u47 u48 u49 u50 u51 u52 u53 w) (hn : nv = Value.int IntKind.i64 (t.size : Int)) : RlA w0 m R b o n lB t rate start sx (fun j => D j || j == 1) u9 u39 nv u41 u42 u43 u44 u45 u46 u47 u48 u49 u50 u51 u52 u53 w :=
  { below := F.below,
    c5 := F.c5,
    bl := F.bl,
    rt := F.rt,
    rs := F.rs,
    f0 := fun h => F.f0 (by simpa using h),
    f1 := fun _ => hn,
    f2 := fun h => F.f2 (by simpa using h),
    f3 := fun h => F.f3 (by simpa using h),
    f4 := fun h => F.f4 (by simpa using h),
    f5 := fun h => F.f5 (by simpa using h),
    f6 := fun h => F.f6 (by simpa using h),
    f7 := fun h => F.f7 (by simpa using h),
    f8 := fun h => F.f8 (by simpa using h),
    f9 := fun h => F.f9 (by simpa using h),
    f10 := fun h => F.f10 (by simpa using h),
    f11 := fun h => F.f11 (by simpa using h),
    f12 := fun h => F.f12 (by simpa using h),
    f13 := fun h => F.f13 (by simpa using h),
    f14 := fun h => F.f14 (by simpa using h),
    f15 := fun h => F.f15 (by simpa using h),
    f16 := fun h => ⟨by simp [(F.f16 (by simpa using h)).1], (F.f16 (by simpa using h)).2⟩ }
theorem RlA.set2 {w0 : World} {m R b o n lB : Nat} {t : ByteArray} {rate start : Int} {sx : List (BitVec 8)} {D : Nat → Bool} {u9 u39 u40 u41 u42 u43 u44 u45 u46 u47 u48 u49 u50 u51 u52 u53 nv : Value} {w : World} (F : RlA w0 m R b o n lB t rate start sx D u9 u39 u40 u41 u42 u43 u44 u45 u46 u47 u48 u49 u50 u51 u52 u53 w) (hn : nv = Value.int IntKind.i64 (7 + (t.size : Int))) : RlA w0 m R b o n lB t rate start sx (fun j => D j || j == 2) u9 u39 u40 nv u42 u43 u44 u45 u46 u47 u48 u49 u50 u51 u52 u53 w :=
  { below := F.below,
    c5 := F.c5,
    bl := F.bl,
    rt := F.rt,
    rs := F.rs,
    f0 := fun h => F.f0 (by simpa using h),
    f1 := fun h => F.f1 (by simpa using h),
    f2 := fun _ => hn,
    f3 := fun h => F.f3 (by simpa using h),
    f4 := fun h => F.f4 (by simpa using h),
    f5 := fun h => F.f5 (by simpa using h),
    f6 := fun h => F.f6 (by simpa using h),
    f7 := fun h => F.f7 (by simpa using h),
    f8 := fun h => F.f8 (by simpa using h),
    f9 := fun h => F.f9 (by simpa using h),
    f10 := fun h => F.f10 (by simpa using h),
    f11 := fun h => F.f11 (by simpa using h),
    f12 := fun h => F.f12 (by simpa using h),
    f13 := fun h => F.f13 (by simpa using h),
    f14 := fun h => F.f14 (by simpa using h),
    f15 := fun h => F.f15 (by simpa using h),
    f16 := fun h => ⟨by simp [(F.f16 (by simpa using h)).1], (F.f16 (by simpa using h)).2⟩ }
theorem RlA.set3 {w0 : World} {m R b o n lB : Nat} {t : ByteArray} {rate start : Int} {sx : List (BitVec 8)} {D : Nat → Bool} {u9 u39 u40 u41 u42 u43 u44 u45 u46 u47 u48 u49 u50 u51 u52 u53 nv : Value} {w : World} (F : RlA w0 m R b o n lB t rate start sx D u9 u39 u40 u41 u42 u43 u44 u45 u46 u47 u48 u49 u50 u51 u52 u53 w) (hn : nv = Value.slice (some ⟨b, o + 7, none⟩) t.size (n - 7)) : RlA w0 m R b o n lB t rate start sx (fun j => D j || j == 3) u9 u39 u40 u41 nv u43 u44 u45 u46 u47 u48 u49 u50 u51 u52 u53 w :=
  { below := F.below,
    c5 := F.c5,
    bl := F.bl,
    rt := F.rt,
    rs := F.rs,
    f0 := fun h => F.f0 (by simpa using h),
    f1 := fun h => F.f1 (by simpa using h),
    f2 := fun h => F.f2 (by simpa using h),
    f3 := fun _ => hn,
    f4 := fun h => F.f4 (by simpa using h),
    f5 := fun h => F.f5 (by simpa using h),
    f6 := fun h => F.f6 (by simpa using h),
    f7 := fun h => F.f7 (by simpa using h),
    f8 := fun h => F.f8 (by simpa using h),
    f9 := fun h => F.f9 (by simpa using h),
    f10 := fun h => F.f10 (by simpa using h),
    f11 := fun h => F.f11 (by simpa using h),
    f12 := fun h => F.f12 (by simpa using h),
    f13 := fun h => F.f13 (by simpa using h),
    f14 := fun h => F.f14 (by simpa using h),
    f15 := fun h => F.f15 (by simpa using h),
    f16 := fun h => ⟨by simp [(F.f16 (by simpa using h)).1], (F.f16 (by simpa using h)).2⟩ }
theorem RlA.set4 {w0 : World} {m R b o n lB : Nat} {t : ByteArray} {rate start : Int} {sx : List (BitVec 8)} {D : Nat → Bool} {u9 u39 u40 u41 u42 u43 u44 u45 u46 u47 u48 u49 u50 u51 u52 u53 nv : Value} {w : World} (F : RlA w0 m R b o n lB t rate start sx D u9 u39 u40 u41 u42 u43 u44 u45 u46 u47 u48 u49 u50 u51 u52 u53 w) (hn : nv = Value.string t) : RlA w0 m R b o n lB t rate start sx (fun j => D j || j == 4) u9 u39 u40 u41 u42 nv u44 u45 u46 u47 u48 u49 u50 u51 u52 u53 w :=
  { below := F.below,
    c5 := F.c5,
    bl := F.bl,
    rt := F.rt,
    rs := F.rs,
    f0 := fun h => F.f0 (by simpa using h),
    f1 := fun h => F.f1 (by simpa using h),
    f2 := fun h => F.f2 (by simpa using h),
    f3 := fun h => F.f3 (by simpa using h),
    f4 := fun _ => hn,
    f5 := fun h => F.f5 (by simpa using h),
    f6 := fun h => F.f6 (by simpa using h),
    f7 := fun h => F.f7 (by simpa using h),
    f8 := fun h => F.f8 (by simpa using h),
    f9 := fun h => F.f9 (by simpa using h),
    f10 := fun h => F.f10 (by simpa using h),
    f11 := fun h => F.f11 (by simpa using h),
    f12 := fun h => F.f12 (by simpa using h),
    f13 := fun h => F.f13 (by simpa using h),
    f14 := fun h => F.f14 (by simpa using h),
    f15 := fun h => F.f15 (by simpa using h),
    f16 := fun h => ⟨by simp [(F.f16 (by simpa using h)).1], (F.f16 (by simpa using h)).2⟩ }
theorem RlA.set5 {w0 : World} {m R b o n lB : Nat} {t : ByteArray} {rate start : Int} {sx : List (BitVec 8)} {D : Nat → Bool} {u9 u39 u40 u41 u42 u43 u44 u45 u46 u47 u48 u49 u50 u51 u52 u53 nv : Value} {w : World} (F : RlA w0 m R b o n lB t rate start sx D u9 u39 u40 u41 u42 u43 u44 u45 u46 u47 u48 u49 u50 u51 u52 u53 w) (hn : nv = Value.slice (some ⟨b, o, none⟩) n n) : RlA w0 m R b o n lB t rate start sx (fun j => D j || j == 5) u9 u39 u40 u41 u42 u43 nv u45 u46 u47 u48 u49 u50 u51 u52 u53 w :=
  { below := F.below,
    c5 := F.c5,
    bl := F.bl,
    rt := F.rt,
    rs := F.rs,
    f0 := fun h => F.f0 (by simpa using h),
    f1 := fun h => F.f1 (by simpa using h),
    f2 := fun h => F.f2 (by simpa using h),
    f3 := fun h => F.f3 (by simpa using h),
    f4 := fun h => F.f4 (by simpa using h),
    f5 := fun _ => hn,
    f6 := fun h => F.f6 (by simpa using h),
    f7 := fun h => F.f7 (by simpa using h),
    f8 := fun h => F.f8 (by simpa using h),
    f9 := fun h => F.f9 (by simpa using h),
    f10 := fun h => F.f10 (by simpa using h),
    f11 := fun h => F.f11 (by simpa using h),
    f12 := fun h => F.f12 (by simpa using h),
    f13 := fun h => F.f13 (by simpa using h),
    f14 := fun h => F.f14 (by simpa using h),
    f15 := fun h => F.f15 (by simpa using h),
    f16 := fun h => ⟨by simp [(F.f16 (by simpa using h)).1], (F.f16 (by simpa using h)).2⟩ }
theorem RlA.set6 {w0 : World} {m R b o n lB : Nat} {t : ByteArray} {rate start : Int} {sx : List (BitVec 8)} {D : Nat → Bool} {u9 u39 u40 u41 u42 u43 u44 u45 u46 u47 u48 u49 u50 u51 u52 u53 nv : Value} {w : World} (F : RlA w0 m R b o n lB t rate start sx D u9 u39 u40 u41 u42 u43 u44 u45 u46 u47 u48 u49 u50 u51 u52 u53 w) (hn : nv = Value.pointer (some ⟨b, o + 5, none⟩)) : RlA w0 m R b o n lB t rate start sx (fun j => D j || j == 6) u9 u39 u40 u41 u42 u43 u44 nv u46 u47 u48 u49 u50 u51 u52 u53 w :=
  { below := F.below,
    c5 := F.c5,
    bl := F.bl,
    rt := F.rt,
    rs := F.rs,
    f0 := fun h => F.f0 (by simpa using h),
    f1 := fun h => F.f1 (by simpa using h),
    f2 := fun h => F.f2 (by simpa using h),
    f3 := fun h => F.f3 (by simpa using h),
    f4 := fun h => F.f4 (by simpa using h),
    f5 := fun h => F.f5 (by simpa using h),
    f6 := fun _ => hn,
    f7 := fun h => F.f7 (by simpa using h),
    f8 := fun h => F.f8 (by simpa using h),
    f9 := fun h => F.f9 (by simpa using h),
    f10 := fun h => F.f10 (by simpa using h),
    f11 := fun h => F.f11 (by simpa using h),
    f12 := fun h => F.f12 (by simpa using h),
    f13 := fun h => F.f13 (by simpa using h),
    f14 := fun h => F.f14 (by simpa using h),
    f15 := fun h => F.f15 (by simpa using h),
    f16 := fun h => ⟨by simp [(F.f16 (by simpa using h)).1], (F.f16 (by simpa using h)).2⟩ }
theorem RlA.set7 {w0 : World} {m R b o n lB : Nat} {t : ByteArray} {rate start : Int} {sx : List (BitVec 8)} {D : Nat → Bool} {u9 u39 u40 u41 u42 u43 u44 u45 u46 u47 u48 u49 u50 u51 u52 u53 nv : Value} {w : World} (F : RlA w0 m R b o n lB t rate start sx D u9 u39 u40 u41 u42 u43 u44 u45 u46 u47 u48 u49 u50 u51 u52 u53 w) (hn : nv = Value.int IntKind.u8 rate) : RlA w0 m R b o n lB t rate start sx (fun j => D j || j == 7) u9 u39 u40 u41 u42 u43 u44 u45 nv u47 u48 u49 u50 u51 u52 u53 w :=
  { below := F.below,
    c5 := F.c5,
    bl := F.bl,
    rt := F.rt,
    rs := F.rs,
    f0 := fun h => F.f0 (by simpa using h),
    f1 := fun h => F.f1 (by simpa using h),
    f2 := fun h => F.f2 (by simpa using h),
    f3 := fun h => F.f3 (by simpa using h),
    f4 := fun h => F.f4 (by simpa using h),
    f5 := fun h => F.f5 (by simpa using h),
    f6 := fun h => F.f6 (by simpa using h),
    f7 := fun _ => hn,
    f8 := fun h => F.f8 (by simpa using h),
    f9 := fun h => F.f9 (by simpa using h),
    f10 := fun h => F.f10 (by simpa using h),
    f11 := fun h => F.f11 (by simpa using h),
    f12 := fun h => F.f12 (by simpa using h),
    f13 := fun h => F.f13 (by simpa using h),
    f14 := fun h => F.f14 (by simpa using h),
    f15 := fun h => F.f15 (by simpa using h),
    f16 := fun h => ⟨by simp [(F.f16 (by simpa using h)).1], (F.f16 (by simpa using h)).2⟩ }
theorem RlA.set8 {w0 : World} {m R b o n lB : Nat} {t : ByteArray} {rate start : Int} {sx : List (BitVec 8)} {D : Nat → Bool} {u9 u39 u40 u41 u42 u43 u44 u45 u46 u47 u48 u49 u50 u51 u52 u53 nv : Value} {w : World} (F : RlA w0 m R b o n lB t rate start sx D u9 u39 u40 u41 u42 u43 u44 u45 u46 u47 u48 u49 u50 u51 u52 u53 w) (hn : nv = Value.int IntKind.i64 rate) : RlA w0 m R b o n lB t rate start sx (fun j => D j || j == 8) u9 u39 u40 u41 u42 u43 u44 u45 u46 nv u48 u49 u50 u51 u52 u53 w :=
  { below := F.below,
    c5 := F.c5,
    bl := F.bl,
    rt := F.rt,
    rs := F.rs,
    f0 := fun h => F.f0 (by simpa using h),
    f1 := fun h => F.f1 (by simpa using h),
    f2 := fun h => F.f2 (by simpa using h),
    f3 := fun h => F.f3 (by simpa using h),
    f4 := fun h => F.f4 (by simpa using h),
    f5 := fun h => F.f5 (by simpa using h),
    f6 := fun h => F.f6 (by simpa using h),
    f7 := fun h => F.f7 (by simpa using h),
    f8 := fun _ => hn,
    f9 := fun h => F.f9 (by simpa using h),
    f10 := fun h => F.f10 (by simpa using h),
    f11 := fun h => F.f11 (by simpa using h),
    f12 := fun h => F.f12 (by simpa using h),
    f13 := fun h => F.f13 (by simpa using h),
    f14 := fun h => F.f14 (by simpa using h),
    f15 := fun h => F.f15 (by simpa using h),
    f16 := fun h => ⟨by simp [(F.f16 (by simpa using h)).1], (F.f16 (by simpa using h)).2⟩ }
theorem RlA.set9 {w0 : World} {m R b o n lB : Nat} {t : ByteArray} {rate start : Int} {sx : List (BitVec 8)} {D : Nat → Bool} {u9 u39 u40 u41 u42 u43 u44 u45 u46 u47 u48 u49 u50 u51 u52 u53 nv : Value} {w : World} (F : RlA w0 m R b o n lB t rate start sx D u9 u39 u40 u41 u42 u43 u44 u45 u46 u47 u48 u49 u50 u51 u52 u53 w) (hn : nv = Value.slice (some ⟨b, o, none⟩) n n) : RlA w0 m R b o n lB t rate start sx (fun j => D j || j == 9) u9 u39 u40 u41 u42 u43 u44 u45 u46 u47 nv u49 u50 u51 u52 u53 w :=
  { below := F.below,
    c5 := F.c5,
    bl := F.bl,
    rt := F.rt,
    rs := F.rs,
    f0 := fun h => F.f0 (by simpa using h),
    f1 := fun h => F.f1 (by simpa using h),
    f2 := fun h => F.f2 (by simpa using h),
    f3 := fun h => F.f3 (by simpa using h),
    f4 := fun h => F.f4 (by simpa using h),
    f5 := fun h => F.f5 (by simpa using h),
    f6 := fun h => F.f6 (by simpa using h),
    f7 := fun h => F.f7 (by simpa using h),
    f8 := fun h => F.f8 (by simpa using h),
    f9 := fun _ => hn,
    f10 := fun h => F.f10 (by simpa using h),
    f11 := fun h => F.f11 (by simpa using h),
    f12 := fun h => F.f12 (by simpa using h),
    f13 := fun h => F.f13 (by simpa using h),
    f14 := fun h => F.f14 (by simpa using h),
    f15 := fun h => F.f15 (by simpa using h),
    f16 := fun h => ⟨by simp [(F.f16 (by simpa using h)).1], (F.f16 (by simpa using h)).2⟩ }
theorem RlA.set10 {w0 : World} {m R b o n lB : Nat} {t : ByteArray} {rate start : Int} {sx : List (BitVec 8)} {D : Nat → Bool} {u9 u39 u40 u41 u42 u43 u44 u45 u46 u47 u48 u49 u50 u51 u52 u53 nv : Value} {w : World} (F : RlA w0 m R b o n lB t rate start sx D u9 u39 u40 u41 u42 u43 u44 u45 u46 u47 u48 u49 u50 u51 u52 u53 w) (hn : nv = Value.int IntKind.i64 (t.size : Int)) : RlA w0 m R b o n lB t rate start sx (fun j => D j || j == 10) u9 u39 u40 u41 u42 u43 u44 u45 u46 u47 u48 nv u50 u51 u52 u53 w :=
  { below := F.below,
    c5 := F.c5,
    bl := F.bl,
    rt := F.rt,
    rs := F.rs,
    f0 := fun h => F.f0 (by simpa using h),
    f1 := fun h => F.f1 (by simpa using h),
    f2 := fun h => F.f2 (by simpa using h),
    f3 := fun h => F.f3 (by simpa using h),
    f4 := fun h => F.f4 (by simpa using h),
    f5 := fun h => F.f5 (by simpa using h),
    f6 := fun h => F.f6 (by simpa using h),
    f7 := fun h => F.f7 (by simpa using h),
    f8 := fun h => F.f8 (by simpa using h),
    f9 := fun h => F.f9 (by simpa using h),
    f10 := fun _ => hn,
    f11 := fun h => F.f11 (by simpa using h),
    f12 := fun h => F.f12 (by simpa using h),
    f13 := fun h => F.f13 (by simpa using h),
    f14 := fun h => F.f14 (by simpa using h),
    f15 := fun h => F.f15 (by simpa using h),
    f16 := fun h => ⟨by simp [(F.f16 (by simpa using h)).1], (F.f16 (by simpa using h)).2⟩ }
theorem RlA.set11 {w0 : World} {m R b o n lB : Nat} {t : ByteArray} {rate start : Int} {sx : List (BitVec 8)} {D : Nat → Bool} {u9 u39 u40 u41 u42 u43 u44 u45 u46 u47 u48 u49 u50 u51 u52 u53 nv : Value} {w : World} (F : RlA w0 m R b o n lB t rate start sx D u9 u39 u40 u41 u42 u43 u44 u45 u46 u47 u48 u49 u50 u51 u52 u53 w) (hn : nv = Value.int IntKind.i64 (7 + (t.size : Int))) : RlA w0 m R b o n lB t rate start sx (fun j => D j || j == 11) u9 u39 u40 u41 u42 u43 u44 u45 u46 u47 u48 u49 nv u51 u52 u53 w :=
  { below := F.below,
    c5 := F.c5,
    bl := F.bl,
    rt := F.rt,
    rs := F.rs,
    f0 := fun h => F.f0 (by simpa using h),
    f1 := fun h => F.f1 (by simpa using h),
    f2 := fun h => F.f2 (by simpa using h),
    f3 := fun h => F.f3 (by simpa using h),
    f4 := fun h => F.f4 (by simpa using h),
    f5 := fun h => F.f5 (by simpa using h),
    f6 := fun h => F.f6 (by simpa using h),
    f7 := fun h => F.f7 (by simpa using h),
    f8 := fun h => F.f8 (by simpa using h),
    f9 := fun h => F.f9 (by simpa using h),
    f10 := fun h => F.f10 (by simpa using h),
    f11 := fun _ => hn,
    f12 := fun h => F.f12 (by simpa using h),
    f13 := fun h => F.f13 (by simpa using h),
    f14 := fun h => F.f14 (by simpa using h),
    f15 := fun h => F.f15 (by simpa using h),
    f16 := fun h => ⟨by simp [(F.f16 (by simpa using h)).1], (F.f16 (by simpa using h)).2⟩ }
theorem RlA.set12 {w0 : World} {m R b o n lB : Nat} {t : ByteArray} {rate start : Int} {sx : List (BitVec 8)} {D : Nat → Bool} {u9 u39 u40 u41 u42 u43 u44 u45 u46 u47 u48 u49 u50 u51 u52 u53 nv : Value} {w : World} (F : RlA w0 m R b o n lB t rate start sx D u9 u39 u40 u41 u42 u43 u44 u45 u46 u47 u48 u49 u50 u51 u52 u53 w) (hn : nv = Value.slice (some ⟨b, o + (7 + t.size), none⟩) (n - (7 + t.size)) (n - (7 + t.size))) : RlA w0 m R b o n lB t rate start sx (fun j => D j || j == 12) u9 u39 u40 u41 u42 u43 u44 u45 u46 u47 u48 u49 u50 nv u52 u53 w :=
  { below := F.below,
    c5 := F.c5,
    bl := F.bl,
    rt := F.rt,
    rs := F.rs,
    f0 := fun h => F.f0 (by simpa using h),
    f1 := fun h => F.f1 (by simpa using h),
    f2 := fun h => F.f2 (by simpa using h),
    f3 := fun h => F.f3 (by simpa using h),
    f4 := fun h => F.f4 (by simpa using h),
    f5 := fun h => F.f5 (by simpa using h),
    f6 := fun h => F.f6 (by simpa using h),
    f7 := fun h => F.f7 (by simpa using h),
    f8 := fun h => F.f8 (by simpa using h),
    f9 := fun h => F.f9 (by simpa using h),
    f10 := fun h => F.f10 (by simpa using h),
    f11 := fun h => F.f11 (by simpa using h),
    f12 := fun _ => hn,
    f13 := fun h => F.f13 (by simpa using h),
    f14 := fun h => F.f14 (by simpa using h),
    f15 := fun h => F.f15 (by simpa using h),
    f16 := fun h => ⟨by simp [(F.f16 (by simpa using h)).1], (F.f16 (by simpa using h)).2⟩ }
theorem RlA.set13 {w0 : World} {m R b o n lB : Nat} {t : ByteArray} {rate start : Int} {sx : List (BitVec 8)} {D : Nat → Bool} {u9 u39 u40 u41 u42 u43 u44 u45 u46 u47 u48 u49 u50 u51 u52 u53 nv : Value} {w : World} (F : RlA w0 m R b o n lB t rate start sx D u9 u39 u40 u41 u42 u43 u44 u45 u46 u47 u48 u49 u50 u51 u52 u53 w) (hn : nv = Value.int IntKind.i64 start) : RlA w0 m R b o n lB t rate start sx (fun j => D j || j == 13) u9 u39 u40 u41 u42 u43 u44 u45 u46 u47 u48 u49 u50 u51 nv u53 w :=
  { below := F.below,
    c5 := F.c5,
    bl := F.bl,
    rt := F.rt,
    rs := F.rs,
    f0 := fun h => F.f0 (by simpa using h),
    f1 := fun h => F.f1 (by simpa using h),
    f2 := fun h => F.f2 (by simpa using h),
    f3 := fun h => F.f3 (by simpa using h),
    f4 := fun h => F.f4 (by simpa using h),
    f5 := fun h => F.f5 (by simpa using h),
    f6 := fun h => F.f6 (by simpa using h),
    f7 := fun h => F.f7 (by simpa using h),
    f8 := fun h => F.f8 (by simpa using h),
    f9 := fun h => F.f9 (by simpa using h),
    f10 := fun h => F.f10 (by simpa using h),
    f11 := fun h => F.f11 (by simpa using h),
    f12 := fun h => F.f12 (by simpa using h),
    f13 := fun _ => hn,
    f14 := fun h => F.f14 (by simpa using h),
    f15 := fun h => F.f15 (by simpa using h),
    f16 := fun h => ⟨by simp [(F.f16 (by simpa using h)).1], (F.f16 (by simpa using h)).2⟩ }
theorem RlA.set14 {w0 : World} {m R b o n lB : Nat} {t : ByteArray} {rate start : Int} {sx : List (BitVec 8)} {D : Nat → Bool} {u9 u39 u40 u41 u42 u43 u44 u45 u46 u47 u48 u49 u50 u51 u52 u53 nv : Value} {w : World} (F : RlA w0 m R b o n lB t rate start sx D u9 u39 u40 u41 u42 u43 u44 u45 u46 u47 u48 u49 u50 u51 u52 u53 w) (hn : nv = Value.agg #[.string t, .int .i64 rate, .int .i64 start]) : RlA w0 m R b o n lB t rate start sx (fun j => D j || j == 14) u9 u39 u40 u41 u42 u43 u44 u45 u46 u47 u48 u49 u50 u51 u52 nv w :=
  { below := F.below,
    c5 := F.c5,
    bl := F.bl,
    rt := F.rt,
    rs := F.rs,
    f0 := fun h => F.f0 (by simpa using h),
    f1 := fun h => F.f1 (by simpa using h),
    f2 := fun h => F.f2 (by simpa using h),
    f3 := fun h => F.f3 (by simpa using h),
    f4 := fun h => F.f4 (by simpa using h),
    f5 := fun h => F.f5 (by simpa using h),
    f6 := fun h => F.f6 (by simpa using h),
    f7 := fun h => F.f7 (by simpa using h),
    f8 := fun h => F.f8 (by simpa using h),
    f9 := fun h => F.f9 (by simpa using h),
    f10 := fun h => F.f10 (by simpa using h),
    f11 := fun h => F.f11 (by simpa using h),
    f12 := fun h => F.f12 (by simpa using h),
    f13 := fun h => F.f13 (by simpa using h),
    f14 := fun _ => hn,
    f15 := fun h => F.f15 (by simpa using h),
    f16 := fun h => ⟨by simp [(F.f16 (by simpa using h)).1], (F.f16 (by simpa using h)).2⟩ }
theorem RlA.set15 {w0 : World} {m R b o n lB : Nat} {t : ByteArray} {rate start : Int} {sx : List (BitVec 8)} {D : Nat → Bool} {u9 u39 u40 u41 u42 u43 u44 u45 u46 u47 u48 u49 u50 u51 u52 u53 nv : Value} {w : World} (F : RlA w0 m R b o n lB t rate start sx D u9 u39 u40 u41 u42 u43 u44 u45 u46 u47 u48 u49 u50 u51 u52 u53 w) (hz : D 15 = false) (hn : ∃ g x y z, nv = .pointer (some ⟨g, 0, none⟩) ∧ w0.heap.size ≤ g ∧ Blk w g 25 #[x, y, z]) : RlA w0 m R b o n lB t rate start sx (fun j => D j || j == 15) nv u39 u40 u41 u42 u43 u44 u45 u46 u47 u48 u49 u50 u51 u52 u53 w :=
  { below := F.below,
    c5 := F.c5,
    bl := F.bl,
    rt := F.rt,
    rs := F.rs,
    f0 := fun h => F.f0 (by simpa using h),
    f1 := fun h => F.f1 (by simpa using h),
    f2 := fun h => F.f2 (by simpa using h),
    f3 := fun h => F.f3 (by simpa using h),
    f4 := fun h => F.f4 (by simpa using h),
    f5 := fun h => F.f5 (by simpa using h),
    f6 := fun h => F.f6 (by simpa using h),
    f7 := fun h => F.f7 (by simpa using h),
    f8 := fun h => F.f8 (by simpa using h),
    f9 := fun h => F.f9 (by simpa using h),
    f10 := fun h => F.f10 (by simpa using h),
    f11 := fun h => F.f11 (by simpa using h),
    f12 := fun h => F.f12 (by simpa using h),
    f13 := fun h => F.f13 (by simpa using h),
    f14 := fun h => F.f14 (by simpa using h),
    f15 := fun _ => hn,
    f16 := fun h => absurd (F.f16 (by simpa using h)).1 (by simp [hz]) }
theorem RlA.set16 {w0 : World} {m R b o n lB : Nat} {t : ByteArray} {rate start : Int} {sx : List (BitVec 8)} {D : Nat → Bool} {u9 u39 u40 u41 u42 u43 u44 u45 u46 u47 u48 u49 u50 u51 u52 u53 : Value} {w : World} (F : RlA w0 m R b o n lB t rate start sx D u9 u39 u40 u41 u42 u43 u44 u45 u46 u47 u48 u49 u50 u51 u52 u53 w) (ho : D 15 = true) (hn :  ∃ g, u9 = .pointer (some ⟨g, 0, none⟩) ∧ w0.heap.size ≤ g ∧ Blk w g 25 #[.string t, .int .i64 rate, .int .i64 start]) : RlA w0 m R b o n lB t rate start sx (fun j => D j || j == 16) u9 u39 u40 u41 u42 u43 u44 u45 u46 u47 u48 u49 u50 u51 u52 u53 w :=
  { below := F.below,
    c5 := F.c5,
    bl := F.bl,
    rt := F.rt,
    rs := F.rs,
    f0 := fun h => F.f0 (by simpa using h),
    f1 := fun h => F.f1 (by simpa using h),
    f2 := fun h => F.f2 (by simpa using h),
    f3 := fun h => F.f3 (by simpa using h),
    f4 := fun h => F.f4 (by simpa using h),
    f5 := fun h => F.f5 (by simpa using h),
    f6 := fun h => F.f6 (by simpa using h),
    f7 := fun h => F.f7 (by simpa using h),
    f8 := fun h => F.f8 (by simpa using h),
    f9 := fun h => F.f9 (by simpa using h),
    f10 := fun h => F.f10 (by simpa using h),
    f11 := fun h => F.f11 (by simpa using h),
    f12 := fun h => F.f12 (by simpa using h),
    f13 := fun h => F.f13 (by simpa using h),
    f14 := fun h => F.f14 (by simpa using h),
    f15 := fun h => F.f15 (by simpa using h),
    f16 := fun _ => ⟨by simp [ho], hn⟩ }
def RlAI (w0 : World) (m R b o n lB : Nat) (t : ByteArray) (rate start : Int) (sx : List (BitVec 8)) (D : Nat → Bool) (a : Act) (w : World) : Prop :=
  ∃ u9 u39 u40 u41 u42 u43 u44 u45 u46 u47 u48 u49 u50 u51 u52 u53, a = ⟨#[Value.pointer (some ⟨m, 0, none⟩), undef, Value.pointer (some ⟨R, 0, none⟩), Value.int IntKind.i64 0, Value.int IntKind.i64 0, Value.slice (some ⟨b, o, none⟩) n n, Value.int IntKind.i64 0, Value.int IntKind.i64 (t.size : Int), Value.int IntKind.i64 (7 + (t.size : Int) + 8), u9, Value.tuple #[Value.slice (some ⟨b, o, none⟩) n n, Value.int IntKind.i64 0], Value.pointer (some ⟨m, 0, none⟩), Value.pointer (some ⟨m, 0, none⟩), Value.int IntKind.i64 (lB : Int), Value.int IntKind.i64 (n : Int), Value.tuple #[Value.slice (some ⟨b, o, none⟩) n n, Value.int IntKind.i64 0], Value.slice (some ⟨b, o, none⟩) n n, Value.int IntKind.i64 0, Value.int IntKind.i64 0, Value.bool false, Value.bool false, Value.slice (some ⟨b, o, none⟩) n n, Value.int IntKind.i64 (n : Int), Value.bool false, Value.bool false, undef, undef, Value.slice (some ⟨b, o, none⟩) n n, Value.pointer (some ⟨b, o + 6, none⟩), Value.int IntKind.u8 (t.size : Int), Value.int IntKind.i64 (t.size : Int), Value.int IntKind.i64 (t.size : Int), Value.int IntKind.i64 (7 + (t.size : Int)), Value.int IntKind.i64 (7 + (t.size : Int) + 8), Value.slice (some ⟨b, o, none⟩) n n, Value.int IntKind.i64 (n : Int), Value.int IntKind.i64 (7 + (t.size : Int) + 8), Value.bool false, undef, u39, u40, u41, u42, u43, u44, u45, u46, u47, u48, u49, u50, u51, u52, u53, undef, undef, undef, undef, undef, undef, undef, undef, undef, undef, undef, undef, undef, undef, undef], []⟩ ∧ RlA w0 m R b o n lB t rate start sx D u9 u39 u40 u41 u42 u43 u44 u45 u46 u47 u48 u49 u50 u51 u52 u53 w
structure RlB (w0 : World) (m R b o n lB g : Nat) (t : ByteArray) (rate start : Int) (r : List (BitVec 8)) (p39 p40 p41 p42 p43 p44 p45 p46 p47 p48 p49 p50 p51 p52 p53 : Value) (D : Nat → Bool) (u54 u55 u56 u57 u58 u59 u60 u61 u62 u63 u64 u65 : Value) (w : World) : Prop where
  below : Below w0.heap.size w0 w
  tabs : Tabs w
  blk : Blk w g 25 #[.string t, .int .i64 rate, .int .i64 start]
  rb : RBytes w w.heap.size (some ⟨b, o, none⟩) n (labelB t rate start ++ r)
  f0 : D 0 = true → u54 = Value.agg #[.string t, .int .i64 rate, .int .i64 start]
  f1 : D 1 = true → u55 = Value.bool true
  f2 : D 2 = true → u56 = Value.bool false
  f3 : D 3 = true → u57 = Value.bool false
  f4 : D 4 = true → u58 = Value.agg #[.string t, .int .i64 rate, .int .i64 start]
  f5 : D 5 = true → FreshB w0.heap.size w u59 (labelB t rate start)
  f6 : D 6 = true → u60 = Value.slice (some ⟨b, o, none⟩) n n
  f7 : D 7 = true → u61 = Value.int IntKind.i64 (7 + (t.size : Int) + 8)
  f8 : D 8 = true → u62 = Value.slice (some ⟨b, o, none⟩) (t.size + 15) n
  f9 : D 9 = true → u63 = Value.bool true
  f10 : D 10 = true → u64 = Value.bool false
  f11 : D 11 = true → u65 = Value.bool false
theorem RlB.mono {w0 : World} {m R b o n lB g : Nat} {t : ByteArray} {rate start : Int} {r : List (BitVec 8)} {p39 p40 p41 p42 p43 p44 p45 p46 p47 p48 p49 p50 p51 p52 p53 : Value} {D : Nat → Bool} {u54 u55 u56 u57 u58 u59 u60 u61 u62 u63 u64 u65 : Value} {w w' : World} (F : RlB w0 m R b o n lB g t rate start r p39 p40 p41 p42 p43 p44 p45 p46 p47 p48 p49 p50 p51 p52 p53 D u54 u55 u56 u57 u58 u59 u60 u61 u62 u63 u64 u65 w) (hb : Below w.heap.size w w')  : RlB w0 m R b o n lB g t rate start r p39 p40 p41 p42 p43 p44 p45 p46 p47 p48 p49 p50 p51 p52 p53 D u54 u55 u56 u57 u58 u59 u60 u61 u62 u63 u64 u65 w' :=
  { below := F.below.trans (hb.mono F.below.size),
    tabs := Tabs.below F.tabs hb,
    blk := F.blk.below hb F.blk.lt,
    rb := Reads.more (Reads.below F.rb hb) hb.size,
    f0 := fun h => (F.f0 h),
    f1 := fun h => (F.f1 h),
    f2 := fun h => (F.f2 h),
    f3 := fun h => (F.f3 h),
    f4 := fun h => (F.f4 h),
    f5 := fun h => (F.f5 h).below hb,
    f6 := fun h => (F.f6 h),
    f7 := fun h => (F.f7 h),
    f8 := fun h => (F.f8 h),
    f9 := fun h => (F.f9 h),
    f10 := fun h => (F.f10 h),
    f11 := fun h => (F.f11 h) }
theorem RlB.set0 {w0 : World} {m R b o n lB g : Nat} {t : ByteArray} {rate start : Int} {r : List (BitVec 8)} {p39 p40 p41 p42 p43 p44 p45 p46 p47 p48 p49 p50 p51 p52 p53 : Value} {D : Nat → Bool} {u54 u55 u56 u57 u58 u59 u60 u61 u62 u63 u64 u65 nv : Value} {w : World} (F : RlB w0 m R b o n lB g t rate start r p39 p40 p41 p42 p43 p44 p45 p46 p47 p48 p49 p50 p51 p52 p53 D u54 u55 u56 u57 u58 u59 u60 u61 u62 u63 u64 u65 w) (hn : nv = Value.agg #[.string t, .int .i64 rate, .int .i64 start]) : RlB w0 m R b o n lB g t rate start r p39 p40 p41 p42 p43 p44 p45 p46 p47 p48 p49 p50 p51 p52 p53 (fun j => D j || j == 0) nv u55 u56 u57 u58 u59 u60 u61 u62 u63 u64 u65 w :=
  { below := F.below,
    tabs := F.tabs,
    blk := F.blk,
    rb := F.rb,
    f0 := fun _ => hn,
    f1 := fun h => F.f1 (by simpa using h),
    f2 := fun h => F.f2 (by simpa using h),
    f3 := fun h => F.f3 (by simpa using h),
    f4 := fun h => F.f4 (by simpa using h),
    f5 := fun h => F.f5 (by simpa using h),
    f6 := fun h => F.f6 (by simpa using h),
    f7 := fun h => F.f7 (by simpa using h),
    f8 := fun h => F.f8 (by simpa using h),
    f9 := fun h => F.f9 (by simpa using h),
    f10 := fun h => F.f10 (by simpa using h),
    f11 := fun h => F.f11 (by simpa using h) }
theorem RlB.set1 {w0 : World} {m R b o n lB g : Nat} {t : ByteArray} {rate start : Int} {r : List (BitVec 8)} {p39 p40 p41 p42 p43 p44 p45 p46 p47 p48 p49 p50 p51 p52 p53 : Value} {D : Nat → Bool} {u54 u55 u56 u57 u58 u59 u60 u61 u62 u63 u64 u65 nv : Value} {w : World} (F : RlB w0 m R b o n lB g t rate start r p39 p40 p41 p42 p43 p44 p45 p46 p47 p48 p49 p50 p51 p52 p53 D u54 u55 u56 u57 u58 u59 u60 u61 u62 u63 u64 u65 w) (hn : nv = Value.bool true) : RlB w0 m R b o n lB g t rate start r p39 p40 p41 p42 p43 p44 p45 p46 p47 p48 p49 p50 p51 p52 p53 (fun j => D j || j == 1) u54 nv u56 u57 u58 u59 u60 u61 u62 u63 u64 u65 w :=
  { below := F.below,
    tabs := F.tabs,
    blk := F.blk,
    rb := F.rb,
    f0 := fun h => F.f0 (by simpa using h),
    f1 := fun _ => hn,
    f2 := fun h => F.f2 (by simpa using h),
    f3 := fun h => F.f3 (by simpa using h),
    f4 := fun h => F.f4 (by simpa using h),
    f5 := fun h => F.f5 (by simpa using h),
    f6 := fun h => F.f6 (by simpa using h),
    f7 := fun h => F.f7 (by simpa using h),
    f8 := fun h => F.f8 (by simpa using h),
    f9 := fun h => F.f9 (by simpa using h),
    f10 := fun h => F.f10 (by simpa using h),
    f11 := fun h => F.f11 (by simpa using h) }
theorem RlB.set2 {w0 : World} {m R b o n lB g : Nat} {t : ByteArray} {rate start : Int} {r : List (BitVec 8)} {p39 p40 p41 p42 p43 p44 p45 p46 p47 p48 p49 p50 p51 p52 p53 : Value} {D : Nat → Bool} {u54 u55 u56 u57 u58 u59 u60 u61 u62 u63 u64 u65 nv : Value} {w : World} (F : RlB w0 m R b o n lB g t rate start r p39 p40 p41 p42 p43 p44 p45 p46 p47 p48 p49 p50 p51 p52 p53 D u54 u55 u56 u57 u58 u59 u60 u61 u62 u63 u64 u65 w) (hn : nv = Value.bool false) : RlB w0 m R b o n lB g t rate start r p39 p40 p41 p42 p43 p44 p45 p46 p47 p48 p49 p50 p51 p52 p53 (fun j => D j || j == 2) u54 u55 nv u57 u58 u59 u60 u61 u62 u63 u64 u65 w :=
  { below := F.below,
    tabs := F.tabs,
    blk := F.blk,
    rb := F.rb,
    f0 := fun h => F.f0 (by simpa using h),
    f1 := fun h => F.f1 (by simpa using h),
    f2 := fun _ => hn,
    f3 := fun h => F.f3 (by simpa using h),
    f4 := fun h => F.f4 (by simpa using h),
    f5 := fun h => F.f5 (by simpa using h),
    f6 := fun h => F.f6 (by simpa using h),
    f7 := fun h => F.f7 (by simpa using h),
    f8 := fun h => F.f8 (by simpa using h),
    f9 := fun h => F.f9 (by simpa using h),
    f10 := fun h => F.f10 (by simpa using h),
    f11 := fun h => F.f11 (by simpa using h) }
theorem RlB.set3 {w0 : World} {m R b o n lB g : Nat} {t : ByteArray} {rate start : Int} {r : List (BitVec 8)} {p39 p40 p41 p42 p43 p44 p45 p46 p47 p48 p49 p50 p51 p52 p53 : Value} {D : Nat → Bool} {u54 u55 u56 u57 u58 u59 u60 u61 u62 u63 u64 u65 nv : Value} {w : World} (F : RlB w0 m R b o n lB g t rate start r p39 p40 p41 p42 p43 p44 p45 p46 p47 p48 p49 p50 p51 p52 p53 D u54 u55 u56 u57 u58 u59 u60 u61 u62 u63 u64 u65 w) (hn : nv = Value.bool false) : RlB w0 m R b o n lB g t rate start r p39 p40 p41 p42 p43 p44 p45 p46 p47 p48 p49 p50 p51 p52 p53 (fun j => D j || j == 3) u54 u55 u56 nv u58 u59 u60 u61 u62 u63 u64 u65 w :=
  { below := F.below,
    tabs := F.tabs,
    blk := F.blk,
    rb := F.rb,
    f0 := fun h => F.f0 (by simpa using h),
    f1 := fun h => F.f1 (by simpa using h),
    f2 := fun h => F.f2 (by simpa using h),
    f3 := fun _ => hn,
    f4 := fun h => F.f4 (by simpa using h),
    f5 := fun h => F.f5 (by simpa using h),
    f6 := fun h => F.f6 (by simpa using h),
    f7 := fun h => F.f7 (by simpa using h),
    f8 := fun h => F.f8 (by simpa using h),
    f9 := fun h => F.f9 (by simpa using h),
    f10 := fun h => F.f10 (by simpa using h),
    f11 := fun h => F.f11 (by simpa using h) }
theorem RlB.set4 {w0 : World} {m R b o n lB g : Nat} {t : ByteArray} {rate start : Int} {r : List (BitVec 8)} {p39 p40 p41 p42 p43 p44 p45 p46 p47 p48 p49 p50 p51 p52 p53 : Value} {D : Nat → Bool} {u54 u55 u56 u57 u58 u59 u60 u61 u62 u63 u64 u65 nv : Value} {w : World} (F : RlB w0 m R b o n lB g t rate start r p39 p40 p41 p42 p43 p44 p45 p46 p47 p48 p49 p50 p51 p52 p53 D u54 u55 u56 u57 u58 u59 u60 u61 u62 u63 u64 u65 w) (hn : nv = Value.agg #[.string t, .int .i64 rate, .int .i64 start]) : RlB w0 m R b o n lB g t rate start r p39 p40 p41 p42 p43 p44 p45 p46 p47 p48 p49 p50 p51 p52 p53 (fun j => D j || j == 4) u54 u55 u56 u57 nv u59 u60 u61 u62 u63 u64 u65 w :=
  { below := F.below,
    tabs := F.tabs,
    blk := F.blk,
    rb := F.rb,
    f0 := fun h => F.f0 (by simpa using h),
    f1 := fun h => F.f1 (by simpa using h),
    f2 := fun h => F.f2 (by simpa using h),
    f3 := fun h => F.f3 (by simpa using h),
    f4 := fun _ => hn,
    f5 := fun h => F.f5 (by simpa using h),
    f6 := fun h => F.f6 (by simpa using h),
    f7 := fun h => F.f7 (by simpa using h),
    f8 := fun h => F.f8 (by simpa using h),
    f9 := fun h => F.f9 (by simpa using h),
    f10 := fun h => F.f10 (by simpa using h),
    f11 := fun h => F.f11 (by simpa using h) }
theorem RlB.set5 {w0 : World} {m R b o n lB g : Nat} {t : ByteArray} {rate start : Int} {r : List (BitVec 8)} {p39 p40 p41 p42 p43 p44 p45 p46 p47 p48 p49 p50 p51 p52 p53 : Value} {D : Nat → Bool} {u54 u55 u56 u57 u58 u59 u60 u61 u62 u63 u64 u65 nv : Value} {w : World} (F : RlB w0 m R b o n lB g t rate start r p39 p40 p41 p42 p43 p44 p45 p46 p47 p48 p49 p50 p51 p52 p53 D u54 u55 u56 u57 u58 u59 u60 u61 u62 u63 u64 u65 w) (hn : FreshB w0.heap.size w nv (labelB t rate start)) : RlB w0 m R b o n lB g t rate start r p39 p40 p41 p42 p43 p44 p45 p46 p47 p48 p49 p50 p51 p52 p53 (fun j => D j || j == 5) u54 u55 u56 u57 u58 nv u60 u61 u62 u63 u64 u65 w :=
  { below := F.below,
    tabs := F.tabs,
    blk := F.blk,
    rb := F.rb,
    f0 := fun h => F.f0 (by simpa using h),
    f1 := fun h => F.f1 (by simpa using h),
    f2 := fun h => F.f2 (by simpa using h),
    f3 := fun h => F.f3 (by simpa using h),
    f4 := fun h => F.f4 (by simpa using h),
    f5 := fun _ => hn,
    f6 := fun h => F.f6 (by simpa using h),
    f7 := fun h => F.f7 (by simpa using h),
    f8 := fun h => F.f8 (by simpa using h),
    f9 := fun h => F.f9 (by simpa using h),
    f10 := fun h => F.f10 (by simpa using h),
    f11 := fun h => F.f11 (by simpa using h) }
theorem RlB.set6 {w0 : World} {m R b o n lB g : Nat} {t : ByteArray} {rate start : Int} {r : List (BitVec 8)} {p39 p40 p41 p42 p43 p44 p45 p46 p47 p48 p49 p50 p51 p52 p53 : Value} {D : Nat → Bool} {u54 u55 u56 u57 u58 u59 u60 u61 u62 u63 u64 u65 nv : Value} {w : World} (F : RlB w0 m R b o n lB g t rate start r p39 p40 p41 p42 p43 p44 p45 p46 p47 p48 p49 p50 p51 p52 p53 D u54 u55 u56 u57 u58 u59 u60 u61 u62 u63 u64 u65 w) (hn : nv = Value.slice (some ⟨b, o, none⟩) n n) : RlB w0 m R b o n lB g t rate start r p39 p40 p41 p42 p43 p44 p45 p46 p47 p48 p49 p50 p51 p52 p53 (fun j => D j || j == 6) u54 u55 u56 u57 u58 u59 nv u61 u62 u63 u64 u65 w :=
  { below := F.below,
    tabs := F.tabs,
    blk := F.blk,
    rb := F.rb,
    f0 := fun h => F.f0 (by simpa using h),
    f1 := fun h => F.f1 (by simpa using h),
    f2 := fun h => F.f2 (by simpa using h),
    f3 := fun h => F.f3 (by simpa using h),
    f4 := fun h => F.f4 (by simpa using h),
    f5 := fun h => F.f5 (by simpa using h),
    f6 := fun _ => hn,
    f7 := fun h => F.f7 (by simpa using h),
    f8 := fun h => F.f8 (by simpa using h),
    f9 := fun h => F.f9 (by simpa using h),
    f10 := fun h => F.f10 (by simpa using h),
    f11 := fun h => F.f11 (by simpa using h) }
theorem RlB.set7 {w0 : World} {m R b o n lB g : Nat} {t : ByteArray} {rate start : Int} {r : List (BitVec 8)} {p39 p40 p41 p42 p43 p44 p45 p46 p47 p48 p49 p50 p51 p52 p53 : Value} {D : Nat → Bool} {u54 u55 u56 u57 u58 u59 u60 u61 u62 u63 u64 u65 nv : Value} {w : World} (F : RlB w0 m R b o n lB g t rate start r p39 p40 p41 p42 p43 p44 p45 p46 p47 p48 p49 p50 p51 p52 p53 D u54 u55 u56 u57 u58 u59 u60 u61 u62 u63 u64 u65 w) (hn : nv = Value.int IntKind.i64 (7 + (t.size : Int) + 8)) : RlB w0 m R b o n lB g t rate start r p39 p40 p41 p42 p43 p44 p45 p46 p47 p48 p49 p50 p51 p52 p53 (fun j => D j || j == 7) u54 u55 u56 u57 u58 u59 u60 nv u62 u63 u64 u65 w :=
  { below := F.below,
    tabs := F.tabs,
    blk := F.blk,
    rb := F.rb,
    f0 := fun h => F.f0 (by simpa using h),
    f1 := fun h => F.f1 (by simpa using h),
    f2 := fun h => F.f2 (by simpa using h),
    f3 := fun h => F.f3 (by simpa using h),
    f4 := fun h => F.f4 (by simpa using h),
    f5 := fun h => F.f5 (by simpa using h),
    f6 := fun h => F.f6 (by simpa using h),
    f7 := fun _ => hn,
    f8 := fun h => F.f8 (by simpa using h),
    f9 := fun h => F.f9 (by simpa using h),
    f10 := fun h => F.f10 (by simpa using h),
    f11 := fun h => F.f11 (by simpa using h) }
theorem RlB.set8 {w0 : World} {m R b o n lB g : Nat} {t : ByteArray} {rate start : Int} {r : List (BitVec 8)} {p39 p40 p41 p42 p43 p44 p45 p46 p47 p48 p49 p50 p51 p52 p53 : Value} {D : Nat → Bool} {u54 u55 u56 u57 u58 u59 u60 u61 u62 u63 u64 u65 nv : Value} {w : World} (F : RlB w0 m R b o n lB g t rate start r p39 p40 p41 p42 p43 p44 p45 p46 p47 p48 p49 p50 p51 p52 p53 D u54 u55 u56 u57 u58 u59 u60 u61 u62 u63 u64 u65 w) (hn : nv = Value.slice (some ⟨b, o, none⟩) (t.size + 15) n) : RlB w0 m R b o n lB g t rate start r p39 p40 p41 p42 p43 p44 p45 p46 p47 p48 p49 p50 p51 p52 p53 (fun j => D j || j == 8) u54 u55 u56 u57 u58 u59 u60 u61 nv u63 u64 u65 w :=
  { below := F.below,
    tabs := F.tabs,
    blk := F.blk,
    rb := F.rb,
    f0 := fun h => F.f0 (by simpa using h),
    f1 := fun h => F.f1 (by simpa using h),
    f2 := fun h => F.f2 (by simpa using h),
    f3 := fun h => F.f3 (by simpa using h),
    f4 := fun h => F.f4 (by simpa using h),
    f5 := fun h => F.f5 (by simpa using h),
    f6 := fun h => F.f6 (by simpa using h),
    f7 := fun h => F.f7 (by simpa using h),
    f8 := fun _ => hn,
    f9 := fun h => F.f9 (by simpa using h),
    f10 := fun h => F.f10 (by simpa using h),
    f11 := fun h => F.f11 (by simpa using h) }
theorem RlB.set9 {w0 : World} {m R b o n lB g : Nat} {t : ByteArray} {rate start : Int} {r : List (BitVec 8)} {p39 p40 p41 p42 p43 p44 p45 p46 p47 p48 p49 p50 p51 p52 p53 : Value} {D : Nat → Bool} {u54 u55 u56 u57 u58 u59 u60 u61 u62 u63 u64 u65 nv : Value} {w : World} (F : RlB w0 m R b o n lB g t rate start r p39 p40 p41 p42 p43 p44 p45 p46 p47 p48 p49 p50 p51 p52 p53 D u54 u55 u56 u57 u58 u59 u60 u61 u62 u63 u64 u65 w) (hn : nv = Value.bool true) : RlB w0 m R b o n lB g t rate start r p39 p40 p41 p42 p43 p44 p45 p46 p47 p48 p49 p50 p51 p52 p53 (fun j => D j || j == 9) u54 u55 u56 u57 u58 u59 u60 u61 u62 nv u64 u65 w :=
  { below := F.below,
    tabs := F.tabs,
    blk := F.blk,
    rb := F.rb,
    f0 := fun h => F.f0 (by simpa using h),
    f1 := fun h => F.f1 (by simpa using h),
    f2 := fun h => F.f2 (by simpa using h),
    f3 := fun h => F.f3 (by simpa using h),
    f4 := fun h => F.f4 (by simpa using h),
    f5 := fun h => F.f5 (by simpa using h),
    f6 := fun h => F.f6 (by simpa using h),
    f7 := fun h => F.f7 (by simpa using h),
    f8 := fun h => F.f8 (by simpa using h),
    f9 := fun _ => hn,
    f10 := fun h => F.f10 (by simpa using h),
    f11 := fun h => F.f11 (by simpa using h) }
theorem RlB.set10 {w0 : World} {m R b o n lB g : Nat} {t : ByteArray} {rate start : Int} {r : List (BitVec 8)} {p39 p40 p41 p42 p43 p44 p45 p46 p47 p48 p49 p50 p51 p52 p53 : Value} {D : Nat → Bool} {u54 u55 u56 u57 u58 u59 u60 u61 u62 u63 u64 u65 nv : Value} {w : World} (F : RlB w0 m R b o n lB g t rate start r p39 p40 p41 p42 p43 p44 p45 p46 p47 p48 p49 p50 p51 p52 p53 D u54 u55 u56 u57 u58 u59 u60 u61 u62 u63 u64 u65 w) (hn : nv = Value.bool false) : RlB w0 m R b o n lB g t rate start r p39 p40 p41 p42 p43 p44 p45 p46 p47 p48 p49 p50 p51 p52 p53 (fun j => D j || j == 10) u54 u55 u56 u57 u58 u59 u60 u61 u62 u63 nv u65 w :=
  { below := F.below,
    tabs := F.tabs,
    blk := F.blk,
    rb := F.rb,
    f0 := fun h => F.f0 (by simpa using h),
    f1 := fun h => F.f1 (by simpa using h),
    f2 := fun h => F.f2 (by simpa using h),
    f3 := fun h => F.f3 (by simpa using h),
    f4 := fun h => F.f4 (by simpa using h),
    f5 := fun h => F.f5 (by simpa using h),
    f6 := fun h => F.f6 (by simpa using h),
    f7 := fun h => F.f7 (by simpa using h),
    f8 := fun h => F.f8 (by simpa using h),
    f9 := fun h => F.f9 (by simpa using h),
    f10 := fun _ => hn,
    f11 := fun h => F.f11 (by simpa using h) }
theorem RlB.set11 {w0 : World} {m R b o n lB g : Nat} {t : ByteArray} {rate start : Int} {r : List (BitVec 8)} {p39 p40 p41 p42 p43 p44 p45 p46 p47 p48 p49 p50 p51 p52 p53 : Value} {D : Nat → Bool} {u54 u55 u56 u57 u58 u59 u60 u61 u62 u63 u64 u65 nv : Value} {w : World} (F : RlB w0 m R b o n lB g t rate start r p39 p40 p41 p42 p43 p44 p45 p46 p47 p48 p49 p50 p51 p52 p53 D u54 u55 u56 u57 u58 u59 u60 u61 u62 u63 u64 u65 w) (hn : nv = Value.bool false) : RlB w0 m R b o n lB g t rate start r p39 p40 p41 p42 p43 p44 p45 p46 p47 p48 p49 p50 p51 p52 p53 (fun j => D j || j == 11) u54 u55 u56 u57 u58 u59 u60 u61 u62 u63 u64 nv w :=
  { below := F.below,
    tabs := F.tabs,
    blk := F.blk,
    rb := F.rb,
    f0 := fun h => F.f0 (by simpa using h),
    f1 := fun h => F.f1 (by simpa using h),
    f2 := fun h => F.f2 (by simpa using h),
    f3 := fun h => F.f3 (by simpa using h),
    f4 := fun h => F.f4 (by simpa using h),
    f5 := fun h => F.f5 (by simpa using h),
    f6 := fun h => F.f6 (by simpa using h),
    f7 := fun h => F.f7 (by simpa using h),
    f8 := fun h => F.f8 (by simpa using h),
    f9 := fun h => F.f9 (by simpa using h),
    f10 := fun h => F.f10 (by simpa using h),
    f11 := fun _ => hn }
def RlBI (w0 : World) (m R b o n lB g : Nat) (t : ByteArray) (rate start : Int) (r : List (BitVec 8)) (p39 p40 p41 p42 p43 p44 p45 p46 p47 p48 p49 p50 p51 p52 p53 : Value) (D : Nat → Bool) (a : Act) (w : World) : Prop :=
  ∃ u54 u55 u56 u57 u58 u59 u60 u61 u62 u63 u64 u65, a = ⟨#[Value.pointer (some ⟨m, 0, none⟩), undef, Value.pointer (some ⟨R, 0, none⟩), Value.int IntKind.i64 0, Value.int IntKind.i64 0, Value.slice (some ⟨b, o, none⟩) n n, Value.int IntKind.i64 0, Value.int IntKind.i64 (t.size : Int), Value.int IntKind.i64 (7 + (t.size : Int) + 8), Value.pointer (some ⟨g, 0, none⟩), Value.tuple #[Value.slice (some ⟨b, o, none⟩) n n, Value.int IntKind.i64 0], Value.pointer (some ⟨m, 0, none⟩), Value.pointer (some ⟨m, 0, none⟩), Value.int IntKind.i64 (lB : Int), Value.int IntKind.i64 (n : Int), Value.tuple #[Value.slice (some ⟨b, o, none⟩) n n, Value.int IntKind.i64 0], Value.slice (some ⟨b, o, none⟩) n n, Value.int IntKind.i64 0, Value.int IntKind.i64 0, Value.bool false, Value.bool false, Value.slice (some ⟨b, o, none⟩) n n, Value.int IntKind.i64 (n : Int), Value.bool false, Value.bool false, undef, undef, Value.slice (some ⟨b, o, none⟩) n n, Value.pointer (some ⟨b, o + 6, none⟩), Value.int IntKind.u8 (t.size : Int), Value.int IntKind.i64 (t.size : Int), Value.int IntKind.i64 (t.size : Int), Value.int IntKind.i64 (7 + (t.size : Int)), Value.int IntKind.i64 (7 + (t.size : Int) + 8), Value.slice (some ⟨b, o, none⟩) n n, Value.int IntKind.i64 (n : Int), Value.int IntKind.i64 (7 + (t.size : Int) + 8), Value.bool false, undef, p39, p40, p41, p42, p43, p44, p45, p46, p47, p48, p49, p50, p51, p52, p53, u54, u55, u56, u57, u58, u59, u60, u61, u62, u63, u64, u65, undef, undef, undef], []⟩ ∧ RlB w0 m R b o n lB g t rate start r p39 p40 p41 p42 p43 p44 p45 p46 p47 p48 p49 p50 p51 p52 p53 D u54 u55 u56 u57 u58 u59 u60 u61 u62 u63 u64 u65 w
set_option maxRecDepth 100000 in
set_option maxHeartbeats 1000000 in
theorem readLabel_of (m : Nat) (F : List Nat) (L : Nat) (t : ByteArray) (rate start : Int) (Bs rest : List (BitVec 8)) (w : World) (h : Med w m F Bs L) (hBs : Bs = labelB t rate start ++ rest) (hT : Tabs w) (hFT : Far F) (hm : mayB t rate start = true)
    (hb28 : Bs.length ≤ 268435456) (hL : L ≤ 1000000000) :
    Calls Tryd.prog 19 #[.pointer (some ⟨m, 0, none⟩)] w fun e w' => e = .returned (.tuple #[labV t rate start, .int .i64 (t.size + 15 : Nat), .int .i64 0]) ∧
      ∃ F', Med w' m F' Bs (L + 1) ∧ Step w w' F F' := by
  have hm' := hm
  simp only [mayB, Bool.and_eq_true, decide_eq_true_eq] at hm'
  obtain ⟨h1, _, h3, h4, h5, h6⟩ := hm'
  have hbl := labelB_length t rate start
  have hBl : Bs.length = t.size + 15 + rest.length := by rw [hBs, List.length_append, hbl]
  obtain ⟨n, hn⟩ : ∃ n, min 115 Bs.length = n := ⟨_, rfl⟩
  have hnl : t.size + 15 ≤ n := by omega
  have hnl2 : n ≤ Bs.length := by omega
  have hn115 : n ≤ 115 := by omega
  have hmin : min (115 : Int) (Bs.length : Int) = (n : Int) := by omega
  obtain ⟨r, hr⟩ : ∃ r, Bs.take n = labelB t rate start ++ r := ⟨rest.take (n - (t.size + 15)), by rw [hBs, List.take_append, List.take_of_length_le (by omega), hbl]⟩
  have hr0 : ((Bs.drop 0).take n) = labelB t rate start ++ r := by rw [List.drop_zero]; exact hr
  have HB := Lib.hid hBs; have HBl := Lib.hid hBl; have Hbl := Lib.hid hbl; have HN := Lib.hid hn
  clear hBs hBl hbl hn hr
  have hA : Below w.heap.size w (w.alloc (Obj.cells #[.string ⟨#[]⟩, .int .i64 0, .int .i64 0] 25)) := (Below.refl w.heap.size w).alloc (Nat.le_refl _) _
  have hk : Blk (w.alloc (Obj.cells #[.string ⟨#[]⟩, .int .i64 0, .int .i64 0] 25)) w.heap.size 25 #[.string ⟨#[]⟩, .int .i64 0, .int .i64 0] := Blk.new _ _ _
  have hMA := h.below hA
  have hTA := Tabs.below hT hA
  have HA := Lib.hid hA; clear hA
  go_enter Tryd.func19, Tryd.ntmps19
  go_wp2_with fail
  refine (size_any m F Bs L _ hMA).mono ?_
  rintro e w0 ⟨rfl, rfl⟩
  go_wp2_with fail
  refine (rread_yes m F Bs L 0 n _ hMA (by omega) hb28 hL).mono ?_
  rw [hr0]
  rintro e w0 ⟨A, rfl, hR, F1, hM1, hS1⟩
  have hk1 := hS1.blk hk (fun hk => Nat.lt_irrefl _ (h.lt _ hk))
  obtain ⟨b, o, rfl, hbw, hc⟩ := Reads.plain hR.1 (by omega) (by omega)
  have hRB : RBytes w0 w0.heap.size (some ⟨b, o, none⟩) n (labelB t rate start ++ r) := hR.1
  have hcz := (RBytes.at_ hRB (k := 6) (by omega))
  rw [lab_6] at hcz
  obtain ⟨ad6, e6, _, c6⟩ := hcz
  obtain rfl := Option.some.inj e6
  rw [add_plain, show u8v (BitVec.ofNat 8 t.size) = .int .u8 (t.size : Int) from int_eq (by rw [BitVec.toNat_ofNat]; omega)] at c6
  have hn7 : decide ((n : Int) < 7) = false := by simp; omega
  have hnS : decide ((n : Int) < 7 + (t.size : Int) + 8) = false := by simp; omega
  clear hc e6
  have HR := Lib.hid hR; have HRB := Lib.hid hRB; clear hR hRB
  go_wp2_with fail
  have hne7 : n ≠ 7 := by omega
  have hneS : n ≠ 7 + t.size := by omega
  have c5 : w0.cell? ⟨b, o + 5, none⟩ = some (.int .u8 rate) := by
    obtain ⟨ad5, e5, _, c5⟩ := RBytes.at_ HRB.out (k := 5) (by omega)
    obtain rfl := Option.some.inj e5
    rw [lab_5, add_plain] at c5
    rw [c5, show u8v (BitVec.ofInt 8 rate) = .int .u8 rate from int_eq (by simp only [BitVec.toNat_ofInt]; omega)]
  have hrt : RBytes w0 w0.heap.size (some ⟨b, o + 7, none⟩) t.size (strB t) := by
    have := reads_sub HRB.out (i := 7) (k := t.size) (by omega) (Nat.le_refl n)
    rw [lab_title, if_neg hne7] at this
    simpa only [Option.map_some, add_plain] using this
  have hrs : RBytes w0 w0.heap.size (some ⟨b, o + (7 + t.size), none⟩) (n - (7 + t.size)) (fourB start.toNat ++ (labelS t rate start ++ r)) := by
    have := reads_sub HRB.out (i := 7 + t.size) (k := n - (7 + t.size)) (by omega) (Nat.le_refl n)
    rw [lab_rest, if_neg hneS, List.take_of_length_le (by have := HRB.out.len; rw [List.length_append, Hbl.out] at this; simp only [List.length_append, fourB_length, labelS]; omega)] at this
    simpa only [Option.map_some, add_plain] using this
  refine wp_region_inv (by kernel_rfl) (by kernel_rfl) (RlAI w0 m w.heap.size b o n Bs.length t rate start (labelS t rate start ++ r)) ?_ ?_ ?_
  · exact ⟨_, _, _, _, _, _, _, _, _, _, _, _, _, _, _, _, rfl, { below := (Below.refl _ _).drew, c5 := c5, bl := hbw, rt := hrt, rs := hrs, f0 := fun h => (by cases h), f1 := fun h => (by cases h), f2 := fun h => (by cases h), f3 := fun h => (by cases h), f4 := fun h => (by cases h), f5 := fun h => (by cases h), f6 := fun h => (by cases h), f7 := fun h => (by cases h), f8 := fun h => (by cases h), f9 := fun h => (by cases h), f10 := fun h => (by cases h), f11 := fun h => (by cases h), f12 := fun h => (by cases h), f13 := fun h => (by cases h), f14 := fun h => (by cases h), f15 := fun h => (by cases h), f16 := fun h => (by cases h) }⟩
  · intro D a w1 i o hI ho hD hE
    obtain ⟨u9, u39, u40, u41, u42, u43, u44, u45, u46, u47, u48, u49, u50, u51, u52, u53, rfl, F⟩ := hI
    clear hmin hr0 HB HBl Hbl HN hk hMA hTA HA hM1 hS1 hk1 c6 hn7 hnS HR HRB hrt hrs c5 h hT hm hb28
    generalize labelS t rate start ++ r = sx at *
    generalize Bs.length = lB at *
    have c5 := F.c5
    have hw7 : (.int .i64 (IntKind.i64.wrap (7 + (t.size : Int))) : Value) = .int .i64 (7 + (t.size : Int)) := int_eq (by rw [IntKind.wrap_i64]; omega)
    have hs1 : 0 ≤ 7 + (t.size : Int) ∧ 7 + (t.size : Int) ≤ (n : Int) := by omega
    have hs2 : (7 : Int) ≤ 7 + (t.size : Int) := by omega
    have hs5 : (5 : Int) < (n : Int) := by omega
    have hs3 : (7 + (t.size : Int)).toNat - 7 = t.size := by omega
    have hs4 : (7 + (t.size : Int)).toNat = 7 + t.size := by omega
    match i, ho, hD, hE with
    | 0, ho, hD, hE =>
      obtain rfl := Option.some.inj ho
      refine wpOp_of rfl rfl ?_
      go_simp
      exact ⟨_, _, _, _, _, _, _, _, _, _, _, _, _, _, _, _, rfl, F.set0 rfl⟩
    | 1, ho, hD, hE =>
      obtain rfl := Option.some.inj ho
      refine wpOp_of rfl rfl ?_
      go_simp
      exact ⟨_, _, _, _, _, _, _, _, _, _, _, _, _, _, _, _, rfl, F.set1 rfl⟩
    | 2, ho, hD, hE =>
      obtain rfl := Option.some.inj ho
      have e1 : D 1 = true := hE ⟨1, .data⟩ (by simp) rfl
      obtain rfl := F.f1 e1
      refine wpOp_of rfl rfl ?_
      go_simp
      exact ⟨_, _, _, _, _, _, _, _, _, _, _, _, _, _, _, _, rfl, F.set2 rfl⟩
    | 3, ho, hD, hE =>
      obtain rfl := Option.some.inj ho
      have e0 : D 0 = true := hE ⟨0, .data⟩ (by simp) rfl
      obtain rfl := F.f0 e0
      have e2 : D 2 = true := hE ⟨2, .data⟩ (by simp) rfl
      obtain rfl := F.f2 e2
      refine wpOp_of rfl rfl ?_
      go_simp
      exact ⟨_, _, _, _, _, _, _, _, _, _, _, _, _, _, _, _, rfl, F.set3 rfl⟩
    | 4, ho, hD, hE =>
      obtain rfl := Option.some.inj ho
      have e3 : D 3 = true := hE ⟨3, .data⟩ (by simp) rfl
      obtain rfl := F.f3 e3
      have kc := run_str (n := t.size) (c := n - 7) F.rt
      rw [txt_strB] at kc
      refine wpOp_of rfl rfl ?_
      go_simp
      exact ⟨_, _, _, _, _, _, _, _, _, _, _, _, _, _, _, _, rfl, F.set4 rfl⟩
    | 5, ho, hD, hE =>
      obtain rfl := Option.some.inj ho
      refine wpOp_of rfl rfl ?_
      go_simp
      exact ⟨_, _, _, _, _, _, _, _, _, _, _, _, _, _, _, _, rfl, F.set5 rfl⟩
    | 6, ho, hD, hE =>
      obtain rfl := Option.some.inj ho
      have e5 : D 5 = true := hE ⟨5, .data⟩ (by simp) rfl
      obtain rfl := F.f5 e5
      refine wpOp_of rfl rfl ?_
      go_simp
      exact ⟨_, _, _, _, _, _, _, _, _, _, _, _, _, _, _, _, rfl, F.set6 rfl⟩
    | 7, ho, hD, hE =>
      obtain rfl := Option.some.inj ho
      have e6 : D 6 = true := hE ⟨6, .data⟩ (by simp) rfl
      obtain rfl := F.f6 e6
      refine wpOp_of rfl rfl ?_
      go_simp
      exact ⟨_, _, _, _, _, _, _, _, _, _, _, _, _, _, _, _, rfl, F.set7 rfl⟩
    | 8, ho, hD, hE =>
      obtain rfl := Option.some.inj ho
      have e7 : D 7 = true := hE ⟨7, .data⟩ (by simp) rfl
      obtain rfl := F.f7 e7
      refine wpOp_of rfl rfl ?_
      go_simp
      exact ⟨_, _, _, _, _, _, _, _, _, _, _, _, _, _, _, _, rfl, F.set8 (int_eq (by rw [IntKind.wrap_i64]; omega))⟩
    | 9, ho, hD, hE =>
      obtain rfl := Option.some.inj ho
      refine wpOp_of rfl rfl ?_
      go_simp
      exact ⟨_, _, _, _, _, _, _, _, _, _, _, _, _, _, _, _, rfl, F.set9 rfl⟩
    | 10, ho, hD, hE =>
      obtain rfl := Option.some.inj ho
      refine wpOp_of rfl rfl ?_
      go_simp
      exact ⟨_, _, _, _, _, _, _, _, _, _, _, _, _, _, _, _, rfl, F.set10 rfl⟩
    | 11, ho, hD, hE =>
      obtain rfl := Option.some.inj ho
      have e10 : D 10 = true := hE ⟨10, .data⟩ (by simp) rfl
      obtain rfl := F.f10 e10
      refine wpOp_of rfl rfl ?_
      go_simp
      exact ⟨_, _, _, _, _, _, _, _, _, _, _, _, _, _, _, _, rfl, F.set11 rfl⟩
    | 12, ho, hD, hE =>
      obtain rfl := Option.some.inj ho
      have e9 : D 9 = true := hE ⟨9, .data⟩ (by simp) rfl
      obtain rfl := F.f9 e9
      have e11 : D 11 = true := hE ⟨11, .data⟩ (by simp) rfl
      obtain rfl := F.f11 e11
      refine wpOp_of rfl rfl ?_
      go_simp
      exact ⟨_, _, _, _, _, _, _, _, _, _, _, _, _, _, _, _, rfl, F.set12 rfl⟩
    | 13, ho, hD, hE =>
      obtain rfl := Option.some.inj ho
      have e12 : D 12 = true := hE ⟨12, .data⟩ (by simp) rfl
      obtain rfl := F.f12 e12
      refine wpOp_of rfl rfl ?_
      go_simp
      refine (four4_any (fourB start.toNat ++ sx) _ _ _ _ (Reads.more F.rs F.below.size) (by omega) (Nat.le_refl _)).mono ?_
      rw [four4_fourB start.toNat (by omega), show ((start.toNat : Nat) : Int) = start by omega]
      rintro e w2 ⟨rfl, rfl⟩
      exact ⟨_, _, _, _, _, _, _, _, _, _, _, _, _, _, _, _, rfl, F.set13 rfl⟩
    | 14, ho, hD, hE =>
      obtain rfl := Option.some.inj ho
      have e4 : D 4 = true := hE ⟨4, .data⟩ (by simp) rfl
      obtain rfl := F.f4 e4
      have e8 : D 8 = true := hE ⟨8, .data⟩ (by simp) rfl
      obtain rfl := F.f8 e8
      have e13 : D 13 = true := hE ⟨13, .data⟩ (by simp) rfl
      obtain rfl := F.f13 e13
      refine wpOp_of rfl rfl ?_
      go_simp
      exact ⟨_, _, _, _, _, _, _, _, _, _, _, _, _, _, _, _, rfl, F.set14 rfl⟩
    | 15, ho, hD, hE =>
      obtain rfl := Option.some.inj ho
      refine wpOp_of rfl rfl ?_
      go_simp
      have hb : Below w1.heap.size w1 (w1.alloc (.cells #[.string ⟨#[]⟩, .int .i64 0, .int .i64 0] 25)) := (Below.refl _ _).alloc (Nat.le_refl _) _
      have hn2 : Blk (w1.alloc (.cells #[.string ⟨#[]⟩, .int .i64 0, .int .i64 0] 25)) w1.heap.size 25 #[.string ⟨#[]⟩, .int .i64 0, .int .i64 0] := Blk.new _ _ _
      exact ⟨_, _, _, _, _, _, _, _, _, _, _, _, _, _, _, _, rfl, (F.mono (hb.mono F.below.size) (fun h => by rw [hD] at h; cases h) (fun h => ⟨(F.f16 h).1, (F.f16 h).2.elim fun g h => ⟨g, h.1, h.2.1, h.2.2.below hb h.2.2.lt⟩⟩)).set15 hD ⟨_, _, _, _, rfl, F.below.size, hn2⟩⟩
    | 16, ho, hD, hE =>
      obtain rfl := Option.some.inj ho
      have e15 : D 15 = true := hE ⟨15, .data⟩ (by simp) rfl
      have e14 : D 14 = true := hE ⟨14, .data⟩ (by simp) rfl
      obtain rfl := F.f14 e14
      obtain ⟨g, x, y, z, rfl, hg, hB⟩ := F.f15 e15
      have g0 := hB.cell_some (i := 0) (v := x) rfl
      have g1 := hB.cell_some (i := 1) (v := y) rfl
      have g2 := hB.cell_some (i := 2) (v := z) rfl
      have gf0 := hB.frozen 0
      have gf1 := hB.frozen 1
      have gf2 := hB.frozen 2
      refine wpOp_of rfl rfl ?_
      go_simp
      have hB3 := ((hB.set_ 0 (.string t)).set_ 1 (.int .i64 rate)).set_ 2 (.int .i64 start)
      have hb : Below w0.heap.size w1 (((w1.setCell ⟨g, 0, none⟩ (.string t)).setCell ⟨g, 1, none⟩ (.int .i64 rate)).setCell ⟨g, 2, none⟩ (.int .i64 start)) := (((Below.refl _ _).setCell hg _).setCell hg _).setCell hg _
      exact ⟨_, _, _, _, _, _, _, _, _, _, _, _, _, _, _, _, rfl, (F.mono hb (fun h => ⟨g, _, _, _, rfl, hg, hB3⟩) (fun h => by rw [hD] at h; cases h)).set16 e15 ⟨g, rfl, hg, hB3⟩⟩
    | n + 17, ho, hD, hE => simp at ho
  · intro D a w2 hI hall
    obtain ⟨u9, u39, u40, u41, u42, u43, u44, u45, u46, u47, u48, u49, u50, u51, u52, u53, rfl, F⟩ := hI
    obtain ⟨_, g, rfl, hg, hBg⟩ := F.f16 (hall 16 (by simp))
    have hb2 := F.below
    clear F hall
    have hT2 := (hTA.step hS1 hFT).below hb2
    have hrb2 : RBytes w2 w2.heap.size (some ⟨b, o, none⟩) n (labelB t rate start ++ r) := Reads.more (Reads.below HRB.out hb2) hb2.size
    go_wp2_with fail
    refine wp_region_inv (by kernel_rfl) (by kernel_rfl) (RlBI w2 m w.heap.size b o n Bs.length g t rate start r u39 u40 u41 u42 u43 u44 u45 u46 u47 u48 u49 u50 u51 u52 u53) ?_ ?_ ?_
    · exact ⟨_, _, _, _, _, _, _, _, _, _, _, _, rfl, { below := (Below.refl _ _).drew, tabs := hT2, blk := hBg, rb := hrb2, f0 := fun h => (by cases h), f1 := fun h => (by cases h), f2 := fun h => (by cases h), f3 := fun h => (by cases h), f4 := fun h => (by cases h), f5 := fun h => (by cases h), f6 := fun h => (by cases h), f7 := fun h => (by cases h), f8 := fun h => (by cases h), f9 := fun h => (by cases h), f10 := fun h => (by cases h), f11 := fun h => (by cases h) }⟩
    · intro D a w1 i o hI ho hD hE
      obtain ⟨u54, u55, u56, u57, u58, u59, u60, u61, u62, u63, u64, u65, rfl, F⟩ := hI
      clear HB HBl hk hMA hTA HA hM1 hS1 hk1 c6 hn7 hnS HR HRB hrt hrs c5 h hT hb28
      have cg0 := F.blk.cell_some (i := 0) (v := .string t) rfl
      have cg1 := F.blk.cell_some (i := 1) (v := .int .i64 rate) rfl
      have cg2 := F.blk.cell_some (i := 2) (v := .int .i64 start) rfl
      have hz1 : 0 ≤ 7 + (t.size : Int) + 8 ∧ 7 + (t.size : Int) + 8 ≤ (n : Int) := by omega
      have hz4 : (7 + (t.size : Int) + 8).toNat = t.size + 15 := by omega
      match i, ho, hD, hE with
      | 0, ho, hD, hE =>
        obtain rfl := Option.some.inj ho
        refine wpOp_of rfl rfl ?_
        go_simp
        exact ⟨_, _, _, _, _, _, _, _, _, _, _, _, rfl, F.set0 rfl⟩
      | 1, ho, hD, hE =>
        obtain rfl := Option.some.inj ho
        have e0 : D 0 = true := hE ⟨0, .data⟩ (by simp) rfl
        obtain rfl := F.f0 e0
        refine wpOp_of rfl rfl ?_
        go_simp
        refine (may_any t rate start _ F.tabs (by omega)).mono ?_
        rw [hm]
        rintro e w2 ⟨rfl, hb⟩
        exact ⟨_, _, _, _, _, _, _, _, _, _, _, _, rfl, (F.mono hb).set1 rfl⟩
      | 2, ho, hD, hE =>
        obtain rfl := Option.some.inj ho
        have e1 : D 1 = true := hE ⟨1, .data⟩ (by simp) rfl
        obtain rfl := F.f1 e1
        refine wpOp_of rfl rfl ?_
        go_simp
        exact ⟨_, _, _, _, _, _, _, _, _, _, _, _, rfl, F.set2 rfl⟩
      | 3, ho, hD, hE =>
        obtain rfl := Option.some.inj ho
        have e2 : D 2 = true := hE ⟨2, .data⟩ (by simp) rfl
        obtain rfl := F.f2 e2
        refine wpOp_of rfl rfl ?_
        go_simp
        exact ⟨_, _, _, _, _, _, _, _, _, _, _, _, rfl, F.set3 rfl⟩
      | 4, ho, hD, hE =>
        obtain rfl := Option.some.inj ho
        have e3 : D 3 = true := hE ⟨3, .guard⟩ (by simp) rfl
        obtain rfl := F.f3 e3
        refine wpOp_on rfl (by simp [Region.wanted, yielded]) ?_
        go_simp
        exact ⟨_, _, _, _, _, _, _, _, _, _, _, _, rfl, F.set4 rfl⟩
      | 5, ho, hD, hE =>
        obtain rfl := Option.some.inj ho
        have e4 : D 4 = true := hE ⟨4, .data⟩ (by simp) rfl
        obtain rfl := F.f4 e4
        have e3 : D 3 = true := hE ⟨3, .guard⟩ (by simp) rfl
        obtain rfl := F.f3 e3
        refine wpOp_on rfl (by simp [Region.wanted, yielded]) ?_
        go_simp
        refine (label_any t rate start _ h3 h4 h5 h6 (by omega)).mono ?_
        rintro e w2 ⟨v, rfl, hf, hb⟩
        exact ⟨_, _, _, _, _, _, _, _, _, _, _, _, rfl, (F.mono hb).set5 (hf.mono F.below.size)⟩
      | 6, ho, hD, hE =>
        obtain rfl := Option.some.inj ho
        have e3 : D 3 = true := hE ⟨3, .guard⟩ (by simp) rfl
        obtain rfl := F.f3 e3
        refine wpOp_on rfl (by simp [Region.wanted, yielded]) ?_
        go_simp
        exact ⟨_, _, _, _, _, _, _, _, _, _, _, _, rfl, F.set6 rfl⟩
      | 7, ho, hD, hE =>
        obtain rfl := Option.some.inj ho
        have e3 : D 3 = true := hE ⟨3, .guard⟩ (by simp) rfl
        obtain rfl := F.f3 e3
        refine wpOp_on rfl (by simp [Region.wanted, yielded]) ?_
        go_simp
        exact ⟨_, _, _, _, _, _, _, _, _, _, _, _, rfl, F.set7 rfl⟩
      | 8, ho, hD, hE =>
        obtain rfl := Option.some.inj ho
        have e6 : D 6 = true := hE ⟨6, .data⟩ (by simp) rfl
        obtain rfl := F.f6 e6
        have e7 : D 7 = true := hE ⟨7, .data⟩ (by simp) rfl
        obtain rfl := F.f7 e7
        have e3 : D 3 = true := hE ⟨3, .guard⟩ (by simp) rfl
        obtain rfl := F.f3 e3
        refine wpOp_on rfl (by simp [Region.wanted, yielded]) ?_
        go_simp
        exact ⟨_, _, _, _, _, _, _, _, _, _, _, _, rfl, F.set8 rfl⟩
      | 9, ho, hD, hE =>
        obtain rfl := Option.some.inj ho
        have e5 : D 5 = true := hE ⟨5, .data⟩ (by simp) rfl
        have e8 : D 8 = true := hE ⟨8, .data⟩ (by simp) rfl
        obtain rfl := F.f8 e8
        have e3 : D 3 = true := hE ⟨3, .guard⟩ (by simp) rfl
        obtain rfl := F.f3 e3
        have hf5 := F.f5 e5
        obtain ⟨g5, q5, rfl, _, hf5r⟩ := hf5.reads
        have hrb : RBytes w1 w1.heap.size (some ⟨b, o, none⟩) (t.size + 15) (labelB t rate start) := by
          have := F.rb.take (k := t.size + 15) hnl
          rw [Nat.mul_one, ← List.map_take, lab_whole] at this
          exact this
        refine wpOp_on rfl (by simp [Region.wanted, yielded]) ?_
        go_simp
        refine (equal_any (labelB t rate start) (labelB t rate start) (some ⟨g5, 0, none⟩) (some ⟨b, o, none⟩) _ _ _ _ _ hf5r hrb).mono ?_
        rw [decide_eq_true rfl]
        rintro e w2 ⟨rfl, rfl⟩
        exact ⟨_, _, _, _, _, _, _, _, _, _, _, _, rfl, F.set9 rfl⟩
      | 10, ho, hD, hE =>
        obtain rfl := Option.some.inj ho
        have e9 : D 9 = true := hE ⟨9, .data⟩ (by simp) rfl
        obtain rfl := F.f9 e9
        have e3 : D 3 = true := hE ⟨3, .guard⟩ (by simp) rfl
        obtain rfl := F.f3 e3
        refine wpOp_on rfl (by simp [Region.wanted, yielded]) ?_
        go_simp
        exact ⟨_, _, _, _, _, _, _, _, _, _, _, _, rfl, F.set10 rfl⟩
      | 11, ho, hD, hE =>
        obtain rfl := Option.some.inj ho
        have e3 : D 3 = true := hE ⟨3, .data⟩ (by simp) rfl
        obtain rfl := F.f3 e3
        have e10 : D 10 = true := hE ⟨10, .data⟩ (by simp) rfl
        obtain rfl := F.f10 e10
        refine wpOp_of rfl rfl ?_
        go_simp
        exact ⟨_, _, _, _, _, _, _, _, _, _, _, _, rfl, F.set11 rfl⟩
      | n + 12, ho, hD, hE => simp at ho
    · intro D a w3 hI hall
      obtain ⟨u54, u55, u56, u57, u58, u59, u60, u61, u62, u63, u64, u65, rfl, F⟩ := hI
      obtain rfl := F.f11 (hall 11 (by simp))
      have hb3 := F.below
      have hB3 := F.blk
      clear F hall
      have hk3 := (hk1.below hb2 hk1.lt).below hb3 (Nat.lt_of_lt_of_le hk1.lt hb2.size)
      have cg0 := hB3.cell_some (i := 0) (v := .string t) rfl
      have cg1 := hB3.cell_some (i := 1) (v := .int .i64 rate) rfl
      have cg2 := hB3.cell_some (i := 2) (v := .int .i64 start) rfl
      have ck0 := hk3.cell_some (i := 0) (v := .string ⟨#[]⟩) rfl
      have ck1 := hk3.cell_some (i := 1) (v := .int .i64 0) rfl
      have ck2 := hk3.cell_some (i := 2) (v := .int .i64 0) rfl
      have fk0 := hk3.frozen 0
      have fk1 := hk3.frozen 1
      have fk2 := hk3.frozen 2
      have hM3 := (hM1.below hb2).below (hb3)
      have hwR : w.heap.size ∉ F1 := hS1.notin hk.lt (fun hk => Nat.lt_irrefl _ (h.lt _ hk))
      go_wp2_with fail
      have hR5 := ((hk3.set_ 0 (.string t)).set_ 1 (.int .i64 rate)).set_ 2 (.int .i64 start)
      have hS5 := (((Step.refl w3 [w.heap.size]).setCell (p := ⟨w.heap.size, 0, none⟩) (by simp) (.string t)).setCell (p := ⟨w.heap.size, 1, none⟩) (by simp) (.int .i64 rate)).setCell (p := ⟨w.heap.size, 2, none⟩) (by simp) (.int .i64 start)
      have hSw : Step w w3 F F1 := (((Step.of_below HA.out F).trans hS1).trans (Step.of_below hb2 F1)).trans (Step.of_below hb3 F1)
      refine bodyPost_ret (results_row_tmp2 rfl _ _ w.heap.size 25 _ _ rfl hR5 Tryd.underlying25 rfl info_lab) rfl ⟨?_, F1, hM3.step hS5 (fun k hk he => hwR (by simp at he; rwa [← he])), ?_⟩
      · refine ret_eq ?_
        unfold labV
        simp
        omega
      · exact ⟨hS5.os.trans hSw.os, hS5.tape.trans hSw.tape, hS5.output.trans hSw.output, Nat.le_trans hSw.size hS5.size, fun k hk hn => (hS5.block k (Nat.lt_of_lt_of_le hk hSw.size) (by simp; omega)).trans (hSw.block k hk hn), fun k hk => hSw.foot k hk⟩
end Go.Proofs.YtjmnomohmijbpaaDoor

