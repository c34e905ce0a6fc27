/- What holds in the regions of Open that draw their order. (Printed by open_gen.py.) -/
import Derived.Test.YtjmnomohmijbpaaDoorChain
namespace Go.Proofs.YtjmnomohmijbpaaDoor
open Go.RowKit
structure OpR (c : Ctx) (wS : World) (X : Nat) (v : Value) (l : List Rcp) (x : Rcp) (beh : Nat) (D : Nat → Bool) (u37 u38 u39 u40 u41 u42 u43 u44 u45 u46 : Value) (w : World) : Prop where
  b7 : Blk w c.B7 31 #[.pointer (some ⟨c.b, 0, none⟩)]
  bx : Blk w X 39 #[.int .i64 x.num, .int .i64 x.at_, .int .i64 x.len]
  rb : ∃ vv, Blk w c.b 50 #[.pointer (some ⟨c.m, 0, none⟩), .string c.t, .int .i64 c.rate, .int .i64 c.start, vv, .bool false, .int .i64 beh]
  s7 : D 7 = false → Below wS.heap.size wS w
  s10 : D 10 = false → Blk w c.b 50 #[.pointer (some ⟨c.m, 0, none⟩), .string c.t, .int .i64 c.rate, .int .i64 c.start, v, .bool false, .int .i64 beh]
  f0 : D 0 = true → u37 = Value.pointer (some ⟨c.b, 0, none⟩)
  f1 : D 1 = true → u38 = Value.pointer (some ⟨c.b, 0, none⟩)
  f2 : D 2 = true → u39 = Value.pointer (some ⟨c.b, 0, none⟩)
  f3 : D 3 = true → u40 = Value.pointer (some ⟨c.b, 4, none⟩)
  f4 : D 4 = true → D 10 = false → u41 = v
  f5 : D 5 = true → u42 = Value.agg #[.int .i64 x.num, .int .i64 x.at_, .int .i64 x.len]
  f6 : D 6 = true → D 7 = false → ∃ g, u43 = Value.slice (some ⟨g, 0, none⟩) 1 1 ∧ wS.heap.size ≤ g ∧ Blk w g 39 #[.int .i64 x.num, .int .i64 x.at_, .int .i64 x.len]
  f7 : D 7 = true → D 6 = true ∧ (D 10 = false → w.ownsRow 0 39 3 u44 (l.length + 1) (rcpCells (l ++ [x])) ∧ (u44.ownBlock = v.ownBlock ∨ ∃ g, u44.ownBlock = some g ∧ wS.heap.size ≤ g) ∧ Step wS w v.ownBlock.toList v.ownBlock.toList)
  f8 : D 8 = true → u45 = Value.pointer (some ⟨c.b, 0, none⟩)
  f9 : D 9 = true → u46 = Value.pointer (some ⟨c.b, 4, none⟩)
  f10 : D 10 = true → D 7 = true ∧ ∃ v', Blk w c.b 50 #[.pointer (some ⟨c.m, 0, none⟩), .string c.t, .int .i64 c.rate, .int .i64 c.start, v', .bool false, .int .i64 beh] ∧ w.ownsRow 0 39 3 v' (l.length + 1) (rcpCells (l ++ [x])) ∧ (v'.ownBlock = v.ownBlock ∨ ∃ g, v'.ownBlock = some g ∧ wS.heap.size ≤ g) ∧ Step wS w (c.b :: v.ownBlock.toList) (c.b :: v.ownBlock.toList)
theorem OpR.set0 {c : Ctx} {wS : World} {X : Nat} {v : Value} {l : List Rcp} {x : Rcp} {beh : Nat} {D : Nat → Bool} {u37 u38 u39 u40 u41 u42 u43 u44 u45 u46 nv : Value} {w : World} (F : OpR c wS X v l x beh D u37 u38 u39 u40 u41 u42 u43 u44 u45 u46 w) (hn : nv = Value.pointer (some ⟨c.b, 0, none⟩)) : OpR c wS X v l x beh (fun j => D j || j == 0) nv u38 u39 u40 u41 u42 u43 u44 u45 u46 w :=
  { b7 := F.b7,
    bx := F.bx,
    rb := F.rb,
    s7 := fun h => F.s7 (by simpa using h),
    s10 := fun h => F.s10 (by simpa using h),
    f0 := fun _ => hn,
    f1 := fun h => F.f1 (by simpa using h),
    f2 := fun h => F.f2 (by simpa using h),
    f3 := fun h => F.f3 (by simpa using h),
    f4 := fun h => fun h1 => F.f4 (by simpa using h) (by simpa using h1),
    f5 := fun h => F.f5 (by simpa using h),
    f6 := fun h => fun h1 => F.f6 (by simpa using h) (by simpa using h1),
    f7 := fun h => by have q := F.f7 (by simpa using h); exact ⟨by simp [q.1], by simpa using q.2⟩,
    f8 := fun h => F.f8 (by simpa using h),
    f9 := fun h => F.f9 (by simpa using h),
    f10 := fun h => ⟨by simp [(F.f10 (by simpa using h)).1], (F.f10 (by simpa using h)).2⟩ }
theorem OpR.set1 {c : Ctx} {wS : World} {X : Nat} {v : Value} {l : List Rcp} {x : Rcp} {beh : Nat} {D : Nat → Bool} {u37 u38 u39 u40 u41 u42 u43 u44 u45 u46 nv : Value} {w : World} (F : OpR c wS X v l x beh D u37 u38 u39 u40 u41 u42 u43 u44 u45 u46 w) (hn : nv = Value.pointer (some ⟨c.b, 0, none⟩)) : OpR c wS X v l x beh (fun j => D j || j == 1) u37 nv u39 u40 u41 u42 u43 u44 u45 u46 w :=
  { b7 := F.b7,
    bx := F.bx,
    rb := F.rb,
    s7 := fun h => F.s7 (by simpa using h),
    s10 := fun h => F.s10 (by simpa using h),
    f0 := fun h => F.f0 (by simpa using h),
    f1 := fun _ => hn,
    f2 := fun h => F.f2 (by simpa using h),
    f3 := fun h => F.f3 (by simpa using h),
    f4 := fun h => fun h1 => F.f4 (by simpa using h) (by simpa using h1),
    f5 := fun h => F.f5 (by simpa using h),
    f6 := fun h => fun h1 => F.f6 (by simpa using h) (by simpa using h1),
    f7 := fun h => by have q := F.f7 (by simpa using h); exact ⟨by simp [q.1], by simpa using q.2⟩,
    f8 := fun h => F.f8 (by simpa using h),
    f9 := fun h => F.f9 (by simpa using h),
    f10 := fun h => ⟨by simp [(F.f10 (by simpa using h)).1], (F.f10 (by simpa using h)).2⟩ }
theorem OpR.set2 {c : Ctx} {wS : World} {X : Nat} {v : Value} {l : List Rcp} {x : Rcp} {beh : Nat} {D : Nat → Bool} {u37 u38 u39 u40 u41 u42 u43 u44 u45 u46 nv : Value} {w : World} (F : OpR c wS X v l x beh D u37 u38 u39 u40 u41 u42 u43 u44 u45 u46 w) (hn : nv = Value.pointer (some ⟨c.b, 0, none⟩)) : OpR c wS X v l x beh (fun j => D j || j == 2) u37 u38 nv u40 u41 u42 u43 u44 u45 u46 w :=
  { b7 := F.b7,
    bx := F.bx,
    rb := F.rb,
    s7 := fun h => F.s7 (by simpa using h),
    s10 := fun h => F.s10 (by simpa using h),
    f0 := fun h => F.f0 (by simpa using h),
    f1 := fun h => F.f1 (by simpa using h),
    f2 := fun _ => hn,
    f3 := fun h => F.f3 (by simpa using h),
    f4 := fun h => fun h1 => F.f4 (by simpa using h) (by simpa using h1),
    f5 := fun h => F.f5 (by simpa using h),
    f6 := fun h => fun h1 => F.f6 (by simpa using h) (by simpa using h1),
    f7 := fun h => by have q := F.f7 (by simpa using h); exact ⟨by simp [q.1], by simpa using q.2⟩,
    f8 := fun h => F.f8 (by simpa using h),
    f9 := fun h => F.f9 (by simpa using h),
    f10 := fun h => ⟨by simp [(F.f10 (by simpa using h)).1], (F.f10 (by simpa using h)).2⟩ }
theorem OpR.set3 {c : Ctx} {wS : World} {X : Nat} {v : Value} {l : List Rcp} {x : Rcp} {beh : Nat} {D : Nat → Bool} {u37 u38 u39 u40 u41 u42 u43 u44 u45 u46 nv : Value} {w : World} (F : OpR c wS X v l x beh D u37 u38 u39 u40 u41 u42 u43 u44 u45 u46 w) (hn : nv = Value.pointer (some ⟨c.b, 4, none⟩)) : OpR c wS X v l x beh (fun j => D j || j == 3) u37 u38 u39 nv u41 u42 u43 u44 u45 u46 w :=
  { b7 := F.b7,
    bx := F.bx,
    rb := F.rb,
    s7 := fun h => F.s7 (by simpa using h),
    s10 := fun h => F.s10 (by simpa using h),
    f0 := fun h => F.f0 (by simpa using h),
    f1 := fun h => F.f1 (by simpa using h),
    f2 := fun h => F.f2 (by simpa using h),
    f3 := fun _ => hn,
    f4 := fun h => fun h1 => F.f4 (by simpa using h) (by simpa using h1),
    f5 := fun h => F.f5 (by simpa using h),
    f6 := fun h => fun h1 => F.f6 (by simpa using h) (by simpa using h1),
    f7 := fun h => by have q := F.f7 (by simpa using h); exact ⟨by simp [q.1], by simpa using q.2⟩,
    f8 := fun h => F.f8 (by simpa using h),
    f9 := fun h => F.f9 (by simpa using h),
    f10 := fun h => ⟨by simp [(F.f10 (by simpa using h)).1], (F.f10 (by simpa using h)).2⟩ }
theorem OpR.set4 {c : Ctx} {wS : World} {X : Nat} {v : Value} {l : List Rcp} {x : Rcp} {beh : Nat} {D : Nat → Bool} {u37 u38 u39 u40 u41 u42 u43 u44 u45 u46 nv : Value} {w : World} (F : OpR c wS X v l x beh D u37 u38 u39 u40 u41 u42 u43 u44 u45 u46 w) (hn : D 10 = false → nv = v) : OpR c wS X v l x beh (fun j => D j || j == 4) u37 u38 u39 u40 nv u42 u43 u44 u45 u46 w :=
  { b7 := F.b7,
    bx := F.bx,
    rb := F.rb,
    s7 := fun h => F.s7 (by simpa using h),
    s10 := fun h => F.s10 (by simpa using h),
    f0 := fun h => F.f0 (by simpa using h),
    f1 := fun h => F.f1 (by simpa using h),
    f2 := fun h => F.f2 (by simpa using h),
    f3 := fun h => F.f3 (by simpa using h),
    f4 := fun _ => fun h1 => hn (by simpa using h1),
    f5 := fun h => F.f5 (by simpa using h),
    f6 := fun h => fun h1 => F.f6 (by simpa using h) (by simpa using h1),
    f7 := fun h => by have q := F.f7 (by simpa using h); exact ⟨by simp [q.1], by simpa using q.2⟩,
    f8 := fun h => F.f8 (by simpa using h),
    f9 := fun h => F.f9 (by simpa using h),
    f10 := fun h => ⟨by simp [(F.f10 (by simpa using h)).1], (F.f10 (by simpa using h)).2⟩ }
theorem OpR.set5 {c : Ctx} {wS : World} {X : Nat} {v : Value} {l : List Rcp} {x : Rcp} {beh : Nat} {D : Nat → Bool} {u37 u38 u39 u40 u41 u42 u43 u44 u45 u46 nv : Value} {w : World} (F : OpR c wS X v l x beh D u37 u38 u39 u40 u41 u42 u43 u44 u45 u46 w) (hn : nv = Value.agg #[.int .i64 x.num, .int .i64 x.at_, .int .i64 x.len]) : OpR c wS X v l x beh (fun j => D j || j == 5) u37 u38 u39 u40 u41 nv u43 u44 u45 u46 w :=
  { b7 := F.b7,
    bx := F.bx,
    rb := F.rb,
    s7 := fun h => F.s7 (by simpa using h),
    s10 := fun h => F.s10 (by simpa using h),
    f0 := fun h => F.f0 (by simpa using h),
    f1 := fun h => F.f1 (by simpa using h),
    f2 := fun h => F.f2 (by simpa using h),
    f3 := fun h => F.f3 (by simpa using h),
    f4 := fun h => fun h1 => F.f4 (by simpa using h) (by simpa using h1),
    f5 := fun _ => hn,
    f6 := fun h => fun h1 => F.f6 (by simpa using h) (by simpa using h1),
    f7 := fun h => by have q := F.f7 (by simpa using h); exact ⟨by simp [q.1], by simpa using q.2⟩,
    f8 := fun h => F.f8 (by simpa using h),
    f9 := fun h => F.f9 (by simpa using h),
    f10 := fun h => ⟨by simp [(F.f10 (by simpa using h)).1], (F.f10 (by simpa using h)).2⟩ }
theorem OpR.set6 {c : Ctx} {wS : World} {X : Nat} {v : Value} {l : List Rcp} {x : Rcp} {beh : Nat} {D : Nat → Bool} {u37 u38 u39 u40 u41 u42 u43 u44 u45 u46 nv : Value} {w : World} (F : OpR c wS X v l x beh D u37 u38 u39 u40 u41 u42 u43 u44 u45 u46 w) (hn : D 7 = false → ∃ g, nv = Value.slice (some ⟨g, 0, none⟩) 1 1 ∧ wS.heap.size ≤ g ∧ Blk w g 39 #[.int .i64 x.num, .int .i64 x.at_, .int .i64 x.len]) : OpR c wS X v l x beh (fun j => D j || j == 6) u37 u38 u39 u40 u41 u42 nv u44 u45 u46 w :=
  { b7 := F.b7,
    bx := F.bx,
    rb := F.rb,
    s7 := fun h => F.s7 (by simpa using h),
    s10 := fun h => F.s10 (by simpa using h),
    f0 := fun h => F.f0 (by simpa using h),
    f1 := fun h => F.f1 (by simpa using h),
    f2 := fun h => F.f2 (by simpa using h),
    f3 := fun h => F.f3 (by simpa using h),
    f4 := fun h => fun h1 => F.f4 (by simpa using h) (by simpa using h1),
    f5 := fun h => F.f5 (by simpa using h),
    f6 := fun _ => fun h1 => hn (by simpa using h1),
    f7 := fun h => by have q := F.f7 (by simpa using h); exact ⟨by simp [q.1], by simpa using q.2⟩,
    f8 := fun h => F.f8 (by simpa using h),
    f9 := fun h => F.f9 (by simpa using h),
    f10 := fun h => ⟨by simp [(F.f10 (by simpa using h)).1], (F.f10 (by simpa using h)).2⟩ }
theorem OpR.set7 {c : Ctx} {wS : World} {X : Nat} {v : Value} {l : List Rcp} {x : Rcp} {beh : Nat} {D : Nat → Bool} {u37 u38 u39 u40 u41 u42 u43 u44 u45 u46 nv : Value} {w : World} (F : OpR c wS X v l x beh D u37 u38 u39 u40 u41 u42 u43 u44 u45 u46 w) (ho : D 6 = true) (hn :  (D 10 = false → w.ownsRow 0 39 3 nv (l.length + 1) (rcpCells (l ++ [x])) ∧ (nv.ownBlock = v.ownBlock ∨ ∃ g, nv.ownBlock = some g ∧ wS.heap.size ≤ g) ∧ Step wS w v.ownBlock.toList v.ownBlock.toList)) : OpR c wS X v l x beh (fun j => D j || j == 7) u37 u38 u39 u40 u41 u42 u43 nv u45 u46 w :=
  { b7 := F.b7,
    bx := F.bx,
    rb := F.rb,
    s7 := fun h => by simp at h,
    s10 := fun h => F.s10 (by simpa using h),
    f0 := fun h => F.f0 (by simpa using h),
    f1 := fun h => F.f1 (by simpa using h),
    f2 := fun h => F.f2 (by simpa using h),
    f3 := fun h => F.f3 (by simpa using h),
    f4 := fun h => fun h1 => F.f4 (by simpa using h) (by simpa using h1),
    f5 := fun h => F.f5 (by simpa using h),
    f6 := fun h => fun h1 => by simp at h1,
    f7 := fun _ => ⟨by simp [ho], by simpa using hn⟩,
    f8 := fun h => F.f8 (by simpa using h),
    f9 := fun h => F.f9 (by simpa using h),
    f10 := fun h => ⟨by simp [(F.f10 (by simpa using h)).1], (F.f10 (by simpa using h)).2⟩ }
theorem OpR.set8 {c : Ctx} {wS : World} {X : Nat} {v : Value} {l : List Rcp} {x : Rcp} {beh : Nat} {D : Nat → Bool} {u37 u38 u39 u40 u41 u42 u43 u44 u45 u46 nv : Value} {w : World} (F : OpR c wS X v l x beh D u37 u38 u39 u40 u41 u42 u43 u44 u45 u46 w) (hn : nv = Value.pointer (some ⟨c.b, 0, none⟩)) : OpR c wS X v l x beh (fun j => D j || j == 8) u37 u38 u39 u40 u41 u42 u43 u44 nv u46 w :=
  { b7 := F.b7,
    bx := F.bx,
    rb := F.rb,
    s7 := fun h => F.s7 (by simpa using h),
    s10 := fun h => F.s10 (by simpa using h),
    f0 := fun h => F.f0 (by simpa using h),
    f1 := fun h => F.f1 (by simpa using h),
    f2 := fun h => F.f2 (by simpa using h),
    f3 := fun h => F.f3 (by simpa using h),
    f4 := fun h => fun h1 => F.f4 (by simpa using h) (by simpa using h1),
    f5 := fun h => F.f5 (by simpa using h),
    f6 := fun h => fun h1 => F.f6 (by simpa using h) (by simpa using h1),
    f7 := fun h => by have q := F.f7 (by simpa using h); exact ⟨by simp [q.1], by simpa using q.2⟩,
    f8 := fun _ => hn,
    f9 := fun h => F.f9 (by simpa using h),
    f10 := fun h => ⟨by simp [(F.f10 (by simpa using h)).1], (F.f10 (by simpa using h)).2⟩ }
theorem OpR.set9 {c : Ctx} {wS : World} {X : Nat} {v : Value} {l : List Rcp} {x : Rcp} {beh : Nat} {D : Nat → Bool} {u37 u38 u39 u40 u41 u42 u43 u44 u45 u46 nv : Value} {w : World} (F : OpR c wS X v l x beh D u37 u38 u39 u40 u41 u42 u43 u44 u45 u46 w) (hn : nv = Value.pointer (some ⟨c.b, 4, none⟩)) : OpR c wS X v l x beh (fun j => D j || j == 9) u37 u38 u39 u40 u41 u42 u43 u44 u45 nv w :=
  { b7 := F.b7,
    bx := F.bx,
    rb := F.rb,
    s7 := fun h => F.s7 (by simpa using h),
    s10 := fun h => F.s10 (by simpa using h),
    f0 := fun h => F.f0 (by simpa using h),
    f1 := fun h => F.f1 (by simpa using h),
    f2 := fun h => F.f2 (by simpa using h),
    f3 := fun h => F.f3 (by simpa using h),
    f4 := fun h => fun h1 => F.f4 (by simpa using h) (by simpa using h1),
    f5 := fun h => F.f5 (by simpa using h),
    f6 := fun h => fun h1 => F.f6 (by simpa using h) (by simpa using h1),
    f7 := fun h => by have q := F.f7 (by simpa using h); exact ⟨by simp [q.1], by simpa using q.2⟩,
    f8 := fun h => F.f8 (by simpa using h),
    f9 := fun _ => hn,
    f10 := fun h => ⟨by simp [(F.f10 (by simpa using h)).1], (F.f10 (by simpa using h)).2⟩ }
theorem OpR.set10 {c : Ctx} {wS : World} {X : Nat} {v : Value} {l : List Rcp} {x : Rcp} {beh : Nat} {D : Nat → Bool} {u37 u38 u39 u40 u41 u42 u43 u44 u45 u46 : Value} {w : World} (F : OpR c wS X v l x beh D u37 u38 u39 u40 u41 u42 u43 u44 u45 u46 w) (ho : D 7 = true) (hn :  ∃ v', Blk w c.b 50 #[.pointer (some ⟨c.m, 0, none⟩), .string c.t, .int .i64 c.rate, .int .i64 c.start, v', .bool false, .int .i64 beh] ∧ w.ownsRow 0 39 3 v' (l.length + 1) (rcpCells (l ++ [x])) ∧ (v'.ownBlock = v.ownBlock ∨ ∃ g, v'.ownBlock = some g ∧ wS.heap.size ≤ g) ∧ Step wS w (c.b :: v.ownBlock.toList) (c.b :: v.ownBlock.toList)) : OpR c wS X v l x beh (fun j => D j || j == 10) u37 u38 u39 u40 u41 u42 u43 u44 u45 u46 w :=
  { b7 := F.b7,
    bx := F.bx,
    rb := F.rb,
    s7 := fun h => F.s7 (by simpa using h),
    s10 := fun h => by simp at h,
    f0 := fun h => F.f0 (by simpa using h),
    f1 := fun h => F.f1 (by simpa using h),
    f2 := fun h => F.f2 (by simpa using h),
    f3 := fun h => F.f3 (by simpa using h),
    f4 := fun h => fun h1 => by simp at h1,
    f5 := fun h => F.f5 (by simpa using h),
    f6 := fun h => fun h1 => F.f6 (by simpa using h) (by simpa using h1),
    f7 := fun h => by have q := F.f7 (by simpa using h); exact ⟨by simp [q.1], by simp⟩,
    f8 := fun h => F.f8 (by simpa using h),
    f9 := fun h => F.f9 (by simpa using h),
    f10 := fun _ => ⟨by simp [ho], hn⟩ }
theorem OpR.setw6 {c : Ctx} {wS : World} {X : Nat} {v : Value} {l : List Rcp} {x : Rcp} {beh : Nat} {D : Nat → Bool} {u37 u38 u39 u40 u41 u42 u43 u44 u45 u46 nv : Value} {w w' : World} (F : OpR c wS X v l x beh D u37 u38 u39 u40 u41 u42 u43 u44 u45 u46 w) (hz : D 6 = false) (hb7 : Blk w' c.B7 31 #[.pointer (some ⟨c.b, 0, none⟩)]) (hbx : Blk w' X 39 #[.int .i64 x.num, .int .i64 x.at_, .int .i64 x.len]) (hrb : ∃ vv, Blk w' c.b 50 #[.pointer (some ⟨c.m, 0, none⟩), .string c.t, .int .i64 c.rate, .int .i64 c.start, vv, .bool false, .int .i64 beh]) (hs7 : D 7 = false → Below wS.heap.size wS w') (hs10 : D 10 = false → Blk w' c.b 50 #[.pointer (some ⟨c.m, 0, none⟩), .string c.t, .int .i64 c.rate, .int .i64 c.start, v, .bool false, .int .i64 beh]) (hn : D 7 = false → ∃ g, nv = Value.slice (some ⟨g, 0, none⟩) 1 1 ∧ wS.heap.size ≤ g ∧ Blk w' g 39 #[.int .i64 x.num, .int .i64 x.at_, .int .i64 x.len]) : OpR c wS X v l x beh (fun j => D j || j == 6) u37 u38 u39 u40 u41 u42 nv u44 u45 u46 w' :=
  { b7 := hb7,
    bx := hbx,
    rb := hrb,
    s7 := fun h => hs7 (by simpa using h),
    s10 := fun h => hs10 (by simpa using h),
    f0 := fun h => (F.f0 (by simpa using h)),
    f1 := fun h => (F.f1 (by simpa using h)),
    f2 := fun h => (F.f2 (by simpa using h)),
    f3 := fun h => (F.f3 (by simpa using h)),
    f4 := fun h => fun h1 => (F.f4 (by simpa using h) (by simpa using h1)),
    f5 := fun h => (F.f5 (by simpa using h)),
    f6 := fun _ => fun h1 => hn (by simpa using h1),
    f7 := fun h => absurd (F.f7 (by simpa using h)).1 (by simp [hz]),
    f8 := fun h => (F.f8 (by simpa using h)),
    f9 := fun h => (F.f9 (by simpa using h)),
    f10 := fun h => absurd (F.f7 (F.f10 (by simpa using h)).1).1 (by simp [hz]) }
theorem OpR.setw7 {c : Ctx} {wS : World} {X : Nat} {v : Value} {l : List Rcp} {x : Rcp} {beh : Nat} {D : Nat → Bool} {u37 u38 u39 u40 u41 u42 u43 u44 u45 u46 nv : Value} {w w' : World} (F : OpR c wS X v l x beh D u37 u38 u39 u40 u41 u42 u43 u44 u45 u46 w) (hz : D 7 = false) (hb7 : Blk w' c.B7 31 #[.pointer (some ⟨c.b, 0, none⟩)]) (hbx : Blk w' X 39 #[.int .i64 x.num, .int .i64 x.at_, .int .i64 x.len]) (hrb : ∃ vv, Blk w' c.b 50 #[.pointer (some ⟨c.m, 0, none⟩), .string c.t, .int .i64 c.rate, .int .i64 c.start, vv, .bool false, .int .i64 beh]) (ho : D 6 = true) (hs10 : D 10 = false → Blk w' c.b 50 #[.pointer (some ⟨c.m, 0, none⟩), .string c.t, .int .i64 c.rate, .int .i64 c.start, v, .bool false, .int .i64 beh]) (hn :  (D 10 = false → w'.ownsRow 0 39 3 nv (l.length + 1) (rcpCells (l ++ [x])) ∧ (nv.ownBlock = v.ownBlock ∨ ∃ g, nv.ownBlock = some g ∧ wS.heap.size ≤ g) ∧ Step wS w' v.ownBlock.toList v.ownBlock.toList)) : OpR c wS X v l x beh (fun j => D j || j == 7) u37 u38 u39 u40 u41 u42 u43 nv u45 u46 w' :=
  { b7 := hb7,
    bx := hbx,
    rb := hrb,
    s7 := fun h => by simp at h,
    s10 := fun h => hs10 (by simpa using h),
    f0 := fun h => (F.f0 (by simpa using h)),
    f1 := fun h => (F.f1 (by simpa using h)),
    f2 := fun h => (F.f2 (by simpa using h)),
    f3 := fun h => (F.f3 (by simpa using h)),
    f4 := fun h => fun h1 => (F.f4 (by simpa using h) (by simpa using h1)),
    f5 := fun h => (F.f5 (by simpa using h)),
    f6 := fun h => fun h1 => by simp at h1,
    f7 := fun _ => ⟨by simp [ho], by simpa using hn⟩,
    f8 := fun h => (F.f8 (by simpa using h)),
    f9 := fun h => (F.f9 (by simpa using h)),
    f10 := fun h => absurd (F.f10 (by simpa using h)).1 (by simp [hz]) }
theorem OpR.setw10 {c : Ctx} {wS : World} {X : Nat} {v : Value} {l : List Rcp} {x : Rcp} {beh : Nat} {D : Nat → Bool} {u37 u38 u39 u40 u41 u42 u43 u44 u45 u46 : Value} {w w' : World} (F : OpR c wS X v l x beh D u37 u38 u39 u40 u41 u42 u43 u44 u45 u46 w) (hz : D 10 = false) (hb7 : Blk w' c.B7 31 #[.pointer (some ⟨c.b, 0, none⟩)]) (hbx : Blk w' X 39 #[.int .i64 x.num, .int .i64 x.at_, .int .i64 x.len]) (hrb : ∃ vv, Blk w' c.b 50 #[.pointer (some ⟨c.m, 0, none⟩), .string c.t, .int .i64 c.rate, .int .i64 c.start, vv, .bool false, .int .i64 beh]) (ho : D 7 = true) (hs7 : D 7 = false → Below wS.heap.size wS w') (hn :  ∃ v', Blk w' c.b 50 #[.pointer (some ⟨c.m, 0, none⟩), .string c.t, .int .i64 c.rate, .int .i64 c.start, v', .bool false, .int .i64 beh] ∧ w'.ownsRow 0 39 3 v' (l.length + 1) (rcpCells (l ++ [x])) ∧ (v'.ownBlock = v.ownBlock ∨ ∃ g, v'.ownBlock = some g ∧ wS.heap.size ≤ g) ∧ Step wS w' (c.b :: v.ownBlock.toList) (c.b :: v.ownBlock.toList)) : OpR c wS X v l x beh (fun j => D j || j == 10) u37 u38 u39 u40 u41 u42 u43 u44 u45 u46 w' :=
  { b7 := hb7,
    bx := hbx,
    rb := hrb,
    s7 := fun h => hs7 (by simpa using h),
    s10 := fun h => by simp at h,
    f0 := fun h => (F.f0 (by simpa using h)),
    f1 := fun h => (F.f1 (by simpa using h)),
    f2 := fun h => (F.f2 (by simpa using h)),
    f3 := fun h => (F.f3 (by simpa using h)),
    f4 := fun h => fun h1 => by simp at h1,
    f5 := fun h => (F.f5 (by simpa using h)),
    f6 := fun h => fun h1 => by simp [ho] at h1,
    f7 := fun h => ⟨by simp [(F.f7 (by simpa using h)).1], fun h1 => by simp at h1⟩,
    f8 := fun h => (F.f8 (by simpa using h)),
    f9 := fun h => (F.f9 (by simpa using h)),
    f10 := fun _ => ⟨by simp [ho], hn⟩ }
def OpRI (c : Ctx) (wS : World) (X : Nat) (v : Value) (l : List Rcp) (x : Rcp) (beh : Nat) (D : Nat → Bool) (a : Act) (w : World) : Prop :=
  ∃ j : Nat → Value, ∃ u37 u38 u39 u40 u41 u42 u43 u44 u45 u46, a = ⟨#[(j 0), (j 1), (j 2), (j 3), (j 4), (j 5), (j 6), Value.pointer (some ⟨c.B7, 0, none⟩), Value.pointer (some ⟨X, 0, none⟩), (j 9), (j 10), (j 11), (j 12), (j 13), (j 14), (j 15), (j 16), (j 17), (j 18), (j 19), (j 20), (j 21), (j 22), (j 23), (j 24), (j 25), (j 26), (j 27), (j 28), (j 29), (j 30), (j 31), (j 32), (j 33), (j 34), (j 35), (j 36), u37, u38, u39, u40, u41, u42, u43, u44, u45, u46, (j 47), (j 48), (j 49), (j 50), (j 51), (j 52), (j 53), (j 54), (j 55), (j 56), (j 57), (j 58), (j 59), (j 60), (j 61), (j 62), (j 63), (j 64), (j 65), (j 66), (j 67), (j 68), (j 69), (j 70), (j 71), (j 72), (j 73), (j 74), (j 75), (j 76), (j 77), (j 78), (j 79), (j 80), (j 81), (j 82), (j 83), (j 84), (j 85), (j 86), (j 87), (j 88), (j 89)], []⟩ ∧ OpR c wS X v l x beh D u37 u38 u39 u40 u41 u42 u43 u44 u45 u46 w
theorem OpRI.intro {c : Ctx} {wS : World} {X : Nat} {v : Value} {l : List Rcp} {x : Rcp} {beh : Nat} {j0 j1 j2 j3 j4 j5 j6 j9 j10 j11 j12 j13 j14 j15 j16 j17 j18 j19 j20 j21 j22 j23 j24 j25 j26 j27 j28 j29 j30 j31 j32 j33 j34 j35 j36 j47 j48 j49 j50 j51 j52 j53 j54 j55 j56 j57 j58 j59 j60 j61 j62 j63 j64 j65 j66 j67 j68 j69 j70 j71 j72 j73 j74 j75 j76 j77 j78 j79 j80 j81 j82 j83 j84 j85 j86 j87 j88 j89 : Value} {D : Nat → Bool} {u37 u38 u39 u40 u41 u42 u43 u44 u45 u46 : Value} {w : World} (F : OpR c wS X v l x beh D u37 u38 u39 u40 u41 u42 u43 u44 u45 u46 w) : OpRI c wS X v l x beh D ⟨#[j0, j1, j2, j3, j4, j5, j6, Value.pointer (some ⟨c.B7, 0, none⟩), Value.pointer (some ⟨X, 0, none⟩), j9, j10, j11, j12, j13, j14, j15, j16, j17, j18, j19, j20, j21, j22, j23, j24, j25, j26, j27, j28, j29, j30, j31, j32, j33, j34, j35, j36, u37, u38, u39, u40, u41, u42, u43, u44, u45, u46, j47, j48, j49, j50, j51, j52, j53, j54, j55, j56, j57, j58, j59, j60, j61, j62, j63, j64, j65, j66, j67, j68, j69, j70, j71, j72, j73, j74, j75, j76, j77, j78, j79, j80, j81, j82, j83, j84, j85, j86, j87, j88, j89], []⟩ w :=
  ⟨fun k => (#[j0, j1, j2, j3, j4, j5, j6, undef, undef, j9, j10, j11, j12, j13, j14, j15, j16, j17, j18, j19, j20, j21, j22, j23, j24, j25, j26, j27, j28, j29, j30, j31, j32, j33, j34, j35, j36, undef, undef, undef, undef, undef, undef, undef, undef, undef, undef, j47, j48, j49, j50, j51, j52, j53, j54, j55, j56, j57, j58, j59, j60, j61, j62, j63, j64, j65, j66, j67, j68, j69, j70, j71, j72, j73, j74, j75, j76, j77, j78, j79, j80, j81, j82, j83, j84, j85, j86, j87, j88, j89] : Array Value).getD k undef, u37, u38, u39, u40, u41, u42, u43, u44, u45, u46, rfl, F⟩
structure OpE (w0 : World) (m b B7 Dd : Nat) (t : ByteArray) (rate start : Int) (v : Value) (l : List Rcp) (beh : Nat) (D : Nat → Bool) (u9 u50 u51 u52 u53 u54 u55 u56 u57 u58 : Value) (w : World) : Prop where
  below : Below w0.heap.size w0 w
  b7 : Blk w B7 31 #[.pointer (some ⟨b, 0, none⟩)]
  blk : Blk w b 50 #[.pointer (some ⟨m, 0, none⟩), .string t, .int .i64 rate, .int .i64 start, v, .bool false, .int .i64 beh]
  own : w.ownsRow 0 39 3 v l.length (rcpCells l)
  f0 : D 0 = true → u50 = Value.pointer (some ⟨b, 0, none⟩)
  f1 : D 1 = true → u51 = Value.pointer (some ⟨b, 0, none⟩)
  f2 : D 2 = true → u52 = Value.pointer (some ⟨b, 4, none⟩)
  f3 : D 3 = true → u53 = v
  f4 : D 4 = true → u54 = Value.pointer (some ⟨b, 0, none⟩)
  f5 : D 5 = true → u55 = Value.pointer (some ⟨b, 0, none⟩)
  f6 : D 6 = true → u56 = Value.pointer (some ⟨b, 6, none⟩)
  f7 : D 7 = true → u57 = Value.int IntKind.i64 (beh : Int)
  f8 : D 8 = true → FreshB w0.heap.size w u58 (endB l beh)
  f9 : D 9 = true → FreshB w0.heap.size w u9 (endB l beh)
theorem OpE.mono {w0 : World} {m b B7 Dd : Nat} {t : ByteArray} {rate start : Int} {v : Value} {l : List Rcp} {beh : Nat} {D : Nat → Bool} {u9 u50 u51 u52 u53 u54 u55 u56 u57 u58 : Value} {w w' : World} (F : OpE w0 m b B7 Dd t rate start v l beh D u9 u50 u51 u52 u53 u54 u55 u56 u57 u58 w) (hb : Below w.heap.size w w')  : OpE w0 m b B7 Dd t rate start v l beh D u9 u50 u51 u52 u53 u54 u55 u56 u57 u58 w' :=
  { below := F.below.trans (hb.mono F.below.size),
    b7 := F.b7.below hb F.b7.lt,
    blk := F.blk.below hb F.blk.lt,
    own := (Step.of_below hb []).owns F.own (by simp),
    f0 := fun h => (F.f0 h),
    f1 := fun h => (F.f1 h),
    f2 := fun h => (F.f2 h),
    f3 := fun h => (F.f3 h),
    f4 := fun h => (F.f4 h),
    f5 := fun h => (F.f5 h),
    f6 := fun h => (F.f6 h),
    f7 := fun h => (F.f7 h),
    f8 := fun h => (F.f8 h).below hb,
    f9 := fun h => (F.f9 h).below hb }
theorem OpE.set0 {w0 : World} {m b B7 Dd : Nat} {t : ByteArray} {rate start : Int} {v : Value} {l : List Rcp} {beh : Nat} {D : Nat → Bool} {u9 u50 u51 u52 u53 u54 u55 u56 u57 u58 nv : Value} {w : World} (F : OpE w0 m b B7 Dd t rate start v l beh D u9 u50 u51 u52 u53 u54 u55 u56 u57 u58 w) (hn : nv = Value.pointer (some ⟨b, 0, none⟩)) : OpE w0 m b B7 Dd t rate start v l beh (fun j => D j || j == 0) u9 nv u51 u52 u53 u54 u55 u56 u57 u58 w :=
  { below := F.below,
    b7 := F.b7,
    blk := F.blk,
    own := F.own,
    f0 := fun _ => hn,
    f1 := fun h => F.f1 (by simpa using h),
    f2 := fun h => F.f2 (by simpa using h),
    f3 := fun h => F.f3 (by simpa using h),
    f4 := fun h => F.f4 (by simpa using h),
    f5 := fun h => F.f5 (by simpa using h),
    f6 := fun h => F.f6 (by simpa using h),
    f7 := fun h => F.f7 (by simpa using h),
    f8 := fun h => F.f8 (by simpa using h),
    f9 := fun h => F.f9 (by simpa using h) }
theorem OpE.set1 {w0 : World} {m b B7 Dd : Nat} {t : ByteArray} {rate start : Int} {v : Value} {l : List Rcp} {beh : Nat} {D : Nat → Bool} {u9 u50 u51 u52 u53 u54 u55 u56 u57 u58 nv : Value} {w : World} (F : OpE w0 m b B7 Dd t rate start v l beh D u9 u50 u51 u52 u53 u54 u55 u56 u57 u58 w) (hn : nv = Value.pointer (some ⟨b, 0, none⟩)) : OpE w0 m b B7 Dd t rate start v l beh (fun j => D j || j == 1) u9 u50 nv u52 u53 u54 u55 u56 u57 u58 w :=
  { below := F.below,
    b7 := F.b7,
    blk := F.blk,
    own := F.own,
    f0 := fun h => F.f0 (by simpa using h),
    f1 := fun _ => hn,
    f2 := fun h => F.f2 (by simpa using h),
    f3 := fun h => F.f3 (by simpa using h),
    f4 := fun h => F.f4 (by simpa using h),
    f5 := fun h => F.f5 (by simpa using h),
    f6 := fun h => F.f6 (by simpa using h),
    f7 := fun h => F.f7 (by simpa using h),
    f8 := fun h => F.f8 (by simpa using h),
    f9 := fun h => F.f9 (by simpa using h) }
theorem OpE.set2 {w0 : World} {m b B7 Dd : Nat} {t : ByteArray} {rate start : Int} {v : Value} {l : List Rcp} {beh : Nat} {D : Nat → Bool} {u9 u50 u51 u52 u53 u54 u55 u56 u57 u58 nv : Value} {w : World} (F : OpE w0 m b B7 Dd t rate start v l beh D u9 u50 u51 u52 u53 u54 u55 u56 u57 u58 w) (hn : nv = Value.pointer (some ⟨b, 4, none⟩)) : OpE w0 m b B7 Dd t rate start v l beh (fun j => D j || j == 2) u9 u50 u51 nv u53 u54 u55 u56 u57 u58 w :=
  { below := F.below,
    b7 := F.b7,
    blk := F.blk,
    own := F.own,
    f0 := fun h => F.f0 (by simpa using h),
    f1 := fun h => F.f1 (by simpa using h),
    f2 := fun _ => hn,
    f3 := fun h => F.f3 (by simpa using h),
    f4 := fun h => F.f4 (by simpa using h),
    f5 := fun h => F.f5 (by simpa using h),
    f6 := fun h => F.f6 (by simpa using h),
    f7 := fun h => F.f7 (by simpa using h),
    f8 := fun h => F.f8 (by simpa using h),
    f9 := fun h => F.f9 (by simpa using h) }
theorem OpE.set3 {w0 : World} {m b B7 Dd : Nat} {t : ByteArray} {rate start : Int} {v : Value} {l : List Rcp} {beh : Nat} {D : Nat → Bool} {u9 u50 u51 u52 u53 u54 u55 u56 u57 u58 nv : Value} {w : World} (F : OpE w0 m b B7 Dd t rate start v l beh D u9 u50 u51 u52 u53 u54 u55 u56 u57 u58 w) (hn : nv = v) : OpE w0 m b B7 Dd t rate start v l beh (fun j => D j || j == 3) u9 u50 u51 u52 nv u54 u55 u56 u57 u58 w :=
  { below := F.below,
    b7 := F.b7,
    blk := F.blk,
    own := F.own,
    f0 := fun h => F.f0 (by simpa using h),
    f1 := fun h => F.f1 (by simpa using h),
    f2 := fun h => F.f2 (by simpa using h),
    f3 := fun _ => hn,
    f4 := fun h => F.f4 (by simpa using h),
    f5 := fun h => F.f5 (by simpa using h),
    f6 := fun h => F.f6 (by simpa using h),
    f7 := fun h => F.f7 (by simpa using h),
    f8 := fun h => F.f8 (by simpa using h),
    f9 := fun h => F.f9 (by simpa using h) }
theorem OpE.set4 {w0 : World} {m b B7 Dd : Nat} {t : ByteArray} {rate start : Int} {v : Value} {l : List Rcp} {beh : Nat} {D : Nat → Bool} {u9 u50 u51 u52 u53 u54 u55 u56 u57 u58 nv : Value} {w : World} (F : OpE w0 m b B7 Dd t rate start v l beh D u9 u50 u51 u52 u53 u54 u55 u56 u57 u58 w) (hn : nv = Value.pointer (some ⟨b, 0, none⟩)) : OpE w0 m b B7 Dd t rate start v l beh (fun j => D j || j == 4) u9 u50 u51 u52 u53 nv u55 u56 u57 u58 w :=
  { below := F.below,
    b7 := F.b7,
    blk := F.blk,
    own := F.own,
    f0 := fun h => F.f0 (by simpa using h),
    f1 := fun h => F.f1 (by simpa using h),
    f2 := fun h => F.f2 (by simpa using h),
    f3 := fun h => F.f3 (by simpa using h),
    f4 := fun _ => hn,
    f5 := fun h => F.f5 (by simpa using h),
    f6 := fun h => F.f6 (by simpa using h),
    f7 := fun h => F.f7 (by simpa using h),
    f8 := fun h => F.f8 (by simpa using h),
    f9 := fun h => F.f9 (by simpa using h) }
theorem OpE.set5 {w0 : World} {m b B7 Dd : Nat} {t : ByteArray} {rate start : Int} {v : Value} {l : List Rcp} {beh : Nat} {D : Nat → Bool} {u9 u50 u51 u52 u53 u54 u55 u56 u57 u58 nv : Value} {w : World} (F : OpE w0 m b B7 Dd t rate start v l beh D u9 u50 u51 u52 u53 u54 u55 u56 u57 u58 w) (hn : nv = Value.pointer (some ⟨b, 0, none⟩)) : OpE w0 m b B7 Dd t rate start v l beh (fun j => D j || j == 5) u9 u50 u51 u52 u53 u54 nv u56 u57 u58 w :=
  { below := F.below,
    b7 := F.b7,
    blk := F.blk,
    own := F.own,
    f0 := fun h => F.f0 (by simpa using h),
    f1 := fun h => F.f1 (by simpa using h),
    f2 := fun h => F.f2 (by simpa using h),
    f3 := fun h => F.f3 (by simpa using h),
    f4 := fun h => F.f4 (by simpa using h),
    f5 := fun _ => hn,
    f6 := fun h => F.f6 (by simpa using h),
    f7 := fun h => F.f7 (by simpa using h),
    f8 := fun h => F.f8 (by simpa using h),
    f9 := fun h => F.f9 (by simpa using h) }
theorem OpE.set6 {w0 : World} {m b B7 Dd : Nat} {t : ByteArray} {rate start : Int} {v : Value} {l : List Rcp} {beh : Nat} {D : Nat → Bool} {u9 u50 u51 u52 u53 u54 u55 u56 u57 u58 nv : Value} {w : World} (F : OpE w0 m b B7 Dd t rate start v l beh D u9 u50 u51 u52 u53 u54 u55 u56 u57 u58 w) (hn : nv = Value.pointer (some ⟨b, 6, none⟩)) : OpE w0 m b B7 Dd t rate start v l beh (fun j => D j || j == 6) u9 u50 u51 u52 u53 u54 u55 nv u57 u58 w :=
  { below := F.below,
    b7 := F.b7,
    blk := F.blk,
    own := F.own,
    f0 := fun h => F.f0 (by simpa using h),
    f1 := fun h => F.f1 (by simpa using h),
    f2 := fun h => F.f2 (by simpa using h),
    f3 := fun h => F.f3 (by simpa using h),
    f4 := fun h => F.f4 (by simpa using h),
    f5 := fun h => F.f5 (by simpa using h),
    f6 := fun _ => hn,
    f7 := fun h => F.f7 (by simpa using h),
    f8 := fun h => F.f8 (by simpa using h),
    f9 := fun h => F.f9 (by simpa using h) }
theorem OpE.set7 {w0 : World} {m b B7 Dd : Nat} {t : ByteArray} {rate start : Int} {v : Value} {l : List Rcp} {beh : Nat} {D : Nat → Bool} {u9 u50 u51 u52 u53 u54 u55 u56 u57 u58 nv : Value} {w : World} (F : OpE w0 m b B7 Dd t rate start v l beh D u9 u50 u51 u52 u53 u54 u55 u56 u57 u58 w) (hn : nv = Value.int IntKind.i64 (beh : Int)) : OpE w0 m b B7 Dd t rate start v l beh (fun j => D j || j == 7) u9 u50 u51 u52 u53 u54 u55 u56 nv u58 w :=
  { below := F.below,
    b7 := F.b7,
    blk := F.blk,
    own := F.own,
    f0 := fun h => F.f0 (by simpa using h),
    f1 := fun h => F.f1 (by simpa using h),
    f2 := fun h => F.f2 (by simpa using h),
    f3 := fun h => F.f3 (by simpa using h),
    f4 := fun h => F.f4 (by simpa using h),
    f5 := fun h => F.f5 (by simpa using h),
    f6 := fun h => F.f6 (by simpa using h),
    f7 := fun _ => hn,
    f8 := fun h => F.f8 (by simpa using h),
    f9 := fun h => F.f9 (by simpa using h) }
theorem OpE.set8 {w0 : World} {m b B7 Dd : Nat} {t : ByteArray} {rate start : Int} {v : Value} {l : List Rcp} {beh : Nat} {D : Nat → Bool} {u9 u50 u51 u52 u53 u54 u55 u56 u57 u58 nv : Value} {w : World} (F : OpE w0 m b B7 Dd t rate start v l beh D u9 u50 u51 u52 u53 u54 u55 u56 u57 u58 w) (hn : FreshB w0.heap.size w nv (endB l beh)) : OpE w0 m b B7 Dd t rate start v l beh (fun j => D j || j == 8) u9 u50 u51 u52 u53 u54 u55 u56 u57 nv w :=
  { below := F.below,
    b7 := F.b7,
    blk := F.blk,
    own := F.own,
    f0 := fun h => F.f0 (by simpa using h),
    f1 := fun h => F.f1 (by simpa using h),
    f2 := fun h => F.f2 (by simpa using h),
    f3 := fun h => F.f3 (by simpa using h),
    f4 := fun h => F.f4 (by simpa using h),
    f5 := fun h => F.f5 (by simpa using h),
    f6 := fun h => F.f6 (by simpa using h),
    f7 := fun h => F.f7 (by simpa using h),
    f8 := fun _ => hn,
    f9 := fun h => F.f9 (by simpa using h) }
theorem OpE.set9 {w0 : World} {m b B7 Dd : Nat} {t : ByteArray} {rate start : Int} {v : Value} {l : List Rcp} {beh : Nat} {D : Nat → Bool} {u9 u50 u51 u52 u53 u54 u55 u56 u57 u58 nv : Value} {w : World} (F : OpE w0 m b B7 Dd t rate start v l beh D u9 u50 u51 u52 u53 u54 u55 u56 u57 u58 w) (hn : FreshB w0.heap.size w nv (endB l beh)) : OpE w0 m b B7 Dd t rate start v l beh (fun j => D j || j == 9) nv u50 u51 u52 u53 u54 u55 u56 u57 u58 w :=
  { below := F.below,
    b7 := F.b7,
    blk := F.blk,
    own := F.own,
    f0 := fun h => F.f0 (by simpa using h),
    f1 := fun h => F.f1 (by simpa using h),
    f2 := fun h => F.f2 (by simpa using h),
    f3 := fun h => F.f3 (by simpa using h),
    f4 := fun h => F.f4 (by simpa using h),
    f5 := fun h => F.f5 (by simpa using h),
    f6 := fun h => F.f6 (by simpa using h),
    f7 := fun h => F.f7 (by simpa using h),
    f8 := fun h => F.f8 (by simpa using h),
    f9 := fun _ => hn }
def OpEI (w0 : World) (m b B7 Dd : Nat) (t : ByteArray) (rate start : Int) (v : Value) (l : List Rcp) (beh : Nat) (D : Nat → Bool) (a : Act) (w : World) : Prop :=
  ∃ j : Nat → Value, ∃ u9 u50 u51 u52 u53 u54 u55 u56 u57 u58, a = ⟨#[Value.pointer (some ⟨m, 0, none⟩), (j 1), (j 2), (j 3), (j 4), (j 5), (j 6), Value.pointer (some ⟨B7, 0, none⟩), (j 8), u9, (j 10), (j 11), (j 12), (j 13), (j 14), (j 15), (j 16), (j 17), (j 18), (j 19), (j 20), (j 21), (j 22), (j 23), (j 24), (j 25), (j 26), (j 27), (j 28), (j 29), (j 30), (j 31), (j 32), (j 33), (j 34), (j 35), (j 36), (j 37), (j 38), (j 39), (j 40), (j 41), (j 42), (j 43), (j 44), (j 45), (j 46), (j 47), (j 48), (j 49), u50, u51, u52, u53, u54, u55, u56, u57, u58, (j 59), (j 60), (j 61), (j 62), (j 63), (j 64), (j 65), (j 66), (j 67), (j 68), (j 69), (j 70), (j 71), (j 72), (j 73), (j 74), (j 75), (j 76), (j 77), (j 78), (j 79), (j 80), (j 81), (j 82), (j 83), (j 84), (j 85), (j 86), (j 87), (j 88), (j 89)], [{ target := .collected Dd, args := #[] }]⟩ ∧ OpE w0 m b B7 Dd t rate start v l beh D u9 u50 u51 u52 u53 u54 u55 u56 u57 u58 w
theorem OpEI.intro {w0 : World} {m b B7 Dd : Nat} {t : ByteArray} {rate start : Int} {v : Value} {l : List Rcp} {beh : Nat} {j1 j2 j3 j4 j5 j6 j8 j10 j11 j12 j13 j14 j15 j16 j17 j18 j19 j20 j21 j22 j23 j24 j25 j26 j27 j28 j29 j30 j31 j32 j33 j34 j35 j36 j37 j38 j39 j40 j41 j42 j43 j44 j45 j46 j47 j48 j49 j59 j60 j61 j62 j63 j64 j65 j66 j67 j68 j69 j70 j71 j72 j73 j74 j75 j76 j77 j78 j79 j80 j81 j82 j83 j84 j85 j86 j87 j88 j89 : Value} {D : Nat → Bool} {u9 u50 u51 u52 u53 u54 u55 u56 u57 u58 : Value} {w : World} (F : OpE w0 m b B7 Dd t rate start v l beh D u9 u50 u51 u52 u53 u54 u55 u56 u57 u58 w) : OpEI w0 m b B7 Dd t rate start v l beh D ⟨#[Value.pointer (some ⟨m, 0, none⟩), j1, j2, j3, j4, j5, j6, Value.pointer (some ⟨B7, 0, none⟩), j8, u9, j10, j11, j12, j13, j14, j15, j16, j17, j18, j19, j20, j21, j22, j23, j24, j25, j26, j27, j28, j29, j30, j31, j32, j33, j34, j35, j36, j37, j38, j39, j40, j41, j42, j43, j44, j45, j46, j47, j48, j49, u50, u51, u52, u53, u54, u55, u56, u57, u58, j59, j60, j61, j62, j63, j64, j65, j66, j67, j68, j69, j70, j71, j72, j73, j74, j75, j76, j77, j78, j79, j80, j81, j82, j83, j84, j85, j86, j87, j88, j89], [{ target := .collected Dd, args := #[] }]⟩ w :=
  ⟨fun k => (#[undef, j1, j2, j3, j4, j5, j6, undef, j8, undef, j10, j11, j12, j13, j14, j15, j16, j17, j18, j19, j20, j21, j22, j23, j24, j25, j26, j27, j28, j29, j30, j31, j32, j33, j34, j35, j36, j37, j38, j39, j40, j41, j42, j43, j44, j45, j46, j47, j48, j49, undef, undef, undef, undef, undef, undef, undef, undef, undef, j59, j60, j61, j62, j63, j64, j65, j66, j67, j68, j69, j70, j71, j72, j73, j74, j75, j76, j77, j78, j79, j80, j81, j82, j83, j84, j85, j86, j87, j88, j89] : Array Value).getD k undef, u9, u50, u51, u52, u53, u54, u55, u56, u57, u58, rfl, F⟩
structure OpS (wS : World) (m b B7 Dd sz beh n9 c9 : Nat) (A9 : Option Addr) (D : Nat → Bool) (u59 u60 u61 u62 u63 u64 u65 u66 u67 u68 : Value) (w : World) : Prop where
  weq : w = wS
  f0 : D 0 = true → u59 = Value.pointer (some ⟨m, 0, none⟩)
  f1 : D 1 = true → u60 = Value.int IntKind.i64 (sz : Int)
  f2 : D 2 = true → u61 = Value.pointer (some ⟨b, 0, none⟩)
  f3 : D 3 = true → u62 = Value.pointer (some ⟨b, 0, none⟩)
  f4 : D 4 = true → u63 = Value.pointer (some ⟨b, 6, none⟩)
  f5 : D 5 = true → u64 = Value.int IntKind.i64 (beh : Int)
  f6 : D 6 = true → u65 = Value.int IntKind.i64 ((sz : Int) - (beh : Int))
  f7 : D 7 = true → u66 = Value.slice A9 n9 c9
  f8 : D 8 = true → u67 = Value.int IntKind.i64 (n9 : Int)
  f9 : D 9 = true → u68 = Value.bool (((sz : Int) - (beh : Int)) == (n9 : Int))
theorem OpS.set0 {wS : World} {m b B7 Dd sz beh n9 c9 : Nat} {A9 : Option Addr} {D : Nat → Bool} {u59 u60 u61 u62 u63 u64 u65 u66 u67 u68 nv : Value} {w : World} (F : OpS wS m b B7 Dd sz beh n9 c9 A9 D u59 u60 u61 u62 u63 u64 u65 u66 u67 u68 w) (hn : nv = Value.pointer (some ⟨m, 0, none⟩)) : OpS wS m b B7 Dd sz beh n9 c9 A9 (fun j => D j || j == 0) nv u60 u61 u62 u63 u64 u65 u66 u67 u68 w :=
  { weq := F.weq,
    f0 := fun _ => hn,
    f1 := fun h => F.f1 (by simpa using h),
    f2 := fun h => F.f2 (by simpa using h),
    f3 := fun h => F.f3 (by simpa using h),
    f4 := fun h => F.f4 (by simpa using h),
    f5 := fun h => F.f5 (by simpa using h),
    f6 := fun h => F.f6 (by simpa using h),
    f7 := fun h => F.f7 (by simpa using h),
    f8 := fun h => F.f8 (by simpa using h),
    f9 := fun h => F.f9 (by simpa using h) }
theorem OpS.set1 {wS : World} {m b B7 Dd sz beh n9 c9 : Nat} {A9 : Option Addr} {D : Nat → Bool} {u59 u60 u61 u62 u63 u64 u65 u66 u67 u68 nv : Value} {w : World} (F : OpS wS m b B7 Dd sz beh n9 c9 A9 D u59 u60 u61 u62 u63 u64 u65 u66 u67 u68 w) (hn : nv = Value.int IntKind.i64 (sz : Int)) : OpS wS m b B7 Dd sz beh n9 c9 A9 (fun j => D j || j == 1) u59 nv u61 u62 u63 u64 u65 u66 u67 u68 w :=
  { weq := F.weq,
    f0 := fun h => F.f0 (by simpa using h),
    f1 := fun _ => hn,
    f2 := fun h => F.f2 (by simpa using h),
    f3 := fun h => F.f3 (by simpa using h),
    f4 := fun h => F.f4 (by simpa using h),
    f5 := fun h => F.f5 (by simpa using h),
    f6 := fun h => F.f6 (by simpa using h),
    f7 := fun h => F.f7 (by simpa using h),
    f8 := fun h => F.f8 (by simpa using h),
    f9 := fun h => F.f9 (by simpa using h) }
theorem OpS.set2 {wS : World} {m b B7 Dd sz beh n9 c9 : Nat} {A9 : Option Addr} {D : Nat → Bool} {u59 u60 u61 u62 u63 u64 u65 u66 u67 u68 nv : Value} {w : World} (F : OpS wS m b B7 Dd sz beh n9 c9 A9 D u59 u60 u61 u62 u63 u64 u65 u66 u67 u68 w) (hn : nv = Value.pointer (some ⟨b, 0, none⟩)) : OpS wS m b B7 Dd sz beh n9 c9 A9 (fun j => D j || j == 2) u59 u60 nv u62 u63 u64 u65 u66 u67 u68 w :=
  { weq := F.weq,
    f0 := fun h => F.f0 (by simpa using h),
    f1 := fun h => F.f1 (by simpa using h),
    f2 := fun _ => hn,
    f3 := fun h => F.f3 (by simpa using h),
    f4 := fun h => F.f4 (by simpa using h),
    f5 := fun h => F.f5 (by simpa using h),
    f6 := fun h => F.f6 (by simpa using h),
    f7 := fun h => F.f7 (by simpa using h),
    f8 := fun h => F.f8 (by simpa using h),
    f9 := fun h => F.f9 (by simpa using h) }
theorem OpS.set3 {wS : World} {m b B7 Dd sz beh n9 c9 : Nat} {A9 : Option Addr} {D : Nat → Bool} {u59 u60 u61 u62 u63 u64 u65 u66 u67 u68 nv : Value} {w : World} (F : OpS wS m b B7 Dd sz beh n9 c9 A9 D u59 u60 u61 u62 u63 u64 u65 u66 u67 u68 w) (hn : nv = Value.pointer (some ⟨b, 0, none⟩)) : OpS wS m b B7 Dd sz beh n9 c9 A9 (fun j => D j || j == 3) u59 u60 u61 nv u63 u64 u65 u66 u67 u68 w :=
  { weq := F.weq,
    f0 := fun h => F.f0 (by simpa using h),
    f1 := fun h => F.f1 (by simpa using h),
    f2 := fun h => F.f2 (by simpa using h),
    f3 := fun _ => hn,
    f4 := fun h => F.f4 (by simpa using h),
    f5 := fun h => F.f5 (by simpa using h),
    f6 := fun h => F.f6 (by simpa using h),
    f7 := fun h => F.f7 (by simpa using h),
    f8 := fun h => F.f8 (by simpa using h),
    f9 := fun h => F.f9 (by simpa using h) }
theorem OpS.set4 {wS : World} {m b B7 Dd sz beh n9 c9 : Nat} {A9 : Option Addr} {D : Nat → Bool} {u59 u60 u61 u62 u63 u64 u65 u66 u67 u68 nv : Value} {w : World} (F : OpS wS m b B7 Dd sz beh n9 c9 A9 D u59 u60 u61 u62 u63 u64 u65 u66 u67 u68 w) (hn : nv = Value.pointer (some ⟨b, 6, none⟩)) : OpS wS m b B7 Dd sz beh n9 c9 A9 (fun j => D j || j == 4) u59 u60 u61 u62 nv u64 u65 u66 u67 u68 w :=
  { weq := F.weq,
    f0 := fun h => F.f0 (by simpa using h),
    f1 := fun h => F.f1 (by simpa using h),
    f2 := fun h => F.f2 (by simpa using h),
    f3 := fun h => F.f3 (by simpa using h),
    f4 := fun _ => hn,
    f5 := fun h => F.f5 (by simpa using h),
    f6 := fun h => F.f6 (by simpa using h),
    f7 := fun h => F.f7 (by simpa using h),
    f8 := fun h => F.f8 (by simpa using h),
    f9 := fun h => F.f9 (by simpa using h) }
theorem OpS.set5 {wS : World} {m b B7 Dd sz beh n9 c9 : Nat} {A9 : Option Addr} {D : Nat → Bool} {u59 u60 u61 u62 u63 u64 u65 u66 u67 u68 nv : Value} {w : World} (F : OpS wS m b B7 Dd sz beh n9 c9 A9 D u59 u60 u61 u62 u63 u64 u65 u66 u67 u68 w) (hn : nv = Value.int IntKind.i64 (beh : Int)) : OpS wS m b B7 Dd sz beh n9 c9 A9 (fun j => D j || j == 5) u59 u60 u61 u62 u63 nv u65 u66 u67 u68 w :=
  { weq := F.weq,
    f0 := fun h => F.f0 (by simpa using h),
    f1 := fun h => F.f1 (by simpa using h),
    f2 := fun h => F.f2 (by simpa using h),
    f3 := fun h => F.f3 (by simpa using h),
    f4 := fun h => F.f4 (by simpa using h),
    f5 := fun _ => hn,
    f6 := fun h => F.f6 (by simpa using h),
    f7 := fun h => F.f7 (by simpa using h),
    f8 := fun h => F.f8 (by simpa using h),
    f9 := fun h => F.f9 (by simpa using h) }
theorem OpS.set6 {wS : World} {m b B7 Dd sz beh n9 c9 : Nat} {A9 : Option Addr} {D : Nat → Bool} {u59 u60 u61 u62 u63 u64 u65 u66 u67 u68 nv : Value} {w : World} (F : OpS wS m b B7 Dd sz beh n9 c9 A9 D u59 u60 u61 u62 u63 u64 u65 u66 u67 u68 w) (hn : nv = Value.int IntKind.i64 ((sz : Int) - (beh : Int))) : OpS wS m b B7 Dd sz beh n9 c9 A9 (fun j => D j || j == 6) u59 u60 u61 u62 u63 u64 nv u66 u67 u68 w :=
  { weq := F.weq,
    f0 := fun h => F.f0 (by simpa using h),
    f1 := fun h => F.f1 (by simpa using h),
    f2 := fun h => F.f2 (by simpa using h),
    f3 := fun h => F.f3 (by simpa using h),
    f4 := fun h => F.f4 (by simpa using h),
    f5 := fun h => F.f5 (by simpa using h),
    f6 := fun _ => hn,
    f7 := fun h => F.f7 (by simpa using h),
    f8 := fun h => F.f8 (by simpa using h),
    f9 := fun h => F.f9 (by simpa using h) }
theorem OpS.set7 {wS : World} {m b B7 Dd sz beh n9 c9 : Nat} {A9 : Option Addr} {D : Nat → Bool} {u59 u60 u61 u62 u63 u64 u65 u66 u67 u68 nv : Value} {w : World} (F : OpS wS m b B7 Dd sz beh n9 c9 A9 D u59 u60 u61 u62 u63 u64 u65 u66 u67 u68 w) (hn : nv = Value.slice A9 n9 c9) : OpS wS m b B7 Dd sz beh n9 c9 A9 (fun j => D j || j == 7) u59 u60 u61 u62 u63 u64 u65 nv u67 u68 w :=
  { weq := F.weq,
    f0 := fun h => F.f0 (by simpa using h),
    f1 := fun h => F.f1 (by simpa using h),
    f2 := fun h => F.f2 (by simpa using h),
    f3 := fun h => F.f3 (by simpa using h),
    f4 := fun h => F.f4 (by simpa using h),
    f5 := fun h => F.f5 (by simpa using h),
    f6 := fun h => F.f6 (by simpa using h),
    f7 := fun _ => hn,
    f8 := fun h => F.f8 (by simpa using h),
    f9 := fun h => F.f9 (by simpa using h) }
theorem OpS.set8 {wS : World} {m b B7 Dd sz beh n9 c9 : Nat} {A9 : Option Addr} {D : Nat → Bool} {u59 u60 u61 u62 u63 u64 u65 u66 u67 u68 nv : Value} {w : World} (F : OpS wS m b B7 Dd sz beh n9 c9 A9 D u59 u60 u61 u62 u63 u64 u65 u66 u67 u68 w) (hn : nv = Value.int IntKind.i64 (n9 : Int)) : OpS wS m b B7 Dd sz beh n9 c9 A9 (fun j => D j || j == 8) u59 u60 u61 u62 u63 u64 u65 u66 nv u68 w :=
  { weq := F.weq,
    f0 := fun h => F.f0 (by simpa using h),
    f1 := fun h => F.f1 (by simpa using h),
    f2 := fun h => F.f2 (by simpa using h),
    f3 := fun h => F.f3 (by simpa using h),
    f4 := fun h => F.f4 (by simpa using h),
    f5 := fun h => F.f5 (by simpa using h),
    f6 := fun h => F.f6 (by simpa using h),
    f7 := fun h => F.f7 (by simpa using h),
    f8 := fun _ => hn,
    f9 := fun h => F.f9 (by simpa using h) }
theorem OpS.set9 {wS : World} {m b B7 Dd sz beh n9 c9 : Nat} {A9 : Option Addr} {D : Nat → Bool} {u59 u60 u61 u62 u63 u64 u65 u66 u67 u68 nv : Value} {w : World} (F : OpS wS m b B7 Dd sz beh n9 c9 A9 D u59 u60 u61 u62 u63 u64 u65 u66 u67 u68 w) (hn : nv = Value.bool (((sz : Int) - (beh : Int)) == (n9 : Int))) : OpS wS m b B7 Dd sz beh n9 c9 A9 (fun j => D j || j == 9) u59 u60 u61 u62 u63 u64 u65 u66 u67 nv w :=
  { weq := F.weq,
    f0 := fun h => F.f0 (by simpa using h),
    f1 := fun h => F.f1 (by simpa using h),
    f2 := fun h => F.f2 (by simpa using h),
    f3 := fun h => F.f3 (by simpa using h),
    f4 := fun h => F.f4 (by simpa using h),
    f5 := fun h => F.f5 (by simpa using h),
    f6 := fun h => F.f6 (by simpa using h),
    f7 := fun h => F.f7 (by simpa using h),
    f8 := fun h => F.f8 (by simpa using h),
    f9 := fun _ => hn }
def OpSI (wS : World) (m b B7 Dd sz beh n9 c9 : Nat) (A9 : Option Addr) (D : Nat → Bool) (a : Act) (w : World) : Prop :=
  ∃ j : Nat → Value, ∃ u59 u60 u61 u62 u63 u64 u65 u66 u67 u68, a = ⟨#[Value.pointer (some ⟨m, 0, none⟩), (j 1), (j 2), (j 3), (j 4), (j 5), (j 6), Value.pointer (some ⟨B7, 0, none⟩), (j 8), Value.slice A9 n9 c9, (j 10), (j 11), (j 12), (j 13), (j 14), (j 15), (j 16), (j 17), (j 18), (j 19), (j 20), (j 21), (j 22), (j 23), (j 24), (j 25), (j 26), (j 27), (j 28), (j 29), (j 30), (j 31), (j 32), (j 33), (j 34), (j 35), (j 36), (j 37), (j 38), (j 39), (j 40), (j 41), (j 42), (j 43), (j 44), (j 45), (j 46), (j 47), (j 48), (j 49), (j 50), (j 51), (j 52), (j 53), (j 54), (j 55), (j 56), (j 57), (j 58), u59, u60, u61, u62, u63, u64, u65, u66, u67, u68, (j 69), (j 70), (j 71), (j 72), (j 73), (j 74), (j 75), (j 76), (j 77), (j 78), (j 79), (j 80), (j 81), (j 82), (j 83), (j 84), (j 85), (j 86), (j 87), (j 88), (j 89)], [{ target := .collected Dd, args := #[] }]⟩ ∧ OpS wS m b B7 Dd sz beh n9 c9 A9 D u59 u60 u61 u62 u63 u64 u65 u66 u67 u68 w
theorem OpSI.intro {wS : World} {m b B7 Dd sz beh n9 c9 : Nat} {A9 : Option Addr} {j1 j2 j3 j4 j5 j6 j8 j10 j11 j12 j13 j14 j15 j16 j17 j18 j19 j20 j21 j22 j23 j24 j25 j26 j27 j28 j29 j30 j31 j32 j33 j34 j35 j36 j37 j38 j39 j40 j41 j42 j43 j44 j45 j46 j47 j48 j49 j50 j51 j52 j53 j54 j55 j56 j57 j58 j69 j70 j71 j72 j73 j74 j75 j76 j77 j78 j79 j80 j81 j82 j83 j84 j85 j86 j87 j88 j89 : Value} {D : Nat → Bool} {u59 u60 u61 u62 u63 u64 u65 u66 u67 u68 : Value} {w : World} (F : OpS wS m b B7 Dd sz beh n9 c9 A9 D u59 u60 u61 u62 u63 u64 u65 u66 u67 u68 w) : OpSI wS m b B7 Dd sz beh n9 c9 A9 D ⟨#[Value.pointer (some ⟨m, 0, none⟩), j1, j2, j3, j4, j5, j6, Value.pointer (some ⟨B7, 0, none⟩), j8, Value.slice A9 n9 c9, j10, j11, j12, j13, j14, j15, j16, j17, j18, j19, j20, j21, j22, j23, j24, j25, j26, j27, j28, j29, j30, j31, j32, j33, j34, j35, j36, j37, j38, j39, j40, j41, j42, j43, j44, j45, j46, j47, j48, j49, j50, j51, j52, j53, j54, j55, j56, j57, j58, u59, u60, u61, u62, u63, u64, u65, u66, u67, u68, j69, j70, j71, j72, j73, j74, j75, j76, j77, j78, j79, j80, j81, j82, j83, j84, j85, j86, j87, j88, j89], [{ target := .collected Dd, args := #[] }]⟩ w :=
  ⟨fun k => (#[undef, j1, j2, j3, j4, j5, j6, undef, j8, undef, j10, j11, j12, j13, j14, j15, j16, j17, j18, j19, j20, j21, j22, j23, j24, j25, j26, j27, j28, j29, j30, j31, j32, j33, j34, j35, j36, j37, j38, j39, j40, j41, j42, j43, j44, j45, j46, j47, j48, j49, j50, j51, j52, j53, j54, j55, j56, j57, j58, undef, undef, undef, undef, undef, undef, undef, undef, undef, undef, j69, j70, j71, j72, j73, j74, j75, j76, j77, j78, j79, j80, j81, j82, j83, j84, j85, j86, j87, j88, j89] : Array Value).getD k undef, u59, u60, u61, u62, u63, u64, u65, u66, u67, u68, rfl, F⟩
structure OpT (wS : World) (b B7 Dd n9 c9 n10 c10 : Nat) (A9 A10 : Option Addr) (q : Bool) (D : Nat → Bool) (u83 u84 u85 u86 u87 u88 : Value) (w : World) : Prop where
  weq : w.cell? ⟨B7, 0, none⟩ = some (.pointer (some ⟨b, 0, none⟩))
  s6 : D 6 = false → w = wS
  f0 : D 0 = true → u83 = Value.pointer (some ⟨b, 0, none⟩)
  f1 : D 1 = true → u84 = Value.slice A10 n10 c10
  f2 : D 2 = true → u85 = Value.slice A9 n9 c9
  f3 : D 3 = true → u86 = Value.bool q
  f4 : D 4 = true → u87 = Value.pointer (some ⟨b, 0, none⟩)
  f5 : D 5 = true → u88 = Value.pointer (some ⟨b, 5, none⟩)
  f6 : D 6 = true → D 3 = true ∧ w = wS.setCell ⟨b, 5, none⟩ (.bool q)
theorem OpT.set0 {wS : World} {b B7 Dd n9 c9 n10 c10 : Nat} {A9 A10 : Option Addr} {q : Bool} {D : Nat → Bool} {u83 u84 u85 u86 u87 u88 nv : Value} {w : World} (F : OpT wS b B7 Dd n9 c9 n10 c10 A9 A10 q D u83 u84 u85 u86 u87 u88 w) (hn : nv = Value.pointer (some ⟨b, 0, none⟩)) : OpT wS b B7 Dd n9 c9 n10 c10 A9 A10 q (fun j => D j || j == 0) nv u84 u85 u86 u87 u88 w :=
  { weq := F.weq,
    s6 := fun h => F.s6 (by simpa using h),
    f0 := fun _ => hn,
    f1 := fun h => F.f1 (by simpa using h),
    f2 := fun h => F.f2 (by simpa using h),
    f3 := fun h => F.f3 (by simpa using h),
    f4 := fun h => F.f4 (by simpa using h),
    f5 := fun h => F.f5 (by simpa using h),
    f6 := fun h => ⟨by simp [(F.f6 (by simpa using h)).1], (F.f6 (by simpa using h)).2⟩ }
theorem OpT.set1 {wS : World} {b B7 Dd n9 c9 n10 c10 : Nat} {A9 A10 : Option Addr} {q : Bool} {D : Nat → Bool} {u83 u84 u85 u86 u87 u88 nv : Value} {w : World} (F : OpT wS b B7 Dd n9 c9 n10 c10 A9 A10 q D u83 u84 u85 u86 u87 u88 w) (hn : nv = Value.slice A10 n10 c10) : OpT wS b B7 Dd n9 c9 n10 c10 A9 A10 q (fun j => D j || j == 1) u83 nv u85 u86 u87 u88 w :=
  { weq := F.weq,
    s6 := fun h => F.s6 (by simpa using h),
    f0 := fun h => F.f0 (by simpa using h),
    f1 := fun _ => hn,
    f2 := fun h => F.f2 (by simpa using h),
    f3 := fun h => F.f3 (by simpa using h),
    f4 := fun h => F.f4 (by simpa using h),
    f5 := fun h => F.f5 (by simpa using h),
    f6 := fun h => ⟨by simp [(F.f6 (by simpa using h)).1], (F.f6 (by simpa using h)).2⟩ }
theorem OpT.set2 {wS : World} {b B7 Dd n9 c9 n10 c10 : Nat} {A9 A10 : Option Addr} {q : Bool} {D : Nat → Bool} {u83 u84 u85 u86 u87 u88 nv : Value} {w : World} (F : OpT wS b B7 Dd n9 c9 n10 c10 A9 A10 q D u83 u84 u85 u86 u87 u88 w) (hn : nv = Value.slice A9 n9 c9) : OpT wS b B7 Dd n9 c9 n10 c10 A9 A10 q (fun j => D j || j == 2) u83 u84 nv u86 u87 u88 w :=
  { weq := F.weq,
    s6 := fun h => F.s6 (by simpa using h),
    f0 := fun h => F.f0 (by simpa using h),
    f1 := fun h => F.f1 (by simpa using h),
    f2 := fun _ => hn,
    f3 := fun h => F.f3 (by simpa using h),
    f4 := fun h => F.f4 (by simpa using h),
    f5 := fun h => F.f5 (by simpa using h),
    f6 := fun h => ⟨by simp [(F.f6 (by simpa using h)).1], (F.f6 (by simpa using h)).2⟩ }
theorem OpT.set3 {wS : World} {b B7 Dd n9 c9 n10 c10 : Nat} {A9 A10 : Option Addr} {q : Bool} {D : Nat → Bool} {u83 u84 u85 u86 u87 u88 nv : Value} {w : World} (F : OpT wS b B7 Dd n9 c9 n10 c10 A9 A10 q D u83 u84 u85 u86 u87 u88 w) (hn : nv = Value.bool q) : OpT wS b B7 Dd n9 c9 n10 c10 A9 A10 q (fun j => D j || j == 3) u83 u84 u85 nv u87 u88 w :=
  { weq := F.weq,
    s6 := fun h => F.s6 (by simpa using h),
    f0 := fun h => F.f0 (by simpa using h),
    f1 := fun h => F.f1 (by simpa using h),
    f2 := fun h => F.f2 (by simpa using h),
    f3 := fun _ => hn,
    f4 := fun h => F.f4 (by simpa using h),
    f5 := fun h => F.f5 (by simpa using h),
    f6 := fun h => ⟨by simp [(F.f6 (by simpa using h)).1], (F.f6 (by simpa using h)).2⟩ }
theorem OpT.set4 {wS : World} {b B7 Dd n9 c9 n10 c10 : Nat} {A9 A10 : Option Addr} {q : Bool} {D : Nat → Bool} {u83 u84 u85 u86 u87 u88 nv : Value} {w : World} (F : OpT wS b B7 Dd n9 c9 n10 c10 A9 A10 q D u83 u84 u85 u86 u87 u88 w) (hn : nv = Value.pointer (some ⟨b, 0, none⟩)) : OpT wS b B7 Dd n9 c9 n10 c10 A9 A10 q (fun j => D j || j == 4) u83 u84 u85 u86 nv u88 w :=
  { weq := F.weq,
    s6 := fun h => F.s6 (by simpa using h),
    f0 := fun h => F.f0 (by simpa using h),
    f1 := fun h => F.f1 (by simpa using h),
    f2 := fun h => F.f2 (by simpa using h),
    f3 := fun h => F.f3 (by simpa using h),
    f4 := fun _ => hn,
    f5 := fun h => F.f5 (by simpa using h),
    f6 := fun h => ⟨by simp [(F.f6 (by simpa using h)).1], (F.f6 (by simpa using h)).2⟩ }
theorem OpT.set5 {wS : World} {b B7 Dd n9 c9 n10 c10 : Nat} {A9 A10 : Option Addr} {q : Bool} {D : Nat → Bool} {u83 u84 u85 u86 u87 u88 nv : Value} {w : World} (F : OpT wS b B7 Dd n9 c9 n10 c10 A9 A10 q D u83 u84 u85 u86 u87 u88 w) (hn : nv = Value.pointer (some ⟨b, 5, none⟩)) : OpT wS b B7 Dd n9 c9 n10 c10 A9 A10 q (fun j => D j || j == 5) u83 u84 u85 u86 u87 nv w :=
  { weq := F.weq,
    s6 := fun h => F.s6 (by simpa using h),
    f0 := fun h => F.f0 (by simpa using h),
    f1 := fun h => F.f1 (by simpa using h),
    f2 := fun h => F.f2 (by simpa using h),
    f3 := fun h => F.f3 (by simpa using h),
    f4 := fun h => F.f4 (by simpa using h),
    f5 := fun _ => hn,
    f6 := fun h => ⟨by simp [(F.f6 (by simpa using h)).1], (F.f6 (by simpa using h)).2⟩ }
theorem OpT.set6 {wS : World} {b B7 Dd n9 c9 n10 c10 : Nat} {A9 A10 : Option Addr} {q : Bool} {D : Nat → Bool} {u83 u84 u85 u86 u87 u88 : Value} {w : World} (F : OpT wS b B7 Dd n9 c9 n10 c10 A9 A10 q D u83 u84 u85 u86 u87 u88 w) (ho : D 3 = true) (hn :  w = wS.setCell ⟨b, 5, none⟩ (.bool q)) : OpT wS b B7 Dd n9 c9 n10 c10 A9 A10 q (fun j => D j || j == 6) u83 u84 u85 u86 u87 u88 w :=
  { weq := F.weq,
    s6 := fun h => by simp at h,
    f0 := fun h => F.f0 (by simpa using h),
    f1 := fun h => F.f1 (by simpa using h),
    f2 := fun h => F.f2 (by simpa using h),
    f3 := fun h => F.f3 (by simpa using h),
    f4 := fun h => F.f4 (by simpa using h),
    f5 := fun h => F.f5 (by simpa using h),
    f6 := fun _ => ⟨by simp [ho], hn⟩ }
theorem OpT.setw6 {wS : World} {b B7 Dd n9 c9 n10 c10 : Nat} {A9 A10 : Option Addr} {q : Bool} {D : Nat → Bool} {u83 u84 u85 u86 u87 u88 : Value} {w w' : World} (F : OpT wS b B7 Dd n9 c9 n10 c10 A9 A10 q D u83 u84 u85 u86 u87 u88 w) (hz : D 6 = false) (hweq : w'.cell? ⟨B7, 0, none⟩ = some (.pointer (some ⟨b, 0, none⟩))) (ho : D 3 = true)  (hn :  w' = wS.setCell ⟨b, 5, none⟩ (.bool q)) : OpT wS b B7 Dd n9 c9 n10 c10 A9 A10 q (fun j => D j || j == 6) u83 u84 u85 u86 u87 u88 w' :=
  { weq := hweq,
    s6 := fun h => by simp at h,
    f0 := fun h => (F.f0 (by simpa using h)),
    f1 := fun h => (F.f1 (by simpa using h)),
    f2 := fun h => (F.f2 (by simpa using h)),
    f3 := fun h => (F.f3 (by simpa using h)),
    f4 := fun h => (F.f4 (by simpa using h)),
    f5 := fun h => (F.f5 (by simpa using h)),
    f6 := fun _ => ⟨by simp [ho], hn⟩ }
def OpTI (wS : World) (b B7 Dd n9 c9 n10 c10 : Nat) (A9 A10 : Option Addr) (q : Bool) (D : Nat → Bool) (a : Act) (w : World) : Prop :=
  ∃ j : Nat → Value, ∃ u83 u84 u85 u86 u87 u88, a = ⟨#[(j 0), (j 1), (j 2), (j 3), (j 4), (j 5), (j 6), Value.pointer (some ⟨B7, 0, none⟩), (j 8), Value.slice A9 n9 c9, Value.slice A10 n10 c10, (j 11), (j 12), (j 13), (j 14), (j 15), (j 16), (j 17), (j 18), (j 19), (j 20), (j 21), (j 22), (j 23), (j 24), (j 25), (j 26), (j 27), (j 28), (j 29), (j 30), (j 31), (j 32), (j 33), (j 34), (j 35), (j 36), (j 37), (j 38), (j 39), (j 40), (j 41), (j 42), (j 43), (j 44), (j 45), (j 46), (j 47), (j 48), (j 49), (j 50), (j 51), (j 52), (j 53), (j 54), (j 55), (j 56), (j 57), (j 58), (j 59), (j 60), (j 61), (j 62), (j 63), (j 64), (j 65), (j 66), (j 67), (j 68), (j 69), (j 70), (j 71), (j 72), (j 73), (j 74), (j 75), (j 76), (j 77), (j 78), (j 79), (j 80), (j 81), (j 82), u83, u84, u85, u86, u87, u88, (j 89)], [{ target := .collected Dd, args := #[] }]⟩ ∧ OpT wS b B7 Dd n9 c9 n10 c10 A9 A10 q D u83 u84 u85 u86 u87 u88 w
theorem OpTI.intro {wS : World} {b B7 Dd n9 c9 n10 c10 : Nat} {A9 A10 : Option Addr} {q : Bool} {j0 j1 j2 j3 j4 j5 j6 j8 j11 j12 j13 j14 j15 j16 j17 j18 j19 j20 j21 j22 j23 j24 j25 j26 j27 j28 j29 j30 j31 j32 j33 j34 j35 j36 j37 j38 j39 j40 j41 j42 j43 j44 j45 j46 j47 j48 j49 j50 j51 j52 j53 j54 j55 j56 j57 j58 j59 j60 j61 j62 j63 j64 j65 j66 j67 j68 j69 j70 j71 j72 j73 j74 j75 j76 j77 j78 j79 j80 j81 j82 j89 : Value} {D : Nat → Bool} {u83 u84 u85 u86 u87 u88 : Value} {w : World} (F : OpT wS b B7 Dd n9 c9 n10 c10 A9 A10 q D u83 u84 u85 u86 u87 u88 w) : OpTI wS b B7 Dd n9 c9 n10 c10 A9 A10 q D ⟨#[j0, j1, j2, j3, j4, j5, j6, Value.pointer (some ⟨B7, 0, none⟩), j8, Value.slice A9 n9 c9, Value.slice A10 n10 c10, j11, j12, j13, j14, j15, j16, j17, j18, j19, j20, j21, j22, j23, j24, j25, j26, j27, j28, j29, j30, j31, j32, j33, j34, j35, j36, j37, j38, j39, j40, j41, j42, j43, j44, j45, j46, j47, j48, j49, j50, j51, j52, j53, j54, j55, j56, j57, j58, j59, j60, j61, j62, j63, j64, j65, j66, j67, j68, j69, j70, j71, j72, j73, j74, j75, j76, j77, j78, j79, j80, j81, j82, u83, u84, u85, u86, u87, u88, j89], [{ target := .collected Dd, args := #[] }]⟩ w :=
  ⟨fun k => (#[j0, j1, j2, j3, j4, j5, j6, undef, j8, undef, undef, j11, j12, j13, j14, j15, j16, j17, j18, j19, j20, j21, j22, j23, j24, j25, j26, j27, j28, j29, j30, j31, j32, j33, j34, j35, j36, j37, j38, j39, j40, j41, j42, j43, j44, j45, j46, j47, j48, j49, j50, j51, j52, j53, j54, j55, j56, j57, j58, j59, j60, j61, j62, j63, j64, j65, j66, j67, j68, j69, j70, j71, j72, j73, j74, j75, j76, j77, j78, j79, j80, j81, j82, undef, undef, undef, undef, undef, undef, j89] : Array Value).getD k undef, u83, u84, u85, u86, u87, u88, rfl, F⟩
end Go.Proofs.YtjmnomohmijbpaaDoor
