/- (*reel.Writer).Finish. -/
import Derived.Test.YtjmnomohmijbpaaDoorCreate
import Derived.Test.YtjmnomohmijbpaaDoorRes
namespace Go.Proofs.YtjmnomohmijbpaaDoor
open Go.RowKit
structure FinF (w0 : World) (b m R : Nat) (v : Value) (l : List Rcp) (F0 : List Nat) (bs : List (BitVec 8)) (L : Nat) (D : Nat → Bool) (u4 u15 u16 u17 u18 u19 u20 u21 u22 u23 u24 : Value) (w : World) : Prop where
  below : Below w0.heap.size w0 w
  blk : Blk w b 48 #[.pointer (some ⟨m, 0, none⟩), v, .bool true]
  med : Med w m F0 bs L
  own : w.ownsRow 0 39 3 v l.length (rcpCells l)
  f0 : D 0 = true → u15 = Value.pointer (some ⟨b, 0, none⟩)
  f1 : D 1 = true → u16 = Value.pointer (some ⟨b, 0, none⟩)
  f2 : D 2 = true → u17 = Value.pointer (some ⟨b, 1, none⟩)
  f3 : D 3 = true → u18 = v
  f4 : D 4 = true → u19 = Value.pointer (some ⟨b, 0, none⟩)
  f5 : D 5 = true → u20 = Value.pointer (some ⟨b, 0, none⟩)
  f6 : D 6 = true → u21 = Value.pointer (some ⟨b, 0, none⟩)
  f7 : D 7 = true → u22 = Value.pointer (some ⟨m, 0, none⟩)
  f8 : D 8 = true → u23 = Value.int IntKind.i64 bs.length
  f9 : D 9 = true → FreshB w0.heap.size w u24 (endB l bs.length)
  f10 : D 10 = true → FreshB w0.heap.size w u4 (endB l bs.length)
theorem FinF.mono {w0 : World} {b m R : Nat} {v : Value} {l : List Rcp} {F0 : List Nat} {bs : List (BitVec 8)} {L : Nat} {D : Nat → Bool} {u4 u15 u16 u17 u18 u19 u20 u21 u22 u23 u24 : Value} {w w' : World} (F : FinF w0 b m R v l F0 bs L D u4 u15 u16 u17 u18 u19 u20 u21 u22 u23 u24 w) (hb : Below w.heap.size w w')  : FinF w0 b m R v l F0 bs L D u4 u15 u16 u17 u18 u19 u20 u21 u22 u23 u24 w' :=
  { below := F.below.trans (hb.mono F.below.size),
    blk := F.blk.below hb F.blk.lt,
    med := F.med.below hb,
    own := (Step.of_below hb []).owns F.own (by simp),
    f0 := fun h => (F.f0 h),
    f1 := fun h => (F.f1 h),
    f2 := fun h => (F.f2 h),
    f3 := fun h => (F.f3 h),
    f4 := fun h => (F.f4 h),
    f5 := fun h => (F.f5 h),
    f6 := fun h => (F.f6 h),
    f7 := fun h => (F.f7 h),
    f8 := fun h => (F.f8 h),
    f9 := fun h => (F.f9 h).below hb,
    f10 := fun h => (F.f10 h).below hb }
theorem FinF.set0 {w0 : World} {b m R : Nat} {v : Value} {l : List Rcp} {F0 : List Nat} {bs : List (BitVec 8)} {L : Nat} {D : Nat → Bool} {u4 u15 u16 u17 u18 u19 u20 u21 u22 u23 u24 nv : Value} {w : World} (F : FinF w0 b m R v l F0 bs L D u4 u15 u16 u17 u18 u19 u20 u21 u22 u23 u24 w) (hn : nv = Value.pointer (some ⟨b, 0, none⟩)) : FinF w0 b m R v l F0 bs L (fun j => D j || j == 0) u4 nv u16 u17 u18 u19 u20 u21 u22 u23 u24 w :=
  { below := F.below,
    blk := F.blk,
    med := F.med,
    own := F.own,
    f0 := fun _ => hn,
    f1 := fun h => F.f1 (by simpa using h),
    f2 := fun h => F.f2 (by simpa using h),
    f3 := fun h => F.f3 (by simpa using h),
    f4 := fun h => F.f4 (by simpa using h),
    f5 := fun h => F.f5 (by simpa using h),
    f6 := fun h => F.f6 (by simpa using h),
    f7 := fun h => F.f7 (by simpa using h),
    f8 := fun h => F.f8 (by simpa using h),
    f9 := fun h => F.f9 (by simpa using h),
    f10 := fun h => F.f10 (by simpa using h) }
theorem FinF.set1 {w0 : World} {b m R : Nat} {v : Value} {l : List Rcp} {F0 : List Nat} {bs : List (BitVec 8)} {L : Nat} {D : Nat → Bool} {u4 u15 u16 u17 u18 u19 u20 u21 u22 u23 u24 nv : Value} {w : World} (F : FinF w0 b m R v l F0 bs L D u4 u15 u16 u17 u18 u19 u20 u21 u22 u23 u24 w) (hn : nv = Value.pointer (some ⟨b, 0, none⟩)) : FinF w0 b m R v l F0 bs L (fun j => D j || j == 1) u4 u15 nv u17 u18 u19 u20 u21 u22 u23 u24 w :=
  { below := F.below,
    blk := F.blk,
    med := F.med,
    own := F.own,
    f0 := fun h => F.f0 (by simpa using h),
    f1 := fun _ => hn,
    f2 := fun h => F.f2 (by simpa using h),
    f3 := fun h => F.f3 (by simpa using h),
    f4 := fun h => F.f4 (by simpa using h),
    f5 := fun h => F.f5 (by simpa using h),
    f6 := fun h => F.f6 (by simpa using h),
    f7 := fun h => F.f7 (by simpa using h),
    f8 := fun h => F.f8 (by simpa using h),
    f9 := fun h => F.f9 (by simpa using h),
    f10 := fun h => F.f10 (by simpa using h) }
theorem FinF.set2 {w0 : World} {b m R : Nat} {v : Value} {l : List Rcp} {F0 : List Nat} {bs : List (BitVec 8)} {L : Nat} {D : Nat → Bool} {u4 u15 u16 u17 u18 u19 u20 u21 u22 u23 u24 nv : Value} {w : World} (F : FinF w0 b m R v l F0 bs L D u4 u15 u16 u17 u18 u19 u20 u21 u22 u23 u24 w) (hn : nv = Value.pointer (some ⟨b, 1, none⟩)) : FinF w0 b m R v l F0 bs L (fun j => D j || j == 2) u4 u15 u16 nv u18 u19 u20 u21 u22 u23 u24 w :=
  { below := F.below,
    blk := F.blk,
    med := F.med,
    own := F.own,
    f0 := fun h => F.f0 (by simpa using h),
    f1 := fun h => F.f1 (by simpa using h),
    f2 := fun _ => hn,
    f3 := fun h => F.f3 (by simpa using h),
    f4 := fun h => F.f4 (by simpa using h),
    f5 := fun h => F.f5 (by simpa using h),
    f6 := fun h => F.f6 (by simpa using h),
    f7 := fun h => F.f7 (by simpa using h),
    f8 := fun h => F.f8 (by simpa using h),
    f9 := fun h => F.f9 (by simpa using h),
    f10 := fun h => F.f10 (by simpa using h) }
theorem FinF.set3 {w0 : World} {b m R : Nat} {v : Value} {l : List Rcp} {F0 : List Nat} {bs : List (BitVec 8)} {L : Nat} {D : Nat → Bool} {u4 u15 u16 u17 u18 u19 u20 u21 u22 u23 u24 nv : Value} {w : World} (F : FinF w0 b m R v l F0 bs L D u4 u15 u16 u17 u18 u19 u20 u21 u22 u23 u24 w) (hn : nv = v) : FinF w0 b m R v l F0 bs L (fun j => D j || j == 3) u4 u15 u16 u17 nv u19 u20 u21 u22 u23 u24 w :=
  { below := F.below,
    blk := F.blk,
    med := F.med,
    own := F.own,
    f0 := fun h => F.f0 (by simpa using h),
    f1 := fun h => F.f1 (by simpa using h),
    f2 := fun h => F.f2 (by simpa using h),
    f3 := fun _ => hn,
    f4 := fun h => F.f4 (by simpa using h),
    f5 := fun h => F.f5 (by simpa using h),
    f6 := fun h => F.f6 (by simpa using h),
    f7 := fun h => F.f7 (by simpa using h),
    f8 := fun h => F.f8 (by simpa using h),
    f9 := fun h => F.f9 (by simpa using h),
    f10 := fun h => F.f10 (by simpa using h) }
theorem FinF.set4 {w0 : World} {b m R : Nat} {v : Value} {l : List Rcp} {F0 : List Nat} {bs : List (BitVec 8)} {L : Nat} {D : Nat → Bool} {u4 u15 u16 u17 u18 u19 u20 u21 u22 u23 u24 nv : Value} {w : World} (F : FinF w0 b m R v l F0 bs L D u4 u15 u16 u17 u18 u19 u20 u21 u22 u23 u24 w) (hn : nv = Value.pointer (some ⟨b, 0, none⟩)) : FinF w0 b m R v l F0 bs L (fun j => D j || j == 4) u4 u15 u16 u17 u18 nv u20 u21 u22 u23 u24 w :=
  { below := F.below,
    blk := F.blk,
    med := F.med,
    own := F.own,
    f0 := fun h => F.f0 (by simpa using h),
    f1 := fun h => F.f1 (by simpa using h),
    f2 := fun h => F.f2 (by simpa using h),
    f3 := fun h => F.f3 (by simpa using h),
    f4 := fun _ => hn,
    f5 := fun h => F.f5 (by simpa using h),
    f6 := fun h => F.f6 (by simpa using h),
    f7 := fun h => F.f7 (by simpa using h),
    f8 := fun h => F.f8 (by simpa using h),
    f9 := fun h => F.f9 (by simpa using h),
    f10 := fun h => F.f10 (by simpa using h) }
theorem FinF.set5 {w0 : World} {b m R : Nat} {v : Value} {l : List Rcp} {F0 : List Nat} {bs : List (BitVec 8)} {L : Nat} {D : Nat → Bool} {u4 u15 u16 u17 u18 u19 u20 u21 u22 u23 u24 nv : Value} {w : World} (F : FinF w0 b m R v l F0 bs L D u4 u15 u16 u17 u18 u19 u20 u21 u22 u23 u24 w) (hn : nv = Value.pointer (some ⟨b, 0, none⟩)) : FinF w0 b m R v l F0 bs L (fun j => D j || j == 5) u4 u15 u16 u17 u18 u19 nv u21 u22 u23 u24 w :=
  { below := F.below,
    blk := F.blk,
    med := F.med,
    own := F.own,
    f0 := fun h => F.f0 (by simpa using h),
    f1 := fun h => F.f1 (by simpa using h),
    f2 := fun h => F.f2 (by simpa using h),
    f3 := fun h => F.f3 (by simpa using h),
    f4 := fun h => F.f4 (by simpa using h),
    f5 := fun _ => hn,
    f6 := fun h => F.f6 (by simpa using h),
    f7 := fun h => F.f7 (by simpa using h),
    f8 := fun h => F.f8 (by simpa using h),
    f9 := fun h => F.f9 (by simpa using h),
    f10 := fun h => F.f10 (by simpa using h) }
theorem FinF.set6 {w0 : World} {b m R : Nat} {v : Value} {l : List Rcp} {F0 : List Nat} {bs : List (BitVec 8)} {L : Nat} {D : Nat → Bool} {u4 u15 u16 u17 u18 u19 u20 u21 u22 u23 u24 nv : Value} {w : World} (F : FinF w0 b m R v l F0 bs L D u4 u15 u16 u17 u18 u19 u20 u21 u22 u23 u24 w) (hn : nv = Value.pointer (some ⟨b, 0, none⟩)) : FinF w0 b m R v l F0 bs L (fun j => D j || j == 6) u4 u15 u16 u17 u18 u19 u20 nv u22 u23 u24 w :=
  { below := F.below,
    blk := F.blk,
    med := F.med,
    own := F.own,
    f0 := fun h => F.f0 (by simpa using h),
    f1 := fun h => F.f1 (by simpa using h),
    f2 := fun h => F.f2 (by simpa using h),
    f3 := fun h => F.f3 (by simpa using h),
    f4 := fun h => F.f4 (by simpa using h),
    f5 := fun h => F.f5 (by simpa using h),
    f6 := fun _ => hn,
    f7 := fun h => F.f7 (by simpa using h),
    f8 := fun h => F.f8 (by simpa using h),
    f9 := fun h => F.f9 (by simpa using h),
    f10 := fun h => F.f10 (by simpa using h) }
theorem FinF.set7 {w0 : World} {b m R : Nat} {v : Value} {l : List Rcp} {F0 : List Nat} {bs : List (BitVec 8)} {L : Nat} {D : Nat → Bool} {u4 u15 u16 u17 u18 u19 u20 u21 u22 u23 u24 nv : Value} {w : World} (F : FinF w0 b m R v l F0 bs L D u4 u15 u16 u17 u18 u19 u20 u21 u22 u23 u24 w) (hn : nv = Value.pointer (some ⟨m, 0, none⟩)) : FinF w0 b m R v l F0 bs L (fun j => D j || j == 7) u4 u15 u16 u17 u18 u19 u20 u21 nv u23 u24 w :=
  { below := F.below,
    blk := F.blk,
    med := F.med,
    own := F.own,
    f0 := fun h => F.f0 (by simpa using h),
    f1 := fun h => F.f1 (by simpa using h),
    f2 := fun h => F.f2 (by simpa using h),
    f3 := fun h => F.f3 (by simpa using h),
    f4 := fun h => F.f4 (by simpa using h),
    f5 := fun h => F.f5 (by simpa using h),
    f6 := fun h => F.f6 (by simpa using h),
    f7 := fun _ => hn,
    f8 := fun h => F.f8 (by simpa using h),
    f9 := fun h => F.f9 (by simpa using h),
    f10 := fun h => F.f10 (by simpa using h) }
theorem FinF.set8 {w0 : World} {b m R : Nat} {v : Value} {l : List Rcp} {F0 : List Nat} {bs : List (BitVec 8)} {L : Nat} {D : Nat → Bool} {u4 u15 u16 u17 u18 u19 u20 u21 u22 u23 u24 nv : Value} {w : World} (F : FinF w0 b m R v l F0 bs L D u4 u15 u16 u17 u18 u19 u20 u21 u22 u23 u24 w) (hn : nv = Value.int IntKind.i64 bs.length) : FinF w0 b m R v l F0 bs L (fun j => D j || j == 8) u4 u15 u16 u17 u18 u19 u20 u21 u22 nv u24 w :=
  { below := F.below,
    blk := F.blk,
    med := F.med,
    own := F.own,
    f0 := fun h => F.f0 (by simpa using h),
    f1 := fun h => F.f1 (by simpa using h),
    f2 := fun h => F.f2 (by simpa using h),
    f3 := fun h => F.f3 (by simpa using h),
    f4 := fun h => F.f4 (by simpa using h),
    f5 := fun h => F.f5 (by simpa using h),
    f6 := fun h => F.f6 (by simpa using h),
    f7 := fun h => F.f7 (by simpa using h),
    f8 := fun _ => hn,
    f9 := fun h => F.f9 (by simpa using h),
    f10 := fun h => F.f10 (by simpa using h) }
theorem FinF.set9 {w0 : World} {b m R : Nat} {v : Value} {l : List Rcp} {F0 : List Nat} {bs : List (BitVec 8)} {L : Nat} {D : Nat → Bool} {u4 u15 u16 u17 u18 u19 u20 u21 u22 u23 u24 nv : Value} {w : World} (F : FinF w0 b m R v l F0 bs L D u4 u15 u16 u17 u18 u19 u20 u21 u22 u23 u24 w) (hn : FreshB w0.heap.size w nv (endB l bs.length)) : FinF w0 b m R v l F0 bs L (fun j => D j || j == 9) u4 u15 u16 u17 u18 u19 u20 u21 u22 u23 nv w :=
  { below := F.below,
    blk := F.blk,
    med := F.med,
    own := F.own,
    f0 := fun h => F.f0 (by simpa using h),
    f1 := fun h => F.f1 (by simpa using h),
    f2 := fun h => F.f2 (by simpa using h),
    f3 := fun h => F.f3 (by simpa using h),
    f4 := fun h => F.f4 (by simpa using h),
    f5 := fun h => F.f5 (by simpa using h),
    f6 := fun h => F.f6 (by simpa using h),
    f7 := fun h => F.f7 (by simpa using h),
    f8 := fun h => F.f8 (by simpa using h),
    f9 := fun _ => hn,
    f10 := fun h => F.f10 (by simpa using h) }
theorem FinF.set10 {w0 : World} {b m R : Nat} {v : Value} {l : List Rcp} {F0 : List Nat} {bs : List (BitVec 8)} {L : Nat} {D : Nat → Bool} {u4 u15 u16 u17 u18 u19 u20 u21 u22 u23 u24 nv : Value} {w : World} (F : FinF w0 b m R v l F0 bs L D u4 u15 u16 u17 u18 u19 u20 u21 u22 u23 u24 w) (hn : FreshB w0.heap.size w nv (endB l bs.length)) : FinF w0 b m R v l F0 bs L (fun j => D j || j == 10) nv u15 u16 u17 u18 u19 u20 u21 u22 u23 u24 w :=
  { below := F.below,
    blk := F.blk,
    med := F.med,
    own := F.own,
    f0 := fun h => F.f0 (by simpa using h),
    f1 := fun h => F.f1 (by simpa using h),
    f2 := fun h => F.f2 (by simpa using h),
    f3 := fun h => F.f3 (by simpa using h),
    f4 := fun h => F.f4 (by simpa using h),
    f5 := fun h => F.f5 (by simpa using h),
    f6 := fun h => F.f6 (by simpa using h),
    f7 := fun h => F.f7 (by simpa using h),
    f8 := fun h => F.f8 (by simpa using h),
    f9 := fun h => F.f9 (by simpa using h),
    f10 := fun _ => hn }
def FinFI (w0 : World) (b m R : Nat) (v : Value) (l : List Rcp) (F0 : List Nat) (bs : List (BitVec 8)) (L : Nat) (D : Nat → Bool) (a : Act) (w : World) : Prop :=
  ∃ u4 u15 u16 u17 u18 u19 u20 u21 u22 u23 u24, a = ⟨#[Value.pointer (some ⟨b, 0, none⟩), undef, Value.pointer (some ⟨R, 0, none⟩), Value.int IntKind.i64 0, u4, undef, undef, Value.pointer (some ⟨b, 0, none⟩), Value.pointer (some ⟨b, 0, none⟩), Value.pointer (some ⟨b, 2, none⟩), Value.bool false, undef, Value.pointer (some ⟨b, 0, none⟩), Value.pointer (some ⟨b, 0, none⟩), Value.pointer (some ⟨b, 2, none⟩), u15, u16, u17, u18, u19, u20, u21, u22, u23, u24, undef, undef, undef, undef, undef, undef, undef, undef, undef, undef, undef, undef, undef, undef, undef, undef, undef, undef, undef, undef, undef, undef], []⟩ ∧ FinF w0 b m R v l F0 bs L D u4 u15 u16 u17 u18 u19 u20 u21 u22 u23 u24 w
set_option maxRecDepth 100000 in
set_option maxHeartbeats 1000000 in
theorem finish_any (b m : Nat) (v : Value) (l : List Rcp) (G : List Nat) (bs : List (BitVec 8)) (L : Nat) (w : World) (hW : Wri w b m v l false) (hM : Med w m G bs L) (hbF : b ∉ G) (hv : ∀ k, v.ownBlock = some k → k ∉ G)
    (hl : ∀ x, x ∈ l → 16 ≤ x.at_ ∧ x.at_ < 4294967296) (hln : l.length ≤ 100000000) (hsz : bs.length + (endB l bs.length).length ≤ 268435456) :
    Calls Tryd.prog 11 #[.pointer (some ⟨b, 0, none⟩)] w fun e w' => e = .returned (.tuple #[rcpV ⟨l.length, bs.length, (endB l bs.length).length⟩, .int .i64 0]) ∧
      Wri w' b m v l true ∧ ∃ G', Med w' m G' (bs ++ endB l bs.length) L ∧ Step w w' (b :: G) (b :: G') := by
  obtain ⟨hB, hO⟩ := hW
  obtain ⟨Av, cv, rfl⟩ := slice_form hO
  have hba : Below w.heap.size w (w.alloc (Obj.cells #[.int .i64 0, .int .i64 0, .int .i64 0] 39)) := (Below.refl w.heap.size w).alloc (Nat.le_refl _) _
  have hR : Blk (w.alloc (Obj.cells #[.int .i64 0, .int .i64 0, .int .i64 0] 39)) w.heap.size 39 #[.int .i64 0, .int .i64 0, .int .i64 0] := Blk.new _ _ _
  have hB1 := hB.below hba hB.lt
  have hM1 := hM.below hba
  have k2 := hB1.cell_some (i := 2) (v := .bool false) rfl
  have f2 := hB1.frozen 2
  have HA := Lib.hid hba; clear hba
  go_enter Tryd.func11, Tryd.ntmps11
  go_wp2_with fail
  have hS1 : Step w (w.alloc (Obj.cells #[.int .i64 0, .int .i64 0, .int .i64 0] 39)) (b :: G) (b :: G) := Step.of_below HA.out _
  have hB2 := hB1.set_ 2 (.bool true)
  have hR2 := hR.far (p := ⟨b, 2, none⟩) (by have := hB.lt; show w.heap.size ≠ b; omega) (.bool true)
  have hS2 := hS1.setCell (p := ⟨b, 2, none⟩) (by simp) (.bool true)
  have hs12 := (Step.refl (w.alloc (Obj.cells #[.int .i64 0, .int .i64 0, .int .i64 0] 39)) [b]).setCell (p := ⟨b, 2, none⟩) (by simp) (.bool true)
  have hM2 := hM1.step hs12 (fun k hk he => hbF (by simp at he; rwa [← he]))
  have hvb : ∀ k, (Value.slice Av l.length cv).ownBlock = some k → k ≠ b := fun k hk he => own_blk_ne hO hB (by decide) (he ▸ hk)
  have hO2 := hs12.owns ((Step.of_below HA.out []).owns hO (by simp)) (fun k hk he => hvb k hk (by simpa using he))
  generalize hW2 : (w.alloc (Obj.cells #[.int .i64 0, .int .i64 0, .int .i64 0] 39)).setCell ⟨b, 2, none⟩ (.bool true) = W2 at *
  refine wp_region_inv (by kernel_rfl) (by kernel_rfl) (FinFI W2 b m w.heap.size (.slice Av l.length cv) l G bs L) ?_ ?_ ?_
  · exact ⟨_, _, _, _, _, _, _, _, _, _, _, rfl, { below := (Below.refl _ _).drew, blk := hB2.drew, med := hM2.below ((Below.refl _ _).drew), own := (Step.of_below ((Below.refl _ _).drew) []).owns hO2 (by simp), f0 := fun h => (by cases h), f1 := fun h => (by cases h), f2 := fun h => (by cases h), f3 := fun h => (by cases h), f4 := fun h => (by cases h), f5 := fun h => (by cases h), f6 := fun h => (by cases h), f7 := fun h => (by cases h), f8 := fun h => (by cases h), f9 := fun h => (by cases h), f10 := fun h => (by cases h) }⟩
  · intro D a w1 i o hI ho hD hE
    obtain ⟨u4, u15, u16, u17, u18, u19, u20, u21, u22, u23, u24, rfl, F⟩ := hI
    have c1 := F.blk.cell_some (i := 1) (v := .slice Av l.length cv) rfl
    have c0 := F.blk.cell_some (i := 0) (v := .pointer (some ⟨m, 0, none⟩)) rfl
    match i, ho, hD, hE with
    | 0, ho, hD, hE =>
      obtain rfl := Option.some.inj ho
      refine wpOp_of rfl rfl ?_
      go_simp
      exact ⟨_, _, _, _, _, _, _, _, _, _, _, rfl, F.set0 rfl⟩
    | 1, ho, hD, hE =>
      obtain rfl := Option.some.inj ho
      have e0 : D 0 = true := hE ⟨0, .data⟩ (by simp) rfl
      obtain rfl := F.f0 e0
      refine wpOp_of rfl rfl ?_
      go_simp
      exact ⟨_, _, _, _, _, _, _, _, _, _, _, rfl, F.set1 rfl⟩
    | 2, ho, hD, hE =>
      obtain rfl := Option.some.inj ho
      have e1 : D 1 = true := hE ⟨1, .data⟩ (by simp) rfl
      obtain rfl := F.f1 e1
      refine wpOp_of rfl rfl ?_
      go_simp
      exact ⟨_, _, _, _, _, _, _, _, _, _, _, rfl, F.set2 rfl⟩
    | 3, ho, hD, hE =>
      obtain rfl := Option.some.inj ho
      have e2 : D 2 = true := hE ⟨2, .data⟩ (by simp) rfl
      obtain rfl := F.f2 e2
      refine wpOp_of rfl rfl ?_
      go_simp
      exact ⟨_, _, _, _, _, _, _, _, _, _, _, rfl, F.set3 rfl⟩
    | 4, ho, hD, hE =>
      obtain rfl := Option.some.inj ho
      refine wpOp_of rfl rfl ?_
      go_simp
      exact ⟨_, _, _, _, _, _, _, _, _, _, _, rfl, F.set4 rfl⟩
    | 5, ho, hD, hE =>
      obtain rfl := Option.some.inj ho
      have e4 : D 4 = true := hE ⟨4, .data⟩ (by simp) rfl
      obtain rfl := F.f4 e4
      refine wpOp_of rfl rfl ?_
      go_simp
      exact ⟨_, _, _, _, _, _, _, _, _, _, _, rfl, F.set5 rfl⟩
    | 6, ho, hD, hE =>
      obtain rfl := Option.some.inj ho
      have e5 : D 5 = true := hE ⟨5, .data⟩ (by simp) rfl
      obtain rfl := F.f5 e5
      refine wpOp_of rfl rfl ?_
      go_simp
      exact ⟨_, _, _, _, _, _, _, _, _, _, _, rfl, F.set6 rfl⟩
    | 7, ho, hD, hE =>
      obtain rfl := Option.some.inj ho
      have e6 : D 6 = true := hE ⟨6, .data⟩ (by simp) rfl
      obtain rfl := F.f6 e6
      refine wpOp_of rfl rfl ?_
      go_simp
      exact ⟨_, _, _, _, _, _, _, _, _, _, _, rfl, F.set7 rfl⟩
    | 8, ho, hD, hE =>
      obtain rfl := Option.some.inj ho
      have e7 : D 7 = true := hE ⟨7, .data⟩ (by simp) rfl
      obtain rfl := F.f7 e7
      refine wpOp_of rfl rfl ?_
      go_simp
      refine (size_any m G bs L _ F.med).mono ?_
      rintro e w2 ⟨rfl, rfl⟩
      exact ⟨_, _, _, _, _, _, _, _, _, _, _, rfl, F.set8 rfl⟩
    | 9, ho, hD, hE =>
      obtain rfl := Option.some.inj ho
      have e3 : D 3 = true := hE ⟨3, .data⟩ (by simp) rfl
      obtain rfl := F.f3 e3
      have e8 : D 8 = true := hE ⟨8, .data⟩ (by simp) rfl
      obtain rfl := F.f8 e8
      refine wpOp_of rfl rfl ?_
      go_simp
      refine (end_any l Av l.length cv bs.length _ (Reads.of_own F.own) rfl hln (by omega) hl).mono ?_
      rintro e w2 ⟨v2, rfl, hf, hb⟩
      exact ⟨_, _, _, _, _, _, _, _, _, _, _, rfl, (F.mono hb).set9 (hf.mono F.below.size)⟩
    | 10, ho, hD, hE =>
      obtain rfl := Option.some.inj ho
      refine wpOp_of rfl rfl ?_
      have e9 : D 9 = true := hE ⟨9, .data⟩ (by simp) rfl
      go_simp
      exact ⟨_, _, _, _, _, _, _, _, _, _, _, rfl, F.set10 (F.f9 e9)⟩
    | n + 11, ho, hD, hE => simp at ho
  · intro D a w1 hI hall
    obtain ⟨u4, u15, u16, u17, u18, u19, u20, u21, u22, u23, u24, rfl, F⟩ := hI
    have hf := F.f10 (hall 10 (by simp))
    have hb := F.below
    have hM3 := F.med
    have hB3 := F.blk
    have hO3 := F.own
    clear F hall
    obtain ⟨A, c, rfl, hRd⟩ := hf.from
    have hlt2 := hM2.lt
    have c0 := hB3.cell_some (i := 0) (v := .pointer (some ⟨m, 0, none⟩)) rfl
    have HW2 := Lib.hid hW2; clear hW2
    go_wp2_with fail
    refine (append_med m G bs _ L A _ c _ hM3 (hRd.apart hlt2) hsz).mono ?_
    rintro e w4 ⟨rfl, G', hM4, hS4⟩
    have hbG := hbF
    have hB4 := hS4.blk hB3 hbG
    have hO4 := hS4.owns hO3 hv
    have hR3 := hR2.below hb hR2.lt
    have hR4 := hS4.blk hR3 (fun hk => Nat.lt_irrefl _ (hM.lt _ hk))
    have r0 := hR4.cell_some (i := 0) (v := .int .i64 0) rfl
    have r1 := hR4.cell_some (i := 1) (v := .int .i64 0) rfl
    have r2 := hR4.cell_some (i := 2) (v := .int .i64 0) rfl
    have fr0 := hR4.frozen 0
    have fr1 := hR4.frozen 1
    have fr2 := hR4.frozen 2
    have c1 := hB4.cell_some (i := 1) (v := .slice Av l.length cv) rfl
    go_wp2_with fail
    have hne : b ≠ w.heap.size := by have := hB.lt; omega
    have hGR : w.heap.size ∉ G := fun hk => Nat.lt_irrefl _ (hM.lt _ hk)
    have hSw : Step w w4 (b :: G) (b :: G') := by
      refine (hS2.trans (Step.of_below hb _)).trans ((hS4.wider (T := b :: G) (fun k hk => by simp [hk])).foot' fun k hk => ?_)
      rcases List.mem_cons.1 hk with rfl | hk
      · exact .inl (by simp)
      · exact .inl (by simp [hk])
    have hGR' : w.heap.size ∉ G' := hS4.notin hR3.lt hGR
    have hS5 := (((Step.refl w4 [w.heap.size]).setCell (p := ⟨w.heap.size, 0, none⟩) (by simp) (.int .i64 l.length)).setCell (p := ⟨w.heap.size, 1, none⟩) (by simp) (.int .i64 bs.length)).setCell (p := ⟨w.heap.size, 2, none⟩) (by simp) (.int .i64 (endB l bs.length).length)
    have hR5 := ((hR4.set_ 0 (.int .i64 l.length)).set_ 1 (.int .i64 bs.length)).set_ 2 (.int .i64 (endB l bs.length).length)
    refine bodyPost_ret (results_row_tmp rfl _ _ w.heap.size 39 _ _ rfl hR5 Tryd.underlying39 rfl info_rcp) rfl ⟨rfl, ⟨hS5.blk hB4 (by simp [hne]), hS5.owns hO4 (fun k hk he => ?_)⟩, G', hM4.step hS5 (fun k hk he => hGR' (by simp at he; rwa [← he])), ?_⟩
    · have := (hO.lt k hk).2
      simp at he; omega
    · exact ⟨hS5.os.trans hSw.os, hS5.tape.trans hSw.tape, hS5.output.trans hSw.output, Nat.le_trans hSw.size hS5.size, fun k hk hn => (hS5.block k (Nat.lt_of_lt_of_le hk hSw.size) (by simp; omega)).trans (hSw.block k hk hn), fun k hk => hSw.foot k hk⟩
end Go.Proofs.YtjmnomohmijbpaaDoor

