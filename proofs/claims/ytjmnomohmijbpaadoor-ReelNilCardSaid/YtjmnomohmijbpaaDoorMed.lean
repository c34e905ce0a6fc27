/- The medium: how it lies in memory; its small methods. -/
import Derived.Test.YtjmnomohmijbpaaDoorProg
import Derived.Test.YtjmnomohmijbpaaDoorLocks
import Derived.Test.YtjmnomohmijbpaaDoorBase
import Derived.Test.YtjmnomohmijbpaaDoorSlices
import Derived.Conc.MuLone
namespace Go.Proofs.YtjmnomohmijbpaaDoor
open Go.RowKit Go.MuLone
/-- a cell that is written and written back -/
theorem setCell_back (w : World) (a : Addr) (u v : Value) (h : w.cell? a = some v) : (w.setCell a u).setCell a v = w := by
  obtain ⟨b, o, s⟩ := a
  have hs : s = none := by
    cases s with
    | none => rfl
    | some x => unfold World.cell? at h; split at h <;> simp at h
  subst hs
  have hh : ((w.setCell ⟨b, o, none⟩ u).setCell ⟨b, o, none⟩ v).heap = w.heap := by
    apply Array.ext_getElem?
    intro i
    simp only [World.setCell, Array.getElem?_modify]
    by_cases e : b = i
    · subst e
      cases hb : w.heap[b]? with
      | none => simp
      | some x =>
        have h' := h
        unfold World.cell? at h'
        rw [hb] at h'
        cases x with
        | cells c t fr =>
          have hc : c[o]? = some v := by simpa using h'
          have hl : o < c.size := (Array.getElem?_eq_some_iff.1 hc).1
          have hv : c[o] = v := (Array.getElem?_eq_some_iff.1 hc).2
          simp only [if_true, Option.map_some, Option.isSome_none, Bool.false_eq_true, if_false]
          congr 2
          apply Array.ext_getElem?
          intro j
          simp only [Array.getElem?_setIfInBounds, Array.size_setIfInBounds]
          by_cases e2 : o = j
          · subst e2
            simp [hl, hv]
          · simp [e2]
        | _ => simp at h'
    · simp [e]
  exact congrArg (fun h => ({ w with heap := h } : World)) hh
set_option maxHeartbeats 400000 in
theorem size_walk (m : Nat) (A : Option Addr) (n c : Nat) (w : World) (h0 : w.cell? ⟨m, 0, none⟩ = some (.int .i32 0)) (f0 : w.frozen? ⟨m, 0, none⟩ = false)
    (h2 : w.cell? ⟨m, 2, none⟩ = some (.slice A n c)) :
    Calls Tryd.prog 10 #[.pointer (some ⟨m, 0, none⟩)] w fun e w' => e = .returned (.int .i64 n) ∧ w' = w := by
  go_enter_defers Tryd.func10, Tryd.ntmps10
  go_wp2_with (go_at_call 24; refine (lock_free Tryd.muLib ⟨m, 0, none⟩ _ h0 f0).mono ?_; rintro e w' ⟨rfl, rfl⟩)
  refine leaves_cons (f := 25) (args := #[.pointer (some ⟨m, 0, none⟩)]) (by simp) (by simp [go_sem]) ?_
  refine (unlock_deferred Tryd.muLib ⟨m, 0, none⟩ .returning _ ?_ ?_).mono ?_
  · exact World.cell?_setCell_same w ⟨m, 0, none⟩ (.int .i32 1) h0
  · simp [f0]
  rintro e u' w'' ⟨rfl, rfl, rfl⟩
  exact ⟨_, results_tmp rfl _ _ _, rfl, setCell_back w _ _ _ h0⟩
theorem info_span : (Tryd.prog.info? 105).map (fun i => (i.zero, i.size, i.bytes)) = some (some (.agg #[.int .i64 0, .int .i64 0]), 2, 16) := by kernel_rfl
theorem info_u8' : (Tryd.prog.info? 5).map (fun i => (i.zero, i.size, i.bytes)) = some (some (.int .u8 0), 1, 1) := by kernel_rfl
/-- the cells of a medium that lives and is not armed -/
def medCells (s : Int) (vb vl : Value) : Array Value := #[.int .i32 s, .int .u32 0, vb, .bool false, .int .i64 0, .int .i64 0, vl]
def footOf (m : Nat) (vb vl : Value) : List Nat := m :: (vb.ownBlock.toList ++ vl.ownBlock.toList)
/-- A medium at block m whose bytes are bs; of its log no more is said than that it has no more than L entries. F: the blocks that it may write. -/
def MedS (w : World) (m : Nat) (F : List Nat) (bs : List (BitVec 8)) (L : Nat) (s : Int) : Prop :=
  ∃ (vb vl : Value) (nl : Nat) (ls : List Value), Blk w m 71 (medCells s vb vl) ∧ w.ownsRow 0 5 1 vb bs.length (bs.map u8v) ∧ w.ownsRow 0 105 2 vl nl ls ∧ nl ≤ L ∧ F = footOf m vb vl
abbrev Med (w : World) (m : Nat) (F : List Nat) (bs : List (BitVec 8)) (L : Nat) : Prop := MedS w m F bs L 0
theorem MedS.mem {w : World} {m : Nat} {F : List Nat} {bs : List (BitVec 8)} {L : Nat} {s : Int} (h : MedS w m F bs L s) : m ∈ F ∧ m < w.heap.size := by
  obtain ⟨vb, vl, nl, ls, hb, _, _, _, rfl⟩ := h
  exact ⟨by simp [footOf], hb.lt⟩
theorem foot_m (m : Nat) (vb vl : Value) : m ∈ footOf m vb vl := by simp [footOf]
theorem foot_b {m k : Nat} {vb vl : Value} (h : vb.ownBlock = some k) : k ∈ footOf m vb vl := by simp [footOf, h]
theorem foot_l {m k : Nat} {vb vl : Value} (h : vl.ownBlock = some k) : k ∈ footOf m vb vl := by simp [footOf, h]
theorem foot_new_l {m g : Nat} {vb vl vl' : Value} (h : vl'.ownBlock = vl.ownBlock ∨ vl'.ownBlock = some g) : ∀ k, k ∈ footOf m vb vl' → k ∈ footOf m vb vl ∨ k = g := by
  intro k hk
  simp only [footOf, List.mem_cons, List.mem_append, Option.mem_toList] at hk ⊢
  rcases hk with hk | hk | hk
  · exact .inl (.inl hk)
  · exact .inl (.inr (.inl hk))
  · rcases h with e | e
    · rw [e] at hk; exact .inl (.inr (.inr hk))
    · rw [e] at hk; injection hk with hk; exact .inr hk.symm
theorem foot_new_b {m g : Nat} {vb vb' vl : Value} (h : vb'.ownBlock = vb.ownBlock ∨ vb'.ownBlock = some g) : ∀ k, k ∈ footOf m vb' vl → k ∈ footOf m vb vl ∨ k = g := by
  intro k hk
  simp only [footOf, List.mem_cons, List.mem_append, Option.mem_toList] at hk ⊢
  rcases hk with hk | hk | hk
  · exact .inl (.inl hk)
  · rcases h with e | e
    · rw [e] at hk; exact .inl (.inr (.inl hk))
    · rw [e] at hk; injection hk with hk; exact .inr hk.symm
  · exact .inl (.inr (.inr hk))
theorem foot_lt {w : World} {m : Nat} {vb vl : Value} {e e' : TypeId} {z z' n n' b b' : Nat} {xs ys : List Value} (hm : m < w.heap.size) (h1 : w.ownsRow b e z vb n xs) (h2 : w.ownsRow b' e' z' vl n' ys) : ∀ k, k ∈ footOf m vb vl → k < w.heap.size := by
  intro k hk
  simp only [footOf, List.mem_cons, List.mem_append, Option.mem_toList] at hk
  rcases hk with rfl | hk | hk
  · exact hm
  · exact (h1.lt k hk).2
  · exact (h2.lt k hk).2
theorem MedS.lt {w : World} {m : Nat} {F : List Nat} {bs : List (BitVec 8)} {L : Nat} {s : Int} (h : MedS w m F bs L s) : ∀ k, k ∈ F → k < w.heap.size := by
  obtain ⟨vb, vl, nl, ls, hb, h1, h2, _, rfl⟩ := h
  exact foot_lt hb.lt h1 h2
/-- what does not write the medium's blocks leaves it as it is -/
theorem MedS.step {w w' : World} {m : Nat} {F : List Nat} {bs : List (BitVec 8)} {L : Nat} {s : Int} {S S' : List Nat} (h : MedS w m F bs L s) (hs : Step w w' S S') (hd : ∀ k, k ∈ F → k ∉ S) : MedS w' m F bs L s := by
  obtain ⟨vb, vl, nl, ls, hb, h1, h2, h3, rfl⟩ := h
  have hm : m ∉ S := hd m (by simp [footOf])
  exact ⟨vb, vl, nl, ls, hs.blk hb hm, hs.owns h1 (fun k hk => hd k (by simp [footOf, hk])), hs.owns h2 (fun k hk => hd k (by simp [footOf, hk])), h3, rfl⟩
theorem MedS.below {w w' : World} {m : Nat} {F : List Nat} {bs : List (BitVec 8)} {L : Nat} {s : Int} (h : MedS w m F bs L s) (hb : Below w.heap.size w w') : MedS w' m F bs L s :=
  h.step (Step.of_below hb []) (fun _ _ => by simp)
theorem size_any (m : Nat) (F : List Nat) (bs : List (BitVec 8)) (L : Nat) (w : World) (h : Med w m F bs L) :
    Calls Tryd.prog 10 #[.pointer (some ⟨m, 0, none⟩)] w fun e w' => e = .returned (.int .i64 bs.length) ∧ w' = w := by
  obtain ⟨vb, vl, nl, ls, hb, h1, h2, h3, rfl⟩ := h
  obtain ⟨A, c, rfl⟩ : ∃ A c, vb = .slice A bs.length c := by
    rcases h1.2 with ⟨rfl, h0⟩ | ⟨g, cap, cur, rfl, _⟩
    · exact ⟨none, 0, by rw [h0]⟩
    · exact ⟨_, cap, rfl⟩
  exact size_walk m A bs.length c w (hb.cell_some rfl) (hb.frozen 0) (hb.cell_some rfl)
set_option maxRecDepth 100000 in
set_option maxHeartbeats 1000000 in
theorem append_med (m : Nat) (F : List Nat) (bs xs : List (BitVec 8)) (L : Nat) (A : Option Addr) (n c : Nat) (w : World) (h : Med w m F bs L) (hr : RApart w 1 A n (xs.map u8v) F) (hn : bs.length + n ≤ 268435456) :
    Calls Tryd.prog 15 #[.pointer (some ⟨m, 0, none⟩), .slice A n c] w fun e w' => e = .returned (.tuple #[.int .i64 bs.length, .int .i64 0]) ∧
      ∃ F', Med w' m F' (bs ++ xs) L ∧ Step w w' F F' := by
  obtain ⟨vb, vl, nl, ls, hb, h1, h2, h3, hF⟩ := h
  obtain ⟨i0, hi0, hz0, hz1, hz2⟩ := info_parts info_u8'
  obtain ⟨Ab, cb, rfl⟩ := slice_form h1
  have hw1 : Step w (w.setCell ⟨m, 0, none⟩ (.int .i32 1)) F F := (Step.refl w F).setCell (by rw [hF]; simp [footOf]) _
  have hb1 : Blk (w.setCell ⟨m, 0, none⟩ (.int .i32 1)) m 71 (medCells 1 (.slice Ab bs.length cb) vl) := hb.set_ 0 _
  have hr1 := hr.step hw1
  have k0 : w.cell? ⟨m, 0, none⟩ = some (.int .i32 0) := hb.cell_some rfl
  have f0 := hb.frozen 0
  have k2 : (w.setCell ⟨m, 0, none⟩ (.int .i32 1)).cell? ⟨m, 2, none⟩ = some (.slice Ab bs.length cb) := hb1.cell_some rfl
  have k3 : (w.setCell ⟨m, 0, none⟩ (.int .i32 1)).cell? ⟨m, 3, none⟩ = some (.bool false) := hb1.cell_some rfl
  have k4 : (w.setCell ⟨m, 0, none⟩ (.int .i32 1)).cell? ⟨m, 4, none⟩ = some (.int .i64 0) := hb1.cell_some rfl
  have hle : decide (268435456 - (bs.length : Int) < (n : Int)) = false := by simp; omega
  have hown1 : (w.setCell ⟨m, 0, none⟩ (.int .i32 1)).ownsRow 0 5 1 (.slice Ab bs.length cb) bs.length (bs.map u8v) :=
    ownsRow_setCell_other h1 (own_blk_ne h1 hb (by decide)) _
  have hlog1 : (w.setCell ⟨m, 0, none⟩ (.int .i32 1)).ownsRow 0 105 2 vl nl ls := ownsRow_setCell_other h2 (own_blk_ne h2 hb (by decide)) _
  generalize hW : w.setCell ⟨m, 0, none⟩ (.int .i32 1) = W at *
  have HW := Lib.hid hW; clear hW
  go_enter_defers Tryd.func15, Tryd.ntmps15
  go_wp2_with (first
    | (go_at_call 24; refine (lock_free Tryd.muLib ⟨m, 0, none⟩ _ k0 f0).mono ?_; rw [HW.out]; rintro e w' ⟨rfl, rfl⟩)
    | (at_builtin; refine wpList_append_any _ rfl (.tmp 80) (.tmp 81) _ rfl 0 5 i0 _ 1 1 Tryd.underlying44 hi0 hz0 hz1 hz2 rfl (by omega) (.slice Ab bs.length cb) bs.length (bs.map u8v) rfl hown1 _ A n c (xs.map u8v) rfl hr1.1 (bytesV_one xs) (by simp only [maxLen]; omega) (by omega) (Nat.zero_le _) ?_
       intro v1 w2 hown2 hg2 hat2
       have hmb : some m ≠ (Value.slice Ab bs.length cb).ownBlock := fun e => own_blk_ne hown1 hb1 (by decide) e.symm
       have hb2 := hb1.grown hg2 hmb
       have hlog2 : w2.ownsRow 0 105 2 vl nl ls := hlog1.kept hg2 (by
         cases hv : vl.ownBlock with
         | none => exact .inl rfl
         | some k => exact .inr (fun e => own_own_ne hlog1 hown1 (by decide) k hv e.symm))
       have e2 : w2.cell? ⟨m, 2, none⟩ = some (.slice Ab bs.length cb) := hb2.cell_some rfl
       have e2f := hb2.frozen 2
       obtain ⟨A1, c1, rfl⟩ := slice_form hown2))
  refine leaves_cons (f := 25) (args := #[.pointer (some ⟨m, 0, none⟩)]) (by simp) (by simp [go_sem]) ?_
  refine (unlock_deferred Tryd.muLib ⟨m, 0, none⟩ .returning _ ?_ ?_).mono ?_
  · exact (World.cell?_setCell_other _ ⟨m, 2, none⟩ ⟨m, 0, none⟩ _ (by simp)).trans (hb2.cell_some rfl)
  · simp [hb2.frozen 0]
  rintro e u' w'' ⟨rfl, rfl, rfl⟩
  refine ⟨_, results_tmp2 rfl _ _ _, rfl, footOf m (.slice A1 (bs.length + n) c1) vl, ?_, ?_⟩
  · have hxl : (bs ++ xs).length = bs.length + n := by rw [List.length_append]; have := hr.1.1; simp at this; omega
    refine ⟨_, vl, nl, ls, (hb2.set_ 2 _).set_ 0 _, ?_, ?_, h3, rfl⟩
    · rw [hxl, List.map_append]
      exact ownsRow_setCell_other (ownsRow_setCell_other hown2 (own_blk_ne hown2 hb2 (by decide)) _) (own_blk_ne hown2 hb2 (by decide)) _
    · exact ownsRow_setCell_other (ownsRow_setCell_other hlog2 (own_blk_ne hlog2 hb2 (by decide)) _) (own_blk_ne hlog2 hb2 (by decide)) _
  · have hs2 : Step w' w2 F F := Step.of_grown hg2 (fun k hk => by rw [hF]; simp only [footOf, List.mem_cons, List.mem_append, Option.mem_toList]; exact .inr (.inl hk))
    refine (((hw1.trans hs2).setCell (p := ⟨m, 2, none⟩) (by rw [hF]; simp [footOf]) _).setCell (p := ⟨m, 0, none⟩) (by rw [hF]; simp [footOf]) _).foot' (fun k hk => ?_)
    simp only [footOf, List.mem_cons, List.mem_append, Option.mem_toList] at hk
    rcases hk with rfl | hk | hk
    · exact .inl (by rw [hF]; simp [footOf])
    · rcases hat2 with e | e
      · rw [e] at hk
        exact .inl (by rw [hF]; simp only [footOf, List.mem_cons, List.mem_append, Option.mem_toList]; exact .inr (.inl hk))
      · rw [e] at hk
        injection hk with hk
        exact .inr (by have := hw1.size; omega)
    · exact .inl (by rw [hF]; simp only [footOf, List.mem_cons, List.mem_append, Option.mem_toList]; exact .inr (.inr hk))
theorem new_med (w : World) :
    Calls Tryd.prog 9 #[] w fun e w' => e = .returned (.pointer (some ⟨w.heap.size, 0, none⟩)) ∧ Med w' w.heap.size [w.heap.size] [] 0 ∧ Below w.heap.size w w' := by
  go_enter Tryd.func9, Tryd.ntmps9
  go_wp2
  go_ret
  refine ⟨rfl, ⟨.slice none 0 0, .slice none 0 0, 0, [], Blk.new _ _ _, World.ownsRow_nil _ _ _ _, World.ownsRow_nil _ _ _ _, Nat.le_refl _, by simp [footOf, Value.ownBlock]⟩, (Below.refl _ _).alloc (Nat.le_refl _) _⟩
theorem lies_yes (a n s : Int) (h0 : 0 ≤ a) (h1 : 0 ≤ n) (h2 : a + n ≤ s) (hs : s ≤ 4611686018427387904) (w : World) :
    Calls Tryd.prog 53 #[.int .i64 a, .int .i64 n, .int .i64 s] w fun e w' => e = .returned (.bool true) ∧ w = w' := by
  have h3 : a ≤ s := by omega
  have h4 : n ≤ s - a := by omega
  go_enter Tryd.func53, Tryd.ntmps53
  go_wp2
  all_goals (go_ret; exact ⟨ret_eq (by simp [*]), rfl⟩)
theorem lies_no (a n s : Int) (h1 : 0 ≤ n) (h0 : 0 ≤ a) (h2 : s < a + n) (hn : n ≤ 4611686018427387904) (w : World) :
    Calls Tryd.prog 53 #[.int .i64 a, .int .i64 n, .int .i64 s] w fun e w' => e = .returned (.bool false) ∧ w = w' := by
  go_enter Tryd.func53, Tryd.ntmps53
  by_cases h3 : a ≤ s
  · have h4 : decide (n ≤ s - a) = false := by simp; omega
    go_wp2
    all_goals (go_ret; exact ⟨ret_eq (by simp [*]), rfl⟩)
  · go_wp2
    all_goals (go_ret; exact ⟨ret_eq (by simp [*]), rfl⟩)
theorem dead_med (m : Nat) (F : List Nat) (bs : List (BitVec 8)) (L : Nat) (w : World) (h : Med w m F bs L) :
    Calls Tryd.prog 18 #[.pointer (some ⟨m, 0, none⟩)] w fun e w' => e = .returned (.bool false) ∧ w' = w := by
  obtain ⟨vb, vl, nl, ls, hb, h1, h2, h3, rfl⟩ := h
  have k0 : w.cell? ⟨m, 0, none⟩ = some (.int .i32 0) := hb.cell_some rfl
  have f0 := hb.frozen 0
  have k3 : w.cell? ⟨m, 3, none⟩ = some (.bool false) := hb.cell_some rfl
  go_enter_defers Tryd.func18, Tryd.ntmps18
  go_wp2_with (go_at_call 24; refine (lock_free Tryd.muLib ⟨m, 0, none⟩ _ k0 f0).mono ?_; rintro e w' ⟨rfl, rfl⟩)
  refine leaves_cons (f := 25) (args := #[.pointer (some ⟨m, 0, none⟩)]) (by simp) (by simp [go_sem]) ?_
  refine (unlock_deferred Tryd.muLib ⟨m, 0, none⟩ .returning _ ?_ ?_).mono ?_
  · exact World.cell?_setCell_same w ⟨m, 0, none⟩ (.int .i32 1) k0
  · simp [f0]
  rintro e u' w'' ⟨rfl, rfl, rfl⟩
  exact ⟨_, results_tmp rfl _ _ _, rfl, setCell_back w _ _ _ k0⟩
theorem MedS.lock {w : World} {m : Nat} {F : List Nat} {bs : List (BitVec 8)} {L : Nat} {s : Int} (h : MedS w m F bs L s) (t : Int) :
    MedS (w.setCell ⟨m, 0, none⟩ (.int .i32 t)) m F bs L t ∧ Step w (w.setCell ⟨m, 0, none⟩ (.int .i32 t)) F F := by
  obtain ⟨vb, vl, nl, ls, hb, h1, h2, h3, rfl⟩ := h
  exact ⟨⟨vb, vl, nl, ls, hb.set_ 0 _, ownsRow_setCell_other h1 (own_blk_ne h1 hb (by decide)) _, ownsRow_setCell_other h2 (own_blk_ne h2 hb (by decide)) _, h3, rfl⟩,
    (Step.refl w _).setCell (by simp [footOf]) _⟩
theorem MedS.state {w : World} {m : Nat} {F : List Nat} {bs : List (BitVec 8)} {L : Nat} {s : Int} (h : MedS w m F bs L s) : w.cell? ⟨m, 0, none⟩ = some (.int .i32 s) ∧ w.frozen? ⟨m, 0, none⟩ = false := by
  obtain ⟨vb, vl, nl, ls, hb, _⟩ := h
  exact ⟨hb.cell_some rfl, hb.frozen 0⟩
theorem reads_sub {w : World} {B : Nat} {A : Option Addr} {n c : Nat} {bs : List (BitVec 8)} (h : RBytes w B A n bs) {i k : Nat} (hk : i + k ≤ n) (hc : n ≤ c) : RBytes w B (if c = i then A else A.map (·.add i)) k ((bs.drop i).take k) := by
  have h1 := (Reads.cut h (k := i) (cap := c) (by omega) hc).take (k := k) (by omega)
  simp only [Nat.mul_one] at h1
  show Reads w B 1 _ k (((bs.drop i).take k).map u8v)
  rw [List.map_take, List.map_drop]
  exact h1
set_option maxRecDepth 100000 in
set_option maxHeartbeats 1000000 in
theorem read_med (m : Nat) (F : List Nat) (bs : List (BitVec 8)) (L : Nat) (at_ n : Nat) (w : World) (h : MedS w m F bs L 1) (hn : at_ + n ≤ bs.length) (hb28 : bs.length ≤ 268435456) (hL : L ≤ 1000000000) :
    Calls Tryd.prog 40 #[.pointer (some ⟨m, 0, none⟩), .int .i64 at_, .int .i64 n] w fun e w' => ∃ A', e = .returned (.tuple #[.slice A' n n, .int .i64 0]) ∧
      RFrom w' w.heap.size 1 A' n (((bs.drop at_).take n).map u8v) ∧ ∃ F', MedS w' m F' bs (L + 1) 1 ∧ Step w w' F F' := by
  obtain ⟨vb, vl, nl, ls, hb, h1, h2, h3, hF⟩ := h
  obtain ⟨i0, hi0, hz0, hz1, hz2⟩ := info_parts info_span
  obtain ⟨Ab, cb, rfl⟩ := slice_form h1
  obtain ⟨Al, cl, rfl⟩ := slice_form h2
  have k2 : w.cell? ⟨m, 2, none⟩ = some (.slice Ab bs.length cb) := hb.cell_some rfl
  have k3 : w.cell? ⟨m, 3, none⟩ = some (.bool false) := hb.cell_some rfl
  have k6 : w.cell? ⟨m, 6, none⟩ = some (.slice Al nl cl) := hb.cell_some rfl
  have hcap : (at_ : Int) + (n : Int) ≤ (cb : Int) := by have := own_cap h1; omega
  by_cases hca : cb = at_
  all_goals
    have Hca := Lib.hid hca
    go_enter Tryd.func40, Tryd.ntmps40
    go_wp2_with (first
      | (go_at_call 53; ((with_reducible refine (lies_yes _ _ _ (by omega) (by omega) (by omega) (by omega) _).mono ?_); rintro e w1 ⟨rfl, rfl⟩))
      | (at_builtin; go_must (refine wpList_append_any _ rfl (.tmp 27) (.tmp 31) _ rfl 0 105 i0 _ 2 16 Tryd.underlying69 hi0 hz0 hz1 hz2 rfl (by omega) (.slice Al nl cl) nl ls rfl (by exact h2.alloc _) (w.heap.size + 1) (some ⟨w.heap.size, 0, none⟩) 1 1 [.int .i64 at_, .int .i64 n] rfl (by exact ⟨rfl, fun _ => ⟨_, rfl, by simp, cell_two_new w _ _ _⟩⟩) (by simp [Value.oneCell']) (by simp only [maxLen]; omega) (by omega) (Nat.zero_le _) ?_)
         intro v1 w2 hown2 hg2 hat2
         have hmb : some m ≠ (Value.slice Al nl cl).ownBlock := fun e => own_blk_ne h2 hb (by decide) e.symm
         have hb2 := (hb.alloc (.cells #[.int .i64 at_, .int .i64 n] 105)).grown hg2 hmb
         have e6 : w2.cell? ⟨m, 6, none⟩ = some (.slice Al nl cl) := hb2.cell_some rfl
         have e6f := hb2.frozen 6
         have e2 : w2.cell? ⟨m, 2, none⟩ = some (.slice Ab bs.length cb) := hb2.cell_some rfl
         have hob2 : w2.ownsRow 0 5 1 (.slice Ab bs.length cb) bs.length (bs.map u8v) := (h1.alloc _).kept hg2 (by
           cases hv : (Value.slice Ab bs.length cb).ownBlock with
           | none => exact .inl rfl
           | some k => exact .inr (fun e => own_own_ne h1 h2 (by decide) k hv e.symm))
         obtain ⟨A1, c1, rfl⟩ := slice_form hown2
         have hob3 := ownsRow_setCell_other (a := ⟨m, 6, none⟩) hob2 (own_blk_ne hob2 hb2 (by decide)) (.slice A1 (nl + 1) c1)
         have hol3 := ownsRow_setCell_other (a := ⟨m, 6, none⟩) hown2 (own_blk_ne hown2 hb2 (by decide)) (.slice A1 (nl + 1) c1)
         have hb3 := hb2.set_ 6 (.slice A1 (nl + 1) c1)
         have hsub3 := reads_sub (i := at_) (k := n) (Reads.of_own hob3) hn (own_cap h1)
         simp only [hca, if_true, if_false] at hsub3
         have Hsub3 := Lib.hid hsub3; clear hsub3)
      | (go_at_call 55; go_must (refine (clone_any ((bs.drop at_).take n) _ n _ _ Hsub3.out (by omega)).mono ?_); rintro e w4 ⟨A4, c4, rfl, ho4, hb4⟩
         have hc4 : n ≤ c4 := own_cap ho4)
      | (go_at_call 54; refine (clip_any A4 n c4 _ hc4).mono ?_; rintro e w5 ⟨rfl, rfl⟩))
    go_ret2
    have hst : Step w (w2.setCell ⟨m, 6, none⟩ (.slice A1 (nl + 1) c1)) F F := by
      have hg : Step (w.alloc (.cells #[.int .i64 at_, .int .i64 n] 105)) w2 F F := Step.of_grown hg2 (fun k hk => by rw [hF]; exact foot_l hk)
      exact (((Step.refl w F).alloc _).trans hg).setCell (by rw [hF]; exact foot_m _ _ _) _
    refine ⟨A4, rfl, (RFrom.of_own ho4).mono hst.size, footOf m (.slice Ab bs.length cb) (.slice A1 (nl + 1) c1), ?_, ?_⟩
    · exact MedS.below ⟨_, _, nl + 1, _, hb3, hob3, hol3, by omega, rfl⟩ hb4
    · refine (hst.trans (Step.of_below hb4 F)).foot' (fun k hk => ?_)
      rcases foot_new_l hat2 k hk with e | e
      · exact .inl (by rw [hF]; exact e)
      · exact .inr (by rw [e]; simp)
end Go.Proofs.YtjmnomohmijbpaaDoor
