/- Words for memory used by all walks of this seat: blocks known whole, slices that read as lists, whole rows loaded and stored. -/
import Derived.WalkKit
import Derived.WalkSpells
import Derived.WalkLawsBesides
import Derived.Deep.QuietTactic
import Derived.BigQuiet
import Derived.Deep.LoopGhost
import Derived.Deep.Draws
import Derived.Deep.AppendLies
import Derived.Maps.AppendAt
import Derived.Laws.CopyRow
import Derived.Laws.Rows
import Derived.Lib.Hide
import Derived.Deep.OwnRows
import Derived.KernelRfl
namespace Go.Proofs.YtjmnomohmijbpaaDoor
open Go.RowKit

theorem block_of_add (a : Addr) (n : Nat) : (a.add n).block = a.block := by unfold Addr.add; split <;> rfl
theorem add_of_add (a : Addr) (i j : Nat) : (a.add i).add j = a.add (i + j) := by
  unfold Addr.add
  by_cases hi : i = 0 <;> by_cases hj : j = 0 <;> simp [hi, hj, Nat.add_assoc]
theorem add_plain (g o j : Nat) : (⟨g, o, none⟩ : Addr).add j = ⟨g, o + j, none⟩ := by unfold Addr.add; split <;> simp_all

theorem ret_eq {v v' : Value} (h : v = v') : Ending.returned v = Ending.returned v' := by rw [h]
theorem int_eq {k : IntKind} {a b : Int} (h : a = b) : (Value.int k a) = .int k b := by rw [h]
theorem bool_eq {a b : Bool} (h : a = b) : (Value.bool a) = .bool b := by rw [h]
/-- Block g is just these cells, none frozen. -/
def Blk (w : World) (g : Nat) (t : TypeId) (cs : Array Value) : Prop := w.heap[g]? = some (.cells cs t (0, 0))
section
variable {w w' : World} {g : Nat} {t : TypeId} {cs : Array Value}
theorem Blk.lt (h : Blk w g t cs) : g < w.heap.size := by
  rcases Nat.lt_or_ge g w.heap.size with hlt | hge
  · exact hlt
  · unfold Blk at h; rw [Array.getElem?_eq_none hge] at h; cases h
theorem Blk.cell (h : Blk w g t cs) (i : Nat) : w.cell? ⟨g, i, none⟩ = cs[i]? := cell_of_row w g i cs t (0, 0) h
theorem Blk.cell_some (h : Blk w g t cs) {i : Nat} {v : Value} (hi : cs[i]? = some v) : w.cell? ⟨g, i, none⟩ = some v := (h.cell i).trans hi
theorem Blk.frozen (h : Blk w g t cs) (i : Nat) : w.frozen? ⟨g, i, none⟩ = false := by
  unfold Blk at h
  simp [World.frozen?, h]
theorem Blk.new (w : World) (t : TypeId) (cs : Array Value) : Blk (w.alloc (.cells cs t)) w.heap.size t cs := heap_alloc_new w _
theorem Blk.drew (h : Blk w g t cs) : Blk w.drew g t cs := h
theorem Blk.drewN (h : Blk w g t cs) (n : Nat) : Blk (w.drewN n) g t cs := h
theorem Blk.alloc (h : Blk w g t cs) (o : Obj) : Blk (w.alloc o) g t cs := (Below.heap_alloc w o g h.lt).trans h
theorem Blk.set_ (h : Blk w g t cs) (i : Nat) (u : Value) : Blk (w.setCell ⟨g, i, none⟩ u) g t (cs.setIfInBounds i u) := by
  unfold Blk at h ⊢
  simp [World.setCell, Array.getElem?_modify, h]
theorem Blk.far (h : Blk w g t cs) {p : Addr} (hp : g ≠ p.block) (u : Value) : Blk (w.setCell p u) g t cs := (Below.heap_setCell w p u g hp).trans h
theorem Blk.below {B : Nat} (h : Blk w g t cs) (hb : Below B w w') (hg : g < B) : Blk w' g t cs := (hb.block g hg).trans h
theorem Blk.grown {row : Option Nat} (h : Blk w g t cs) (hb : w.grownBy w' row) (hg : some g ≠ row) : Blk w' g t cs := (hb.block g h.lt hg).trans h
theorem Blk.ne_ {g' : Nat} {t' : TypeId} {cs' : Array Value} (h : Blk w g t cs) (h' : Blk w g' t' cs') (hne : t ≠ t') : g ≠ g' := by
  rintro rfl
  unfold Blk at h h'
  rw [h] at h'
  injection h' with h'
  injection h' with _ ht
  exact hne ht
theorem Blk.row (h : Blk w g t cs) (ds : Array Value) : Blk (w.setRow g ds) g t ds := setRow_heap w g cs ds t (0, 0) h
end

theorem own_blk_ne {w : World} {g : Nat} {t : TypeId} {cs : Array Value} {base : Nat} {e : TypeId} {size n : Nat} {v : Value} {xs : List Value} (h : w.ownsRow base e size v n xs) (hg : Blk w g t cs) (hne : e ≠ t) : v.ownBlock ≠ some g := by
  rcases h.2 with ⟨rfl, _⟩ | ⟨g', cap, cur, rfl, _, hh, _⟩
  · simp [Value.ownBlock]
  · intro he
    have : g' = g := by simpa [Value.ownBlock] using he
    subst this
    exact Blk.ne_ (t := e) hh hg hne rfl
theorem own_own_ne {w : World} {b b' : Nat} {e e' : TypeId} {s s' n n' : Nat} {v v' : Value} {xs xs' : List Value} (h : w.ownsRow b e s v n xs) (h' : w.ownsRow b' e' s' v' n' xs') (hne : e ≠ e') : ∀ k, v.ownBlock = some k → v'.ownBlock ≠ some k := by
  intro k hk
  rcases h.2 with ⟨rfl, _⟩ | ⟨g, cap, cur, rfl, _, hh, _⟩
  · simp [Value.ownBlock] at hk
  · obtain rfl : g = k := by simpa [Value.ownBlock] using hk
    exact own_blk_ne h' (t := e) (cs := cur) hh (Ne.symm hne)
theorem slice_form {w : World} {base : Nat} {e : TypeId} {size n : Nat} {v : Value} {xs : List Value} (h : w.ownsRow base e size v n xs) : ∃ A c, v = .slice A n c := by
  rcases h.2 with ⟨rfl, rfl⟩ | ⟨g, cap, cur, rfl, _⟩
  · exact ⟨none, 0, rfl⟩
  · exact ⟨_, cap, rfl⟩
theorem own_cap {w : World} {base : Nat} {e : TypeId} {size n c : Nat} {A : Option Addr} {xs : List Value} (h : w.ownsRow base e size (.slice A n c) n xs) : n ≤ c := by
  rcases h.2 with ⟨e, e2⟩ | ⟨g, cap, cur, e, _, _, hc, _⟩
  · omega
  · simp only [Value.slice.injEq] at e
    omega
/-- A slice value '.slice A n c' whose elements are the cells xs (size cells each), below block B. -/
def Reads (w : World) (B size : Nat) (A : Option Addr) (n : Nat) (xs : List Value) : Prop :=
  xs.length = n * size ∧ (0 < n → ∃ ad, A = some ad ∧ ad.block < B ∧ ∀ j u, xs[j]? = some u → w.cell? (ad.add j) = some u)
section
variable {w w' : World} {B B' size n : Nat} {A : Option Addr} {xs : List Value}
theorem Reads.none_ : Reads w B size A 0 [] := ⟨by simp, fun h => absurd h (by omega)⟩
theorem Reads.at_ {k : Nat} (h : Reads w B 1 A n xs) (hk : k < n) : ∃ ad u, A = some ad ∧ ad.block < B ∧ xs[k]? = some u ∧ w.cell? (ad.add k) = some u := by
  obtain ⟨ad, e, hb, hc⟩ := h.2 (by omega)
  have hl : k < xs.length := by have := h.1; omega
  exact ⟨ad, xs[k], e, hb, List.getElem?_eq_getElem hl, hc k _ (List.getElem?_eq_getElem hl)⟩
theorem Reads.plain (h : Reads w B size A n xs) (hn : 0 < n) (hs : 0 < size) : ∃ b o, A = some ⟨b, o, none⟩ ∧ b < B ∧ ∀ j u, xs[j]? = some u → w.cell? ⟨b, o + j, none⟩ = some u := by
  obtain ⟨⟨b, o, s⟩, e, hb, hc⟩ := h.2 hn
  have hl : 0 < xs.length := by rw [h.1]; exact Nat.mul_pos hn hs
  have hs0 : s = none := by
    have := hc 0 _ (List.getElem?_eq_getElem hl)
    cases s with
    | none => rfl
    | some x => unfold Addr.add World.cell? at this; simp at this; split at this <;> simp at this
  subst hs0
  refine ⟨b, o, e, hb, fun j u hu => ?_⟩
  rw [← hc j u hu, add_plain]
theorem Reads.keep (h : Reads w B size A n xs) (hk : ∀ p : Addr, p.block < B → w'.cell? p = w.cell? p) : Reads w' B size A n xs :=
  ⟨h.1, fun hn => by
    obtain ⟨ad, e, hb, hc⟩ := h.2 hn
    exact ⟨ad, e, hb, fun j u hu => (hk _ (by rw [block_of_add]; exact hb)).trans (hc j u hu)⟩⟩
theorem Reads.more (h : Reads w B size A n xs) (hB : B ≤ B') : Reads w B' size A n xs :=
  ⟨h.1, fun hn => by
    obtain ⟨ad, e, hb, hc⟩ := h.2 hn
    exact ⟨ad, e, by omega, hc⟩⟩
theorem Reads.below (h : Reads w B size A n xs) (hb : Below B w w') : Reads w' B size A n xs := h.keep fun _ hp => hb.cell hp
theorem Reads.drew (h : Reads w B size A n xs) : Reads w.drew B size A n xs := h
theorem Reads.drewN (h : Reads w B size A n xs) (k : Nat) : Reads (w.drewN k) B size A n xs := h
theorem Reads.alloc (h : Reads w B size A n xs) (hB : B ≤ w.heap.size) (o : Obj) : Reads (w.alloc o) B size A n xs := h.keep fun p hp => World.cell?_alloc_lt w o p (by omega)
theorem Reads.setCell (h : Reads w B size A n xs) {p : Addr} (hB : B ≤ p.block) (u : Value) : Reads (w.setCell p u) B size A n xs :=
  h.keep fun q hq => World.cell?_setCell_other w p q u (fun e => by subst e; omega)
theorem Reads.grown (h : Reads w B size A n xs) {row : Option Nat} (hg : w.grownBy w' row) (hB : B ≤ w.heap.size) (hr : ∀ g, row = some g → B ≤ g) : Reads w' B size A n xs :=
  h.keep fun p hp => World.cell?_of_block (hg.block p.block (by omega) (fun e => by have := hr _ e.symm; omega))
theorem Reads.cut (h : Reads w B size A n xs) {k cap : Nat} (hk : k ≤ n) (hc : n ≤ cap) :
    Reads w B size (if cap = k then A else A.map (·.add (k * size))) (n - k) (xs.drop (k * size)) := by
  refine ⟨by rw [List.length_drop, h.1, Nat.sub_mul], fun hn => ?_⟩
  obtain ⟨ad, rfl, hb, hcell⟩ := h.2 (by omega)
  rw [if_neg (by omega)]
  refine ⟨ad.add (k * size), rfl, by rw [block_of_add]; exact hb, fun j u hu => ?_⟩
  rw [add_of_add]
  exact hcell _ u (by rw [← hu, List.getElem?_drop])
theorem Reads.take (h : Reads w B size A n xs) {k : Nat} (hk : k ≤ n) : Reads w B size A k (xs.take (k * size)) := by
  refine ⟨by rw [List.length_take, h.1, Nat.min_eq_left (Nat.mul_le_mul_right _ hk)], fun hn => ?_⟩
  obtain ⟨ad, e, hb, hcell⟩ := h.2 (by omega)
  refine ⟨ad, e, hb, fun j u hu => hcell j u ?_⟩
  rw [List.getElem?_take] at hu
  split at hu
  · exact hu
  · cases hu
theorem Reads.of_own {base : Nat} {e : TypeId} {c : Nat} (h : w.ownsRow base e size (.slice A n c) n xs) : Reads w w.heap.size size A n xs := by
  refine ⟨h.1, fun hn => ?_⟩
  obtain ⟨g, cap, hv, _, hlt⟩ := h.form hn
  have hA : A = some ⟨g, 0, none⟩ := by injection hv
  subst hA
  exact ⟨_, rfl, hlt, h.cells (g := g) rfl⟩
end

/-- a 32-bit number, a byte, as Go values -/
abbrev u32v (v : BitVec 32) : Value := .int .u32 (v.toNat : Int)
abbrev u8v (v : BitVec 8) : Value := .int .u8 (v.toNat : Int)
/-- a slice of bytes that reads as these -/
abbrev RBytes (w : World) (B : Nat) (A : Option Addr) (n : Nat) (bs : List (BitVec 8)) : Prop := Reads w B 1 A n (bs.map u8v)
theorem RBytes.len {w : World} {B n : Nat} {A : Option Addr} {bs : List (BitVec 8)} (h : RBytes w B A n bs) : bs.length = n := by
  have := h.1; simpa using this
theorem RBytes.at_ {w : World} {B n k : Nat} {A : Option Addr} {bs : List (BitVec 8)} (h : RBytes w B A n bs) (hk : k < n) :
    ∃ ad, A = some ad ∧ ad.block < B ∧ w.cell? (ad.add k) = some (u8v (bs.getD k 0)) := by
  obtain ⟨ad, u, e, hb, hx, hc⟩ := Reads.at_ h hk
  refine ⟨ad, e, hb, ?_⟩
  rw [hc, ← hx, List.getElem?_map, List.getD_eq_getElem?_getD, List.getElem?_eq_getElem (by rw [h.len]; exact hk)]
  rfl
/-- a block of bytes, read as a slice from its head; owned -/
def bytesV (bs : List (BitVec 8)) : Array Value := (bs.map u8v).toArray
theorem bytesV_size (bs : List (BitVec 8)) : (bytesV bs).size = bs.length := by simp [bytesV]
theorem bytesV_get (bs : List (BitVec 8)) (i : Nat) (h : i < bs.length) : (bytesV bs)[i]? = some (u8v (bs.getD i 0)) := by
  simp [bytesV, List.getD_eq_getElem?_getD, h]
theorem bytesV_one (bs : List (BitVec 8)) : ∀ u ∈ bs.map u8v, u.oneCell' = true := by
  intro u hu; obtain ⟨b, _, rfl⟩ := List.mem_map.1 hu; rfl
theorem Blk.rbytes {w : World} {g : Nat} {e : TypeId} {bs : List (BitVec 8)} (h : Blk w g e (bytesV bs)) {n : Nat} (hn : bs.length = n) : RBytes w w.heap.size (some ⟨g, 0, none⟩) n bs := by
  refine ⟨by simp [hn], fun _ => ⟨_, rfl, h.lt, fun j u hu => ?_⟩⟩
  rw [add_plain, Nat.zero_add, h.cell]
  simpa [bytesV] using hu
theorem Blk.owns {w : World} {g : Nat} {e : TypeId} {bs : List (BitVec 8)} (h : Blk w g e (bytesV bs)) {n : Nat} (hn : bs.length = n) {base : Nat} (hb : base ≤ g) (hm : n ≤ maxLen) :
    w.ownsRow base e 1 (.slice (some ⟨g, 0, none⟩) n n) n (bs.map u8v) :=
  ⟨by simp [hn], .inr ⟨g, n, _, rfl, hb, h, Nat.le_refl _, hm, by simp [bytesV, hn], by rw [List.take_of_length_le (by simp [bytesV, hn])]; simp [bytesV]⟩⟩
theorem RBytes.of_own {w : World} {base n c : Nat} {e : TypeId} {A : Option Addr} {bs : List (BitVec 8)} (h : w.ownsRow base e 1 (.slice A n c) n (bs.map u8v)) : RBytes w w.heap.size A n bs := Reads.of_own h
theorem take_succ_getD {α : Type} (l : List α) (k : Nat) (d : α) (h : k < l.length) : l.take (k + 1) = l.take k ++ [l.getD k d] := by
  rw [List.take_succ_eq_append_getElem h, List.getD_eq_getElem?_getD, List.getElem?_eq_getElem h]; rfl
section
variable {P : Program}
/-- A whole struct or array stored over a block: the block's cells are its parts. -/
theorem run_storeVar_row (w : World) (g : Nat) (t ty : TypeId) (cur cs : Array Value) (hg : w.heap[g]? = some (.cells cur t (0, 0)))
    (hi : (P.info? ty).map (·.size) = some cs.size) (hs : cs.size = cur.size) (h1 : ∀ v ∈ cs, v.oneCell' = true) :
    (storeVar ty ⟨g, 0, none⟩ (.agg cs)).run P w = .ok () (w.setRow g cs) := by
  cases hq : P.info? ty with
  | none => simp [hq] at hi
  | some i =>
    have hsz : i.size = cs.size := by simpa [hq] using hi
    have hst := run_storeCells_at (P := P) g 0 t cs.toList 0 cur w hg (by simp [hs]) (fun v hv => h1 v (by simpa using hv))
    have hc : (Value.agg cs).cells = cs := rfl
    have hd : List.drop cs.size cur.toList = [] := by simp [hs]
    have hst' : (storeCells ⟨g, 0, none⟩ cs.toList).run P w = .ok () (w.setRow g cs) := by simpa [hd] using hst
    simp [storeVar, Sem.run_bind, sizeOf, typeInfo, hq, hsz, hc, hst']
theorem wp_store_row {o : Oper} {a : Act} {w : World} {K : Act → World → Prop} {Q : Exit → Act → World → Prop} (ty : TypeId) (x y : Operand) (ho : o.op = .store ty x y)
    (g : Nat) (hx : a.eval x = .pointer (some ⟨g, 0, none⟩)) (t : TypeId) (cur cs : Array Value) (hy : a.eval y = .agg cs) (hg : w.heap[g]? = some (.cells cur t (0, 0)))
    (hi : (P.info? ty).map (·.size) = some cs.size) (hs : cs.size = cur.size) (h1 : ∀ v ∈ cs, v.oneCell' = true)
    (h : K (a.put o.dst undef) (w.setRow g cs)) : o.wp P a w K Q := by
  unfold Oper.wp execOp
  simp only [ho, hx, hy, Instr.storeAt, Instr.sureAddr, Sem.run_bind, Sem.run_pure, Result.andThen_ok, run_storeVar_row w g t ty cur cs hg hi hs h1]
  exact h
theorem wpList_store_row {ops : Array Oper} {rest : List Oper} {o : Oper} {a : Act} {w : World} {Q : Exit → Act → World → Prop} (hgd : o.guard = none) (ty : TypeId) (x y : Operand) (ho : o.op = .store ty x y)
    (g : Nat) (hx : a.eval x = .pointer (some ⟨g, 0, none⟩)) (t : TypeId) (cur cs : Array Value) (hy : a.eval y = .agg cs) (hg : w.heap[g]? = some (.cells cur t (0, 0)))
    (hi : (P.info? ty).map (·.size) = some cs.size) (hs : cs.size = cur.size) (h1 : ∀ v ∈ cs, v.oneCell' = true)
    (h : wpList P ops Q rest (a.put o.dst undef) (w.setRow g cs)) : wpList P ops Q (o :: rest) a w :=
  wpList_plain hgd fun _ hK => wp_store_row ty x y ho g hx t cur cs hy hg hi hs h1 (hK _ _ h)
theorem below_setRow {B : Nat} {a w : World} (h : Below B a w) {g : Nat} (hg : B ≤ g) (cs : Array Value) : Below B a (w.setRow g cs) := by
  refine h.trans ⟨rfl, rfl, rfl, by simp [World.setRow], fun k hk => ?_⟩
  simp only [World.setRow, Array.getElem?_modify]
  rw [if_neg (by omega)]
end
/-! ### Appending whatever reads as a list to a row of the call's own -/
section
variable {P : Program} (w : World)

theorem run_append_of_nil (base : Nat) (t ty e : TypeId) (i : TypeInfo) (size : Nat) (ht : P.underlying t = some (.slice e)) (hi : P.info? e = some i)
    (v : Value) (n : Nat) (xs : List Value) (hown : w.ownsRow base e size v n xs) (c : Nat) : (Builtin.append_ #[t, t] ty #[v, .slice none 0 c]).run P w = .ok v w := by
  rcases hown.2 with ⟨rfl, rfl⟩ | ⟨g, cap, cur, rfl, _, _, hnc, _⟩
  · simp [Builtin.append_, run_underlying ht, sizeOf, typeInfo, hi, Builtin.lenOf, Builtin.firstCells]
  · simp [Builtin.append_, run_underlying ht, sizeOf, typeInfo, hi, Builtin.lenOf, Builtin.firstCells, hnc, storeCells]

theorem run_append_any (base : Nat) (t ty e : TypeId) (i : TypeInfo) (z : Value) (size bytes : Nat) (ht : P.underlying t = some (.slice e)) (hi : P.info? e = some i) (hz : i.zero = some z)
    (hsize : i.size = size) (hby : i.bytes = bytes) (hzs : z.cells.size = size) (hsz : 0 < size)
    (v : Value) (n : Nat) (xs : List Value) (hown : w.ownsRow base e size v n xs)
    (B : Nat) (A : Option Addr) (m c : Nat) (news : List Value) (hr : Reads w B size A m news) (h1 : ∀ u ∈ news, u.oneCell' = true)
    (h63 : n + m ≤ maxLen) (hbytes : (n + m) * bytes ≤ 140737488355328) (hbase : base ≤ w.heap.size) :
    ∃ v' w', (Builtin.append_ #[t, t] ty #[v, .slice A m c]).run P w = .ok v' w' ∧ w'.ownsRow base e size v' (n + m) (xs ++ news) ∧ w.grownBy w' v.ownBlock ∧
      (v'.ownBlock = v.ownBlock ∨ v'.ownBlock = some w.heap.size) := by
  rcases A with _ | ad
  · have hm : m = 0 := by
      rcases Nat.eq_zero_or_pos m with h0 | h0
      · exact h0
      · obtain ⟨ad, h, _⟩ := hr.2 h0
        cases h
    subst hm
    have hn : news = [] := List.eq_nil_of_length_eq_zero (by simpa using hr.1)
    subst hn
    exact ⟨v, w, run_append_of_nil w base t ty e i size ht hi v n xs hown c, by simpa using hown, World.grownBy.refl w _, .inl rfl⟩
  · have hcells : ∀ j u, news[j]? = some u → w.cell? (ad.add j) = some u := by
      intro j u hu
      rcases Nat.eq_zero_or_pos m with h0 | h0
      · subst h0
        have hn : news = [] := List.eq_nil_of_length_eq_zero (by simpa using hr.1)
        subst hn
        simp at hu
      · obtain ⟨ad', h, _, hc⟩ := hr.2 h0
        injection h with h
        subst h
        exact hc j u hu
    obtain ⟨v', w', hrun, h2, h3, _, h5⟩ := run_append_own_at (P := P) w base t ty e i z size bytes ht hi hz hsize hby hzs hsz v n xs hown ad m c news hr.1 hcells h1 h63 hbytes hbase
    exact ⟨v', w', hrun, h2, h3, h5⟩

theorem wp_append_any {o : Oper} {a : Act} {K : Act → World → Prop} {Q : Exit → Act → World → Prop} (s x : Operand) (t : TypeId)
    (ho : o.op = .call { callee := .builtin .append, args := #[s, x], argTypes := #[t, t] })
    (base : Nat) (e : TypeId) (i : TypeInfo) (z : Value) (size bytes : Nat) (ht : P.underlying t = some (.slice e)) (hi : P.info? e = some i) (hz : i.zero = some z)
    (hsize : i.size = size) (hby : i.bytes = bytes) (hzs : z.cells.size = size) (hsz : 0 < size)
    (v : Value) (n : Nat) (xs : List Value) (hs : a.eval s = v) (hown : w.ownsRow base e size v n xs)
    (B : Nat) (A : Option Addr) (m c : Nat) (news : List Value) (hx : a.eval x = .slice A m c) (hr : Reads w B size A m news) (h1 : ∀ u ∈ news, u.oneCell' = true)
    (h63 : n + m ≤ maxLen) (hbytes : (n + m) * bytes ≤ 140737488355328) (hbase : base ≤ w.heap.size)
    (h : ∀ v' w', w'.ownsRow base e size v' (n + m) (xs ++ news) → w.grownBy w' v.ownBlock → (v'.ownBlock = v.ownBlock ∨ v'.ownBlock = some w.heap.size) → K (a.put o.dst v') w') : o.wp P a w K Q := by
  obtain ⟨v', w', hrun, h2, h3, h4⟩ := run_append_any (P := P) w base t o.type e i z size bytes ht hi hz hsize hby hzs hsz v n xs hown B A m c news hr h1 h63 hbytes hbase
  unfold Oper.wp execOp
  simp only [ho, resolve, invoke, builtin, Sem.run_bind, Sem.run_pure, Result.andThen_ok, List.map_toArray, List.map_cons, List.map_nil, hs, hx, hrun]
  exact h v' w' h2 h3 h4

theorem wpList_append_any {ops : Array Oper} {rest : List Oper} {o : Oper} {a : Act} {Q : Exit → Act → World → Prop} (hgd : o.guard = none) (s x : Operand) (t : TypeId)
    (ho : o.op = .call { callee := .builtin .append, args := #[s, x], argTypes := #[t, t] })
    (base : Nat) (e : TypeId) (i : TypeInfo) (z : Value) (size bytes : Nat) (ht : P.underlying t = some (.slice e)) (hi : P.info? e = some i) (hz : i.zero = some z)
    (hsize : i.size = size) (hby : i.bytes = bytes) (hzs : z.cells.size = size) (hsz : 0 < size)
    (v : Value) (n : Nat) (xs : List Value) (hs : a.eval s = v) (hown : w.ownsRow base e size v n xs)
    (B : Nat) (A : Option Addr) (m c : Nat) (news : List Value) (hx : a.eval x = .slice A m c) (hr : Reads w B size A m news) (h1 : ∀ u ∈ news, u.oneCell' = true)
    (h63 : n + m ≤ maxLen) (hbytes : (n + m) * bytes ≤ 140737488355328) (hbase : base ≤ w.heap.size)
    (h : ∀ v' w', w'.ownsRow base e size v' (n + m) (xs ++ news) → w.grownBy w' v.ownBlock → (v'.ownBlock = v.ownBlock ∨ v'.ownBlock = some w.heap.size) → wpList P ops Q rest (a.put o.dst v') w') : wpList P ops Q (o :: rest) a w :=
  wpList_plain hgd fun _ hK => wp_append_any w s x t ho base e i z size bytes ht hi hz hsize hby hzs hsz v n xs hs hown B A m c news hx hr h1 h63 hbytes hbase fun v' w' h2 h3 h4 => hK _ _ (h v' w' h2 h3 h4)

theorem step_append_any {ops : Array Oper} {o : Oper} {a : Act} {K : Act → World → Prop} {Q : Exit → Act → World → Prop} {E : Prop} (hgd : o.guard = none) (s x : Operand) (t : TypeId)
    (ho : o.op = .call { callee := .builtin .append, args := #[s, x], argTypes := #[t, t] })
    (base : Nat) (e : TypeId) (i : TypeInfo) (z : Value) (size bytes : Nat) (ht : P.underlying t = some (.slice e)) (hi : P.info? e = some i) (hz : i.zero = some z)
    (hsize : i.size = size) (hby : i.bytes = bytes) (hzs : z.cells.size = size) (hsz : 0 < size)
    (v : Value) (n : Nat) (xs : List Value) (hs : a.eval s = v) (hown : w.ownsRow base e size v n xs)
    (B : Nat) (A : Option Addr) (m c : Nat) (news : List Value) (hx : a.eval x = .slice A m c) (hr : Reads w B size A m news) (h1 : ∀ u ∈ news, u.oneCell' = true)
    (h63 : n + m ≤ maxLen) (hbytes : (n + m) * bytes ≤ 140737488355328) (hbase : base ≤ w.heap.size)
    (h : ∀ v' w', w'.ownsRow base e size v' (n + m) (xs ++ news) → w.grownBy w' v.ownBlock → (v'.ownBlock = v.ownBlock ∨ v'.ownBlock = some w.heap.size) → K (a.put o.dst v') w') :
    if Region.wanted o (yielded ops a.tmps) = true then Oper.wp P o a w K Q else E := by
  have hw : Region.wanted o (yielded ops a.tmps) = true := by simp [Region.wanted, hgd]
  rw [if_pos hw]
  exact wp_append_any w s x t ho base e i z size bytes ht hi hz hsize hby hzs hsz v n xs hs hown B A m c news hx hr h1 h63 hbytes hbase h
end

/-! ### A step that may write the blocks of a footprint alone -/
/-- The world has gone on: of what was there, blocks of S alone may have turned; what is in S' was in S or is new. -/
structure Step (w w' : World) (S S' : List Nat) : Prop where
  os : w'.os = w.os
  tape : w'.tape = w.tape
  output : w'.output = w.output
  size : w.heap.size ≤ w'.heap.size
  block : ∀ k, k < w.heap.size → k ∉ S → w'.heap[k]? = w.heap[k]?
  foot : ∀ k, k ∈ S' → k ∈ S ∨ w.heap.size ≤ k
section
variable {w w' w1 w2 : World} {S S' S1 S2 T : List Nat}
theorem Step.refl (w : World) (S : List Nat) : Step w w S S := ⟨rfl, rfl, rfl, Nat.le_refl _, fun _ _ _ => rfl, fun _ h => .inl h⟩
theorem Step.trans (h : Step w w1 S S1) (k : Step w1 w2 S1 S2) : Step w w2 S S2 :=
  ⟨k.os.trans h.os, k.tape.trans h.tape, k.output.trans h.output, Nat.le_trans h.size k.size,
   fun i hi hn => (k.block i (Nat.lt_of_lt_of_le hi h.size) (fun hm => (h.foot i hm).elim (fun e => hn e) (fun e => by omega))).trans (h.block i hi hn),
   fun i hi => by
    rcases k.foot i hi with e | e
    · exact h.foot i e
    · exact .inr (Nat.le_trans h.size e)⟩
theorem Step.of_below (h : Below w.heap.size w w') (S : List Nat) : Step w w' S S := ⟨h.os, h.tape, h.output, h.size, fun k hk _ => h.block k hk, fun _ h => .inl h⟩
theorem Step.of_grown {row : Option Nat} (h : w.grownBy w' row) (hr : ∀ k, row = some k → k ∈ S) : Step w w' S S :=
  ⟨h.os, h.tape, h.output, h.size, fun k hk hn => h.block k hk (fun e => hn (hr k e.symm)), fun _ h => .inl h⟩
theorem Step.foot' (h : Step w w' S S') (hT : ∀ k, k ∈ T → k ∈ S' ∨ w.heap.size ≤ k) : Step w w' S T :=
  ⟨h.os, h.tape, h.output, h.size, h.block, fun k hk => (hT k hk).elim (fun e => h.foot k e) .inr⟩
theorem Step.wider (h : Step w w' S S') (hT : ∀ k, k ∈ S → k ∈ T) : Step w w' T (T ++ S') :=
  ⟨h.os, h.tape, h.output, h.size, fun k hk hn => h.block k hk (fun e => hn (hT k e)), fun k hk => by
    rcases List.mem_append.1 hk with e | e
    · exact .inl e
    · rcases h.foot k e with e | e
      · exact .inl (hT k e)
      · exact .inr e⟩
theorem Step.setCell (h : Step w w1 S S1) {p : Addr} (hp : p.block ∈ S1) (u : Value) : Step w (w1.setCell p u) S S1 :=
  h.trans ⟨rfl, rfl, rfl, by simp [World.setCell], fun k _ hn => Below.heap_setCell _ _ _ _ (fun e => hn (e ▸ hp)), fun _ h => .inl h⟩
theorem Step.alloc (h : Step w w1 S S1) (o : Obj) : Step w (w1.alloc o) S S1 := h.trans (Step.of_below ((Below.refl _ _).alloc (Nat.le_refl _) o) S1)
theorem Step.drewN (h : Step w w1 S S1) (n : Nat) : Step w (w1.drewN n) S S1 := h.trans ⟨rfl, rfl, rfl, Nat.le_refl _, fun _ _ _ => rfl, fun _ h => .inl h⟩
theorem Step.notin (h : Step w w' S S') {k : Nat} (hk : k < w.heap.size) (hn : k ∉ S) : k ∉ S' := fun hm => by
  rcases h.foot k hm with e | e
  · exact hn e
  · omega
theorem Step.blk (h : Step w w' S S') {g : Nat} {t : TypeId} {cs : Array Value} (hb : Blk w g t cs) (hn : g ∉ S) : Blk w' g t cs := (h.block g hb.lt hn).trans hb
theorem Step.below {B : Nat} (h : Step w w' S S') (hB : B ≤ w.heap.size) (hS : ∀ k, k ∈ S → B ≤ k) : Below B w w' :=
  ⟨h.os, h.tape, h.output, h.size, fun k hk => h.block k (by omega) (fun e => by have := hS k e; omega)⟩
theorem Step.ge {B : Nat} (h : Step w w' S S') (hB : B ≤ w.heap.size) (hS : ∀ k, k ∈ S → B ≤ k) : ∀ k, k ∈ S' → B ≤ k := fun k hk => by
  rcases h.foot k hk with e | e
  · exact hS k e
  · omega
theorem Step.owns (h : Step w w' S S') {base : Nat} {e : TypeId} {size n : Nat} {v : Value} {xs : List Value} (ho : w.ownsRow base e size v n xs) (hn : ∀ k, v.ownBlock = some k → k ∉ S) : w'.ownsRow base e size v n xs := by
  refine ⟨ho.1, ?_⟩
  rcases ho.2 with h0 | ⟨g, cap, cur, rfl, hb, hh, r⟩
  · exact .inl h0
  · exact .inr ⟨g, cap, cur, rfl, hb, (h.block g (Array.getElem?_eq_some_iff.1 hh).1 (hn g rfl)).trans hh, r⟩
end
/-- a slice that reads as these cells and lies apart from a footprint -/
def RApart (w : World) (size : Nat) (A : Option Addr) (n : Nat) (xs : List Value) (S : List Nat) : Prop :=
  Reads w w.heap.size size A n xs ∧ ∀ ad, A = some ad → 0 < n → ad.block ∉ S
theorem RApart.step {w w' : World} {size n : Nat} {A : Option Addr} {xs : List Value} {S S' : List Nat} (h : RApart w size A n xs S) (hs : Step w w' S S') : RApart w' size A n xs S' := by
  refine ⟨⟨h.1.1, fun hn => ?_⟩, fun ad e hn => ?_⟩
  · obtain ⟨ad, e, hb, hc⟩ := h.1.2 hn
    refine ⟨ad, e, Nat.lt_of_lt_of_le hb hs.size, fun j u hu => ?_⟩
    rw [← hc j u hu]
    exact World.cell?_of_block (by rw [block_of_add]; exact hs.block _ hb (h.2 ad e hn))
  · obtain ⟨ad', e', hb, _⟩ := h.1.2 hn
    obtain rfl : ad = ad' := by rw [e] at e'; injection e'
    exact hs.notin hb (h.2 ad e hn)
theorem RApart.weak {w : World} {size n : Nat} {A : Option Addr} {xs : List Value} {S T : List Nat} (h : RApart w size A n xs S) (hT : ∀ k, k ∈ T → k ∈ S) : RApart w size A n xs T :=
  ⟨h.1, fun ad e hn hm => h.2 ad e hn (hT _ hm)⟩
theorem RApart.of_low {w : World} {B size n : Nat} {A : Option Addr} {xs : List Value} {S : List Nat} (h : Reads w B size A n xs) (hB : B ≤ w.heap.size) (hS : ∀ k, k ∈ S → B ≤ k) : RApart w size A n xs S :=
  ⟨h.more hB, fun ad e hn hm => by
    obtain ⟨ad', e', hb, _⟩ := h.2 hn
    obtain rfl : ad = ad' := by rw [e] at e'; injection e'
    have := hS _ hm
    omega⟩
/-- a slice that reads as these cells, none of which lies below block lo -/
def RFrom (w : World) (lo size : Nat) (A : Option Addr) (n : Nat) (xs : List Value) : Prop :=
  Reads w w.heap.size size A n xs ∧ ∀ ad, A = some ad → 0 < n → lo ≤ ad.block
theorem RFrom.of_own {w : World} {base : Nat} {e : TypeId} {size n : Nat} {A : Option Addr} {c : Nat} {xs : List Value} (h : w.ownsRow base e size (.slice A n c) n xs) : RFrom w base size A n xs :=
  ⟨Reads.of_own h, fun ad e hn => by
    obtain ⟨g, cap, hv, hb, _⟩ := h.form hn
    have hA : A = some ⟨g, 0, none⟩ := by injection hv
    rw [e] at hA
    injection hA with hA
    rw [hA]; exact hb⟩
theorem RFrom.apart {w : World} {lo size n : Nat} {A : Option Addr} {xs : List Value} {S : List Nat} (h : RFrom w lo size A n xs) (hS : ∀ k, k ∈ S → k < lo) : RApart w size A n xs S :=
  ⟨h.1, fun ad e hn hm => by have := h.2 ad e hn; have := hS _ hm; omega⟩
theorem RFrom.below {w w' : World} {lo size n : Nat} {A : Option Addr} {xs : List Value} (h : RFrom w lo size A n xs) (hb : Below w.heap.size w w') : RFrom w' lo size A n xs :=
  ⟨(h.1.below hb).more hb.size, h.2⟩
theorem RFrom.mono {w : World} {lo lo' size n : Nat} {A : Option Addr} {xs : List Value} (h : RFrom w lo size A n xs) (hl : lo' ≤ lo) : RFrom w lo' size A n xs :=
  ⟨h.1, fun ad e hn => Nat.le_trans hl (h.2 ad e hn)⟩
end Go.Proofs.YtjmnomohmijbpaaDoor
