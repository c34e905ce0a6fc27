/- Fresh slices of bytes that may be appended to; bytes.Join; the reel's byte forms. -/
import Derived.Test.YtjmnomohmijbpaaDoorBits
import Derived.Test.YtjmnomohmijbpaaDoorCrc2
import Derived.Test.YtjmnomohmijbpaaDoorShelf
import Derived.Lib.EndianMore
import Derived.Lib.ConvBytes
namespace Go.Proofs.YtjmnomohmijbpaaDoor
open Go.RowKit
/-- A fresh slice of bytes, at the head of a block from lo on, with room behind it that may be written. -/
def FreshB (lo : Nat) (w : World) (v : Value) (bs : List (BitVec 8)) : Prop :=
  ∃ g cap, v = .slice (some ⟨g, 0, none⟩) bs.length cap ∧ lo ≤ g ∧ g < w.heap.size ∧ bs.length ≤ cap ∧ cap ≤ maxLen ∧ (∀ i, i < bs.length → w.cell? ⟨g, i, none⟩ = some (u8v (bs.getD i 0))) ∧
    ∀ i, i < cap → (w.cell? ⟨g, i, none⟩).isSome = true ∧ w.frozen? ⟨g, i, none⟩ = false
theorem FreshB.reads {lo : Nat} {w : World} {v : Value} {bs : List (BitVec 8)} (h : FreshB lo w v bs) : ∃ g cap, v = .slice (some ⟨g, 0, none⟩) bs.length cap ∧ lo ≤ g ∧ RBytes w w.heap.size (some ⟨g, 0, none⟩) bs.length bs := by
  obtain ⟨g, cap, rfl, hlo, hlt, _, _, hc, _⟩ := h
  refine ⟨g, cap, rfl, hlo, by simp, fun _ => ⟨_, rfl, hlt, fun j u hu => ?_⟩⟩
  rw [add_plain, Nat.zero_add]
  have hj : j < bs.length := by have := (List.getElem?_eq_some_iff.1 hu).1; simpa using this
  rw [hc j hj, ← hu, List.getElem?_map, List.getD_eq_getElem?_getD, List.getElem?_eq_getElem hj]; rfl
theorem FreshB.from {lo : Nat} {w : World} {v : Value} {bs : List (BitVec 8)} (h : FreshB lo w v bs) : ∃ A c, v = .slice A bs.length c ∧ RFrom w lo 1 A bs.length (bs.map u8v) := by
  obtain ⟨g, cap, rfl, hlo, hr⟩ := h.reads
  exact ⟨_, cap, rfl, hr, fun ad e _ => by injection e with e; rw [← e]; exact hlo⟩
theorem FreshB.below {lo : Nat} {w w' : World} {v : Value} {bs : List (BitVec 8)} (h : FreshB lo w v bs) (hb : Below w.heap.size w w') : FreshB lo w' v bs := by
  obtain ⟨g, cap, rfl, hlo, hlt, h1, h2, hc, hf⟩ := h
  refine ⟨g, cap, rfl, hlo, Nat.lt_of_lt_of_le hlt hb.size, h1, h2, fun i hi => (hb.cell (p := ⟨g, i, none⟩) hlt).trans (hc i hi), fun i hi => ?_⟩
  rw [hb.cell (p := ⟨g, i, none⟩) hlt, hb.frozen (p := ⟨g, i, none⟩) hlt]; exact hf i hi
theorem FreshB.mono {lo lo' : Nat} {w : World} {v : Value} {bs : List (BitVec 8)} (h : FreshB lo w v bs) (hl : lo' ≤ lo) : FreshB lo' w v bs := by
  obtain ⟨g, cap, e, hlo, r⟩ := h
  exact ⟨g, cap, e, Nat.le_trans hl hlo, r⟩
theorem FreshB.of_own {lo : Nat} {w : World} {e : TypeId} {v : Value} {bs : List (BitVec 8)} {n : Nat} (h : w.ownsRow lo e 1 v n (bs.map u8v)) (h0 : 0 < n) : FreshB lo w v bs := by
  have hl : bs.length = n := by have := h.1; simpa using this
  rcases h.2 with ⟨_, h1⟩ | ⟨g, cap, cur, rfl, hb, hh, h1, h2, h3, h4⟩
  · omega
  · subst hl
    have hB : Blk w g e cur := hh
    have hcur : ∀ i, i < cap → cur[i]? = some (cur[i]?.getD undef) := fun i hi => by
      rw [Array.getElem?_eq_getElem (by omega)]; rfl
    refine ⟨g, cap, rfl, hb, hB.lt, h1, h2, fun i hi => ?_, fun i hi => ⟨?_, hB.frozen i⟩⟩
    · rw [hB.cell i]
      have : (cur.toList.take (bs.length * 1))[i]? = (bs.map u8v)[i]? := by rw [h4]
      rw [List.getElem?_take, if_pos (by omega)] at this
      rw [← Array.getElem?_toList, this, List.getElem?_map, List.getD_eq_getElem?_getD, List.getElem?_eq_getElem hi]; rfl
    · rw [hB.cell i, Array.getElem?_eq_getElem (by omega)]; rfl
theorem FreshB.of_blk {lo : Nat} {w : World} {e : TypeId} {g : Nat} {bs : List (BitVec 8)} (h : Blk w g e (bytesV bs)) (hl : lo ≤ g) (hm : bs.length ≤ maxLen) {n : Nat} (hn : bs.length = n) : FreshB lo w (.slice (some ⟨g, 0, none⟩) n n) bs := by
  subst hn
  refine ⟨g, bs.length, rfl, hl, h.lt, Nat.le_refl _, hm, fun i hi => ?_, fun i hi => ⟨?_, h.frozen i⟩⟩
  · exact h.cell_some (bytesV_get bs i hi)
  · rw [h.cell_some (bytesV_get bs i hi)]; rfl
theorem isSome_setCells' (b : Nat) : ∀ (vs : List Value) (o : Nat) (w : World) (q : Addr), (w.cell? q).isSome = true → ((w.setCells b o vs).cell? q).isSome = true
  | [], _, _, _, h => h
  | v :: r, o, w, q, h => by
    refine isSome_setCells' b r (o + 1) _ q ?_
    by_cases e : (⟨b, o, none⟩ : Addr) = q
    · subst e
      obtain ⟨u, hu⟩ := Option.isSome_iff_exists.1 h
      rw [World.cell?_setCell_same w _ v hu]; rfl
    · rw [World.cell?_setCell_other w _ q v e]; exact h
theorem info_u8j : (Tryd.prog.info? 5).map (fun i => (i.zero, i.size, i.bytes)) = some (some (.int .u8 0), 1, 1) := by kernel_rfl
/-- append of bytes to a fresh slice -/
theorem wpList_append_fresh (w : World) {ops : Array Oper} {rest : List Oper} {o : Oper} {a : Act} {Q : Exit → Act → World → Prop} (hgd : o.guard = none) (s x : Operand)
    (ho : o.op = .call { callee := .builtin .append, args := #[s, x], argTypes := #[44, 44] })
    (lo : Nat) (v : Value) (bs : List (BitVec 8)) (hs : a.eval s = v) (hf : FreshB lo w v bs) (A : Option Addr) (m c : Nat) (news : List (BitVec 8)) (hx : a.eval x = .slice A m c) (hr : RBytes w w.heap.size A m news) (hm0 : 0 < m)
    (hb : bs.length + m ≤ 140737488355328)
    (h : ∀ v' w', FreshB lo w' v' (bs ++ news) → Below lo w w' → wpList Tryd.prog ops Q rest (a.put o.dst v') w') : wpList Tryd.prog ops Q (o :: rest) a w := by
  obtain ⟨i0, hi0, hz0, hz1, hz2⟩ := info_parts info_u8j
  obtain ⟨g, cap, rfl, hlo, hlt, h1, h2, hc, hfz⟩ := hf
  obtain ⟨ad, rfl, _, hcx⟩ := hr.2 hm0
  have hnl := hr.len
  refine wpList_append_arg w hgd s x 44 ho 5 i0 (.int .u8 0) 1 1 Tryd.underlying44 hi0 hz0 hz1 hz2 rfl (by omega) g 0 bs.length cap (bs.map u8v) hs (by simp) (fun j u hu => ?_)
    ad m c (news.map u8v) hx (by simp [hnl]) hcx (bytesV_one news) (fun hr j hj => ?_) (by simp only [maxLen]; omega) (by omega) (fun hroom => ?_) (fun hgrow v' w' hown hg => ?_)
  · have hj : j < bs.length := by have := (List.getElem?_eq_some_iff.1 hu).1; simpa using this
    rw [Nat.zero_add, hc j hj, ← hu, List.getElem?_map, List.getD_eq_getElem?_getD, List.getElem?_eq_getElem hj]; rfl
  · have := hfz (0 + bs.length * 1 + j) (by simp [hnl] at hj; omega)
    exact this
  · have hlen : (bs ++ news).length = bs.length + m := by simp [hnl]
    have hsome : ∀ j, j < (news.map u8v).length → (w.cell? ⟨g, (0 + bs.length * 1) + j, none⟩).isSome = true := fun j hj => (hfz _ (by simp [hnl] at hj; omega)).1
    refine h _ _ ⟨g, cap, by rw [hlen], hlo, ?_, by omega, h2, fun i hi => ?_, fun i hi => ⟨?_, ?_⟩⟩ (Go.Lib.below_setCells_w hlo _ _ _)
    · exact Nat.lt_of_lt_of_le hlt (Go.Lib.below_setCells_w hlo (news.map u8v) (0 + bs.length * 1) w).size
    · by_cases hb' : i < bs.length
      · rw [World.cell?_setCells_out _ _ _ _ _ (fun _ _ => by simp; omega), hc i hb', List.getD_eq_getElem?_getD, List.getD_eq_getElem?_getD, List.getElem?_append_left hb']
      · have hin := World.cell?_setCells_in g (news.map u8v) (0 + bs.length * 1) w hsome (i - bs.length) (by simp; omega)
        rw [show 0 + bs.length * 1 + (i - bs.length) = i by omega] at hin
        rw [hin, List.getD_eq_getElem?_getD, List.getElem?_append_right (by omega), List.getElem?_eq_getElem (by omega)]
        simp
    · exact isSome_setCells' g _ _ _ _ (hfz i hi).1
    · rw [World.frozen?_setCells]; exact (hfz i hi).2
  · have hown' : w'.ownsRow w.heap.size 5 1 v' (bs.length + m) ((bs ++ news).map u8v) := by rw [List.map_append]; exact hown
    exact h v' w' ((FreshB.of_own hown' (by omega)).mono (by omega)) ⟨hg.os, hg.tape, hg.output, hg.size, fun k hk => hg.block k (by omega) (by simp)⟩
/-! ### the library's bytes.Join in these words -/
def u8l (bs : List (BitVec 8)) : List UInt8 := bs.map UInt8.ofBitVec
theorem u8l_length (bs : List (BitVec 8)) : (u8l bs).length = bs.length := by simp [u8l]
theorem u8l_get (bs : List (BitVec 8)) (i : Nat) (x : UInt8) (h : (u8l bs)[i]? = some x) : bs[i]? = some x.toBitVec := by
  unfold u8l at h
  rw [List.getElem?_map] at h
  cases hb : bs[i]? with
  | none => rw [hb] at h; cases h
  | some b => rw [hb] at h; injection h with h; rw [← h]
theorem holds_of {w : World} {B : Nat} {A : Option Addr} {n c : Nat} {bs : List (BitVec 8)} (h : RBytes w B A n bs) : Lib.HoldsBytes w (.slice A n c) (u8l bs) := by
  refine ⟨A, c, by rw [u8l_length, h.len], fun hA => ?_, fun a ha i x hx => ?_⟩
  · rcases Nat.eq_zero_or_pos n with h0 | h0
    · have := h.len; rw [h0] at this; rw [List.eq_nil_of_length_eq_zero this]; rfl
    · obtain ⟨_, e, _⟩ := h.2 h0; rw [hA] at e; cases e
  · have hb := u8l_get bs i x hx
    have hi : i < n := by have := (List.getElem?_eq_some_iff.1 hb).1; have := h.len; omega
    obtain ⟨ad, e, _, hc⟩ := RBytes.at_ h hi
    obtain rfl : a = ad := by rw [ha] at e; injection e
    rw [hc, List.getD_eq_getElem?_getD, hb]; rfl
theorem fresh_of {lo : Nat} {w : World} {v : Value} {bs : List (BitVec 8)} (h : Lib.FreshBytes lo w v (u8l bs)) (h0 : 0 < bs.length) : FreshB lo w v bs := by
  obtain ⟨g, cap, zs, rfl, hlo, h1, h2, hz, hr, hb, hc, hf⟩ := h
  rw [u8l_length] at h1 hb ⊢
  have hlt : g < w.heap.size := by have := block_lt_of_cell (hc 0 (by omega)); exact this
  refine ⟨g, cap, rfl, hlo, hlt, h1, h2, fun i hi => ?_, fun i hi => ⟨by rw [hc i hi]; rfl, hf i hi⟩⟩
  rw [hc i (by omega)]
  have hzi : zs[i]? = some (zs.getD i 0) := by rw [List.getD_eq_getElem?_getD, List.getElem?_eq_getElem (by omega)]; rfl
  have hmem : zs.getD i 0 ∈ zs := List.mem_of_getElem? hzi
  obtain ⟨r0, r1⟩ := hr _ hmem
  have e := congrArg (fun l => l[i]?) hb
  simp only [Lib.bytesOf, List.getElem?_map, List.getElem?_take, if_pos hi, hzi, Option.map_some, u8l] at e
  rw [List.getElem?_eq_getElem hi, Option.map_some] at e
  injection e with e
  have e2 := congrArg (fun u => (UInt8.toNat u : Int)) e
  rw [List.getD_eq_getElem?_getD, List.getD_eq_getElem?_getD, List.getElem?_eq_getElem hi]
  rw [List.getD_eq_getElem?_getD] at e2 r0 r1
  have e3 : (UInt8.toNat (UInt8.ofNat (zs[i]?.getD 0).toNat) : Int) = zs[i]?.getD 0 := by
    simp only [UInt8.toNat_ofNat']; omega
  refine congrArg some (int_eq ?_)
  rw [← e3]
  exact e2
theorem join_flat (ls : List (List (BitVec 8))) : Lib.join (ls.map u8l) [] = u8l ls.flatten := by
  unfold Lib.join u8l
  induction ls with
  | nil => rfl
  | cons l ls ih =>
    cases ls with
    | nil => simp [List.intercalate]
    | cons m ls =>
      simp only [List.intercalate, List.map_cons, List.intersperse, List.flatten_cons, List.nil_append, List.map_append] at ih ⊢
      rw [ih]
theorem lens_flat (ls : List (List (BitVec 8))) : Lib.lens (ls.map u8l) = ls.flatten.length := by
  have e : ((fun x : List UInt8 => x.length) ∘ u8l) = List.length := by funext l; exact u8l_length l
  simp only [Lib.lens, List.length_flatten, List.map_map, e]
/-- the parts of a list of lists in memory -/
def Parts (w : World) (b : Nat) (vs : List Value) (ls : List (List (BitVec 8))) : Prop :=
  vs.length = ls.length ∧ (∀ (i : Nat) v, vs[i]? = some v → w.cell? ⟨b, i, none⟩ = some v) ∧ ∀ (i : Nat) v l, vs[i]? = some v → ls[i]? = some l → ∃ A c, v = .slice A l.length c ∧ RBytes w w.heap.size A l.length l
theorem Parts.at_ {w : World} {b : Nat} {vs : List Value} {ls : List (List (BitVec 8))} (h : Parts w b vs ls) : Lib.PartsAt w ⟨b, 0, none⟩ vs (ls.map u8l) := by
  refine ⟨by rw [h.1, List.length_map], fun i v hv => ?_, fun i v l hv hl => ?_⟩
  · rw [add_plain, Nat.zero_add]; exact h.2.1 i v hv
  · rw [List.getElem?_map] at hl
    cases hm : ls[i]? with
    | none => rw [hm] at hl; cases hl
    | some l' =>
      rw [hm] at hl; injection hl with hl
      obtain ⟨A, c, rfl, hr⟩ := h.2.2 i v l' hv hm
      rw [← hl]
      exact holds_of hr
theorem join_any (b n : Nat) (vs : List Value) (ls : List (List (BitVec 8))) (w : World) (hn : ls.length = n) (h2 : 2 ≤ n) (hn47 : n ≤ 1000) (hP : Parts w b vs ls) (hlen : ls.flatten.length ≤ 140737488355328) (h0 : 0 < ls.flatten.length) :
    Calls Tryd.prog 36 #[.slice (some ⟨b, 0, none⟩) n n, .slice none 0 0] w fun e w' => ∃ v, e = .returned v ∧ FreshB w.heap.size w' v ls.flatten ∧ Below w.heap.size w w' := by
  refine (Tryd.bytes_Join_many b 0 n n vs (ls.map u8l) (.slice none 0 0) [] w (by rw [List.length_map, hn]) h2 hP.at_ (Nat.le_refl _) ⟨none, 0, rfl, fun _ => rfl, fun a h => by cases h⟩ (by omega) (by rw [lens_flat, List.length_nil, Nat.zero_mul]; omega)).mono fun e w' ⟨v, he, hf, hb⟩ => ?_
  rw [join_flat] at hf
  exact ⟨v, he, fresh_of hf h0, hb⟩
theorem join_one (b : Nat) (A : Option Addr) (c : Nat) (bs : List (BitVec 8)) (w : World) (hcell : w.cell? ⟨b, 0, none⟩ = some (.slice A bs.length c)) (hr : RBytes w w.heap.size A bs.length bs) (h0 : 0 < bs.length) (hlen : bs.length ≤ 140737488355328) :
    Calls Tryd.prog 36 #[.slice (some ⟨b, 0, none⟩) 1 1, .slice none 0 0] w fun e w' => ∃ v, e = .returned v ∧ FreshB w.heap.size w' v bs ∧ Below w.heap.size w w' := by
  obtain ⟨ad, rfl, _, hcx⟩ := hr.2 h0
  refine (Tryd.bytes_Join_one b 0 1 ad c (u8l bs) (.slice none 0 0) w (by rw [u8l_length]; exact hcell) (fun i x hx => ?_) (by rw [u8l_length]; exact h0) (by rw [u8l_length]; exact hlen)).mono fun e w' ⟨v, he, hf, hb⟩ => ⟨v, he, fresh_of hf h0, hb⟩
  have := hcx i (u8v x.toBitVec) (by rw [List.getElem?_map, u8l_get bs i x hx]; rfl)
  exact this
/-! ### what outlives new memory, and a mark behind a block's end -/
/-- Whatever cell there was reads as it did; what was not frozen is not. -/
structure Later (w w' : World) : Prop where
  size : w.heap.size ≤ w'.heap.size
  cell : ∀ p : Addr, p.block < w.heap.size → w'.cell? p = w.cell? p
  frozen : ∀ p : Addr, (w.cell? p).isSome = true → w'.frozen? p = w.frozen? p
theorem Later.of_below {w w' : World} (h : Below w.heap.size w w') : Later w w' :=
  ⟨h.size, fun _ hp => h.cell hp, fun p hp => h.frozen (by obtain ⟨v, hv⟩ := Option.isSome_iff_exists.1 hp; exact block_lt_of_cell hv)⟩
theorem Later.get {w w' : World} (h : Later w w') {p : Addr} {v : Value} (hc : w.cell? p = some v) : w'.cell? p = some v := (h.cell p (block_lt_of_cell hc)).trans hc
theorem FreshB.later {lo : Nat} {w w' : World} {v : Value} {bs : List (BitVec 8)} (h : FreshB lo w v bs) (hb : Later w w') : FreshB lo w' v bs := by
  obtain ⟨g, cap, rfl, hlo, hlt, h1, h2, hc, hf⟩ := h
  refine ⟨g, cap, rfl, hlo, Nat.lt_of_lt_of_le hlt hb.size, h1, h2, fun i hi => hb.get (hc i hi), fun i hi => ?_⟩
  obtain ⟨hs, hz⟩ := hf i hi
  exact ⟨by rw [hb.cell _ hlt]; exact hs, by rw [hb.frozen _ hs]; exact hz⟩
theorem Reads.later {w w' : World} {size n : Nat} {A : Option Addr} {xs : List Value} (h : Reads w w.heap.size size A n xs) (hb : Later w w') : Reads w' w'.heap.size size A n xs :=
  (h.keep fun p hp => hb.cell p hp).more hb.size
theorem Parts.later {w w' : World} {b : Nat} {vs : List Value} {ls : List (List (BitVec 8))} (h : Parts w b vs ls) (hb : Later w w') : Parts w' b vs ls :=
  ⟨h.1, fun i v hv => hb.get (h.2.1 i v hv), fun i v l hv hl => by
    obtain ⟨A, c, e, hr⟩ := h.2.2 i v l hv hl
    exact ⟨A, c, e, hr.later hb⟩⟩
/-- '[]byte(..)' of a constant text: a mark is laid behind the block's end, nothing else -/
theorem run_convert_mark (w : World) (g : Nat) (C : Array Value) (n c : Nat) (h : Blk w g 5 C) :
    (convert 44 44 (.slice (some ⟨g, 0, none⟩) n c)).run Tryd.prog w = .ok (.slice (some ⟨g, 0, none⟩) n c) (w.freeze ⟨g, C.size, none⟩ 1) := by
  have hsh : w.shape? g = some (5, C.size) := by
    unfold World.shape?
    rw [h]
  simp [convert, run_underlying Tryd.underlying44, run_underlying Tryd.underlying5, markStringish, hsh]
theorem freeze_heap (w : World) (g k : Nat) (C : Array Value) (e : TypeId) (h : Blk w g e C) (i : Nat) : (w.freeze ⟨g, k, none⟩ 1).heap[i]? = if i = g then some (.cells C e (k, k + 1)) else w.heap[i]? := by
  unfold World.freeze
  rw [if_neg (by decide)]
  simp only [Array.getElem?_modify]
  by_cases e' : g = i
  · subst e'
    rw [if_pos rfl, if_pos rfl, h]
    rfl
  · rw [if_neg e', if_neg (fun x => e' x.symm)]
theorem freeze_size (w : World) (a : Addr) (n : Nat) : (w.freeze a n).heap.size = w.heap.size := by
  unfold World.freeze; split <;> simp
theorem freeze_later (w : World) (g : Nat) (C : Array Value) (e : TypeId) (h : Blk w g e C) : Later w (w.freeze ⟨g, C.size, none⟩ 1) := by
  refine ⟨by rw [freeze_size]; exact Nat.le_refl _, fun p hp => ?_, fun p hp => ?_⟩
  · unfold World.cell?
    rw [freeze_heap w g C.size C e h]
    by_cases e' : p.block = g
    · rw [if_pos e', e', h]
    · rw [if_neg e']
  · unfold World.frozen?
    rw [freeze_heap w g C.size C e h]
    by_cases e' : p.block = g
    · rw [if_pos e', e', h]
      unfold World.cell? at hp
      rw [e', h] at hp
      have hlt : p.off < C.size := by
        dsimp only at hp
        by_cases hs : p.spot.isSome = true
        · rw [if_pos hs] at hp; simp at hp
        · rw [if_neg hs] at hp
          obtain ⟨v, hv⟩ := Option.isSome_iff_exists.1 hp
          exact (Array.getElem?_eq_some_iff.1 hv).1
      simp; omega
    · rw [if_neg e']
theorem freeze_below (w w0 : World) (B g k : Nat) (C : Array Value) (e : TypeId) (h : Blk w g e C) (hb : Below B w0 w) (hg : B ≤ g) : Below B w0 (w.freeze ⟨g, k, none⟩ 1) := by
  have e1 : (w.freeze ⟨g, k, none⟩ 1).os = w.os ∧ (w.freeze ⟨g, k, none⟩ 1).tape = w.tape ∧ (w.freeze ⟨g, k, none⟩ 1).output = w.output := by
    unfold World.freeze; rw [if_neg (by decide)]; exact ⟨rfl, rfl, rfl⟩
  refine hb.trans ⟨e1.1, e1.2.1, e1.2.2, by rw [freeze_size]; exact Nat.le_refl _, fun i hi => ?_⟩
  rw [freeze_heap w g k C e h, if_neg (by omega)]
/-- the bytes of a text -/
def strB (t : ByteArray) : List (BitVec 8) := t.data.toList.map (·.toBitVec)
theorem strB_length (t : ByteArray) : (strB t).length = t.size := by simp [strB]
theorem bytes_world_below (w : World) (e : TypeId) (s : ByteArray) : Below w.heap.size w (Lib.bytesWorld w e s) := by
  refine ⟨?_, ?_, ?_, by rw [Lib.bytesWorld_size]; omega, fun k hk => Lib.bytesWorld_at_old w e s k hk⟩ <;>
  · unfold Lib.bytesWorld World.freeze
    rw [if_neg (by decide)]
    rfl
theorem bytes_world_reads (w : World) (e : TypeId) (s : ByteArray) : RBytes (Lib.bytesWorld w e s) (Lib.bytesWorld w e s).heap.size (some ⟨w.heap.size, 0, none⟩) s.size (strB s) := by
  refine ⟨by simp [strB_length], fun _ => ⟨_, rfl, by rw [Lib.bytesWorld_size]; simp, fun j u hu => ?_⟩⟩
  have hj : j < s.size := by have := (List.getElem?_eq_some_iff.1 hu).1; simpa [strB_length] using this
  rw [add_plain, Nat.zero_add, Lib.bytesWorld_cell w e s j hj, ← hu]
  simp only [strB, List.map_map, List.getElem?_map]
  have hj' : j < s.data.toList.length := by simpa using hj
  rw [List.getElem?_eq_getElem hj', Option.map_some, List.getD_eq_getElem?_getD, List.getElem?_eq_getElem hj']
  rfl
theorem parts4 {w : World} {b : Nat} {t : TypeId} {v0 v1 v2 v3 : Value} {l0 l1 l2 l3 : List (BitVec 8)} (hb : Blk w b t #[v0, v1, v2, v3]) (h0 : ∃ A c, v0 = .slice A l0.length c ∧ RBytes w w.heap.size A l0.length l0)
    (h1 : ∃ A c, v1 = .slice A l1.length c ∧ RBytes w w.heap.size A l1.length l1) (h2 : ∃ A c, v2 = .slice A l2.length c ∧ RBytes w w.heap.size A l2.length l2) (h3 : ∃ A c, v3 = .slice A l3.length c ∧ RBytes w w.heap.size A l3.length l3) :
    Parts w b [v0, v1, v2, v3] [l0, l1, l2, l3] := by
  refine ⟨rfl, fun i v hv => ?_, fun i v l hv hl => ?_⟩
  · rw [hb.cell i]; simpa using hv
  · match i, hv, hl with
    | 0, hv, hl => injection hv with hv; injection hl with hl; subst hv hl; exact h0
    | 1, hv, hl => injection hv with hv; injection hl with hl; subst hv hl; exact h1
    | 2, hv, hl => injection hv with hv; injection hl with hl; subst hv hl; exact h2
    | 3, hv, hl => injection hv with hv; injection hl with hl; subst hv hl; exact h3
end Go.Proofs.YtjmnomohmijbpaaDoor
