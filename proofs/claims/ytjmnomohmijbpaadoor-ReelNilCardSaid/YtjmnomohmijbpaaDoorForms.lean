/- The reel's byte forms: numbers in four bytes, bytes with their sum, links, labels, ends. -/
import Derived.Test.YtjmnomohmijbpaaDoorJoin
import Derived.Lib.SlBytesConst
namespace Go.Proofs.YtjmnomohmijbpaaDoor
open Go.RowKit
/-- a number in four bytes -/
def fourB (n : Nat) : List (BitVec 8) := bigB n 4
theorem fourB_length (n : Nat) : (fourB n).length = 4 := bigB_length n 4
/-- bytes with their sum behind them -/
def summedB (bs : List (BitVec 8)) : List (BitVec 8) := bs ++ fourB (Crc.sum bs).toNat
theorem summedB_length (bs : List (BitVec 8)) : (summedB bs).length = bs.length + 4 := by simp [summedB, fourB_length]
set_option maxRecDepth 100000 in
set_option maxHeartbeats 400000 in
theorem four_nat (n : Nat) (h : n < 4294967296) (w : World) :
    Calls Tryd.prog 28 #[.int .i64 n] w fun e w' => ∃ g, e = .returned (.slice (some ⟨g, 0, none⟩) 4 4) ∧ w.heap.size ≤ g ∧ Blk w' g 5 (bytesV (fourB n)) ∧ Below w.heap.size w w' := by
  have hb := big_any n 4 (by omega) (by omega) (by omega) w
  have Hb : Hid (Calls Tryd.prog 38 #[.int .u64 n, .int .i64 4] w fun e w' => ∃ g, e = .returned (.tuple #[.slice (some ⟨g, 0, none⟩) 4 4, .int .i64 0]) ∧
      w.heap.size ≤ g ∧ Blk w' g 5 (bytesV (bigB n 4)) ∧ Below w.heap.size w w') := hb
  clear hb
  go_enter Tryd.func28, Tryd.ntmps28
  go_wp2_with (go_at_call 38; (with_reducible refine Hb.out.mono ?_); rintro e w1 ⟨g, rfl, hg, hB, hb1⟩)
  go_ret
  exact ⟨g, rfl, hg, hB, hb1⟩
theorem four_any (n : Int) (h0 : 0 ≤ n) (h : n < 4294967296) (w : World) :
    Calls Tryd.prog 28 #[.int .i64 n] w fun e w' => ∃ g, e = .returned (.slice (some ⟨g, 0, none⟩) 4 4) ∧ w.heap.size ≤ g ∧ Blk w' g 5 (bytesV (fourB n.toNat)) ∧ Below w.heap.size w w' := by
  obtain ⟨k, rfl⟩ := Int.eq_ofNat_of_zero_le h0
  exact four_nat k (by omega) w
set_option maxRecDepth 100000 in
set_option maxHeartbeats 400000 in
theorem summed_of (b n : Nat) (bs : List (BitVec 8)) (w : World) (h0 : 0 < bs.length) (hlen : bs.length ≤ 1000000000)
    (hj : Calls Tryd.prog 36 #[.slice (some ⟨b, 0, none⟩) n n, .slice none 0 0] w fun e w' => ∃ v, e = .returned v ∧ FreshB w.heap.size w' v bs ∧ Below w.heap.size w w') :
    Calls Tryd.prog 27 #[.slice (some ⟨b, 0, none⟩) n n] w fun e w' => ∃ v, e = .returned v ∧ FreshB w.heap.size w' v (summedB bs) ∧ Below w.heap.size w w' := by
  have Hj := Lib.hid hj; clear hj
  have hs32 := (Crc.sum bs).isLt
  go_enter Tryd.func27, Tryd.ntmps27
  go_wp2_with (first
    | (go_at_call 36; (with_reducible refine Hj.out.mono ?_); rintro e w1 ⟨v1, rfl, hf1, hb1⟩
       obtain ⟨g1, cap1, rfl, hlo1, hr1⟩ := hf1.reads)
    | (go_at_call 37; (with_reducible refine (sum_any bs _ _ _ _ hr1 (by omega)).mono ?_); rintro e w2 ⟨rfl, hb2⟩)
    | (go_at_call 28; (with_reducible refine (four_nat (Crc.sum bs).toNat (by omega) _).mono ?_); rintro e w3 ⟨g3, rfl, hg3, hB3, hb3⟩)
    | (at_builtin; go_must (refine wpList_append_fresh _ rfl (.tmp 6) (.tmp 10) rfl w.heap.size _ bs rfl (by exact (hf1.below hb2).below hb3) (some ⟨g3, 0, none⟩) 4 4 (fourB (Crc.sum bs).toNat) rfl (by exact hB3.rbytes (fourB_length _)) (by omega) (by omega) ?_)
       intro v4 w4 hf4 hb4))
  go_ret
  refine ⟨_, rfl, hf4, ?_⟩
  have hz1 := hb1.size; have hz2 := hb2.size
  exact ((hb1.trans (hb2.mono (by omega))).trans (hb3.mono (by omega))).trans hb4
/-- what stands ahead of a record -/
def linkB (i n : Nat) : List (BitVec 8) := summedB ([76#8, 73#8, 78#8, 75#8] ++ fourB i ++ fourB n)
theorem linkB_length (i n : Nat) : (linkB i n).length = 16 := by simp [linkB, summedB_length, fourB_length]
/-- letters of a constant text, turned to bytes: a fresh block -/
theorem letters4 (w : World) (a b c d : Int) (p q r s : BitVec 8) (e : TypeId) (ha : a = p.toNat) (hb : b = q.toNat) (hc : c = r.toNat) (hd : d = s.toNat) :
    FreshB w.heap.size (w.alloc (.cells #[.int .u8 a, .int .u8 b, .int .u8 c, .int .u8 d] e (4, 5))) (.slice (some ⟨w.heap.size, 0, none⟩) 4 4) [p, q, r, s] := by
  subst ha hb hc hd
  have hh : (w.alloc (.cells #[u8v p, u8v q, u8v r, u8v s] e (4, 5))).heap[w.heap.size]? = some (.cells #[u8v p, u8v q, u8v r, u8v s] e (4, 5)) := heap_alloc_new w _
  refine ⟨w.heap.size, 4, rfl, Nat.le_refl _, by simp, Nat.le_refl _, by simp only [maxLen]; omega, fun i hi => ?_, fun i hi => ⟨?_, ?_⟩⟩
  · rw [World.cell?_alloc_mark]
    exact bytesV_get [p, q, r, s] i hi
  · rw [World.cell?_alloc_mark]
    have : (bytesV [p, q, r, s])[i]? = _ := bytesV_get [p, q, r, s] i hi
    exact (congrArg Option.isSome this).trans rfl
  · unfold World.frozen?
    rw [hh]
    simp only [Bool.and_eq_false_iff, decide_eq_false_iff_not]
    omega
theorem fresh_part {lo : Nat} {w : World} {v : Value} {bs : List (BitVec 8)} (h : FreshB lo w v bs) : ∃ A c, v = .slice A bs.length c ∧ RBytes w w.heap.size A bs.length bs := by
  obtain ⟨g, cap, e, _, hr⟩ := h.reads
  exact ⟨_, cap, e, hr⟩
theorem parts3 {w : World} {b : Nat} {t : TypeId} {v0 v1 v2 : Value} {l0 l1 l2 : List (BitVec 8)} (hb : Blk w b t #[v0, v1, v2]) (h0 : ∃ A c, v0 = .slice A l0.length c ∧ RBytes w w.heap.size A l0.length l0)
    (h1 : ∃ A c, v1 = .slice A l1.length c ∧ RBytes w w.heap.size A l1.length l1) (h2 : ∃ A c, v2 = .slice A l2.length c ∧ RBytes w w.heap.size A l2.length l2) : Parts w b [v0, v1, v2] [l0, l1, l2] := by
  refine ⟨rfl, fun i v hv => ?_, fun i v l hv hl => ?_⟩
  · rw [hb.cell i]; simpa using hv
  · match i, hv, hl with
    | 0, hv, hl => injection hv with hv; injection hl with hl; subst hv hl; exact h0
    | 1, hv, hl => injection hv with hv; injection hl with hl; subst hv hl; exact h1
    | 2, hv, hl => injection hv with hv; injection hl with hl; subst hv hl; exact h2
set_option maxRecDepth 100000 in
set_option maxHeartbeats 1000000 in
theorem link_any (i n : Int) (hi0 : 0 ≤ i) (hi : i < 4294967296) (hn0 : 0 ≤ n) (hn : n < 4294967296) (w : World) :
    Calls Tryd.prog 31 #[.int .i64 i, .int .i64 n] w fun e w' => ∃ v, e = .returned v ∧ FreshB w.heap.size w' v (linkB i.toNat n.toNat) ∧ Below w.heap.size w w' := by
  have kc := fun (w : World) (C : Array Value) (n c : Nat) => Lib.run_convert_bytes_const (P := Tryd.prog) w 44 5 C n c Tryd.underlying44 Tryd.underlying5
  go_enter Tryd.func31, Tryd.ntmps31
  have hL : FreshB w.heap.size (w.alloc (.cells #[.int .u8 76, .int .u8 73, .int .u8 78, .int .u8 75] 5 (4, 5))) (.slice (some ⟨w.heap.size, 0, none⟩) 4 4) [76#8, 73#8, 78#8, 75#8] := letters4 w _ _ _ _ _ _ _ _ _ rfl rfl rfl rfl
  have hbL : Below w.heap.size w (w.alloc (.cells #[.int .u8 76, .int .u8 73, .int .u8 78, .int .u8 75] 5 (4, 5))) := (Below.refl _ _).alloc (Nat.le_refl _) _
  go_wp2_with fail
  generalize w.alloc (.cells #[.int .u8 76, .int .u8 73, .int .u8 78, .int .u8 75] 5 (4, 5)) = w0 at *
  (with_reducible refine (four_any i hi0 hi _).mono ?_); rintro e w1 ⟨g1, rfl, hg1, hB1, hb1⟩
  go_wp2_with fail
  (with_reducible refine (four_any n hn0 hn _).mono ?_); rintro e w2 ⟨g2, rfl, hg2, hB2, hb2⟩
  go_wp2_with fail
  have hz0 := hbL.size; have hz1 := hb1.size; have hz2 := hb2.size
  have hbA := (hbL.trans (hb1.mono hz0)).trans (hb2.mono (by omega))
  have hL2 := (hL.below hb1).below hb2
  have hB1' := hB1.below hb2 hB1.lt
  refine (summed_of w2.heap.size 3 ([76#8, 73#8, 78#8, 75#8] ++ fourB i.toNat ++ fourB n.toNat) _ (by simp) (by simp [fourB_length]) ?_).mono ?_
  · have hP : Parts (w2.alloc (.cells #[.slice (some ⟨w.heap.size, 0, none⟩) 4 4, .slice (some ⟨g1, 0, none⟩) 4 4, .slice (some ⟨g2, 0, none⟩) 4 4] 44)) w2.heap.size _ [[76#8, 73#8, 78#8, 75#8], fourB i.toNat, fourB n.toNat] :=
      parts3 (Blk.new _ _ _) ⟨_, _, rfl, ((hL2.reads).elim fun g h => h.elim fun c h => by obtain ⟨e, _, hr⟩ := h; injection e with e1; rw [← e1] at hr; exact (hr.alloc (Nat.le_refl _) _).more (by simp))⟩
        ⟨_, _, by rw [fourB_length], ((hB1'.alloc _).rbytes rfl)⟩ ⟨_, _, by rw [fourB_length], ((hB2.alloc _).rbytes rfl)⟩
    have := join_any w2.heap.size 3 _ _ _ rfl (by omega) (by omega) hP (by simp [fourB_length]) (by simp)
    simpa using this
  · rintro e w3 ⟨v, rfl, hf, hb3⟩
    go_wp2
    go_ret
    refine ⟨v, rfl, hf.mono (by simp; omega), (hbA.alloc (by omega) _).trans (hb3.mono (by simp; omega))⟩
theorem parts2 {w : World} {b : Nat} {t : TypeId} {v0 v1 : Value} {l0 l1 : List (BitVec 8)} (hb : Blk w b t #[v0, v1]) (h0 : ∃ A c, v0 = .slice A l0.length c ∧ RBytes w w.heap.size A l0.length l0)
    (h1 : ∃ A c, v1 = .slice A l1.length c ∧ RBytes w w.heap.size A l1.length l1) : Parts w b [v0, v1] [l0, l1] := by
  refine ⟨rfl, fun i v hv => ?_, fun i v l hv hl => ?_⟩
  · rw [hb.cell i]; simpa using hv
  · match i, hv, hl with
    | 0, hv, hl => injection hv with hv; injection hl with hl; subst hv hl; exact h0
    | 1, hv, hl => injection hv with hv; injection hl with hl; subst hv hl; exact h1
/-- receipts in memory -/
structure Rcp where
  num : Nat
  at_ : Nat
  len : Nat
def rcpV (x : Rcp) : Value := .agg #[.int .i64 x.num, .int .i64 x.at_, .int .i64 x.len]
def rcpCells (l : List Rcp) : List Value := l.flatMap fun x => [.int .i64 x.num, .int .i64 x.at_, .int .i64 x.len]
theorem rcpCells_length (l : List Rcp) : (rcpCells l).length = l.length * 3 := by
  induction l with
  | nil => rfl
  | cons x l ih => show (_ :: _ :: _ :: rcpCells l).length = _; simp [ih]; omega
theorem rcpCells_get (l : List Rcp) (i : Nat) (x : Rcp) (h : l[i]? = some x) : (rcpCells l)[i * 3]? = some (.int .i64 x.num) ∧ (rcpCells l)[i * 3 + 1]? = some (.int .i64 x.at_) ∧ (rcpCells l)[i * 3 + 2]? = some (.int .i64 x.len) := by
  induction l generalizing i with
  | nil => cases h
  | cons y l ih =>
    cases i with
    | zero => injection h with h; subst h; exact ⟨rfl, rfl, rfl⟩
    | succ i =>
      have := ih i h
      have e : (i + 1) * 3 = i * 3 + 3 := by omega
      rw [e]
      exact this
/-- the index and the foot -/
def indexB (l : List Rcp) : List (BitVec 8) := [73#8, 78#8, 68#8, 88#8] ++ fourB l.length ++ (l.map fun x => fourB (x.at_ - 16)).flatten
def footB (at_ : Nat) : List (BitVec 8) := summedB ([70#8, 79#8, 79#8, 84#8] ++ fourB at_)
def endB (l : List Rcp) (at_ : Nat) : List (BitVec 8) := summedB (indexB l) ++ footB at_
theorem footB_length (at_ : Nat) : (footB at_).length = 12 := by simp [footB, summedB_length, fourB_length]
theorem indexB_length (l : List Rcp) : (indexB l).length = 8 + 4 * l.length := by
  have : ((l.map fun x => fourB (x.at_ - 16)).flatten).length = 4 * l.length := by
    induction l with
    | nil => rfl
    | cons x l ih => simp only [List.map_cons, List.flatten_cons, List.length_append, ih, fourB_length, List.length_cons]; omega
  simp only [indexB, List.length_append, this, fourB_length, List.length_cons, List.length_nil]
theorem endB_length (l : List Rcp) (at_ : Nat) : (endB l at_).length = 24 + 4 * l.length := by
  simp only [endB, List.length_append, summedB_length, indexB_length, footB_length]; omega
def indexTo (l : List Rcp) (k : Nat) : List (BitVec 8) := [73#8, 78#8, 68#8, 88#8] ++ fourB l.length ++ ((l.take k).map fun x => fourB (x.at_ - 16)).flatten
theorem indexTo_succ (l : List Rcp) (k : Nat) (x : Rcp) (h : l[k]? = some x) : indexTo l (k + 1) = indexTo l k ++ fourB (x.at_ - 16) := by
  obtain ⟨hk, rfl⟩ := List.getElem?_eq_some_iff.1 h
  simp only [indexTo, List.take_succ_eq_append_getElem hk, List.map_append, List.flatten_append, List.map_cons, List.map_nil, List.flatten_cons, List.flatten_nil, List.append_nil, List.append_assoc]
theorem indexTo_length (l : List Rcp) (k : Nat) (h : k ≤ l.length) : (indexTo l k).length = 8 + 4 * k := by
  have : ∀ m : List Rcp, ((m.map fun x => fourB (x.at_ - 16)).flatten).length = 4 * m.length := by
    intro m
    induction m with
    | nil => rfl
    | cons x l ih => simp only [List.map_cons, List.flatten_cons, List.length_append, ih, fourB_length, List.length_cons]; omega
  simp only [indexTo, List.length_append, this, fourB_length, List.length_cons, List.length_nil, List.length_take, Nat.min_eq_left h]
theorem indexTo_all (l : List Rcp) : indexTo l l.length = indexB l := by simp [indexTo, indexB]
set_option maxRecDepth 100000 in
set_option maxHeartbeats 1000000 in
theorem end_any (l : List Rcp) (A : Option Addr) (n c : Nat) (at_ : Nat) (w : World) (hr : Reads w w.heap.size 3 A n (rcpCells l)) (hln : l.length = n) (hn : n ≤ 100000000) (hat : at_ < 4294967296) (hl : ∀ x, x ∈ l → 16 ≤ x.at_ ∧ x.at_ < 4294967296) :
    Calls Tryd.prog 21 #[.slice A n c, .int .i64 at_] w fun e w' => ∃ v, e = .returned v ∧ FreshB w.heap.size w' v (endB l at_) ∧ Below w.heap.size w w' := by
  have kc := fun (w : World) (C : Array Value) (n c : Nat) => Lib.run_convert_bytes_const (P := Tryd.prog) w 44 5 C n c Tryd.underlying44 Tryd.underlying5
  have hL : FreshB w.heap.size (w.alloc (.cells #[.int .u8 73, .int .u8 78, .int .u8 68, .int .u8 88] 5 (4, 5))) (.slice (some ⟨w.heap.size, 0, none⟩) 4 4) [73#8, 78#8, 68#8, 88#8] := letters4 w _ _ _ _ _ _ _ _ _ rfl rfl rfl rfl
  have hbL : Below w.heap.size w (w.alloc (.cells #[.int .u8 73, .int .u8 78, .int .u8 68, .int .u8 88] 5 (4, 5))) := (Below.refl _ _).alloc (Nat.le_refl _) _
  go_enter Tryd.func21, Tryd.ntmps21
  go_wp2_with fail
  generalize w.alloc (.cells #[.int .u8 73, .int .u8 78, .int .u8 68, .int .u8 88] 5 (4, 5)) = w0 at *
  (with_reducible refine (four_any n (by omega) (by omega) _).mono ?_); rintro e w1 ⟨g1, rfl, hg1, hB1, hb1⟩
  have hz0 := hbL.size; have hz1 := hb1.size
  go_wp2_with (at_builtin; go_must (refine wpList_append_fresh _ rfl (.tmp 9) (.tmp 12) rfl w.heap.size _ [73#8, 78#8, 68#8, 88#8] rfl (by exact hL.below hb1) (some ⟨g1, 0, none⟩) 4 4 (fourB n) rfl (by exact hB1.rbytes (fourB_length _)) (by omega) (by simp) ?_); intro v2 w2 hf2 hb2)
  have hbA := (hbL.trans (hb1.mono hz0)).trans hb2
  have hz2 := hb2.size
  have H0 := Lib.hid hln
  have Hl := Lib.hid hl
  clear hln hl hb1 hb2 hbL hL hB1
  go_loopg [5, 16] n (fun r v i wr => ∃ k, r + k = n ∧ i = .int .i64 (k : Nat) ∧ FreshB w.heap.size wr v (indexTo l k) ∧ Below w.heap.size w wr)
  case atStart => exact ⟨0, rfl, rfl, by simpa [indexTo, H0.out] using hf2, hbA⟩
  case round =>
    obtain ⟨k, hk, rfl, hf, hb⟩ := hrel
    have Hk := Lib.hid hk; clear hk
    have hzr := hb.size
    by_cases hlt : k < n
    · have hx : l[k]? = some (l[k]'(by rw [H0.out]; exact hlt)) := List.getElem?_eq_getElem _
      generalize l[k]'(by rw [H0.out]; exact hlt) = x at hx
      obtain ⟨c0, c1, c2⟩ := rcpCells_get l k x hx
      obtain ⟨hx1, hx2⟩ := Hl.out x (List.mem_of_getElem? hx)
      obtain ⟨b, o, rfl, had, hcell⟩ := hr.plain (by omega) (by omega)
      have d0 : wr.cell? ⟨b, o + k * 3, none⟩ = some (.int .i64 x.num) := (hb.cell (p := ⟨b, o + k * 3, none⟩) had).trans (hcell _ _ c0)
      have d1 : wr.cell? ⟨b, o + k * 3 + 1, none⟩ = some (.int .i64 x.at_) := (hb.cell (p := ⟨b, o + k * 3 + 1, none⟩) had).trans (hcell _ _ c1)
      have d2 : wr.cell? ⟨b, o + k * 3 + 2, none⟩ = some (.int .i64 x.len) := (hb.cell (p := ⟨b, o + k * 3 + 2, none⟩) had).trans (hcell _ _ c2)
      clear hcell c0 c1 c2
      have Hx := Lib.hid hx; clear hx
      have Hsu := Lib.hid (indexTo_succ l k x Hx.out)
      have hil := indexTo_length l k (by rw [H0.out]; omega)
      have Hil := Lib.hid hil; clear hil
      go_wp2_with fail
      (with_reducible refine (four_any ((x.at_ : Int) - 16) (by omega) (by omega) _).mono ?_); rintro e w5 ⟨g5, rfl, hg5, hB5, hb5⟩
      have hb5' : Below wr.heap.size wr w5 := ((Below.refl _ wr).alloc (Nat.le_refl _) _).trans (hb5.mono (by simp))
      clear hb5
      go_wp2_with (at_builtin; go_must (refine wpList_append_fresh _ rfl (.tmp 20) (.tmp 24) rfl w.heap.size _ (indexTo l k) rfl (by exact hf.below hb5') (some ⟨g5, 0, none⟩) 4 4 _ rfl (by exact hB5.rbytes (fourB_length _)) (by omega) (by have := Hil.out; omega) ?_); intro v6 w6 hf6 hb6)
      go_roundg (gk - 1)
      case measure => have := Hk.out; omega
      case rel =>
        refine ⟨k + 1, by have := Hk.out; omega, by go_num, ?_, (hb.trans (hb5'.mono (by omega))).trans hb6⟩
        rw [Hsu.out]
        have e : ((x.at_ : Int) - 16).toNat = x.at_ - 16 := by omega
        rw [e] at hf6
        exact hf6
    · obtain rfl : k = n := by have := Hk.out; omega
      have hall : indexTo l k = indexB l := by rw [← H0.out]; exact indexTo_all l
      rw [hall] at hf
      have hlenI : (indexB l).length = 8 + 4 * k := by rw [indexB_length, H0.out]
      have HI := Lib.hid hlenI
      clear hall hlenI
      obtain ⟨AI, cI, rfl, hrI⟩ := fresh_part hf
      go_wp2_with fail
      refine (summed_of wr.heap.size 1 (indexB l) _ (by rw [HI.out]; omega) (by rw [HI.out]; omega) (join_one wr.heap.size AI cI (indexB l) _ (by exact (Blk.new wr 44 #[.slice AI (indexB l).length cI]).cell_some rfl) (by exact (hrI.alloc (Nat.le_refl _) _).more (by simp)) (by rw [HI.out]; omega) (by rw [HI.out]; omega))).mono ?_
      rintro e w5 ⟨v5, rfl, hf5, hb5⟩
      have hz5 : wr.heap.size + 1 ≤ w5.heap.size := by have := hb5.size; simpa using this
      have hb5' : Below wr.heap.size wr w5 := ((Below.refl _ wr).alloc (Nat.le_refl _) _).trans (hb5.mono (by simp))
      have hf5' : FreshB w.heap.size w5 v5 (summedB (indexB l)) := hf5.mono (by simp; omega)
      clear hb5 hf5
      have hL : FreshB w5.heap.size (w5.alloc (.cells #[.int .u8 70, .int .u8 79, .int .u8 79, .int .u8 84] 5 (4, 5))) (.slice (some ⟨w5.heap.size, 0, none⟩) 4 4) [70#8, 79#8, 79#8, 84#8] := letters4 w5 _ _ _ _ _ _ _ _ _ rfl rfl rfl rfl
      have hbL : Below w5.heap.size w5 (w5.alloc (.cells #[.int .u8 70, .int .u8 79, .int .u8 79, .int .u8 84] 5 (4, 5))) := (Below.refl _ _).alloc (Nat.le_refl _) _
      go_wp2_with fail
      generalize w5.alloc (.cells #[.int .u8 70, .int .u8 79, .int .u8 79, .int .u8 84] 5 (4, 5)) = w6 at *
      (with_reducible refine (four_any at_ (by omega) (by omega) _).mono ?_); rintro e w7 ⟨g7, rfl, hg7, hB7, hb7⟩
      have hz6 := hbL.size; have hz7 := hb7.size
      have hL7 := hL.below hb7
      go_wp2_with fail
      refine (summed_of w7.heap.size 2 ([70#8, 79#8, 79#8, 84#8] ++ fourB at_) _ (by simp) (by simp [fourB_length]) ?_).mono ?_
      · have hP : Parts (w7.alloc (.cells #[.slice (some ⟨w5.heap.size, 0, none⟩) 4 4, .slice (some ⟨g7, 0, none⟩) 4 4] 44)) w7.heap.size _ [[70#8, 79#8, 79#8, 84#8], fourB at_] :=
          parts2 (Blk.new _ _ _) ⟨_, _, rfl, ((hL7.reads).elim fun g h => h.elim fun c h => by obtain ⟨e, _, hr⟩ := h; injection e with e1; rw [← e1] at hr; exact (hr.alloc (Nat.le_refl _) _).more (by simp))⟩
            ⟨_, _, by rw [fourB_length], ((hB7.alloc _).rbytes rfl)⟩
        have := join_any w7.heap.size 2 _ _ _ rfl (by omega) (by omega) hP (by simp [fourB_length]) (by simp)
        simpa using this
      · rintro e w8 ⟨v8, rfl, hf8, hb8⟩
        obtain ⟨A8, c8, rfl, hr8⟩ := fresh_part hf8
        have hb58 : Below w5.heap.size w5 w8 := ((hbL.trans (hb7.mono (by omega))).alloc (by omega) _).trans (hb8.mono (by simp; omega))
        have hb8f := hf5'.below hb58
        go_wp2_with (at_builtin; go_must (refine wpList_append_fresh _ rfl (.tmp 29) (.tmp 35) rfl w.heap.size _ (summedB (indexB l)) rfl (by exact hb8f) A8 _ c8 (footB at_) rfl (by exact hr8) (by rw [summedB_length]; omega) (by rw [summedB_length, summedB_length, HI.out]; simp [fourB_length]; omega) ?_); intro v9 w9 hf9 hb9)
        go_ret
        exact ⟨v9, rfl, hf9, ((hb.trans (hb5'.mono (by omega))).trans (hb58.mono (by omega))).trans hb9⟩
end Go.Proofs.YtjmnomohmijbpaaDoor
