/- The medium: reading, cutting off. -/
import Derived.Test.YtjmnomohmijbpaaDoorMed
namespace Go.Proofs.YtjmnomohmijbpaaDoor
open Go.RowKit Go.MuLone
theorem RFrom.setCell {w : World} {lo size n : Nat} {A : Option Addr} {xs : List Value} (h : RFrom w lo size A n xs) {p : Addr} (hp : p.block < lo) (u : Value) : RFrom (w.setCell p u) lo size A n xs := by
  refine ⟨⟨h.1.1, fun hn => ?_⟩, h.2⟩
  obtain ⟨ad, e, hb, hc⟩ := h.1.2 hn
  refine ⟨ad, e, by simpa [World.setCell] using hb, fun j u hu => ?_⟩
  rw [← hc j u hu]
  exact World.cell?_setCell_other _ _ _ _ (fun e2 => by have := h.2 ad e hn; rw [e2, block_of_add] at hp; omega)
set_option maxRecDepth 100000 in
set_option maxHeartbeats 1000000 in
theorem read_out (m : Nat) (F : List Nat) (bs : List (BitVec 8)) (L : Nat) (s : Int) (at_ n : Nat) (w : World) (h : MedS w m F bs L s) (hn : bs.length < at_ + n) (h1 : n ≤ 4611686018427387904) :
    Calls Tryd.prog 40 #[.pointer (some ⟨m, 0, none⟩), .int .i64 at_, .int .i64 n] w fun e w' => e = .returned (.tuple #[.slice none 0 0, .int .i64 151]) ∧ w = w' := by
  obtain ⟨vb, vl, nl, ls, hb, h1', h2, h3, hF⟩ := h
  obtain ⟨Ab, cb, rfl⟩ := slice_form h1'
  have k2 : w.cell? ⟨m, 2, none⟩ = some (.slice Ab bs.length cb) := hb.cell_some rfl
  have k3 : w.cell? ⟨m, 3, none⟩ = some (.bool false) := hb.cell_some rfl
  go_enter Tryd.func40, Tryd.ntmps40
  go_wp2_with (go_at_call 53; ((with_reducible refine (lies_no _ _ _ (by omega) (by omega) (by omega) (by omega) _).mono ?_); rintro e w1 ⟨rfl, rfl⟩))
  go_ret2
  exact ⟨rfl, rfl⟩
set_option maxHeartbeats 1000000 in
theorem Read_yes (m : Nat) (F : List Nat) (bs : List (BitVec 8)) (L : Nat) (at_ n : Nat) (w : World) (h : Med w m F bs L) (hn : at_ + n ≤ bs.length) (hb28 : bs.length ≤ 268435456) (hL : L ≤ 1000000000) :
    Calls Tryd.prog 32 #[.pointer (some ⟨m, 0, none⟩), .int .i64 at_, .int .i64 n] w fun e w' => ∃ A', e = .returned (.tuple #[.slice A' n n, .int .i64 0]) ∧
      RFrom w' w.heap.size 1 A' n (((bs.drop at_).take n).map u8v) ∧ ∃ F', Med w' m F' bs (L + 1) ∧ Step w w' F F' := by
  obtain ⟨k0, f0⟩ := h.state
  obtain ⟨h1, hs1⟩ := h.lock 1
  have hz : (w.setCell ⟨m, 0, none⟩ (.int .i32 1)).heap.size = w.heap.size := by simp
  generalize hW : w.setCell ⟨m, 0, none⟩ (.int .i32 1) = W at *
  have HW := Lib.hid hW; have Hz := Lib.hid hz; clear hW hz
  go_enter_defers Tryd.func32, Tryd.ntmps32
  go_wp2_with (first
    | (go_at_call 24; refine (lock_free Tryd.muLib ⟨m, 0, none⟩ _ k0 f0).mono ?_; rw [HW.out]; rintro e w' ⟨rfl, rfl⟩)
    | (go_at_call 40; ((with_reducible refine (read_med m F bs L at_ n _ h1 hn hb28 hL).mono ?_); rintro e w2 ⟨A', rfl, hR, F', hM, hS⟩)))
  refine leaves_cons (f := 25) (args := #[.pointer (some ⟨m, 0, none⟩)]) (by simp) (by simp [go_sem]) ?_
  refine (unlock_deferred Tryd.muLib ⟨m, 0, none⟩ .returning _ hM.state.1 hM.state.2).mono ?_
  rintro e u' w'' ⟨rfl, rfl, rfl⟩
  obtain ⟨hM0, hS0⟩ := hM.lock 0
  refine ⟨_, results_tmp2 rfl _ _ _, A', rfl, ?_, F', hM0, hs1.trans (hS.trans hS0)⟩
  rw [Hz.out] at hR
  exact hR.setCell h.mem.2 _
set_option maxHeartbeats 1000000 in
theorem Read_no (m : Nat) (F : List Nat) (bs : List (BitVec 8)) (L : Nat) (at_ n : Nat) (w : World) (h : Med w m F bs L) (hn : bs.length < at_ + n) (h2 : n ≤ 4611686018427387904) :
    Calls Tryd.prog 32 #[.pointer (some ⟨m, 0, none⟩), .int .i64 at_, .int .i64 n] w fun e w' => e = .returned (.tuple #[.slice none 0 0, .int .i64 151]) ∧ w' = w := by
  obtain ⟨k0, f0⟩ := h.state
  obtain ⟨h1, hs1⟩ := h.lock 1
  have hbk := setCell_back w ⟨m, 0, none⟩ (.int .i32 1) (.int .i32 0) k0
  generalize hW : w.setCell ⟨m, 0, none⟩ (.int .i32 1) = W at *
  have HW := Lib.hid hW; have Hb := Lib.hid hbk; clear hW hbk
  go_enter_defers Tryd.func32, Tryd.ntmps32
  go_wp2_with (first
    | (go_at_call 24; refine (lock_free Tryd.muLib ⟨m, 0, none⟩ _ k0 f0).mono ?_; rw [HW.out]; rintro e w' ⟨rfl, rfl⟩)
    | (go_at_call 40; ((with_reducible refine (read_out m F bs L 1 at_ n _ h1 hn h2).mono ?_); rintro e w2 ⟨rfl, rfl⟩)))
  refine leaves_cons (f := 25) (args := #[.pointer (some ⟨m, 0, none⟩)]) (by simp) (by simp [go_sem]) ?_
  refine (unlock_deferred Tryd.muLib ⟨m, 0, none⟩ .returning _ h1.state.1 h1.state.2).mono ?_
  rintro e u' w'' ⟨rfl, rfl, rfl⟩
  exact ⟨_, results_tmp2 rfl _ _ _, rfl, Hb.out⟩
/-- what happens between a lock's two stores and leaves all that was there leaves it behind them, too -/
theorem lock_round {w W w4 : World} {a : Addr} {u v : Value} (hW : w.setCell a u = W) (hb : W.setCell a v = w) (h : Below W.heap.size W w4) : Below w.heap.size w (w4.setCell a v) := by
  have hz : W.heap.size = w.heap.size := by rw [← hW]; simp
  have e1 : W.os = w.os := by rw [← hW]; rfl
  have e2 : W.tape = w.tape := by rw [← hW]; rfl
  have e3 : W.output = w.output := by rw [← hW]; rfl
  refine ⟨h.os.trans e1, h.tape.trans e2, h.output.trans e3, by have := h.size; simp; omega, fun k hk => ?_⟩
  have hk' := h.block k (by omega)
  rw [← congrArg (fun x => x.heap[k]?) hb]
  show (w4.setCell a v).heap[k]? = (W.setCell a v).heap[k]?
  simp only [World.setCell, Array.getElem?_modify, hk']
end Go.Proofs.YtjmnomohmijbpaaDoor
