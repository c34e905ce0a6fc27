/- reel.Open. -/
import Derived.Test.YtjmnomohmijbpaaDoorOpenF
import Derived.Test.YtjmnomohmijbpaaDoorChainQ
import Derived.Test.YtjmnomohmijbpaaDoorRange
import Derived.RangeFuncLeaves
import Derived.OwnWalkIn
import Derived.TacticsInMore
namespace Go.Proofs.YtjmnomohmijbpaaDoor
open Go.RowKit
attribute [local go_sem] Oper.semAt_some
theorem Step.putObj (w : World) (l : Nat) (o : Obj) : Step w (w.putObj l o) [l] [l] :=
  ⟨rfl, rfl, rfl, by simp, fun k _ hk => World.putObj_heap_other (by simpa using hk), fun k hk => .inl hk⟩
theorem Step.upTo {w w' : World} {S S' T : List Nat} (h : Step w w' S S') (hS : ∀ k, k ∈ S → k ∈ T) : Step w w' T T :=
  (h.wider hS).foot' fun k hk => .inl (List.mem_append_left _ hk)
theorem info_rcp3 : (Tryd.prog.info? 39).map (fun i => (i.zero, i.size, i.bytes)) = some (some (.agg #[.int .i64 0, .int .i64 0, .int .i64 0]), 3, 24) := by kernel_rfl
theorem zip1 (p : Tmp) (x : Value) (ts : Array Value) : ((#[p] : Array Tmp).zip #[x]).foldl (fun tmps (t, a) => tmps.setIfInBounds t a) ts = ts.setIfInBounds p x := by
  rw [show (#[p] : Array Tmp).zip #[x] = #[(p, x)] by simp]
  simp
/-- the chain's maker lays three boxes -/
theorem chain_make (b at_ E : Nat) (w : World) :
    Calls Tryd.prog 20 #[.pointer (some ⟨b, 0, none⟩), .int .i64 at_, .pointer (some ⟨E, 0, none⟩)] w fun e w' =>
      e = .returned (.func (.func 30) #[] #[.pointer (some ⟨w.heap.size + 1, 0, none⟩), .pointer (some ⟨w.heap.size, 0, none⟩), .pointer (some ⟨w.heap.size + 2, 0, none⟩)]) ∧
      w' = ((w.alloc (.cells #[.pointer (some ⟨b, 0, none⟩)] 31)).alloc (.cells #[.int .i64 at_] 3)).alloc (.cells #[.pointer (some ⟨E, 0, none⟩)] 57) := by
  go_enter Tryd.func20, Tryd.ntmps20
  go_wp2_with fail
  go_ret
  exact ⟨rfl, rfl⟩
/-- what Open leaves -/
def OpenEnd (m : Nat) (F : List Nat) (L : Nat) (t : ByteArray) (rate start : Int) (Bs : List (BitVec 8)) (w : World) (res : List Rcp × Nat) (e : Ending) (w' : World) : Prop :=
  ∃ (b : Nat) (v : Value), e = .returned (.tuple #[.pointer (some ⟨b, 0, none⟩), .int .i64 0]) ∧ w.heap.size ≤ b ∧ Reel w' b m t rate start v res.1 (decide (Bs.drop res.2 = endB res.1 res.2)) res.2 ∧
    (∀ k, v.ownBlock = some k → w.heap.size ≤ k) ∧ ∃ (F' : List Nat) (L' : Nat), L' ≤ L + 100010 ∧ Med w' m F' Bs L' ∧ Step w w' F F' ∧ b ∉ F' ∧ (∀ k, v.ownBlock = some k → k ∉ F')
set_option maxRecDepth 100000 in
set_option maxHeartbeats 4000000 in
theorem open_hid (m : Nat) (F : List Nat) (L : Nat) (t : ByteArray) (rate start : Int) (Bs rest : List (BitVec 8)) (w : World) (res : List Rcp × Nat) (h : Med w m F Bs L) (HB : Hid (Bs = labelB t rate start ++ rest)) (hT : Tabs w) (hFT : Far F) (hm : mayB t rate start = true)
    (hb28 : Bs.length ≤ 268435456) (hL : L ≤ 10000000) (HR : Hid (chainP Bs (Bs.length + 1) 0 (t.size + 15) = res)) :
    Calls Tryd.prog 8 #[.pointer (some ⟨m, 0, none⟩)] w (OpenEnd m F L t rate start Bs w res) := by
  refine callsIn_wide.1 (callsIn_of_wp_marks (n := 3) Tryd.func8 rfl trivial (wpIn_wide.2 ?_) rfl)
  simp only [Tryd.ntmps8, List.size_toArray, List.length_cons, List.length_nil, Nat.reduceAdd, Nat.reduceSub, Array.replicate_succ, Array.replicate_zero, List.push_toArray, List.append_toArray, List.nil_append, List.cons_append]
  go_wp2_with fail
  refine (dead_med m F Bs L _ h).mono ?_
  rintro e w1 ⟨rfl, rfl⟩
  go_wp2_with fail
  refine (readLabel_of m F L t rate start Bs rest _ h HB.out hT hFT hm hb28 (by omega)).mono ?_
  unfold labV
  rintro e w2 ⟨rfl, F2, hM2, hS2⟩
  go_wp2_with fail
  have hsz : (t.size : Int) + 15 = ((t.size + 15 : Nat) : Int) := by omega
  rw [hsz]
  obtain ⟨s, hs⟩ : ∃ s, w2.heap.size = s := ⟨_, rfl⟩
  have hbA1 := (Below.refl w2.heap.size w2).alloc (Nat.le_refl _) (.cells #[.string t, .int .i64 rate, .int .i64 start] 25)
  have hbA2 := hbA1.alloc (hbA1.size) (.cells #[.int .i64 0] 27)
  have hbA3 := hbA2.alloc (hbA2.size) (.cells #[.pointer (some ⟨m, 0, none⟩), .string t, .int .i64 rate, .int .i64 start, .slice none 0 0, .bool false, .int .i64 0] 50)
  have hbA4 := hbA3.alloc (hbA3.size) (.cells #[.pointer (some ⟨w2.heap.size + 1 + 1, 0, none⟩)] 31)
  have nE0 := Blk.new (w2.alloc (.cells #[.string t, .int .i64 rate, .int .i64 start] 25)) 27 #[.int .i64 0]
  have nR0 := Blk.new ((w2.alloc (.cells #[.string t, .int .i64 rate, .int .i64 start] 25)).alloc (.cells #[.int .i64 0] 27)) 50 #[.pointer (some ⟨m, 0, none⟩), .string t, .int .i64 rate, .int .i64 start, .slice none 0 0, .bool false, .int .i64 0]
  have nP := Blk.new (((w2.alloc (.cells #[.string t, .int .i64 rate, .int .i64 start] 25)).alloc (.cells #[.int .i64 0] 27)).alloc (.cells #[.pointer (some ⟨m, 0, none⟩), .string t, .int .i64 rate, .int .i64 start, .slice none 0 0, .bool false, .int .i64 0] 50)) 31 #[.pointer (some ⟨w2.heap.size + 1 + 1, 0, none⟩)]
  have nE := (nE0.alloc (.cells #[.pointer (some ⟨m, 0, none⟩), .string t, .int .i64 rate, .int .i64 start, .slice none 0 0, .bool false, .int .i64 0] 50)).alloc (.cells #[.pointer (some ⟨w2.heap.size + 1 + 1, 0, none⟩)] 31)
  have nR := nR0.alloc (.cells #[.pointer (some ⟨w2.heap.size + 1 + 1, 0, none⟩)] 31)
  have hzz : ((((w2.alloc (.cells #[.string t, .int .i64 rate, .int .i64 start] 25)).alloc (.cells #[.int .i64 0] 27)).alloc (.cells #[.pointer (some ⟨m, 0, none⟩), .string t, .int .i64 rate, .int .i64 start, .slice none 0 0, .bool false, .int .i64 0] 50)).alloc (.cells #[.pointer (some ⟨w2.heap.size + 1 + 1, 0, none⟩)] 31)).heap.size = s + 4 := by simp [hs]
  simp only [World.size_alloc] at nE nR nP
  clear hbA1 hbA2 hbA3 nE0 nR0
  generalize hWa : (((w2.alloc (.cells #[.string t, .int .i64 rate, .int .i64 start] 25)).alloc (.cells #[.int .i64 0] 27)).alloc (.cells #[.pointer (some ⟨m, 0, none⟩), .string t, .int .i64 rate, .int .i64 start, .slice none 0 0, .bool false, .int .i64 0] 50)).alloc (.cells #[.pointer (some ⟨w2.heap.size + 1 + 1, 0, none⟩)] 31) = Wa at *
  clear hWa
  rw [hs] at nE nR nP hbA4
  simp only [hs]
  refine (chain_make _ _ _ _).mono ?_
  rw [hzz]
  rintro e w3 ⟨rfl, hw3⟩
  have b2 := ((Blk.new Wa 31 #[.pointer (some ⟨s + 1 + 1, 0, none⟩)]).alloc (.cells #[.int .i64 (t.size + 15 : Nat)] 3)).alloc (.cells #[.pointer (some ⟨s + 1, 0, none⟩)] 57)
  have b1 := (Blk.new (Wa.alloc (.cells #[.pointer (some ⟨s + 1 + 1, 0, none⟩)] 31)) 3 #[.int .i64 (t.size + 15 : Nat)]).alloc (.cells #[.pointer (some ⟨s + 1, 0, none⟩)] 57)
  have b3 := Blk.new ((Wa.alloc (.cells #[.pointer (some ⟨s + 1 + 1, 0, none⟩)] 31)).alloc (.cells #[.int .i64 (t.size + 15 : Nat)] 3)) 57 #[.pointer (some ⟨s + 1, 0, none⟩)]
  have hb3 : Below Wa.heap.size Wa w3 := by
    rw [hw3]
    exact (((Below.refl Wa.heap.size Wa).alloc (Nat.le_refl _) _).alloc (by simp) _).alloc (by simp only [World.size_alloc]; omega) _
  have hz3 : w3.heap.size = s + 7 := by rw [hw3]; simp [hzz]
  rw [← hw3] at b1 b2 b3
  simp only [World.size_alloc, hzz] at b1 b2 b3
  clear hw3
  have nE3 := nE.below hb3 nE.lt
  have nR3 := nR.below hb3 nR.lt
  have nP3 := nP.below hb3 nP.lt
  have hb23 : Below w2.heap.size w2 w3 := by rw [hs]; exact hbA4.trans (hb3.mono (by omega))
  have hM3 := hM2.below hb23
  have hS3 : Step w1 w3 F F2 := hS2.trans (Step.of_below hb23 F2)
  have hlt2 := hM2.lt
  clear nE nR nP hbA4 hb3 hzz hsz
  go_wp2_with fail
  refine wp_rangeFunc_J rfl (enters_of Tryd.func30 (by kernel_rfl) rfl) ?_
  intro rc W1 hst hpe hps htm has hbo hW1
  obtain ⟨c, hc⟩ : ∃ c : Ctx, c = ⟨m, s + 1 + 1, s + 4 + 1, s + 4, s + 4 + 1 + 1, s + 1, w3.heap.size + 1, w3.heap.size, s + 1 + 1 + 1, rc, t, rate, start, Bs⟩ := ⟨_, rfl⟩
  have hbW : Below w3.heap.size w3 W1 := by rw [hW1]; exact ((Below.refl w3.heap.size w3).alloc (Nat.le_refl _) _).alloc (by simp) _
  have hsw := hS2.size
  have hChT : ChT c w1 F W1 F2 (.slice none 0 0) [] (t.size + 15) (L + 1) 0 := by
    subst hc
    refine ⟨⟨hM3.below hbW, ⟨nR3.below hbW nR3.lt, rfl, .inl ⟨rfl, rfl⟩⟩, b1.below hbW b1.lt, b2.below hbW b2.lt, b3.below hbW b3.lt, nE3.below hbW nE3.lt, ?_, ?_, nP3.below hbW nP3.lt, fun k hk => ?_, fun k hk => by cases hk⟩, hS3.trans (Step.of_below hbW F2), fun k hk => by cases hk⟩
    · show W1.heap[w3.heap.size + 1]? = _
      rw [hW1]
      exact heap_alloc2_new w3 _ _
    · show W1.heap[w3.heap.size]? = _
      rw [hW1]
      exact heap_alloc2_old w3 _ _
    · have := hlt2 k hk
      refine ⟨?_, ?_, ?_, ?_, ?_, ?_, ?_, ?_⟩ <;> simp only [] <;> omega
  have hCGe : CGe c w1 := by
    subst hc
    constructor <;> simp only [] <;> omega
  have hcl : c.l = w3.heap.size + 1 := by rw [hc]
  have hcB : c.B1 = s + 4 + 1 ∧ c.B2 = s + 4 ∧ c.B3 = s + 4 + 2 ∧ c.bs = Bs ∧ c.b = s + 1 + 1 ∧ c.rec_ = rc ∧ c.D = w3.heap.size ∧ c.B7 = s + 1 + 1 + 1 := by rw [hc]; exact ⟨rfl, rfl, rfl, rfl, rfl, rfl, rfl, rfl⟩
  have hY : ∀ (W : World) (G : List Nat) (v : Value) (pre : List Rcp) (at_ Lg beh n : Nat), ChT c w1 F W G v pre at_ Lg beh → pre.length < 100000 → YieldAt Fence.wide 0 Tryd.prog c.l #[rcpV ⟨pre.length, at_ + 16, n⟩] W (fun e W' => e = .returned (.bool true) ∧ ∃ v', ChT c w1 F W' G v' (pre ++ [⟨pre.length, at_ + 16, n⟩]) at_ Lg beh) := by
    have hB7 := hcB.2.2.2.2.2.2.2
    have hrec := hcB.2.2.2.2.2.1
    clear hChT hcl hcB hc hW1 hbW hb23 hM3 hS3 nE3 nR3 nP3 b1 b2 b3 hM2 hS2 hlt2 HB HR h hT
    subst hrec
    rw [← hB7] at htm
    clear hB7
    intro W G v pre at_ Lg beh n hT5 hpre
    refine yield_J hT5.st.loop (by rw [hps]; rfl) ?_
    rw [has, hbo, hps, htm]
    rw [zip1]
    simp only [List.setIfInBounds_toArray, List.set_cons_succ, List.set_cons_zero, rcpV]
    clear htm has hbo hps
    gi_wp2
    have e16 : (at_ : Int) + 16 = ((at_ + 16 : Nat) : Int) := by omega
    have hbX : Below W.heap.size W (W.alloc (.cells #[.int .i64 (pre.length : Nat), .int .i64 (at_ + 16 : Nat), .int .i64 (n : Nat)] 39)) := (Below.refl W.heap.size W).alloc (Nat.le_refl _) _
    have hTx := hT5.below hbX
    have hX := Blk.new W 39 #[.int .i64 (pre.length : Nat), .int .i64 (at_ + 16 : Nat), .int .i64 (n : Nat)]
    rw [e16]
    clear e16
    generalize hWx : W.alloc (.cells #[.int .i64 (pre.length : Nat), .int .i64 (at_ + 16 : Nat), .int .i64 (n : Nat)] 39) = Wx at *
    refine ⟨_, run_beginRound hTx.st.loop hst, ?_⟩
    have hSb := Step.putObj Wx c.l (.loop { c.rec_ with state := .busy })
    have hlb := hTx.st.loop
    have nl : ∀ {g : Nat} {tt : TypeId} {cs : Array Value}, Blk Wx g tt cs → g ∉ [c.l] := fun {g} {tt} {cs} hb he => by
      have e : g = c.l := by simpa using he
      rw [e] at hb
      rw [hb] at hlb
      cases hlb
    have hB7b := hSb.blk hTx.st.b7 (nl hTx.st.b7)
    have hBxb := hSb.blk hX (nl hX)
    have hRbb := hSb.blk hTx.st.reel.blk (nl hTx.st.reel.blk)
    have hOb := hSb.owns hTx.st.reel.own (fun k hk he => by
      have e : k = c.l := by simpa using he
      rcases hTx.st.reel.own.2 with ⟨e2, _⟩ | ⟨g, cap, cur, e2, _, hh, _⟩
      · rw [e2] at hk; cases hk
      · rw [e2] at hk
        have e3 : g = k := by simpa [Value.ownBlock] using hk
        rw [e3, e] at hh
        rw [hh] at hlb
        cases hlb)
    have hXv : ∀ k, v.ownBlock = some k → k ≠ W.heap.size := fun k hk => by have := (hT5.st.reel.own.lt k hk).2; omega
    generalize hWb : Wx.putObj c.l (.loop { c.rec_ with state := .busy }) = Wb at *
    gi_wp2
    refine wpIn_region_inv (by kernel_rfl) (by kernel_rfl) (OpRI c Wb W.heap.size v pre ⟨pre.length, at_ + 16, n⟩ beh) ?_ ?_ ?_
    · exact OpRI.intro (D := fun _ => false) { b7 := hB7b.drew, bx := hBxb.drew, rb := ⟨v, hRbb.drew⟩, s7 := fun _ => (Below.refl _ _).drew, s10 := fun _ => hRbb.drew, f0 := fun h => (by cases h), f1 := fun h => (by cases h), f2 := fun h => (by cases h), f3 := fun h => (by cases h), f4 := fun h => (by cases h), f5 := fun h => (by cases h), f6 := fun h => (by cases h), f7 := fun h => (by cases h), f8 := fun h => (by cases h), f9 := fun h => (by cases h), f10 := fun h => (by cases h) }
    · intro D a w1 i o hI ho hD hE
      obtain ⟨j, u37, u38, u39, u40, u41, u42, u43, u44, u45, u46, rfl, F⟩ := hI
      have k7 := F.b7.cell_some (i := 0) (v := .pointer (some ⟨c.b, 0, none⟩)) rfl
      have kx0 := F.bx.cell_some (i := 0) (v := .int .i64 (pre.length : Nat)) rfl
      have kx1 := F.bx.cell_some (i := 1) (v := .int .i64 (at_ + 16 : Nat)) rfl
      have kx2 := F.bx.cell_some (i := 2) (v := .int .i64 (n : Nat)) rfl
      match i, ho, hD, hE with
      | 0, ho, hD, hE =>
        obtain rfl := Option.some.inj ho
        refine wpOpIn_on rfl (by simp [Region.wanted, yielded]) (wpIn_of_wp_round (by intro cc hh; cases hh) ?_)
        go_simp
        exact ⟨j, _, _, _, _, _, _, _, _, _, _, rfl, F.set0 rfl⟩
      | 1, ho, hD, hE =>
        obtain rfl := Option.some.inj ho
        refine wpOpIn_on rfl (by simp [Region.wanted, yielded]) (wpIn_of_wp_round (by intro cc hh; cases hh) ?_)
        go_simp
        exact ⟨j, _, _, _, _, _, _, _, _, _, _, rfl, F.set1 rfl⟩
      | 2, ho, hD, hE =>
        obtain rfl := Option.some.inj ho
        have e1 : D 1 = true := hE ⟨1, .data⟩ (by simp) rfl
        obtain rfl := F.f1 e1
        refine wpOpIn_on rfl (by simp [Region.wanted, yielded]) (wpIn_of_wp_round (by intro cc hh; cases hh) ?_)
        go_simp
        exact ⟨j, _, _, _, _, _, _, _, _, _, _, rfl, F.set2 rfl⟩
      | 3, ho, hD, hE =>
        obtain rfl := Option.some.inj ho
        have e2 : D 2 = true := hE ⟨2, .data⟩ (by simp) rfl
        obtain rfl := F.f2 e2
        refine wpOpIn_on rfl (by simp [Region.wanted, yielded]) (wpIn_of_wp_round (by intro cc hh; cases hh) ?_)
        go_simp
        exact ⟨j, _, _, _, _, _, _, _, _, _, _, rfl, F.set3 rfl⟩
      | 4, ho, hD, hE =>
        obtain rfl := Option.some.inj ho
        have e3 : D 3 = true := hE ⟨3, .data⟩ (by simp) rfl
        obtain rfl := F.f3 e3
        have c4 : ∃ vv, w1.cell? ⟨c.b, 4, none⟩ = some vv ∧ (D 10 = false → vv = v) := by
          cases h10 : D 10 with
          | false => exact ⟨v, (F.s10 h10).cell_some rfl, fun _ => rfl⟩
          | true =>
            obtain ⟨vv, hvv⟩ := F.rb
            exact ⟨vv, hvv.cell_some rfl, fun h => by cases h⟩
        obtain ⟨vv, c4, hv4⟩ := c4
        have HV4 := Lib.hid hv4
        clear hv4
        refine wpOpIn_on rfl (by simp [Region.wanted, yielded]) (wpIn_of_wp_round (by intro cc hh; cases hh) ?_)
        go_simp
        exact ⟨j, _, _, _, _, _, _, _, _, _, _, rfl, F.set4 HV4.out⟩
      | 5, ho, hD, hE =>
        obtain rfl := Option.some.inj ho
        refine wpOpIn_on rfl (by simp [Region.wanted, yielded]) (wpIn_of_wp_round (by intro cc hh; cases hh) ?_)
        go_simp
        exact ⟨j, _, _, _, _, _, _, _, _, _, _, rfl, F.set5 rfl⟩
      | 6, ho, hD, hE =>
        obtain rfl := Option.some.inj ho
        have e5 : D 5 = true := hE ⟨5, .data⟩ (by simp) rfl
        obtain rfl := F.f5 e5
        refine wpOpIn_on rfl (by simp [Region.wanted, yielded]) (wpIn_of_wp_round (by intro cc hh; cases hh) ?_)
        go_simp
        have hb : Below w1.heap.size w1 (w1.alloc (.cells #[.int .i64 (pre.length : Nat), .int .i64 (at_ + 16 : Nat), .int .i64 (n : Nat)] 39)) := (Below.refl _ _).alloc (Nat.le_refl _) _
        have hn := Blk.new w1 39 #[.int .i64 (pre.length : Nat), .int .i64 (at_ + 16 : Nat), .int .i64 (n : Nat)]
        exact ⟨j, _, _, _, _, _, _, _, _, _, _, rfl, F.setw6 hD (F.b7.below hb F.b7.lt) (F.bx.below hb F.bx.lt) (F.rb.elim fun vv h => ⟨vv, h.below hb h.lt⟩) (fun h => (F.s7 h).trans (hb.mono (F.s7 h).size)) (fun h => (F.s10 h).below hb (F.s10 h).lt) (fun h => ⟨_, rfl, (F.s7 h).size, hn⟩)⟩
      | 7, ho, hD, hE =>
        obtain rfl := Option.some.inj ho
        have e4 : D 4 = true := hE ⟨4, .data⟩ (by simp) rfl
        have e6 : D 6 = true := hE ⟨6, .data⟩ (by simp) rfl
        cases h10 : D 10 with
        | true => exact absurd (F.f10 h10).1 (by rw [hD]; decide)
        | false =>
          have e41 := F.f4 e4 h10
          obtain ⟨g, rfl, hg, hBg⟩ := F.f6 e6 hD
          have hs7 := F.s7 hD
          have hown := (Step.of_below hs7 []).owns hOb (by simp)
          obtain ⟨i0, hi0, hz0, hz1, hz2⟩ := info_parts info_rcp3
          refine wpOpIn_on rfl (by simp [Region.wanted, yielded]) (wpIn_of_wp_round (by intro cc hh; cases hh) (wp_append_any _ (.tmp 41) (.tmp 43) 46 rfl 0 39 i0 _ 3 24 Tryd.underlying46 hi0 hz0 hz1 hz2 rfl (by omega) v pre.length (rcpCells pre) e41 hown w1.heap.size (some ⟨g, 0, none⟩) 1 1 [.int .i64 (pre.length : Nat), .int .i64 (at_ + 16 : Nat), .int .i64 (n : Nat)] rfl ⟨rfl, fun _ => ⟨_, rfl, hBg.lt, fun jj u hu => by rw [add_plain, Nat.zero_add]; exact hBg.cell_some (by rw [← Array.getElem?_toList]; exact hu)⟩⟩ (by simp [Value.oneCell']) (by simp only [maxLen]; omega) (by omega) (Nat.zero_le _) ?_))
          intro v' w2 ho hgr hat
          have hvn : ∀ {g : Nat} {tt : TypeId} {cs : Array Value}, Blk w1 g tt cs → tt ≠ 39 → some g ≠ v.ownBlock := fun {g} {tt} {cs} hb hne he => own_blk_ne hown hb (fun q => hne q.symm) he.symm
          have hst7 : Step Wb w2 v.ownBlock.toList v.ownBlock.toList := (Step.of_below hs7 _).trans (Step.of_grown hgr (fun k hk => by simp [hk]))
          refine ⟨j, _, _, _, _, _, _, _, _, _, _, rfl, F.setw7 hD (F.b7.grown hgr (hvn F.b7 (by decide))) (F.bx.grown hgr (fun he => hXv _ he.symm rfl)) (F.rb.elim fun vv h => ⟨vv, h.grown hgr (hvn h (by decide))⟩) e6 (fun h => (F.s10 h).grown hgr (hvn (F.s10 h) (by decide))) (fun _ => ⟨?_, ?_, hst7⟩)⟩
          · simpa [rcpCells] using ho
          · rcases hat with e | e
            · exact .inl e
            · exact .inr ⟨_, e, hs7.size⟩
      | 8, ho, hD, hE =>
        obtain rfl := Option.some.inj ho
        have e0 : D 0 = true := hE ⟨0, .data⟩ (by simp) rfl
        obtain rfl := F.f0 e0
        refine wpOpIn_on rfl (by simp [Region.wanted, yielded]) (wpIn_of_wp_round (by intro cc hh; cases hh) ?_)
        go_simp
        exact ⟨j, _, _, _, _, _, _, _, _, _, _, rfl, F.set8 rfl⟩
      | 9, ho, hD, hE =>
        obtain rfl := Option.some.inj ho
        have e8 : D 8 = true := hE ⟨8, .data⟩ (by simp) rfl
        obtain rfl := F.f8 e8
        refine wpOpIn_on rfl (by simp [Region.wanted, yielded]) (wpIn_of_wp_round (by intro cc hh; cases hh) ?_)
        go_simp
        exact ⟨j, _, _, _, _, _, _, _, _, _, _, rfl, F.set9 rfl⟩
      | 10, ho, hD, hE =>
        obtain rfl := Option.some.inj ho
        have e9 : D 9 = true := hE ⟨9, .data⟩ (by simp) rfl
        obtain rfl := F.f9 e9
        have e7 : D 7 = true := hE ⟨7, .data⟩ (by simp) rfl
        have ow7 := (F.f7 e7).1
        obtain ⟨ho7, hat7, hst7⟩ := (F.f7 e7).2 hD
        obtain ⟨A7, c7, rfl⟩ := slice_form ho7
        have hBs := F.s10 hD
        have c4 := hBs.cell_some (i := 4) (v := v) rfl
        have f4 := hBs.frozen 4
        have HAT := Lib.hid hat7
        clear hat7
        refine wpOpIn_on rfl (by simp [Region.wanted, yielded]) (wpIn_of_wp_round (by intro cc hh; cases hh) ?_)
        go_simp
        have hst10 := ((hst7.wider (T := c.b :: v.ownBlock.toList) (fun k hk => by simp at hk; simp [hk])).foot' (T := c.b :: v.ownBlock.toList) (fun k hk => .inl (List.mem_append_left _ hk))).setCell (p := ⟨c.b, 4, none⟩) (by simp) (.slice A7 (pre.length + 1) c7)
        exact ⟨j, _, _, _, _, _, _, _, _, _, _, rfl, F.setw10 hD (F.b7.far (p := ⟨c.b, 4, none⟩) (F.b7.ne_ hBs (by decide)) _) (F.bx.far (p := ⟨c.b, 4, none⟩) (F.bx.ne_ hBs (by decide)) _) ⟨_, hBs.set_ 4 _⟩ e7 (fun h => by rw [e7] at h; cases h) ⟨_, hBs.set_ 4 _, ownsRow_setCell_other (a := ⟨c.b, 4, none⟩) ho7 (own_blk_ne ho7 hBs (by decide)) _, HAT.out, hst10⟩⟩
      | n + 11, ho, hD, hE => simp at ho
    · intro D a w5 hI hall
      obtain ⟨j, u37, u38, u39, u40, u41, u42, u43, u44, u45, u46, rfl, F⟩ := hI
      obtain ⟨_, v', hR5, hO5, hat5, hst5⟩ := F.f10 (hall 10 (by simp))
      clear F hall
      have hWbl : Wb.heap[c.l]? = some (.loop { c.rec_ with state := .busy }) := by
        rw [← hWb]; exact World.putObj_heap_same (Array.getElem?_eq_some_iff.1 hlb).1
      have hlS : c.l ∉ c.b :: v.ownBlock.toList := fun he => by
        rcases List.mem_cons.1 he with e | e
        · rw [e, hRbb] at hWbl; cases hWbl
        · simp only [Option.mem_toList] at e
          rcases hOb.2 with ⟨e2, _⟩ | ⟨g, cap, cur, e2, _, hh, _⟩
          · rw [e2] at e; cases e
          · rw [e2] at e
            have e3 : g = c.l := by simpa [Value.ownBlock] using e
            rw [e3, hWbl] at hh; cases hh
      have hl5 := (hst5.block c.l (Array.getElem?_eq_some_iff.1 hWbl).1 hlS).trans hWbl
      have hrr : ({ { c.rec_ with state := .busy } with state := .ready, pending := none } : Loop) = c.rec_ := by
        generalize c.rec_ = rr at hst hpe
        cases rr
        simp only at hst hpe
        subst hst; subst hpe; rfl
      have hend := run_endRound (P := Tryd.prog) none hl5
      simp only [Option.isNone_none, if_true] at hend
      rw [hrr] at hend
      gi_wp2
      refine ⟨_, _, hend, rfl, v', ?_⟩
      have hP5 := Step.putObj w5 c.l (.loop c.rec_)
      have hTot : Step W (w5.putObj c.l (.loop c.rec_)) (c.l :: c.b :: v.ownBlock.toList) (c.l :: c.b :: v.ownBlock.toList) :=
        (((Step.of_below hbX _).trans (hSb.upTo (by simp))).trans (hst5.upTo (fun k hk => by simp at hk ⊢; exact .inr hk))).trans (hP5.upTo (by simp))
      have hS0 := hT5.st
      have hlW := hS0.loop
      have nT : ∀ {g : Nat} {tt : TypeId} {cs : Array Value}, Blk W g tt cs → tt ≠ 50 → tt ≠ 39 → g ∉ c.l :: c.b :: v.ownBlock.toList := fun {g} {tt} {cs} hb h1 h2 he => by
        rcases List.mem_cons.1 he with e | he
        · rw [e] at hb; rw [hb] at hlW; cases hlW
        · rcases List.mem_cons.1 he with e | he
          · exact hb.ne_ hS0.reel.blk h1 e
          · exact own_blk_ne hS0.reel.own hb (fun q => h2 q.symm) (by simpa using he)
      have hsz := hS0.lts
      have hWb5 : W.heap.size ≤ Wb.heap.size := Nat.le_trans hbX.size hSb.size
      have hv' : ∀ k, v'.ownBlock = some k → v.ownBlock = some k ∨ W.heap.size ≤ k := fun k hk => by
        rcases hat5 with e | ⟨g, e, hg⟩
        · exact .inl (by rw [← e]; exact hk)
        · rw [e] at hk; cases hk; exact .inr (Nat.le_trans hWb5 hg)
      have hv'l : ∀ k, v'.ownBlock = some k → k ∉ [c.l] := fun k hk he => by
        have e : k = c.l := by simpa using he
        rcases hO5.2 with ⟨e2, _⟩ | ⟨g, cap, cur, e2, _, hh, _⟩
        · rw [e2] at hk; cases hk
        · rw [e2] at hk
          have e3 : g = k := by simpa [Value.ownBlock] using hk
          rw [e3, e, hl5] at hh; cases hh
      have hb5 : c.b ∉ [c.l] := fun he => by
        have e : c.b = c.l := by simpa using he
        have q := hR5
        rw [e] at q
        unfold Blk at q
        rw [hl5] at q; cases q
      refine ⟨⟨hS0.med.step hTot (fun k hk he => ?_), ⟨hP5.blk hR5 hb5, ?_⟩, hTot.blk hS0.b1 (nT hS0.b1 (by decide) (by decide)), hTot.blk hS0.b2 (nT hS0.b2 (by decide) (by decide)), hTot.blk hS0.b3 (nT hS0.b3 (by decide) (by decide)), hTot.blk hS0.e (nT hS0.e (by decide) (by decide)), World.putObj_heap_same (Array.getElem?_eq_some_iff.1 hl5).1, ?_, hTot.blk hS0.b7 (nT hS0.b7 (by decide) (by decide)), hS0.nF, fun k hk hG => ?_⟩, hT5.since.on hTot (fun k hk => ?_) (fun k hk => .inl hk), fun k hk => ?_⟩
      · have hn := hS0.nF k hk
        rcases List.mem_cons.1 he with e | he
        · exact hn.2.2.2.2.2.1 e
        · rcases List.mem_cons.1 he with e | he
          · exact hn.1 e
          · exact hS0.nv k (by simpa using he) hk
      · have := hP5.owns hO5 hv'l
        simpa using this
      · refine (hTot.block _ hsz.2.2.2.2.2.2 (fun he => ?_)).trans hS0.dfr
        have hd := hS0.dfr
        rcases List.mem_cons.1 he with e | he
        · rw [e, hlW] at hd; cases hd
        · rcases List.mem_cons.1 he with e | he
          · have q := hS0.reel.blk
            unfold Blk at q
            rw [e, q] at hd; cases hd
          · have hk : v.ownBlock = some c.D := by simpa using he
            rcases hS0.reel.own.2 with ⟨e2, _⟩ | ⟨g, cap, cur, e2, _, hh, _⟩
            · rw [e2] at hk; cases hk
            · rw [e2] at hk
              have e3 : g = c.D := by simpa [Value.ownBlock] using hk
              rw [e3, hd] at hh; cases hh
      · rcases hv' k hk with e | e
        · exact hS0.nv k e hG
        · have := hS0.med.lt k hG; omega
      · rcases List.mem_cons.1 hk with e | hk
        · exact .inr (by rw [e]; exact hCGe.l)
        · rcases List.mem_cons.1 hk with e | hk
          · exact .inr (by rw [e]; exact hCGe.b)
          · exact .inr (hT5.vge k (by simpa using hk))
      · rcases hv' k hk with e | e
        · exact hT5.vge k e
        · exact Nat.le_trans hT5.since.size e
  have hch := chain_any c w1 F W1 F2 (.slice none 0 0) (L + 1) 0 (t.size + 15) res hChT hCGe (by rw [hcB.2.2.2.1]; exact hb28) (by omega) (by rw [hcB.2.2.2.1, HB.out, List.length_append, labelB_length]; omega) (by rw [hcB.2.2.2.1]; exact HR.out) hY
  rw [hcB.1, hcB.2.1, hcB.2.2.1, hcl] at hch
  refine hch.mono ?_
  rintro e w4 ⟨hret, G4, v4, L4, at4, hL4, hT4⟩
  refine ⟨hret, ?_, ?_⟩
  · have := hT4.st.loop
    rw [hcl, hcB.2.2.2.2.2.1] at this
    exact this
  have hP := Step.putObj w4 c.l (.loop { rc with state := .exhausted })
  have hl4 := hT4.st.loop
  have nl4 : ∀ {g : Nat} {tt : TypeId} {cs : Array Value}, Blk w4 g tt cs → g ∉ [c.l] := fun {g} {tt} {cs} hb he => by
    have e : g = c.l := by simpa using he
    rw [e] at hb
    rw [hb] at hl4
    cases hl4
  have hE5 := hP.blk hT4.st.e (nl4 hT4.st.e)
  have hB75 := hP.blk hT4.st.b7 (nl4 hT4.st.b7)
  have hR5 := hP.blk hT4.st.reel.blk (nl4 hT4.st.reel.blk)
  have hO5 := hP.owns hT4.st.reel.own (fun k hk he => by
    have e : k = c.l := by simpa using he
    rcases hT4.st.reel.own.2 with ⟨e2, _⟩ | ⟨g, cap, cur, e2, _, hh, _⟩
    · rw [e2] at hk; cases hk
    · rw [e2] at hk
      have e3 : g = k := by simpa [Value.ownBlock] using hk
      rw [e3, e, hl4] at hh; cases hh)
  have hM5 := hT4.st.med.step hP (fun k hk he => (hT4.st.nF k hk).2.2.2.2.2.1 (by simpa using he))
  have hD5 := (hP.block c.D hT4.st.lts.2.2.2.2.2.2 (fun he => by
    have e : c.D = c.l := by simpa using he
    have q := hT4.st.dfr
    rw [e, hl4] at q; cases q)).trans hT4.st.dfr
  have hS5 := hT4.since.on hP (fun k hk => .inr (by have e : k = c.l := by simpa using hk
                                                    rw [e]; exact hCGe.l)) (fun k hk => .inl hk)
  have hnF := hT4.st.nF
  have hnv := hT4.st.nv
  have hvg := hT4.vge
  subst hc
  simp only [] at hE5 hB75 hR5 hO5 hM5 hD5 hS5
  generalize hW5 : w4.putObj (w3.heap.size + 1) (.loop { rc with state := .exhausted }) = W5 at *
  clear hW5 hP hl4 nl4 hT4 hch hY hChT hcl hcB hW1 hbW hb23 hM3 hS3 nE3 nR3 nP3 b1 b2 b3 hM2 hS2 hlt2 htm has hbo hps
  have kE := hE5.cell_some (i := 0) (v := .int .i64 0) rfl
  have kB := hB75.cell_some (i := 0) (v := .pointer (some ⟨s + 1 + 1, 0, none⟩)) rfl
  have hfacts := chainP_facts Bs (Bs.length + 1) 0 (t.size + 15) (by omega) (by rw [HB.out, List.length_append, labelB_length]; omega)
  rw [HR.out] at hfacts
  obtain ⟨Av, cv, rfl⟩ := slice_form hO5
  have HF := Lib.hid hfacts
  clear hfacts
  go_wp2_with fail
  refine wp_region_inv (by kernel_rfl) (by kernel_rfl) (OpEI W5 m (s + 1 + 1) (s + 1 + 1 + 1) (s + 7) t rate start (.slice Av res.1.length cv) res.1 res.2) ?_ ?_ ?_
  · exact OpEI.intro (D := fun _ => false) { below := (Below.refl _ _).drew, b7 := hB75.drew, blk := hR5.drew, own := (Step.of_below ((Below.refl _ _).drew) []).owns hO5 (by simp), f0 := fun h => (by cases h), f1 := fun h => (by cases h), f2 := fun h => (by cases h), f3 := fun h => (by cases h), f4 := fun h => (by cases h), f5 := fun h => (by cases h), f6 := fun h => (by cases h), f7 := fun h => (by cases h), f8 := fun h => (by cases h), f9 := fun h => (by cases h) }
  · intro D a w1 i o hI ho hD hE
    obtain ⟨j, u9, u50, u51, u52, u53, u54, u55, u56, u57, u58, rfl, F⟩ := hI
    have k7 := F.b7.cell_some (i := 0) (v := .pointer (some ⟨s + 1 + 1, 0, none⟩)) rfl
    have k4 := F.blk.cell_some (i := 4) (v := .slice Av res.1.length cv) rfl
    have k6 := F.blk.cell_some (i := 6) (v := .int .i64 res.2) rfl
    match i, ho, hD, hE with
    | 0, ho, hD, hE =>
      obtain rfl := Option.some.inj ho
      refine wpOp_of rfl rfl ?_
      go_simp
      exact ⟨j, _, _, _, _, _, _, _, _, _, _, rfl, F.set0 rfl⟩
    | 1, ho, hD, hE =>
      obtain rfl := Option.some.inj ho
      have e0 : D 0 = true := hE ⟨0, .data⟩ (by simp) rfl
      obtain rfl := F.f0 e0
      refine wpOp_of rfl rfl ?_
      go_simp
      exact ⟨j, _, _, _, _, _, _, _, _, _, _, rfl, F.set1 rfl⟩
    | 2, ho, hD, hE =>
      obtain rfl := Option.some.inj ho
      have e1 : D 1 = true := hE ⟨1, .data⟩ (by simp) rfl
      obtain rfl := F.f1 e1
      refine wpOp_of rfl rfl ?_
      go_simp
      exact ⟨j, _, _, _, _, _, _, _, _, _, _, rfl, F.set2 rfl⟩
    | 3, ho, hD, hE =>
      obtain rfl := Option.some.inj ho
      have e2 : D 2 = true := hE ⟨2, .data⟩ (by simp) rfl
      obtain rfl := F.f2 e2
      refine wpOp_of rfl rfl ?_
      go_simp
      exact ⟨j, _, _, _, _, _, _, _, _, _, _, rfl, F.set3 rfl⟩
    | 4, ho, hD, hE =>
      obtain rfl := Option.some.inj ho
      refine wpOp_of rfl rfl ?_
      go_simp
      exact ⟨j, _, _, _, _, _, _, _, _, _, _, rfl, F.set4 rfl⟩
    | 5, ho, hD, hE =>
      obtain rfl := Option.some.inj ho
      have e4 : D 4 = true := hE ⟨4, .data⟩ (by simp) rfl
      obtain rfl := F.f4 e4
      refine wpOp_of rfl rfl ?_
      go_simp
      exact ⟨j, _, _, _, _, _, _, _, _, _, _, rfl, F.set5 rfl⟩
    | 6, ho, hD, hE =>
      obtain rfl := Option.some.inj ho
      have e5 : D 5 = true := hE ⟨5, .data⟩ (by simp) rfl
      obtain rfl := F.f5 e5
      refine wpOp_of rfl rfl ?_
      go_simp
      exact ⟨j, _, _, _, _, _, _, _, _, _, _, rfl, F.set6 rfl⟩
    | 7, ho, hD, hE =>
      obtain rfl := Option.some.inj ho
      have e6 : D 6 = true := hE ⟨6, .data⟩ (by simp) rfl
      obtain rfl := F.f6 e6
      refine wpOp_of rfl rfl ?_
      go_simp
      exact ⟨j, _, _, _, _, _, _, _, _, _, _, rfl, F.set7 rfl⟩
    | 8, ho, hD, hE =>
      obtain rfl := Option.some.inj ho
      have e3 : D 3 = true := hE ⟨3, .data⟩ (by simp) rfl
      obtain rfl := F.f3 e3
      have e7 : D 7 = true := hE ⟨7, .data⟩ (by simp) rfl
      obtain rfl := F.f7 e7
      refine wpOp_of rfl rfl ?_
      go_simp
      refine (end_any res.1 Av res.1.length cv res.2 _ (Reads.of_own F.own) rfl (by have := HF.out.2.1; omega) (by have := HF.out.2.2; omega) (fun x hx => by have := HF.out.1 x hx; omega)).mono ?_
      rintro e w2 ⟨v2, rfl, hf, hb⟩
      exact ⟨j, _, _, _, _, _, _, _, _, _, _, rfl, (F.mono hb).set8 (hf.mono F.below.size)⟩
    | 9, ho, hD, hE =>
      obtain rfl := Option.some.inj ho
      refine wpOp_of rfl rfl ?_
      have e8 : D 8 = true := hE ⟨8, .data⟩ (by simp) rfl
      go_simp
      exact ⟨j, _, _, _, _, _, _, _, _, _, _, rfl, F.set9 (F.f8 e8)⟩
    | n + 10, ho, hD, hE => simp at ho
  · intro D a w6 hI hall
    obtain ⟨j, u9, u50, u51, u52, u53, u54, u55, u56, u57, u58, rfl, F⟩ := hI
    have hf := F.f9 (hall 9 (by simp))
    obtain ⟨g9, c9, rfl, hg9, hr9⟩ := hf.reads
    have hb6 := F.below
    have hB76 := F.b7
    have hR6 := F.blk
    have hO6 := F.own
    have hM6 := hM5.below hb6
    clear F hall hf
    obtain ⟨eB, heB⟩ : ∃ eB, endB res.1 res.2 = eB := ⟨_, rfl⟩
    rw [heB] at hr9
    simp only [heB]
    have HE := Lib.hid heB
    clear heB
    go_wp2_with fail
    refine wp_region_inv (by kernel_rfl) (by kernel_rfl) (OpSI w6.drew m (s + 1 + 1) (s + 1 + 1 + 1) (s + 7) Bs.length res.2 eB.length c9 (some ⟨g9, 0, none⟩)) ?_ ?_ ?_
    · exact OpSI.intro (D := fun _ => false) { weq := rfl, f0 := fun h => (by cases h), f1 := fun h => (by cases h), f2 := fun h => (by cases h), f3 := fun h => (by cases h), f4 := fun h => (by cases h), f5 := fun h => (by cases h), f6 := fun h => (by cases h), f7 := fun h => (by cases h), f8 := fun h => (by cases h), f9 := fun h => (by cases h) }
    · intro D a w1 i o hI ho hD hE
      obtain ⟨j, u59, u60, u61, u62, u63, u64, u65, u66, u67, u68, rfl, F⟩ := hI
      have hw := F.weq
      subst hw
      have hMd := hM6.below ((Below.refl _ _).drew)
      have k7 := (hB76.drew).cell_some (i := 0) (v := .pointer (some ⟨s + 1 + 1, 0, none⟩)) rfl
      have k6 := (hR6.drew).cell_some (i := 6) (v := .int .i64 res.2) rfl
      have hbeh := HF.out.2.2
      match i, ho, hD, hE with
      | 0, ho, hD, hE =>
        obtain rfl := Option.some.inj ho
        refine wpOp_of rfl rfl ?_
        go_simp
        exact ⟨j, _, _, _, _, _, _, _, _, _, _, rfl, F.set0 rfl⟩
      | 1, ho, hD, hE =>
        obtain rfl := Option.some.inj ho
        have e0 : D 0 = true := hE ⟨0, .data⟩ (by simp) rfl
        obtain rfl := F.f0 e0
        refine wpOp_of rfl rfl ?_
        go_simp
        refine (size_any m G4 Bs L4 _ hMd).mono ?_
        rintro e w2 ⟨rfl, rfl⟩
        exact ⟨j, _, _, _, _, _, _, _, _, _, _, rfl, F.set1 rfl⟩
      | 2, ho, hD, hE =>
        obtain rfl := Option.some.inj ho
        refine wpOp_of rfl rfl ?_
        go_simp
        exact ⟨j, _, _, _, _, _, _, _, _, _, _, rfl, F.set2 rfl⟩
      | 3, ho, hD, hE =>
        obtain rfl := Option.some.inj ho
        have e2 : D 2 = true := hE ⟨2, .data⟩ (by simp) rfl
        obtain rfl := F.f2 e2
        refine wpOp_of rfl rfl ?_
        go_simp
        exact ⟨j, _, _, _, _, _, _, _, _, _, _, rfl, F.set3 rfl⟩
      | 4, ho, hD, hE =>
        obtain rfl := Option.some.inj ho
        have e3 : D 3 = true := hE ⟨3, .data⟩ (by simp) rfl
        obtain rfl := F.f3 e3
        refine wpOp_of rfl rfl ?_
        go_simp
        exact ⟨j, _, _, _, _, _, _, _, _, _, _, rfl, F.set4 rfl⟩
      | 5, ho, hD, hE =>
        obtain rfl := Option.some.inj ho
        have e4 : D 4 = true := hE ⟨4, .data⟩ (by simp) rfl
        obtain rfl := F.f4 e4
        refine wpOp_of rfl rfl ?_
        go_simp
        exact ⟨j, _, _, _, _, _, _, _, _, _, _, rfl, F.set5 rfl⟩
      | 6, ho, hD, hE =>
        obtain rfl := Option.some.inj ho
        have e1 : D 1 = true := hE ⟨1, .data⟩ (by simp) rfl
        obtain rfl := F.f1 e1
        have e5 : D 5 = true := hE ⟨5, .data⟩ (by simp) rfl
        obtain rfl := F.f5 e5
        refine wpOp_of rfl rfl ?_
        go_simp
        exact ⟨j, _, _, _, _, _, _, _, _, _, _, rfl, F.set6 (int_eq (by rw [IntKind.wrap_i64]; omega))⟩
      | 7, ho, hD, hE =>
        obtain rfl := Option.some.inj ho
        refine wpOp_of rfl rfl ?_
        go_simp
        exact ⟨j, _, _, _, _, _, _, _, _, _, _, rfl, F.set7 rfl⟩
      | 8, ho, hD, hE =>
        obtain rfl := Option.some.inj ho
        have e7 : D 7 = true := hE ⟨7, .data⟩ (by simp) rfl
        obtain rfl := F.f7 e7
        refine wpOp_of rfl rfl ?_
        go_simp
        exact ⟨j, _, _, _, _, _, _, _, _, _, _, rfl, F.set8 rfl⟩
      | 9, ho, hD, hE =>
        obtain rfl := Option.some.inj ho
        have e6 : D 6 = true := hE ⟨6, .data⟩ (by simp) rfl
        obtain rfl := F.f6 e6
        have e8 : D 8 = true := hE ⟨8, .data⟩ (by simp) rfl
        obtain rfl := F.f8 e8
        refine wpOp_of rfl rfl ?_
        go_simp
        exact ⟨j, _, _, _, _, _, _, _, _, _, _, rfl, F.set9 rfl⟩
      | n + 10, ho, hD, hE => simp at ho
    · intro D a w7 hI hall
      obtain ⟨j, u59, u60, u61, u62, u63, u64, u65, u66, u67, u68, rfl, F⟩ := hI
      obtain rfl := F.weq
      obtain rfl := F.f9 (hall 9 (by simp))
      clear F hall
      have hnG : s + 1 + 1 ∉ G4 ∧ s + 1 + 1 + 1 ∉ G4 ∧ w3.heap.size ∉ G4 := ⟨fun hk => (hnF _ hk).1 rfl, fun hk => (hnF _ hk).2.2.2.2.2.2.2 rfl, fun hk => (hnF _ hk).2.2.2.2.2.2.1 rfl⟩
      have hD6 := (hb6.block _ (Array.getElem?_eq_some_iff.1 hD5).1).trans hD5
      have k7 := (hB76.drew).cell_some (i := 0) (v := .pointer (some ⟨s + 1 + 1, 0, none⟩)) rfl
      have k6 := (hR6.drew).cell_some (i := 6) (v := .int .i64 res.2) rfl
      by_cases hq : res.2 + eB.length = Bs.length
      · have hd : (((Bs.length : Int) - (res.2 : Int)) == (eB.length : Int)) = true := by simp; omega
        rw [hd]
        go_wp2_with fail
        have hMd := hM6.below ((Below.refl _ _).drew)
        refine (rread_yes m G4 Bs L4 res.2 eB.length _ hMd (by omega) hb28 (by omega)).mono ?_
        rintro e w8 ⟨A10, rfl, hR10, F8, hM8, hS8⟩
        have hB78 := hS8.blk hB76.drew hnG.2.1
        have hR8 := hS8.blk hR6.drew hnG.1
        have hD8 := (hS8.block _ (Array.getElem?_eq_some_iff.1 hD6).1 hnG.2.2).trans hD6
        have hO8 := hS8.owns ((Step.of_below ((Below.refl _ _).drew) []).owns hO6 (by simp)) hnv
        have hr98 : RBytes w8 w8.heap.size (some ⟨g9, 0, none⟩) eB.length eB := (RApart.step (S := G4) ⟨hr9.drew, fun ad e _ hm => by
          have := hM5.lt _ hm
          injection e with e
          subst e
          simp only [] at this
          omega⟩ hS8).1
        obtain ⟨q, hqq⟩ : ∃ q, decide (((Bs.drop res.2).take eB.length) = eB) = q := ⟨_, rfl⟩
        have HQ := Lib.hid hqq
        clear hqq
        go_wp2_with fail
        refine wp_region_inv (by kernel_rfl) (by kernel_rfl) (OpTI w8.drew (s + 1 + 1) (s + 1 + 1 + 1) (s + 7) eB.length c9 eB.length eB.length (some ⟨g9, 0, none⟩) A10 q) ?_ ?_ ?_
        · exact OpTI.intro (D := fun _ => false) { weq := hB78.drew.cell_some (i := 0) rfl, s6 := fun _ => rfl, f0 := fun h => (by cases h), f1 := fun h => (by cases h), f2 := fun h => (by cases h), f3 := fun h => (by cases h), f4 := fun h => (by cases h), f5 := fun h => (by cases h), f6 := fun h => (by cases h) }
        · intro D a w1 i o hI ho hD hE
          obtain ⟨j, u83, u84, u85, u86, u87, u88, rfl, F⟩ := hI
          have k7 := F.weq
          match i, ho, hD, hE with
          | 0, ho, hD, hE =>
            obtain rfl := Option.some.inj ho
            refine wpOp_of rfl rfl ?_
            go_simp
            exact ⟨j, _, _, _, _, _, _, rfl, F.set0 rfl⟩
          | 1, ho, hD, hE =>
            obtain rfl := Option.some.inj ho
            refine wpOp_of rfl rfl ?_
            go_simp
            exact ⟨j, _, _, _, _, _, _, rfl, F.set1 rfl⟩
          | 2, ho, hD, hE =>
            obtain rfl := Option.some.inj ho
            refine wpOp_of rfl rfl ?_
            go_simp
            exact ⟨j, _, _, _, _, _, _, rfl, F.set2 rfl⟩
          | 3, ho, hD, hE =>
            obtain rfl := Option.some.inj ho
            have e1 : D 1 = true := hE ⟨1, .data⟩ (by simp) rfl
            obtain rfl := F.f1 e1
            have e2 : D 2 = true := hE ⟨2, .data⟩ (by simp) rfl
            obtain rfl := F.f2 e2
            have h6 : D 6 = false := by
              cases h : D 6 with
              | false => rfl
              | true => exact absurd (F.f6 h).1 (by rw [hD]; decide)
            obtain rfl := F.s6 h6
            refine wpOp_of rfl rfl ?_
            go_simp
            refine (equal_any ((Bs.drop res.2).take eB.length) eB A10 (some ⟨g9, 0, none⟩) _ _ _ _ _ (hR10.1.drew) (hr98.drew)).mono ?_
            rw [HQ.out]
            rintro e w2 ⟨rfl, rfl⟩
            exact ⟨j, _, _, _, _, _, _, rfl, F.set3 rfl⟩
          | 4, ho, hD, hE =>
            obtain rfl := Option.some.inj ho
            have e0 : D 0 = true := hE ⟨0, .data⟩ (by simp) rfl
            obtain rfl := F.f0 e0
            refine wpOp_of rfl rfl ?_
            go_simp
            exact ⟨j, _, _, _, _, _, _, rfl, F.set4 rfl⟩
          | 5, ho, hD, hE =>
            obtain rfl := Option.some.inj ho
            have e4 : D 4 = true := hE ⟨4, .data⟩ (by simp) rfl
            obtain rfl := F.f4 e4
            refine wpOp_of rfl rfl ?_
            go_simp
            exact ⟨j, _, _, _, _, _, _, rfl, F.set5 rfl⟩
          | 6, ho, hD, hE =>
            obtain rfl := Option.some.inj ho
            have e5 : D 5 = true := hE ⟨5, .data⟩ (by simp) rfl
            obtain rfl := F.f5 e5
            have e3 : D 3 = true := hE ⟨3, .data⟩ (by simp) rfl
            obtain rfl := F.f3 e3
            obtain rfl := F.s6 hD
            have kr := hR8.drew.cell_some (i := 5) (v := .bool false) rfl
            have kf := hR8.drew.frozen 5
            refine wpOp_of rfl rfl ?_
            go_simp
            exact ⟨j, _, _, _, _, _, _, rfl, F.setw6 hD (((hB78.drew).far (p := ⟨s + 1 + 1, 5, none⟩) (by simp) (.bool q)).cell_some (i := 0) rfl) e3 rfl⟩
          | n + 7, ho, hD, hE => simp at ho
        · intro D a w9 hI hall
          obtain ⟨j, u83, u84, u85, u86, u87, u88, rfl, F⟩ := hI
          obtain ⟨_, rfl⟩ := F.f6 (hall 6 (by simp))
          clear F hall
          have k9 := (hB78.far (p := ⟨s + 1 + 1, 5, none⟩) (by simp) (.bool q)).cell_some (i := 0) (v := .pointer (some ⟨s + 1 + 1, 0, none⟩)) rfl
          go_wp2_with fail
          have hDf : ((w8.drew).setCell ⟨s + 1 + 1, 5, none⟩ (.bool q)).heap[s + 7]? = some (.deferred (some [])) := by
            rw [← hz3]
            exact (Below.heap_setCell _ _ _ _ (by simp; omega)).trans hD8
          refine ⟨(fun h => by cases h), .inl ⟨_, _, rfl, run_takeDeferred hDf, _, results_tmp2 rfl _ _ _, ?_⟩⟩
          have hC := (Step.refl w8 [s + 1 + 1]).setCell (p := ⟨s + 1 + 1, 5, none⟩) (by simp) (.bool q)
          have hP := Step.putObj ((w8.setCell ⟨s + 1 + 1, 5, none⟩ (.bool q)).drew) (s + 7) (.deferred none)
          have hZ6 : s + 7 < w6.heap.size := by have := (Array.getElem?_eq_some_iff.1 hD6).1; omega
          have h2F : s + 1 + 1 ∉ F8 := hS8.notin hR6.lt hnG.1
          have h7F : s + 7 ∉ F8 := hS8.notin hZ6 (by rw [← hz3]; exact hnG.2.2)
          have hTa : Step w1 w8 F F8 := ((hS5.trans (Step.of_below hb6 G4)).trans (Step.of_below ((Below.refl _ _).drew) G4)).trans hS8
          have hTb : Step w1 (w8.setCell ⟨s + 1 + 1, 5, none⟩ (.bool q)).drew F F8 := (hTa.on hC (fun x hx => .inr (by simp only [List.mem_singleton] at hx; omega)) (fun x hx => .inl hx)).trans (Step.of_below ((Below.refl _ _).drew) F8)
          have hTc := hTb.on (F' := F8) hP (fun x hx => .inr (by simp only [List.mem_singleton] at hx; omega)) (fun x hx => .inl hx)
          have hMc := ((hM8.step hC (fun k hk he => h2F (by simp only [List.mem_singleton] at he; rwa [he] at hk))).below ((Below.refl _ _).drew)).step hP (fun k hk he => h7F (by simp only [List.mem_singleton] at he; rwa [he] at hk))
          have hnb : ∀ k, (Value.slice Av res.1.length cv).ownBlock = some k → k ≠ s + 1 + 1 := fun k hk e => own_blk_ne hO8 hR8 (by decide) (e ▸ hk)
          have hn7 : ∀ k, (Value.slice Av res.1.length cv).ownBlock = some k → k ≠ s + 7 := fun k hk e => by
            rcases hO8.2 with ⟨e2, _⟩ | ⟨g, cap, cur, e2, _, hh, _⟩
            · rw [e2] at hk; cases hk
            · rw [e2] at hk
              have e3 : g = k := by simpa [Value.ownBlock] using hk
              rw [e3, e, ← hz3, hD8] at hh; cases hh
          have hRc := hP.blk (hR8.set_ 5 (.bool q)).drew (by simp only [List.mem_singleton]; omega)
          have hOc := hP.owns ((Step.of_below ((Below.refl _ _).drew) []).owns (hC.owns hO8 (fun k hk he => hnb k hk (by simpa using he))) (by simp)) (fun k hk he => hn7 k hk (by simpa using he))
          have hqe : decide (Bs.drop res.2 = endB res.1 res.2) = q := by
            rw [← HQ.out, HE.out, List.take_of_length_le (by rw [List.length_drop]; omega)]
          refine ⟨s + 1 + 1, _, rfl, by omega, ?_, hvg, F8, L4 + 1, by omega, hMc, hTc, h2F, fun k hk => hS8.notin (hO6.lt k hk).2 (hnv k hk)⟩
          rw [hqe]
          exact ⟨hRc, hOc⟩
      · have hd : (((Bs.length : Int) - (res.2 : Int)) == (eB.length : Int)) = false := by simp; omega
        rw [hd]
        go_wp2_with fail
        have hDf : (w6.drew).heap[s + 7]? = some (.deferred (some [])) := by rw [← hz3]; exact hD6
        refine ⟨(fun h => by cases h), .inl ⟨_, _, rfl, run_takeDeferred hDf, _, results_tmp2 rfl _ _ _, ?_⟩⟩
        have hP := Step.putObj (w6.drew) (s + 7) (.deferred none)
        have h7G : s + 7 ∉ G4 := by rw [← hz3]; exact hnG.2.2
        have hTb : Step w1 w6.drew F G4 := (hS5.trans (Step.of_below hb6 G4)).trans (Step.of_below ((Below.refl _ _).drew) G4)
        have hTc := hTb.on (F' := G4) hP (fun x hx => .inr (by simp only [List.mem_singleton] at hx; omega)) (fun x hx => .inl hx)
        have hMc := (hM6.below ((Below.refl _ _).drew)).step hP (fun k hk he => h7G (by simp only [List.mem_singleton] at he; rwa [he] at hk))
        have hn7 : ∀ k, (Value.slice Av res.1.length cv).ownBlock = some k → k ≠ s + 7 := fun k hk e => by
          rcases hO6.2 with ⟨e2, _⟩ | ⟨g, cap, cur, e2, _, hh, _⟩
          · rw [e2] at hk; cases hk
          · rw [e2] at hk
            have e3 : g = k := by simpa [Value.ownBlock] using hk
            rw [e3, e, ← hz3, hD6] at hh; cases hh
        have hRc := hP.blk hR6.drew (by simp only [List.mem_singleton]; omega)
        have hOc := hP.owns ((Step.of_below ((Below.refl _ _).drew) []).owns hO6 (by simp)) (fun k hk he => hn7 k hk (by simpa using he))
        have hqe : decide (Bs.drop res.2 = endB res.1 res.2) = false := by
          rw [HE.out]
          simp only [decide_eq_false_iff_not]
          intro e
          have := congrArg List.length e
          rw [List.length_drop] at this
          have := HF.out.2.2
          omega
        refine ⟨s + 1 + 1, _, rfl, by omega, ?_, hvg, G4, L4, by omega, hMc, hTc, hnG.1, hnv⟩
        rw [hqe]
        exact ⟨hRc, hOc⟩
end Go.Proofs.YtjmnomohmijbpaaDoor
