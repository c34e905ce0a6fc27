/- (*reel.Reel).chain$1: along the chain. (Printed by chain_gen.py.) -/
import Derived.Test.YtjmnomohmijbpaaDoorChainF
import Derived.WalkMore
namespace Go.Proofs.YtjmnomohmijbpaaDoor
open Go.RowKit
def ChJ (c : Ctx) (w0 : World) (F0 : List Nat) (Lg : Nat) (res : List Rcp × Nat) (a : Act) (w' : World) : Prop :=
  ∃ (j : Nat → Value) (i at_ fuel : Nat) (G : List Nat) (v : Value) (pre : List Rcp) (Lg' beh : Nat), a = ⟨#[Value.func (.yield c.l) #[] #[], Value.pointer (some ⟨c.B1, 0, none⟩), Value.pointer (some ⟨c.B2, 0, none⟩), Value.pointer (some ⟨c.B3, 0, none⟩), (j 4), Value.int IntKind.i64 (i : Int), (j 6), (j 7), (j 8), (j 9), (j 10), (j 11), (j 12), (j 13), (j 14), (j 15), (j 16), (j 17), (j 18), (j 19), (j 20), (j 21), (j 22), (j 23), (j 24), (j 25), (j 26), (j 27), (j 28), (j 29), (j 30), (j 31), (j 32), (j 33), (j 34), (j 35), (j 36), (j 37), (j 38), (j 39), (j 40), (j 41), (j 42), (j 43), (j 44), (j 45), (j 46), (j 47), (j 48), (j 49), (j 50), (j 51), (j 52), (j 53), (j 54), (j 55), (j 56), (j 57), (j 58), (j 59), (j 60), (j 61), (j 62), (j 63), (j 64), (j 65), (j 66), (j 67), (j 68), (j 69), (j 70)], []⟩ ∧ ChT c w0 F0 w' G v pre at_ Lg' beh ∧ pre.length = i ∧ i ≤ 100000 ∧ at_ ≤ c.bs.length ∧ Lg' ≤ Lg + i ∧ c.bs.length < fuel + at_ ∧
    (pre ++ (chainP c.bs fuel i at_).1, (chainP c.bs fuel i at_).2) = res
theorem ChJ.intro {c : Ctx} {w0 : World} {F0 : List Nat} {Lg : Nat} {res : List Rcp × Nat} {j4 j6 j7 j8 j9 j10 j11 j12 j13 j14 j15 j16 j17 j18 j19 j20 j21 j22 j23 j24 j25 j26 j27 j28 j29 j30 j31 j32 j33 j34 j35 j36 j37 j38 j39 j40 j41 j42 j43 j44 j45 j46 j47 j48 j49 j50 j51 j52 j53 j54 j55 j56 j57 j58 j59 j60 j61 j62 j63 j64 j65 j66 j67 j68 j69 j70 : Value} {i at_ fuel : Nat} {G : List Nat} {v : Value} {pre : List Rcp} {Lg' beh : Nat} {w' : World} (h : ChT c w0 F0 w' G v pre at_ Lg' beh ∧ pre.length = i ∧ i ≤ 100000 ∧ at_ ≤ c.bs.length ∧ Lg' ≤ Lg + i ∧ c.bs.length < fuel + at_ ∧
    (pre ++ (chainP c.bs fuel i at_).1, (chainP c.bs fuel i at_).2) = res) : ChJ c w0 F0 Lg res ⟨#[Value.func (.yield c.l) #[] #[], Value.pointer (some ⟨c.B1, 0, none⟩), Value.pointer (some ⟨c.B2, 0, none⟩), Value.pointer (some ⟨c.B3, 0, none⟩), j4, Value.int IntKind.i64 (i : Int), j6, j7, j8, j9, j10, j11, j12, j13, j14, j15, j16, j17, j18, j19, j20, j21, j22, j23, j24, j25, j26, j27, j28, j29, j30, j31, j32, j33, j34, j35, j36, j37, j38, j39, j40, j41, j42, j43, j44, j45, j46, j47, j48, j49, j50, j51, j52, j53, j54, j55, j56, j57, j58, j59, j60, j61, j62, j63, j64, j65, j66, j67, j68, j69, j70], []⟩ w' :=
  ⟨fun k => (#[undef, undef, undef, undef, j4, undef, j6, j7, j8, j9, j10, j11, j12, j13, j14, j15, j16, j17, j18, j19, j20, j21, j22, j23, j24, j25, j26, j27, j28, j29, j30, j31, j32, j33, j34, j35, j36, j37, j38, j39, j40, j41, j42, j43, j44, j45, j46, j47, j48, j49, j50, j51, j52, j53, j54, j55, j56, j57, j58, j59, j60, j61, j62, j63, j64, j65, j66, j67, j68, j69, j70] : Array Value).getD k undef, i, at_, fuel, G, v, pre, Lg', beh, rfl, h⟩
def ChEnd (c : Ctx) (w0 : World) (F0 : List Nat) (Lg : Nat) (res : List Rcp × Nat) (w' : World) : Prop := ∃ G' v' Lg' at', Lg' ≤ Lg + 100001 ∧ ChT c w0 F0 w' G' v' res.1 at' Lg' res.2
set_option maxRecDepth 100000 in
set_option maxHeartbeats 4000000 in
theorem chain_any (c : Ctx) (w0 : World) (F0 : List Nat) (w : World) (G : List Nat) (v : Value) (Lg beh at0 : Nat) (res : List Rcp × Nat) (h : ChT c w0 F0 w G v [] at0 Lg beh) (hg : CGe c w0) (hb28 : c.bs.length ≤ 268435456) (hL : Lg ≤ 100000000) (hat : at0 ≤ c.bs.length)
    (hres : chainP c.bs (c.bs.length + 1) 0 at0 = res)
    (hY : ∀ (W : World) (G : List Nat) (v : Value) (pre : List Rcp) (at_ Lg beh n : Nat), ChT c w0 F0 W G v pre at_ Lg beh → pre.length < 100000 → YieldAt Fence.wide 0 Tryd.prog c.l #[rcpV ⟨pre.length, at_ + 16, n⟩] W (fun e W' => e = .returned (.bool true) ∧ ∃ v', ChT c w0 F0 W' G v' (pre ++ [⟨pre.length, at_ + 16, n⟩]) at_ Lg beh)) :
    Calls Tryd.prog 30 #[.func (.yield c.l) #[] #[], .pointer (some ⟨c.B1, 0, none⟩), .pointer (some ⟨c.B2, 0, none⟩), .pointer (some ⟨c.B3, 0, none⟩)] w fun e w' => (∃ x, e = .returned x) ∧ ChEnd c w0 F0 Lg res w' := by
  go_enter Tryd.func30, Tryd.ntmps30
  refine wp_scope_head 0 (ChJ c w0 F0 Lg res) (fun a _ => 100000 - (intOf (a.tmps.getD 5 undef)).toNat) rfl ?_ ?_
  · intro K hK
    have hk := hK
    go_wp2_with fail
    exact ChJ.intro (i := 0) (fuel := c.bs.length + 1) ⟨h, rfl, by omega, hat, by omega, by omega, (by rw [hres]; rfl)⟩
  · rintro a w1 ⟨j, _, at_, fuel, G, v, pre, Lg', beh, rfl, hT, rfl, hi, hatb, hLg, hfuel, hch⟩
    have k1 := hT.st.b1.cell_some (i := 0) (v := .int .i64 at_) rfl
    have k2 := hT.st.b2.cell_some (i := 0) (v := .pointer (some ⟨c.b, 0, none⟩)) rfl
    have kb := hT.st.reel.blk.cell_some (i := 6) (v := .int .i64 beh) rfl
    have fb := hT.st.reel.blk.frozen 6
    have hT1 := hT.behind hg at_
    obtain ⟨fuel', rfl⟩ : ∃ f, fuel = f + 1 := ⟨fuel - 1, by omega⟩
    by_cases hi1 : pre.length = 100000
    · have hch1 : (pre, at_) = res := by rw [← hch, hi1]; simp [chainP]
      have hid : ((pre.length : Int) == 100000) = true := by rw [hi1]; rfl
      go_wp2_with fail
      simp only [Exit.jump]
      refine bodyPost_ret (results_none rfl _ _ _) rfl ⟨⟨_, rfl⟩, ?_⟩
      rw [← hch1]
      exact ⟨G, v, Lg', at_, by omega, hT1⟩
    · have hid : ((pre.length : Int) == 100000) = false := by simp; omega
      go_wp2_with fail
      generalize hW : w1.setCell ⟨c.b, 6, none⟩ (.int .i64 at_) = wS at *
      have hT2 := hT1.below ((Below.refl _ _).drew)
      have hcall := read_chainT hT2 hb28 (by omega)
      refine wp_region_inv (by kernel_rfl) (by kernel_rfl) (ChAI c w0 F0 v pre at_ Lg' pre.length wS.drew) ?_ ?_ ?_
      · exact ChAI.intro (D := fun _ => false) { rd := hT2.reads, st := fun _ => rfl, f0 := fun h => (by cases h), f1 := fun h => (by cases h), f2 := fun h => (by cases h), f3 := fun h => (by cases h), f4 := fun h => (by cases h), f5 := fun h => (by cases h), f6 := fun h => (by cases h), f7 := fun h => (by cases h), f8 := fun h => (by cases h), f9 := fun h => (by cases h), f10 := fun h => (by cases h) }
      · intro D a w1 i o hI ho hD hE
        obtain ⟨j, u6, u7, u15, u16, u17, u18, u19, u20, u21, u22, u23, rfl, F⟩ := hI
        have k1 := F.rd.k1
        have k2 := F.rd.k2
        have kb := F.rd.kb
        match i, ho, hD, hE with
        | 0, ho, hD, hE =>
          obtain rfl := Option.some.inj ho
          refine wpOp_of rfl rfl ?_
          go_simp
          exact ⟨j, _, _, _, _, _, _, _, _, _, _, _, rfl, F.set0 rfl⟩
        | 1, ho, hD, hE =>
          obtain rfl := Option.some.inj ho
          have e0 : D 0 = true := hE ⟨0, .data⟩ (by simp) rfl
          obtain rfl := F.f0 e0
          refine wpOp_of rfl rfl ?_
          go_simp
          exact ⟨j, _, _, _, _, _, _, _, _, _, _, _, rfl, F.set1 rfl⟩
        | 2, ho, hD, hE =>
          obtain rfl := Option.some.inj ho
          have e1 : D 1 = true := hE ⟨1, .data⟩ (by simp) rfl
          obtain rfl := F.f1 e1
          refine wpOp_of rfl rfl ?_
          go_simp
          exact ⟨j, _, _, _, _, _, _, _, _, _, _, _, rfl, F.set2 rfl⟩
        | 3, ho, hD, hE =>
          obtain rfl := Option.some.inj ho
          have e2 : D 2 = true := hE ⟨2, .data⟩ (by simp) rfl
          obtain rfl := F.f2 e2
          refine wpOp_of rfl rfl ?_
          go_simp
          exact ⟨j, _, _, _, _, _, _, _, _, _, _, _, rfl, F.set3 rfl⟩
        | 4, ho, hD, hE =>
          obtain rfl := Option.some.inj ho
          refine wpOp_of rfl rfl ?_
          go_simp
          exact ⟨j, _, _, _, _, _, _, _, _, _, _, _, rfl, F.set4 rfl⟩
        | 5, ho, hD, hE =>
          obtain rfl := Option.some.inj ho
          have e3 : D 3 = true := hE ⟨3, .data⟩ (by simp) rfl
          obtain rfl := F.f3 e3
          have e4 : D 4 = true := hE ⟨4, .data⟩ (by simp) rfl
          obtain rfl := F.f4 e4
          refine wpOp_of rfl rfl ?_
          have e0 := F.st hD
          subst e0
          go_simp
          refine hcall.mono ?_
          rintro e w2 ⟨x, rfl, hx⟩
          exact ⟨j, _, _, _, _, _, _, _, _, _, _, _, rfl, F.setw5 hD (hx.elim fun F2 h => h.1.reads) ⟨x, rfl, hx⟩⟩
        | 6, ho, hD, hE =>
          obtain rfl := Option.some.inj ho
          have e5 : D 5 = true := hE ⟨5, .data⟩ (by simp) rfl
          obtain ⟨x, rfl, hx⟩ := F.f5 e5
          refine wpOp_of rfl rfl ?_
          go_simp
          exact ⟨j, _, _, _, _, _, _, _, _, _, _, _, rfl, F.set6 e5 ⟨x, rfl, hx⟩⟩
        | 7, ho, hD, hE =>
          obtain rfl := Option.some.inj ho
          have e6 : D 6 = true := hE ⟨6, .data⟩ (by simp) rfl
          obtain ⟨e5, x, rfl, hx⟩ := F.f6 e6
          refine wpOp_of rfl rfl ?_
          go_simp
          exact ⟨j, _, _, _, _, _, _, _, _, _, _, _, rfl, F.set7 e5 hx⟩
        | 8, ho, hD, hE =>
          obtain rfl := Option.some.inj ho
          have e6 : D 6 = true := hE ⟨6, .data⟩ (by simp) rfl
          obtain ⟨e5, x, rfl, hx⟩ := F.f6 e6
          refine wpOp_of rfl rfl ?_
          go_simp
          exact ⟨j, _, _, _, _, _, _, _, _, _, _, _, rfl, F.set8 rfl⟩
        | 9, ho, hD, hE =>
          obtain rfl := Option.some.inj ho
          have e7 : D 7 = true := hE ⟨7, .data⟩ (by simp) rfl
          obtain ⟨e5, hx⟩ := F.f7 e7
          refine wpOp_of rfl rfl ?_
          go_simp
          exact ⟨j, _, _, _, _, _, _, _, _, _, _, _, rfl, F.set9 e5 hx⟩
        | 10, ho, hD, hE =>
          obtain rfl := Option.some.inj ho
          have e8 : D 8 = true := hE ⟨8, .data⟩ (by simp) rfl
          obtain rfl := F.f8 e8
          refine wpOp_of rfl rfl ?_
          go_simp
          exact ⟨j, _, _, _, _, _, _, _, _, _, _, _, rfl, F.set10 rfl⟩
        | n + 11, ho, hD, hE => simp at ho
      · intro D a w3 hI hall
        obtain ⟨j, u6, u7, u15, u16, u17, u18, u19, u20, u21, u22, u23, rfl, F⟩ := hI
        obtain ⟨_, G3, hT3, hx⟩ := F.f9 (hall 9 (by simp))
        obtain rfl := F.f10 (hall 10 (by simp))
        clear F hall
        rcases hx with ⟨hs, rfl⟩ | ⟨hs, A, rfl, hRb⟩
        · have kE := hT3.st.b3.cell_some (i := 0) (v := .pointer (some ⟨c.E, 0, none⟩)) rfl
          have kE2 := hT3.st.e.cell_some (i := 0) (v := .int .i64 0) rfl
          have fE := hT3.st.e.frozen 0
          have hch1 : (pre, at_) = res := by rw [← hch]; simp [chainP, hs]
          have hT4 := hT3.err hg
          clear hY hcall
          go_wp2_with fail
          simp only [Exit.jump]
          refine bodyPost_ret (results_none rfl _ _ _) rfl ⟨⟨_, rfl⟩, ?_⟩
          rw [← hch1]
          exact ⟨G3, v, Lg' + 1, at_, by omega, hT4⟩
        · obtain ⟨bb, oo, rfl, _, _⟩ := Reads.plain hRb (by omega) (by omega)
          obtain ⟨b16, hb16⟩ : ∃ b, (c.bs.drop at_).take 16 = b := ⟨_, rfl⟩
          rw [hb16] at hRb
          have hr8 : RBytes w3 w3.heap.size (some ⟨bb, oo + 8, none⟩) 8 (b16.drop 8) := by
            have := reads_sub hRb (i := 8) (k := 8) (by omega) (Nat.le_refl 16)
            rw [if_neg (by decide), List.take_of_length_le (by have := hRb.len; rw [List.length_drop]; omega)] at this
            simpa only [Option.map_some, add_plain] using this
          have hn8 : four4 (b16.drop 8) = four4 (c.bs.drop (at_ + 8)) := by
            unfold four4
            rw [← hb16, List.drop_take, List.take_take, List.drop_drop]
            rfl
          obtain ⟨n, hn⟩ : ∃ n, four4 (b16.drop 8) = n := ⟨_, rfl⟩
          have hn4 : n < 4294967296 := by
            rw [← hn]
            have h := numB_lt ((b16.drop 8).take 4)
            have hl : ((b16.drop 8).take 4).length ≤ 4 := by rw [List.length_take]; omega
            exact Nat.lt_of_lt_of_le h (Nat.pow_le_pow_right (by omega) (by omega : 8 * ((b16.drop 8).take 4).length ≤ 32))
          have hcn := four4_any (b16.drop 8) (some ⟨bb, oo + 8, none⟩) 8 8 w3 hr8 (by omega) (Nat.le_refl _)
          rw [hn] at hcn
          rw [hn] at hn8
          have HY := Lib.hid hY; have Hn8 := Lib.hid hn8; have Hch := Lib.hid hch
          clear hY hcall hn8 hch
          go_wp2_with fail
          refine hcn.mono ?_
          rintro e w4 ⟨rfl, rfl⟩
          clear hcn
          go_wp2_with fail
          have hTd := hT3.below ((Below.refl _ _).drew)
          have hRd : RBytes w4.drew w4.drew.heap.size (some ⟨bb, oo, none⟩) 16 b16 := hRb.drew
          have hi4 : pre.length < 4294967296 := by omega
          by_cases heq : b16 = linkB pre.length n
          · by_cases hle : at_ + 16 + n ≤ c.bs.length
            · have hch2 : ((pre ++ [⟨pre.length, at_ + 16, n⟩]) ++ (chainP c.bs fuel' (pre.length + 1) (at_ + 16 + n)).1, (chainP c.bs fuel' (pre.length + 1) (at_ + 16 + n)).2) = res := by
                rw [← Hch.out, chainP, if_neg (by omega), ← Hn8.out, hb16, if_pos ⟨heq, hle⟩]
                simp
              have hpre100 : pre.length < 100000 := by omega
              have hdl : decide ((n : Int) > (c.bs.length : Int) - (at_ : Int) - 16) = false := by simp; omega
              have heq' : decide (b16 = linkB pre.length n) = true := decide_eq_true heq
              have hY := HY.out
              refine (wpIn_wide (n := 1)).1 (wpIn_region_inv (by kernel_rfl) (by kernel_rfl) (ChYI c w0 F0 G3 v pre at_ (Lg' + 1) pre.length n (some ⟨bb, oo, none⟩) b16) ?_ ?_ ?_)
              · exact ChYI.intro (D := fun _ => false) { rd := hTd.reads, st := fun _ => ⟨hTd, hRd⟩, f0 := fun h => (by cases h), f1 := fun h => (by cases h), f2 := fun h => (by cases h), f3 := fun h => (by cases h), f4 := fun h => (by cases h), f5 := fun h => (by cases h), f6 := fun h => (by cases h), f7 := fun h => (by cases h), f8 := fun h => (by cases h), f9 := fun h => (by cases h), f10 := fun h => (by cases h), f11 := fun h => (by cases h), f12 := fun h => (by cases h), f13 := fun h => (by cases h), f14 := fun h => (by cases h), f15 := fun h => (by cases h), f16 := fun h => (by cases h), f17 := fun h => (by cases h), f18 := fun h => (by cases h), f19 := fun h => (by cases h), f20 := fun h => (by cases h), f21 := fun h => (by cases h), f22 := fun h => (by cases h), f23 := fun h => (by cases h), f24 := fun h => (by cases h), f25 := fun h => (by cases h), f26 := fun h => (by cases h), f27 := fun h => (by cases h) }
              · intro D a w1 i o hI ho hD hE
                obtain ⟨j, u37, u38, u39, u40, u41, u42, u43, u44, u45, u46, u47, u48, u49, u50, u51, u52, u53, u54, u55, u56, u57, u58, u59, u60, u61, u62, u63, u64, rfl, F⟩ := hI
                clear h hg hL hat hres HY hT hLg k1 k2 kb fb hfuel Hch hi1 hid hW hT1 hT2 hT3 hRb hr8 hb16 Hn8 hn hTd hRd heq hle hch2
                obtain ⟨k1, k2, kb, hmed⟩ := F.rd
                match i, ho, hD, hE with
                | 0, ho, hD, hE =>
                  obtain rfl := Option.some.inj ho
                  refine wpOpIn_on rfl (by simp [Region.wanted, yielded]) (wpIn_of_wp ?_)
                  go_simp
                  exact ⟨j, _, _, _, _, _, _, _, _, _, _, _, _, _, _, _, _, _, _, _, _, _, _, _, _, _, _, _, _, rfl, F.set0 rfl⟩
                | 1, ho, hD, hE =>
                  obtain rfl := Option.some.inj ho
                  refine wpOpIn_on rfl (by simp [Region.wanted, yielded]) (wpIn_of_wp ?_)
                  go_simp
                  exact ⟨j, _, _, _, _, _, _, _, _, _, _, _, _, _, _, _, _, _, _, _, _, _, _, _, _, _, _, _, _, rfl, F.set1 rfl⟩
                | 2, ho, hD, hE =>
                  obtain rfl := Option.some.inj ho
                  refine wpOpIn_on rfl (by simp [Region.wanted, yielded]) (wpIn_of_wp ?_)
                  go_simp
                  exact ⟨j, _, _, _, _, _, _, _, _, _, _, _, _, _, _, _, _, _, _, _, _, _, _, _, _, _, _, _, _, rfl, F.set2 rfl⟩
                | 3, ho, hD, hE =>
                  obtain rfl := Option.some.inj ho
                  have e1 : D 1 = true := hE ⟨1, .data⟩ (by simp) rfl
                  obtain rfl := F.f1 e1
                  have e2 : D 2 = true := hE ⟨2, .data⟩ (by simp) rfl
                  obtain rfl := F.f2 e2
                  refine wpOpIn_on rfl (by simp [Region.wanted, yielded]) (wpIn_of_wp ?_)
                  go_simp
                  refine (link_any (pre.length : Int) (n : Int) (by omega) (by omega) (by omega) (by omega) w1).mono ?_
                  rintro e w2 ⟨v2, rfl, hf, hb⟩
                  simp only [Int.toNat_natCast] at hf
                  cases h25 : D 25 with
                  | false =>
                    have hS := F.st h25
                    exact ⟨j, _, _, _, _, _, _, _, _, _, _, _, _, _, _, _, _, _, _, _, _, _, _, _, _, _, _, _, _, rfl, F.setw3 hD ((hS.1.below hb).reads) (fun _ => ⟨hS.1.below hb, Reads.more (Reads.below hS.2 hb) hb.size⟩) (fun _ => hf.mono (Nat.zero_le _))⟩
                  | true => exact absurd (F.f4 (F.f25 h25).1).1 (by rw [hD]; decide)
                | 4, ho, hD, hE =>
                  obtain rfl := Option.some.inj ho
                  have e0 : D 0 = true := hE ⟨0, .data⟩ (by simp) rfl
                  obtain rfl := F.f0 e0
                  have e3 : D 3 = true := hE ⟨3, .data⟩ (by simp) rfl
                  cases h25 : D 25 with
                  | true => exact absurd (F.f25 h25).1 (by rw [hD]; decide)
                  | false =>
                    have hf3 := F.f3 e3 h25
                    have hrb := (F.st h25).2
                    obtain ⟨g3, q3, rfl, _, hf3⟩ := hf3.reads
                    refine wpOpIn_on rfl (by simp [Region.wanted, yielded]) (wpIn_of_wp ?_)
                    go_simp
                    refine (equal_any b16 (linkB pre.length n) (some ⟨bb, oo, none⟩) (some ⟨g3, 0, none⟩) _ _ _ _ _ hrb hf3).mono ?_
                    rw [heq']
                    rintro e w2 ⟨rfl, rfl⟩
                    exact ⟨j, _, _, _, _, _, _, _, _, _, _, _, _, _, _, _, _, _, _, _, _, _, _, _, _, _, _, _, _, rfl, F.set4 e3 rfl⟩
                | 5, ho, hD, hE =>
                  obtain rfl := Option.some.inj ho
                  have e4 : D 4 = true := hE ⟨4, .data⟩ (by simp) rfl
                  obtain ⟨ow4, rfl⟩ := F.f4 e4
                  refine wpOpIn_on rfl (by simp [Region.wanted, yielded]) (wpIn_of_wp ?_)
                  go_simp
                  exact ⟨j, _, _, _, _, _, _, _, _, _, _, _, _, _, _, _, _, _, _, _, _, _, _, _, _, _, _, _, _, rfl, F.set5 (by assumption) rfl⟩
                | 6, ho, hD, hE =>
                  obtain rfl := Option.some.inj ho
                  have e5 : D 5 = true := hE ⟨5, .data⟩ (by simp) rfl
                  obtain ⟨ow5, rfl⟩ := F.f5 e5
                  refine wpOpIn_on rfl (by simp [Region.wanted, yielded]) (wpIn_of_wp ?_)
                  go_simp
                  exact ⟨j, _, _, _, _, _, _, _, _, _, _, _, _, _, _, _, _, _, _, _, _, _, _, _, _, _, _, _, _, rfl, F.set6 (by assumption) rfl⟩
                | 7, ho, hD, hE =>
                  obtain rfl := Option.some.inj ho
                  have e6 : D 6 = true := hE ⟨6, .guard⟩ (by simp) rfl
                  obtain ⟨ow6, rfl⟩ := F.f6 e6
                  refine wpOpIn_on rfl (by simp [Region.wanted, yielded]) (wpIn_of_wp ?_)
                  go_simp
                  exact ⟨j, _, _, _, _, _, _, _, _, _, _, _, _, _, _, _, _, _, _, _, _, _, _, _, _, _, _, _, _, rfl, F.set7 rfl⟩
                | 8, ho, hD, hE =>
                  obtain rfl := Option.some.inj ho
                  have e6 : D 6 = true := hE ⟨6, .guard⟩ (by simp) rfl
                  obtain ⟨ow6, rfl⟩ := F.f6 e6
                  refine wpOpIn_on rfl (by simp [Region.wanted, yielded]) (wpIn_of_wp ?_)
                  go_simp
                  exact ⟨j, _, _, _, _, _, _, _, _, _, _, _, _, _, _, _, _, _, _, _, _, _, _, _, _, _, _, _, _, rfl, F.set8 rfl⟩
                | 9, ho, hD, hE =>
                  obtain rfl := Option.some.inj ho
                  have e8 : D 8 = true := hE ⟨8, .data⟩ (by simp) rfl
                  obtain rfl := F.f8 e8
                  have e6 : D 6 = true := hE ⟨6, .guard⟩ (by simp) rfl
                  obtain ⟨ow6, rfl⟩ := F.f6 e6
                  refine wpOpIn_on rfl (by simp [Region.wanted, yielded]) (wpIn_of_wp ?_)
                  go_simp
                  exact ⟨j, _, _, _, _, _, _, _, _, _, _, _, _, _, _, _, _, _, _, _, _, _, _, _, _, _, _, _, _, rfl, F.set9 rfl⟩
                | 10, ho, hD, hE =>
                  obtain rfl := Option.some.inj ho
                  have e9 : D 9 = true := hE ⟨9, .data⟩ (by simp) rfl
                  obtain rfl := F.f9 e9
                  have e6 : D 6 = true := hE ⟨6, .guard⟩ (by simp) rfl
                  obtain ⟨ow6, rfl⟩ := F.f6 e6
                  refine wpOpIn_on rfl (by simp [Region.wanted, yielded]) (wpIn_of_wp ?_)
                  go_simp
                  exact ⟨j, _, _, _, _, _, _, _, _, _, _, _, _, _, _, _, _, _, _, _, _, _, _, _, _, _, _, _, _, rfl, F.set10 rfl⟩
                | 11, ho, hD, hE =>
                  obtain rfl := Option.some.inj ho
                  have e10 : D 10 = true := hE ⟨10, .data⟩ (by simp) rfl
                  obtain rfl := F.f10 e10
                  have e6 : D 6 = true := hE ⟨6, .guard⟩ (by simp) rfl
                  obtain ⟨ow6, rfl⟩ := F.f6 e6
                  refine wpOpIn_on rfl (by simp [Region.wanted, yielded]) (wpIn_of_wp ?_)
                  go_simp
                  exact ⟨j, _, _, _, _, _, _, _, _, _, _, _, _, _, _, _, _, _, _, _, _, _, _, _, _, _, _, _, _, rfl, F.set11 rfl⟩
                | 12, ho, hD, hE =>
                  obtain rfl := Option.some.inj ho
                  have e11 : D 11 = true := hE ⟨11, .data⟩ (by simp) rfl
                  obtain rfl := F.f11 e11
                  have e6 : D 6 = true := hE ⟨6, .guard⟩ (by simp) rfl
                  obtain ⟨ow6, rfl⟩ := F.f6 e6
                  obtain ⟨Fm, Lm, hmd⟩ := F.rd.med
                  refine wpOpIn_on rfl (by simp [Region.wanted, yielded]) (wpIn_of_wp ?_)
                  go_simp
                  refine (size_any c.m Fm c.bs Lm _ hmd).mono ?_
                  rintro e w2 ⟨rfl, rfl⟩
                  exact ⟨j, _, _, _, _, _, _, _, _, _, _, _, _, _, _, _, _, _, _, _, _, _, _, _, _, _, _, _, _, rfl, F.set12 rfl⟩
                | 13, ho, hD, hE =>
                  obtain rfl := Option.some.inj ho
                  have e6 : D 6 = true := hE ⟨6, .guard⟩ (by simp) rfl
                  obtain ⟨ow6, rfl⟩ := F.f6 e6
                  refine wpOpIn_on rfl (by simp [Region.wanted, yielded]) (wpIn_of_wp ?_)
                  go_simp
                  exact ⟨j, _, _, _, _, _, _, _, _, _, _, _, _, _, _, _, _, _, _, _, _, _, _, _, _, _, _, _, _, rfl, F.set13 rfl⟩
                | 14, ho, hD, hE =>
                  obtain rfl := Option.some.inj ho
                  have e12 : D 12 = true := hE ⟨12, .data⟩ (by simp) rfl
                  obtain rfl := F.f12 e12
                  have e13 : D 13 = true := hE ⟨13, .data⟩ (by simp) rfl
                  obtain rfl := F.f13 e13
                  have e6 : D 6 = true := hE ⟨6, .guard⟩ (by simp) rfl
                  obtain ⟨ow6, rfl⟩ := F.f6 e6
                  refine wpOpIn_on rfl (by simp [Region.wanted, yielded]) (wpIn_of_wp ?_)
                  go_simp
                  exact ⟨j, _, _, _, _, _, _, _, _, _, _, _, _, _, _, _, _, _, _, _, _, _, _, _, _, _, _, _, _, rfl, F.set14 (int_eq (by rw [IntKind.wrap_i64]; omega))⟩
                | 15, ho, hD, hE =>
                  obtain rfl := Option.some.inj ho
                  have e14 : D 14 = true := hE ⟨14, .data⟩ (by simp) rfl
                  obtain rfl := F.f14 e14
                  have e6 : D 6 = true := hE ⟨6, .guard⟩ (by simp) rfl
                  obtain ⟨ow6, rfl⟩ := F.f6 e6
                  refine wpOpIn_on rfl (by simp [Region.wanted, yielded]) (wpIn_of_wp ?_)
                  go_simp
                  exact ⟨j, _, _, _, _, _, _, _, _, _, _, _, _, _, _, _, _, _, _, _, _, _, _, _, _, _, _, _, _, rfl, F.set15 (int_eq (by rw [IntKind.wrap_i64]; omega))⟩
                | 16, ho, hD, hE =>
                  obtain rfl := Option.some.inj ho
                  have e7 : D 7 = true := hE ⟨7, .data⟩ (by simp) rfl
                  obtain rfl := F.f7 e7
                  have e15 : D 15 = true := hE ⟨15, .data⟩ (by simp) rfl
                  obtain rfl := F.f15 e15
                  have e6 : D 6 = true := hE ⟨6, .guard⟩ (by simp) rfl
                  obtain ⟨ow6, rfl⟩ := F.f6 e6
                  refine wpOpIn_on rfl (by simp [Region.wanted, yielded]) (wpIn_of_wp ?_)
                  go_simp
                  exact ⟨j, _, _, _, _, _, _, _, _, _, _, _, _, _, _, _, _, _, _, _, _, _, _, _, _, _, _, _, _, rfl, F.set16 rfl⟩
                | 17, ho, hD, hE =>
                  obtain rfl := Option.some.inj ho
                  have e6 : D 6 = true := hE ⟨6, .data⟩ (by simp) rfl
                  obtain ⟨ow6, rfl⟩ := F.f6 e6
                  have e16 : D 16 = true := hE ⟨16, .data⟩ (by simp) rfl
                  obtain rfl := F.f16 e16
                  refine wpOpIn_on rfl (by simp [Region.wanted, yielded]) (wpIn_of_wp ?_)
                  go_simp
                  exact ⟨j, _, _, _, _, _, _, _, _, _, _, _, _, _, _, _, _, _, _, _, _, _, _, _, _, _, _, _, _, rfl, F.set17 (by assumption) rfl⟩
                | 18, ho, hD, hE =>
                  obtain rfl := Option.some.inj ho
                  have e17 : D 17 = true := hE ⟨17, .data⟩ (by simp) rfl
                  obtain ⟨ow17, rfl⟩ := F.f17 e17
                  refine wpOpIn_on rfl (by simp [Region.wanted, yielded]) (wpIn_of_wp ?_)
                  go_simp
                  exact ⟨j, _, _, _, _, _, _, _, _, _, _, _, _, _, _, _, _, _, _, _, _, _, _, _, _, _, _, _, _, rfl, F.set18 (by assumption) rfl⟩
                | 19, ho, hD, hE =>
                  obtain rfl := Option.some.inj ho
                  have e18 : D 18 = true := hE ⟨18, .guard⟩ (by simp) rfl
                  obtain ⟨ow18, rfl⟩ := F.f18 e18
                  refine wpOpIn_on rfl (by simp [Region.wanted, yielded]) (wpIn_of_wp ?_)
                  go_simp
                  exact ⟨j, _, _, _, _, _, _, _, _, _, _, _, _, _, _, _, _, _, _, _, _, _, _, _, _, _, _, _, _, rfl, F.set19 rfl⟩
                | 20, ho, hD, hE =>
                  obtain rfl := Option.some.inj ho
                  have e18 : D 18 = true := hE ⟨18, .guard⟩ (by simp) rfl
                  obtain ⟨ow18, rfl⟩ := F.f18 e18
                  refine wpOpIn_on rfl (by simp [Region.wanted, yielded]) (wpIn_of_wp ?_)
                  go_simp
                  exact ⟨j, _, _, _, _, _, _, _, _, _, _, _, _, _, _, _, _, _, _, _, _, _, _, _, _, _, _, _, _, rfl, F.set20 rfl⟩
                | 21, ho, hD, hE =>
                  obtain rfl := Option.some.inj ho
                  have e18 : D 18 = true := hE ⟨18, .guard⟩ (by simp) rfl
                  obtain ⟨ow18, rfl⟩ := F.f18 e18
                  refine wpOpIn_on rfl (by simp [Region.wanted, yielded]) (wpIn_of_wp ?_)
                  go_simp
                  exact ⟨j, _, _, _, _, _, _, _, _, _, _, _, _, _, _, _, _, _, _, _, _, _, _, _, _, _, _, _, _, rfl, F.set21 rfl⟩
                | 22, ho, hD, hE =>
                  obtain rfl := Option.some.inj ho
                  have e21 : D 21 = true := hE ⟨21, .data⟩ (by simp) rfl
                  obtain rfl := F.f21 e21
                  have e18 : D 18 = true := hE ⟨18, .guard⟩ (by simp) rfl
                  obtain ⟨ow18, rfl⟩ := F.f18 e18
                  refine wpOpIn_on rfl (by simp [Region.wanted, yielded]) (wpIn_of_wp ?_)
                  go_simp
                  exact ⟨j, _, _, _, _, _, _, _, _, _, _, _, _, _, _, _, _, _, _, _, _, _, _, _, _, _, _, _, _, rfl, F.set22 (int_eq (by rw [IntKind.wrap_i64]; omega))⟩
                | 23, ho, hD, hE =>
                  obtain rfl := Option.some.inj ho
                  have e18 : D 18 = true := hE ⟨18, .guard⟩ (by simp) rfl
                  obtain ⟨ow18, rfl⟩ := F.f18 e18
                  refine wpOpIn_on rfl (by simp [Region.wanted, yielded]) (wpIn_of_wp ?_)
                  go_simp
                  exact ⟨j, _, _, _, _, _, _, _, _, _, _, _, _, _, _, _, _, _, _, _, _, _, _, _, _, _, _, _, _, rfl, F.set23 rfl⟩
                | 24, ho, hD, hE =>
                  obtain rfl := Option.some.inj ho
                  have e20 : D 20 = true := hE ⟨20, .data⟩ (by simp) rfl
                  obtain rfl := F.f20 e20
                  have e22 : D 22 = true := hE ⟨22, .data⟩ (by simp) rfl
                  obtain rfl := F.f22 e22
                  have e23 : D 23 = true := hE ⟨23, .data⟩ (by simp) rfl
                  obtain rfl := F.f23 e23
                  have e18 : D 18 = true := hE ⟨18, .guard⟩ (by simp) rfl
                  obtain ⟨ow18, rfl⟩ := F.f18 e18
                  refine wpOpIn_on rfl (by simp [Region.wanted, yielded]) (wpIn_of_wp ?_)
                  go_simp
                  exact ⟨j, _, _, _, _, _, _, _, _, _, _, _, _, _, _, _, _, _, _, _, _, _, _, _, _, _, _, _, _, rfl, F.set24 rfl⟩
                | 25, ho, hD, hE =>
                  obtain rfl := Option.some.inj ho
                  have e19 : D 19 = true := hE ⟨19, .data⟩ (by simp) rfl
                  obtain rfl := F.f19 e19
                  have e24 : D 24 = true := hE ⟨24, .data⟩ (by simp) rfl
                  obtain rfl := F.f24 e24
                  have e18 : D 18 = true := hE ⟨18, .guard⟩ (by simp) rfl
                  obtain ⟨ow18, rfl⟩ := F.f18 e18
                  have hS := F.st hD
                  obtain ⟨fn, tmps, assign, body, hy, hR⟩ := hY w1 G3 v pre at_ (Lg' + 1) at_ n hS.1 hpre100
                  refine wpOpIn_on rfl (by simp [Region.wanted, yielded]) ?_
                  have hrc : rcpV ⟨pre.length, at_ + 16, n⟩ = Value.agg #[Value.int IntKind.i64 (pre.length : Int), Value.int IntKind.i64 ((at_ : Int) + 16), Value.int IntKind.i64 (n : Int)] := by
                    show Value.agg #[_, .int .i64 ((at_ + 16 : Nat) : Int), _] = _
                    rw [show ((at_ + 16 : Nat) : Int) = (at_ : Int) + 16 by omega]
                  rw [hrc] at hy
                  go_simp
                  refine hR.mono ?_
                  rintro e w2 ⟨rfl, v', hT'⟩
                  exact ⟨j, _, _, _, _, _, _, _, _, _, _, _, _, _, _, _, _, _, _, _, _, _, _, _, _, _, _, _, _, rfl, F.setw25 hD hT'.reads ow18 ⟨rfl, v', hT'⟩⟩
                | 26, ho, hD, hE =>
                  obtain rfl := Option.some.inj ho
                  have e25 : D 25 = true := hE ⟨25, .data⟩ (by simp) rfl
                  obtain ⟨_, rfl, _⟩ := F.f25 e25
                  have e25 : D 25 = true := hE ⟨25, .data⟩ (by simp) rfl
                  have e18 : D 18 = true := hE ⟨18, .guard⟩ (by simp) rfl
                  obtain ⟨ow18, rfl⟩ := F.f18 e18
                  refine wpOpIn_on rfl (by simp [Region.wanted, yielded]) (wpIn_of_wp ?_)
                  go_simp
                  exact ⟨j, _, _, _, _, _, _, _, _, _, _, _, _, _, _, _, _, _, _, _, _, _, _, _, _, _, _, _, _, rfl, F.set26 rfl⟩
                | 27, ho, hD, hE =>
                  obtain rfl := Option.some.inj ho
                  have e18 : D 18 = true := hE ⟨18, .data⟩ (by simp) rfl
                  obtain ⟨ow18, rfl⟩ := F.f18 e18
                  have e26 : D 26 = true := hE ⟨26, .data⟩ (by simp) rfl
                  obtain rfl := F.f26 e26
                  refine wpOpIn_on rfl (by simp [Region.wanted, yielded]) (wpIn_of_wp ?_)
                  go_simp
                  exact ⟨j, _, _, _, _, _, _, _, _, _, _, _, _, _, _, _, _, _, _, _, _, _, _, _, _, _, _, _, _, rfl, F.set27 rfl⟩
                | n + 28, ho, hD, hE => simp at ho
              · intro D a w5 hI hall
                obtain ⟨j, u37, u38, u39, u40, u41, u42, u43, u44, u45, u46, u47, u48, u49, u50, u51, u52, u53, u54, u55, u56, u57, u58, u59, u60, u61, u62, u63, u64, rfl, F⟩ := hI
                obtain ⟨_, rfl, v5, hT5⟩ := F.f25 (hall 25 (by simp))
                obtain rfl := F.f27 (hall 27 (by simp))
                clear F hall
                have k1 := hT5.st.b1.cell_some (i := 0) (v := .int .i64 at_) rfl
                have f1 := hT5.st.b1.frozen 0
                have hT6 := hT5.place hg (at_ + 16 + n)
                have HY := Lib.hid hY
                clear hY
                go_wp2_with fail
                go_step3
                rw [show (at_ : Int) + (16 + (n : Int)) = ((at_ + 16 + n : Nat) : Int) by omega, show (pre.length : Int) + 1 = ((pre ++ [(⟨pre.length, at_ + 16, n⟩ : Rcp)]).length : Int) by simp]
                refine ⟨rfl, ChJ.intro (fuel := fuel') ⟨hT6, rfl, by simp; omega, by omega, by simp; omega, by omega, ?_⟩, ?_⟩
                · rw [List.length_append]; exact hch2
                · simp [intOf]; omega
            · have hch1 : (pre, at_) = res := by
                rw [← Hch.out, chainP, if_neg (by omega), ← Hn8.out, hb16, if_neg (fun h => hle h.2)]
                simp
              have hdl : decide ((n : Int) > (c.bs.length : Int) - (at_ : Int) - 16) = true := by simp; omega
              have heq' : decide (b16 = linkB pre.length n) = true := decide_eq_true heq
              refine (wpIn_wide (n := 1)).1 (wpIn_region_inv (by kernel_rfl) (by kernel_rfl) (ChMI c w0 F0 G3 v pre at_ (Lg' + 1) pre.length n (some ⟨bb, oo, none⟩) b16) ?_ ?_ ?_)
              · exact ChMI.intro (D := fun _ => false) { rd := hTd.reads, st := ⟨hTd, hRd⟩, f0 := fun h => (by cases h), f1 := fun h => (by cases h), f2 := fun h => (by cases h), f3 := fun h => (by cases h), f4 := fun h => (by cases h), f5 := fun h => (by cases h), f6 := fun h => (by cases h), f7 := fun h => (by cases h), f8 := fun h => (by cases h), f9 := fun h => (by cases h), f10 := fun h => (by cases h), f11 := fun h => (by cases h), f12 := fun h => (by cases h), f13 := fun h => (by cases h), f14 := fun h => (by cases h), f15 := fun h => (by cases h), f16 := fun h => (by cases h), f17 := fun h => (by cases h), f18 := fun h => (by cases h), f19 := fun h => (by cases h), f20 := fun h => (by cases h), f21 := fun h => (by cases h), f22 := fun h => (by cases h), f23 := fun h => (by cases h), f24 := fun h => (by cases h), f25 := fun h => (by cases h), f26 := fun h => (by cases h), f27 := fun h => (by cases h) }
              · intro D a w1 i o hI ho hD hE
                obtain ⟨j, u37, u38, u39, u40, u41, u42, u43, u44, u45, u46, u47, u48, u49, u50, u51, u52, u53, u54, u55, u56, u57, u58, u59, u60, u61, u62, u63, u64, rfl, F⟩ := hI
                clear h hg hL hat hres HY hT hLg k1 k2 kb fb hfuel Hch hi1 hid hW hT1 hT2 hT3 hRb hr8 hb16 Hn8 hn hTd hRd heq hle hch1
                obtain ⟨k1, k2, kb, hmed⟩ := F.rd
                match i, ho, hD, hE with
                | 0, ho, hD, hE =>
                  obtain rfl := Option.some.inj ho
                  refine wpOpIn_on rfl (by simp [Region.wanted, yielded]) (wpIn_of_wp ?_)
                  go_simp
                  exact ⟨j, _, _, _, _, _, _, _, _, _, _, _, _, _, _, _, _, _, _, _, _, _, _, _, _, _, _, _, _, rfl, F.set0 rfl⟩
                | 1, ho, hD, hE =>
                  obtain rfl := Option.some.inj ho
                  refine wpOpIn_on rfl (by simp [Region.wanted, yielded]) (wpIn_of_wp ?_)
                  go_simp
                  exact ⟨j, _, _, _, _, _, _, _, _, _, _, _, _, _, _, _, _, _, _, _, _, _, _, _, _, _, _, _, _, rfl, F.set1 rfl⟩
                | 2, ho, hD, hE =>
                  obtain rfl := Option.some.inj ho
                  refine wpOpIn_on rfl (by simp [Region.wanted, yielded]) (wpIn_of_wp ?_)
                  go_simp
                  exact ⟨j, _, _, _, _, _, _, _, _, _, _, _, _, _, _, _, _, _, _, _, _, _, _, _, _, _, _, _, _, rfl, F.set2 rfl⟩
                | 3, ho, hD, hE =>
                  obtain rfl := Option.some.inj ho
                  have e1 : D 1 = true := hE ⟨1, .data⟩ (by simp) rfl
                  obtain rfl := F.f1 e1
                  have e2 : D 2 = true := hE ⟨2, .data⟩ (by simp) rfl
                  obtain rfl := F.f2 e2
                  refine wpOpIn_on rfl (by simp [Region.wanted, yielded]) (wpIn_of_wp ?_)
                  go_simp
                  refine (link_any (pre.length : Int) (n : Int) (by omega) (by omega) (by omega) (by omega) w1).mono ?_
                  rintro e w2 ⟨v2, rfl, hf, hb⟩
                  simp only [Int.toNat_natCast] at hf
                  exact ⟨j, _, _, _, _, _, _, _, _, _, _, _, _, _, _, _, _, _, _, _, _, _, _, _, _, _, _, _, _, rfl, (F.mono hb).set3 (hf.mono (Nat.zero_le _))⟩
                | 4, ho, hD, hE =>
                  obtain rfl := Option.some.inj ho
                  have e0 : D 0 = true := hE ⟨0, .data⟩ (by simp) rfl
                  obtain rfl := F.f0 e0
                  have e3 : D 3 = true := hE ⟨3, .data⟩ (by simp) rfl
                  have hf3 := F.f3 e3
                  have hrb := F.st.2
                  obtain ⟨g3, q3, rfl, _, hf3⟩ := hf3.reads
                  refine wpOpIn_on rfl (by simp [Region.wanted, yielded]) (wpIn_of_wp ?_)
                  go_simp
                  refine (equal_any b16 (linkB pre.length n) (some ⟨bb, oo, none⟩) (some ⟨g3, 0, none⟩) _ _ _ _ _ hrb hf3).mono ?_
                  rw [heq']
                  rintro e w2 ⟨rfl, rfl⟩
                  exact ⟨j, _, _, _, _, _, _, _, _, _, _, _, _, _, _, _, _, _, _, _, _, _, _, _, _, _, _, _, _, rfl, F.set4 rfl⟩
                | 5, ho, hD, hE =>
                  obtain rfl := Option.some.inj ho
                  have e4 : D 4 = true := hE ⟨4, .data⟩ (by simp) rfl
                  obtain rfl := F.f4 e4
                  refine wpOpIn_on rfl (by simp [Region.wanted, yielded]) (wpIn_of_wp ?_)
                  go_simp
                  exact ⟨j, _, _, _, _, _, _, _, _, _, _, _, _, _, _, _, _, _, _, _, _, _, _, _, _, _, _, _, _, rfl, F.set5 rfl⟩
                | 6, ho, hD, hE =>
                  obtain rfl := Option.some.inj ho
                  have e5 : D 5 = true := hE ⟨5, .data⟩ (by simp) rfl
                  obtain rfl := F.f5 e5
                  refine wpOpIn_on rfl (by simp [Region.wanted, yielded]) (wpIn_of_wp ?_)
                  go_simp
                  exact ⟨j, _, _, _, _, _, _, _, _, _, _, _, _, _, _, _, _, _, _, _, _, _, _, _, _, _, _, _, _, rfl, F.set6 rfl⟩
                | 7, ho, hD, hE =>
                  obtain rfl := Option.some.inj ho
                  have e6 : D 6 = true := hE ⟨6, .guard⟩ (by simp) rfl
                  obtain rfl := F.f6 e6
                  refine wpOpIn_on rfl (by simp [Region.wanted, yielded]) (wpIn_of_wp ?_)
                  go_simp
                  exact ⟨j, _, _, _, _, _, _, _, _, _, _, _, _, _, _, _, _, _, _, _, _, _, _, _, _, _, _, _, _, rfl, F.set7 rfl⟩
                | 8, ho, hD, hE =>
                  obtain rfl := Option.some.inj ho
                  have e6 : D 6 = true := hE ⟨6, .guard⟩ (by simp) rfl
                  obtain rfl := F.f6 e6
                  refine wpOpIn_on rfl (by simp [Region.wanted, yielded]) (wpIn_of_wp ?_)
                  go_simp
                  exact ⟨j, _, _, _, _, _, _, _, _, _, _, _, _, _, _, _, _, _, _, _, _, _, _, _, _, _, _, _, _, rfl, F.set8 rfl⟩
                | 9, ho, hD, hE =>
                  obtain rfl := Option.some.inj ho
                  have e8 : D 8 = true := hE ⟨8, .data⟩ (by simp) rfl
                  obtain rfl := F.f8 e8
                  have e6 : D 6 = true := hE ⟨6, .guard⟩ (by simp) rfl
                  obtain rfl := F.f6 e6
                  refine wpOpIn_on rfl (by simp [Region.wanted, yielded]) (wpIn_of_wp ?_)
                  go_simp
                  exact ⟨j, _, _, _, _, _, _, _, _, _, _, _, _, _, _, _, _, _, _, _, _, _, _, _, _, _, _, _, _, rfl, F.set9 rfl⟩
                | 10, ho, hD, hE =>
                  obtain rfl := Option.some.inj ho
                  have e9 : D 9 = true := hE ⟨9, .data⟩ (by simp) rfl
                  obtain rfl := F.f9 e9
                  have e6 : D 6 = true := hE ⟨6, .guard⟩ (by simp) rfl
                  obtain rfl := F.f6 e6
                  refine wpOpIn_on rfl (by simp [Region.wanted, yielded]) (wpIn_of_wp ?_)
                  go_simp
                  exact ⟨j, _, _, _, _, _, _, _, _, _, _, _, _, _, _, _, _, _, _, _, _, _, _, _, _, _, _, _, _, rfl, F.set10 rfl⟩
                | 11, ho, hD, hE =>
                  obtain rfl := Option.some.inj ho
                  have e10 : D 10 = true := hE ⟨10, .data⟩ (by simp) rfl
                  obtain rfl := F.f10 e10
                  have e6 : D 6 = true := hE ⟨6, .guard⟩ (by simp) rfl
                  obtain rfl := F.f6 e6
                  refine wpOpIn_on rfl (by simp [Region.wanted, yielded]) (wpIn_of_wp ?_)
                  go_simp
                  exact ⟨j, _, _, _, _, _, _, _, _, _, _, _, _, _, _, _, _, _, _, _, _, _, _, _, _, _, _, _, _, rfl, F.set11 rfl⟩
                | 12, ho, hD, hE =>
                  obtain rfl := Option.some.inj ho
                  have e11 : D 11 = true := hE ⟨11, .data⟩ (by simp) rfl
                  obtain rfl := F.f11 e11
                  have e6 : D 6 = true := hE ⟨6, .guard⟩ (by simp) rfl
                  obtain rfl := F.f6 e6
                  obtain ⟨Fm, Lm, hmd⟩ := F.rd.med
                  refine wpOpIn_on rfl (by simp [Region.wanted, yielded]) (wpIn_of_wp ?_)
                  go_simp
                  refine (size_any c.m Fm c.bs Lm _ hmd).mono ?_
                  rintro e w2 ⟨rfl, rfl⟩
                  exact ⟨j, _, _, _, _, _, _, _, _, _, _, _, _, _, _, _, _, _, _, _, _, _, _, _, _, _, _, _, _, rfl, F.set12 rfl⟩
                | 13, ho, hD, hE =>
                  obtain rfl := Option.some.inj ho
                  have e6 : D 6 = true := hE ⟨6, .guard⟩ (by simp) rfl
                  obtain rfl := F.f6 e6
                  refine wpOpIn_on rfl (by simp [Region.wanted, yielded]) (wpIn_of_wp ?_)
                  go_simp
                  exact ⟨j, _, _, _, _, _, _, _, _, _, _, _, _, _, _, _, _, _, _, _, _, _, _, _, _, _, _, _, _, rfl, F.set13 rfl⟩
                | 14, ho, hD, hE =>
                  obtain rfl := Option.some.inj ho
                  have e12 : D 12 = true := hE ⟨12, .data⟩ (by simp) rfl
                  obtain rfl := F.f12 e12
                  have e13 : D 13 = true := hE ⟨13, .data⟩ (by simp) rfl
                  obtain rfl := F.f13 e13
                  have e6 : D 6 = true := hE ⟨6, .guard⟩ (by simp) rfl
                  obtain rfl := F.f6 e6
                  refine wpOpIn_on rfl (by simp [Region.wanted, yielded]) (wpIn_of_wp ?_)
                  go_simp
                  exact ⟨j, _, _, _, _, _, _, _, _, _, _, _, _, _, _, _, _, _, _, _, _, _, _, _, _, _, _, _, _, rfl, F.set14 (int_eq (by rw [IntKind.wrap_i64]; omega))⟩
                | 15, ho, hD, hE =>
                  obtain rfl := Option.some.inj ho
                  have e14 : D 14 = true := hE ⟨14, .data⟩ (by simp) rfl
                  obtain rfl := F.f14 e14
                  have e6 : D 6 = true := hE ⟨6, .guard⟩ (by simp) rfl
                  obtain rfl := F.f6 e6
                  refine wpOpIn_on rfl (by simp [Region.wanted, yielded]) (wpIn_of_wp ?_)
                  go_simp
                  exact ⟨j, _, _, _, _, _, _, _, _, _, _, _, _, _, _, _, _, _, _, _, _, _, _, _, _, _, _, _, _, rfl, F.set15 (int_eq (by rw [IntKind.wrap_i64]; omega))⟩
                | 16, ho, hD, hE =>
                  obtain rfl := Option.some.inj ho
                  have e7 : D 7 = true := hE ⟨7, .data⟩ (by simp) rfl
                  obtain rfl := F.f7 e7
                  have e15 : D 15 = true := hE ⟨15, .data⟩ (by simp) rfl
                  obtain rfl := F.f15 e15
                  have e6 : D 6 = true := hE ⟨6, .guard⟩ (by simp) rfl
                  obtain rfl := F.f6 e6
                  refine wpOpIn_on rfl (by simp [Region.wanted, yielded]) (wpIn_of_wp ?_)
                  go_simp
                  exact ⟨j, _, _, _, _, _, _, _, _, _, _, _, _, _, _, _, _, _, _, _, _, _, _, _, _, _, _, _, _, rfl, F.set16 rfl⟩
                | 17, ho, hD, hE =>
                  obtain rfl := Option.some.inj ho
                  have e6 : D 6 = true := hE ⟨6, .data⟩ (by simp) rfl
                  obtain rfl := F.f6 e6
                  have e16 : D 16 = true := hE ⟨16, .data⟩ (by simp) rfl
                  obtain rfl := F.f16 e16
                  refine wpOpIn_on rfl (by simp [Region.wanted, yielded]) (wpIn_of_wp ?_)
                  go_simp
                  exact ⟨j, _, _, _, _, _, _, _, _, _, _, _, _, _, _, _, _, _, _, _, _, _, _, _, _, _, _, _, _, rfl, F.set17 rfl⟩
                | 18, ho, hD, hE =>
                  obtain rfl := Option.some.inj ho
                  have e17 : D 17 = true := hE ⟨17, .data⟩ (by simp) rfl
                  obtain rfl := F.f17 e17
                  refine wpOpIn_on rfl (by simp [Region.wanted, yielded]) (wpIn_of_wp ?_)
                  go_simp
                  exact ⟨j, _, _, _, _, _, _, _, _, _, _, _, _, _, _, _, _, _, _, _, _, _, _, _, _, _, _, _, _, rfl, F.set18 rfl⟩
                | 19, ho, hD, hE =>
                  obtain rfl := Option.some.inj ho
                  have e18 : D 18 = true := hE ⟨18, .guard⟩ (by simp) rfl
                  obtain rfl := F.f18 e18
                  refine wpOpIn_off (fun _ => trivial) rfl (by simp [Region.wanted, yielded]) ?_
                  exact ⟨j, _, _, _, _, _, _, _, _, _, _, _, _, _, _, _, _, _, _, _, _, _, _, _, _, _, _, _, _, rfl, F.set19 trivial⟩
                | 20, ho, hD, hE =>
                  obtain rfl := Option.some.inj ho
                  have e18 : D 18 = true := hE ⟨18, .guard⟩ (by simp) rfl
                  obtain rfl := F.f18 e18
                  refine wpOpIn_off (fun _ => trivial) rfl (by simp [Region.wanted, yielded]) ?_
                  exact ⟨j, _, _, _, _, _, _, _, _, _, _, _, _, _, _, _, _, _, _, _, _, _, _, _, _, _, _, _, _, rfl, F.set20 trivial⟩
                | 21, ho, hD, hE =>
                  obtain rfl := Option.some.inj ho
                  have e18 : D 18 = true := hE ⟨18, .guard⟩ (by simp) rfl
                  obtain rfl := F.f18 e18
                  refine wpOpIn_off (fun _ => trivial) rfl (by simp [Region.wanted, yielded]) ?_
                  exact ⟨j, _, _, _, _, _, _, _, _, _, _, _, _, _, _, _, _, _, _, _, _, _, _, _, _, _, _, _, _, rfl, F.set21 trivial⟩
                | 22, ho, hD, hE =>
                  obtain rfl := Option.some.inj ho
                  have e21 : D 21 = true := hE ⟨21, .data⟩ (by simp) rfl
                  have e18 : D 18 = true := hE ⟨18, .guard⟩ (by simp) rfl
                  obtain rfl := F.f18 e18
                  refine wpOpIn_off (fun _ => trivial) rfl (by simp [Region.wanted, yielded]) ?_
                  exact ⟨j, _, _, _, _, _, _, _, _, _, _, _, _, _, _, _, _, _, _, _, _, _, _, _, _, _, _, _, _, rfl, F.set22 trivial⟩
                | 23, ho, hD, hE =>
                  obtain rfl := Option.some.inj ho
                  have e18 : D 18 = true := hE ⟨18, .guard⟩ (by simp) rfl
                  obtain rfl := F.f18 e18
                  refine wpOpIn_off (fun _ => trivial) rfl (by simp [Region.wanted, yielded]) ?_
                  exact ⟨j, _, _, _, _, _, _, _, _, _, _, _, _, _, _, _, _, _, _, _, _, _, _, _, _, _, _, _, _, rfl, F.set23 trivial⟩
                | 24, ho, hD, hE =>
                  obtain rfl := Option.some.inj ho
                  have e20 : D 20 = true := hE ⟨20, .data⟩ (by simp) rfl
                  have e22 : D 22 = true := hE ⟨22, .data⟩ (by simp) rfl
                  have e23 : D 23 = true := hE ⟨23, .data⟩ (by simp) rfl
                  have e18 : D 18 = true := hE ⟨18, .guard⟩ (by simp) rfl
                  obtain rfl := F.f18 e18
                  refine wpOpIn_off (fun _ => trivial) rfl (by simp [Region.wanted, yielded]) ?_
                  exact ⟨j, _, _, _, _, _, _, _, _, _, _, _, _, _, _, _, _, _, _, _, _, _, _, _, _, _, _, _, _, rfl, F.set24 trivial⟩
                | 25, ho, hD, hE =>
                  obtain rfl := Option.some.inj ho
                  have e19 : D 19 = true := hE ⟨19, .data⟩ (by simp) rfl
                  have e24 : D 24 = true := hE ⟨24, .data⟩ (by simp) rfl
                  have e18 : D 18 = true := hE ⟨18, .guard⟩ (by simp) rfl
                  obtain rfl := F.f18 e18
                  refine wpOpIn_off (fun _ => trivial) rfl (by simp [Region.wanted, yielded]) ?_
                  exact ⟨j, _, _, _, _, _, _, _, _, _, _, _, _, _, _, _, _, _, _, _, _, _, _, _, _, _, _, _, _, rfl, F.set25 trivial⟩
                | 26, ho, hD, hE =>
                  obtain rfl := Option.some.inj ho
                  have e25 : D 25 = true := hE ⟨25, .data⟩ (by simp) rfl
                  have e18 : D 18 = true := hE ⟨18, .guard⟩ (by simp) rfl
                  obtain rfl := F.f18 e18
                  refine wpOpIn_off (fun _ => trivial) rfl (by simp [Region.wanted, yielded]) ?_
                  exact ⟨j, _, _, _, _, _, _, _, _, _, _, _, _, _, _, _, _, _, _, _, _, _, _, _, _, _, _, _, _, rfl, F.set26 trivial⟩
                | 27, ho, hD, hE =>
                  obtain rfl := Option.some.inj ho
                  have e18 : D 18 = true := hE ⟨18, .data⟩ (by simp) rfl
                  obtain rfl := F.f18 e18
                  have e26 : D 26 = true := hE ⟨26, .data⟩ (by simp) rfl
                  refine wpOpIn_on rfl (by simp [Region.wanted, yielded]) (wpIn_of_wp ?_)
                  go_simp
                  exact ⟨j, _, _, _, _, _, _, _, _, _, _, _, _, _, _, _, _, _, _, _, _, _, _, _, _, _, _, _, _, rfl, F.set27 rfl⟩
                | n + 28, ho, hD, hE => simp at ho
              · intro D a w5 hI hall
                obtain ⟨j, u37, u38, u39, u40, u41, u42, u43, u44, u45, u46, u47, u48, u49, u50, u51, u52, u53, u54, u55, u56, u57, u58, u59, u60, u61, u62, u63, u64, rfl, F⟩ := hI
                obtain rfl := F.f27 (hall 27 (by simp))
                have hT5 := F.st.1
                clear F hall
                go_wp2_with fail
                simp only [Exit.jump]
                refine bodyPost_ret (results_none rfl _ _ _) rfl ⟨⟨_, rfl⟩, ?_⟩
                rw [← hch1]
                exact ⟨G3, v, Lg' + 1, at_, by omega, hT5⟩
          · have hch1 : (pre, at_) = res := by
              rw [← Hch.out, chainP, if_neg (by omega), ← Hn8.out, hb16, if_neg (fun h => heq h.1)]
              simp
            have heq' : decide (b16 = linkB pre.length n) = false := decide_eq_false heq
            refine (wpIn_wide (n := 1)).1 (wpIn_region_inv (by kernel_rfl) (by kernel_rfl) (ChNI c w0 F0 G3 v pre at_ (Lg' + 1) pre.length n (some ⟨bb, oo, none⟩) b16) ?_ ?_ ?_)
            · exact ChNI.intro (D := fun _ => false) { rd := hTd.reads, st := ⟨hTd, hRd⟩, f0 := fun h => (by cases h), f1 := fun h => (by cases h), f2 := fun h => (by cases h), f3 := fun h => (by cases h), f4 := fun h => (by cases h), f5 := fun h => (by cases h), f6 := fun h => (by cases h), f7 := fun h => (by cases h), f8 := fun h => (by cases h), f9 := fun h => (by cases h), f10 := fun h => (by cases h), f11 := fun h => (by cases h), f12 := fun h => (by cases h), f13 := fun h => (by cases h), f14 := fun h => (by cases h), f15 := fun h => (by cases h), f16 := fun h => (by cases h), f17 := fun h => (by cases h), f18 := fun h => (by cases h), f19 := fun h => (by cases h), f20 := fun h => (by cases h), f21 := fun h => (by cases h), f22 := fun h => (by cases h), f23 := fun h => (by cases h), f24 := fun h => (by cases h), f25 := fun h => (by cases h), f26 := fun h => (by cases h), f27 := fun h => (by cases h) }
            · intro D a w1 i o hI ho hD hE
              obtain ⟨j, u37, u38, u39, u40, u41, u42, u43, u44, u45, u46, u47, u48, u49, u50, u51, u52, u53, u54, u55, u56, u57, u58, u59, u60, u61, u62, u63, u64, rfl, F⟩ := hI
              clear h hg hL hat hres HY hT hLg k1 k2 kb fb hfuel Hch hi1 hid hW hT1 hT2 hT3 hRb hr8 hb16 Hn8 hn hTd hRd heq hch1
              obtain ⟨k1, k2, kb, hmed⟩ := F.rd
              match i, ho, hD, hE with
              | 0, ho, hD, hE =>
                obtain rfl := Option.some.inj ho
                refine wpOpIn_on rfl (by simp [Region.wanted, yielded]) (wpIn_of_wp ?_)
                go_simp
                exact ⟨j, _, _, _, _, _, _, _, _, _, _, _, _, _, _, _, _, _, _, _, _, _, _, _, _, _, _, _, _, rfl, F.set0 rfl⟩
              | 1, ho, hD, hE =>
                obtain rfl := Option.some.inj ho
                refine wpOpIn_on rfl (by simp [Region.wanted, yielded]) (wpIn_of_wp ?_)
                go_simp
                exact ⟨j, _, _, _, _, _, _, _, _, _, _, _, _, _, _, _, _, _, _, _, _, _, _, _, _, _, _, _, _, rfl, F.set1 rfl⟩
              | 2, ho, hD, hE =>
                obtain rfl := Option.some.inj ho
                refine wpOpIn_on rfl (by simp [Region.wanted, yielded]) (wpIn_of_wp ?_)
                go_simp
                exact ⟨j, _, _, _, _, _, _, _, _, _, _, _, _, _, _, _, _, _, _, _, _, _, _, _, _, _, _, _, _, rfl, F.set2 rfl⟩
              | 3, ho, hD, hE =>
                obtain rfl := Option.some.inj ho
                have e1 : D 1 = true := hE ⟨1, .data⟩ (by simp) rfl
                obtain rfl := F.f1 e1
                have e2 : D 2 = true := hE ⟨2, .data⟩ (by simp) rfl
                obtain rfl := F.f2 e2
                refine wpOpIn_on rfl (by simp [Region.wanted, yielded]) (wpIn_of_wp ?_)
                go_simp
                refine (link_any (pre.length : Int) (n : Int) (by omega) (by omega) (by omega) (by omega) w1).mono ?_
                rintro e w2 ⟨v2, rfl, hf, hb⟩
                simp only [Int.toNat_natCast] at hf
                exact ⟨j, _, _, _, _, _, _, _, _, _, _, _, _, _, _, _, _, _, _, _, _, _, _, _, _, _, _, _, _, rfl, (F.mono hb).set3 (hf.mono (Nat.zero_le _))⟩
              | 4, ho, hD, hE =>
                obtain rfl := Option.some.inj ho
                have e0 : D 0 = true := hE ⟨0, .data⟩ (by simp) rfl
                obtain rfl := F.f0 e0
                have e3 : D 3 = true := hE ⟨3, .data⟩ (by simp) rfl
                have hf3 := F.f3 e3
                have hrb := F.st.2
                obtain ⟨g3, q3, rfl, _, hf3⟩ := hf3.reads
                refine wpOpIn_on rfl (by simp [Region.wanted, yielded]) (wpIn_of_wp ?_)
                go_simp
                refine (equal_any b16 (linkB pre.length n) (some ⟨bb, oo, none⟩) (some ⟨g3, 0, none⟩) _ _ _ _ _ hrb hf3).mono ?_
                rw [heq']
                rintro e w2 ⟨rfl, rfl⟩
                exact ⟨j, _, _, _, _, _, _, _, _, _, _, _, _, _, _, _, _, _, _, _, _, _, _, _, _, _, _, _, _, rfl, F.set4 rfl⟩
              | 5, ho, hD, hE =>
                obtain rfl := Option.some.inj ho
                have e4 : D 4 = true := hE ⟨4, .data⟩ (by simp) rfl
                obtain rfl := F.f4 e4
                refine wpOpIn_on rfl (by simp [Region.wanted, yielded]) (wpIn_of_wp ?_)
                go_simp
                exact ⟨j, _, _, _, _, _, _, _, _, _, _, _, _, _, _, _, _, _, _, _, _, _, _, _, _, _, _, _, _, rfl, F.set5 rfl⟩
              | 6, ho, hD, hE =>
                obtain rfl := Option.some.inj ho
                have e5 : D 5 = true := hE ⟨5, .data⟩ (by simp) rfl
                obtain rfl := F.f5 e5
                refine wpOpIn_on rfl (by simp [Region.wanted, yielded]) (wpIn_of_wp ?_)
                go_simp
                exact ⟨j, _, _, _, _, _, _, _, _, _, _, _, _, _, _, _, _, _, _, _, _, _, _, _, _, _, _, _, _, rfl, F.set6 rfl⟩
              | 7, ho, hD, hE =>
                obtain rfl := Option.some.inj ho
                have e6 : D 6 = true := hE ⟨6, .guard⟩ (by simp) rfl
                obtain rfl := F.f6 e6
                refine wpOpIn_off (fun _ => trivial) rfl (by simp [Region.wanted, yielded]) ?_
                exact ⟨j, _, _, _, _, _, _, _, _, _, _, _, _, _, _, _, _, _, _, _, _, _, _, _, _, _, _, _, _, rfl, F.set7 trivial⟩
              | 8, ho, hD, hE =>
                obtain rfl := Option.some.inj ho
                have e6 : D 6 = true := hE ⟨6, .guard⟩ (by simp) rfl
                obtain rfl := F.f6 e6
                refine wpOpIn_off (fun _ => trivial) rfl (by simp [Region.wanted, yielded]) ?_
                exact ⟨j, _, _, _, _, _, _, _, _, _, _, _, _, _, _, _, _, _, _, _, _, _, _, _, _, _, _, _, _, rfl, F.set8 trivial⟩
              | 9, ho, hD, hE =>
                obtain rfl := Option.some.inj ho
                have e8 : D 8 = true := hE ⟨8, .data⟩ (by simp) rfl
                have e6 : D 6 = true := hE ⟨6, .guard⟩ (by simp) rfl
                obtain rfl := F.f6 e6
                refine wpOpIn_off (fun _ => trivial) rfl (by simp [Region.wanted, yielded]) ?_
                exact ⟨j, _, _, _, _, _, _, _, _, _, _, _, _, _, _, _, _, _, _, _, _, _, _, _, _, _, _, _, _, rfl, F.set9 trivial⟩
              | 10, ho, hD, hE =>
                obtain rfl := Option.some.inj ho
                have e9 : D 9 = true := hE ⟨9, .data⟩ (by simp) rfl
                have e6 : D 6 = true := hE ⟨6, .guard⟩ (by simp) rfl
                obtain rfl := F.f6 e6
                refine wpOpIn_off (fun _ => trivial) rfl (by simp [Region.wanted, yielded]) ?_
                exact ⟨j, _, _, _, _, _, _, _, _, _, _, _, _, _, _, _, _, _, _, _, _, _, _, _, _, _, _, _, _, rfl, F.set10 trivial⟩
              | 11, ho, hD, hE =>
                obtain rfl := Option.some.inj ho
                have e10 : D 10 = true := hE ⟨10, .data⟩ (by simp) rfl
                have e6 : D 6 = true := hE ⟨6, .guard⟩ (by simp) rfl
                obtain rfl := F.f6 e6
                refine wpOpIn_off (fun _ => trivial) rfl (by simp [Region.wanted, yielded]) ?_
                exact ⟨j, _, _, _, _, _, _, _, _, _, _, _, _, _, _, _, _, _, _, _, _, _, _, _, _, _, _, _, _, rfl, F.set11 trivial⟩
              | 12, ho, hD, hE =>
                obtain rfl := Option.some.inj ho
                have e11 : D 11 = true := hE ⟨11, .data⟩ (by simp) rfl
                have e6 : D 6 = true := hE ⟨6, .guard⟩ (by simp) rfl
                obtain rfl := F.f6 e6
                refine wpOpIn_off (fun _ => trivial) rfl (by simp [Region.wanted, yielded]) ?_
                exact ⟨j, _, _, _, _, _, _, _, _, _, _, _, _, _, _, _, _, _, _, _, _, _, _, _, _, _, _, _, _, rfl, F.set12 trivial⟩
              | 13, ho, hD, hE =>
                obtain rfl := Option.some.inj ho
                have e6 : D 6 = true := hE ⟨6, .guard⟩ (by simp) rfl
                obtain rfl := F.f6 e6
                refine wpOpIn_off (fun _ => trivial) rfl (by simp [Region.wanted, yielded]) ?_
                exact ⟨j, _, _, _, _, _, _, _, _, _, _, _, _, _, _, _, _, _, _, _, _, _, _, _, _, _, _, _, _, rfl, F.set13 trivial⟩
              | 14, ho, hD, hE =>
                obtain rfl := Option.some.inj ho
                have e12 : D 12 = true := hE ⟨12, .data⟩ (by simp) rfl
                have e13 : D 13 = true := hE ⟨13, .data⟩ (by simp) rfl
                have e6 : D 6 = true := hE ⟨6, .guard⟩ (by simp) rfl
                obtain rfl := F.f6 e6
                refine wpOpIn_off (fun _ => trivial) rfl (by simp [Region.wanted, yielded]) ?_
                exact ⟨j, _, _, _, _, _, _, _, _, _, _, _, _, _, _, _, _, _, _, _, _, _, _, _, _, _, _, _, _, rfl, F.set14 trivial⟩
              | 15, ho, hD, hE =>
                obtain rfl := Option.some.inj ho
                have e14 : D 14 = true := hE ⟨14, .data⟩ (by simp) rfl
                have e6 : D 6 = true := hE ⟨6, .guard⟩ (by simp) rfl
                obtain rfl := F.f6 e6
                refine wpOpIn_off (fun _ => trivial) rfl (by simp [Region.wanted, yielded]) ?_
                exact ⟨j, _, _, _, _, _, _, _, _, _, _, _, _, _, _, _, _, _, _, _, _, _, _, _, _, _, _, _, _, rfl, F.set15 trivial⟩
              | 16, ho, hD, hE =>
                obtain rfl := Option.some.inj ho
                have e7 : D 7 = true := hE ⟨7, .data⟩ (by simp) rfl
                have e15 : D 15 = true := hE ⟨15, .data⟩ (by simp) rfl
                have e6 : D 6 = true := hE ⟨6, .guard⟩ (by simp) rfl
                obtain rfl := F.f6 e6
                refine wpOpIn_off (fun _ => trivial) rfl (by simp [Region.wanted, yielded]) ?_
                exact ⟨j, _, _, _, _, _, _, _, _, _, _, _, _, _, _, _, _, _, _, _, _, _, _, _, _, _, _, _, _, rfl, F.set16 trivial⟩
              | 17, ho, hD, hE =>
                obtain rfl := Option.some.inj ho
                have e6 : D 6 = true := hE ⟨6, .data⟩ (by simp) rfl
                obtain rfl := F.f6 e6
                have e16 : D 16 = true := hE ⟨16, .data⟩ (by simp) rfl
                refine wpOpIn_on rfl (by simp [Region.wanted, yielded]) (wpIn_of_wp ?_)
                go_simp
                exact ⟨j, _, _, _, _, _, _, _, _, _, _, _, _, _, _, _, _, _, _, _, _, _, _, _, _, _, _, _, _, rfl, F.set17 rfl⟩
              | 18, ho, hD, hE =>
                obtain rfl := Option.some.inj ho
                have e17 : D 17 = true := hE ⟨17, .data⟩ (by simp) rfl
                obtain rfl := F.f17 e17
                refine wpOpIn_on rfl (by simp [Region.wanted, yielded]) (wpIn_of_wp ?_)
                go_simp
                exact ⟨j, _, _, _, _, _, _, _, _, _, _, _, _, _, _, _, _, _, _, _, _, _, _, _, _, _, _, _, _, rfl, F.set18 rfl⟩
              | 19, ho, hD, hE =>
                obtain rfl := Option.some.inj ho
                have e18 : D 18 = true := hE ⟨18, .guard⟩ (by simp) rfl
                obtain rfl := F.f18 e18
                refine wpOpIn_off (fun _ => trivial) rfl (by simp [Region.wanted, yielded]) ?_
                exact ⟨j, _, _, _, _, _, _, _, _, _, _, _, _, _, _, _, _, _, _, _, _, _, _, _, _, _, _, _, _, rfl, F.set19 trivial⟩
              | 20, ho, hD, hE =>
                obtain rfl := Option.some.inj ho
                have e18 : D 18 = true := hE ⟨18, .guard⟩ (by simp) rfl
                obtain rfl := F.f18 e18
                refine wpOpIn_off (fun _ => trivial) rfl (by simp [Region.wanted, yielded]) ?_
                exact ⟨j, _, _, _, _, _, _, _, _, _, _, _, _, _, _, _, _, _, _, _, _, _, _, _, _, _, _, _, _, rfl, F.set20 trivial⟩
              | 21, ho, hD, hE =>
                obtain rfl := Option.some.inj ho
                have e18 : D 18 = true := hE ⟨18, .guard⟩ (by simp) rfl
                obtain rfl := F.f18 e18
                refine wpOpIn_off (fun _ => trivial) rfl (by simp [Region.wanted, yielded]) ?_
                exact ⟨j, _, _, _, _, _, _, _, _, _, _, _, _, _, _, _, _, _, _, _, _, _, _, _, _, _, _, _, _, rfl, F.set21 trivial⟩
              | 22, ho, hD, hE =>
                obtain rfl := Option.some.inj ho
                have e21 : D 21 = true := hE ⟨21, .data⟩ (by simp) rfl
                have e18 : D 18 = true := hE ⟨18, .guard⟩ (by simp) rfl
                obtain rfl := F.f18 e18
                refine wpOpIn_off (fun _ => trivial) rfl (by simp [Region.wanted, yielded]) ?_
                exact ⟨j, _, _, _, _, _, _, _, _, _, _, _, _, _, _, _, _, _, _, _, _, _, _, _, _, _, _, _, _, rfl, F.set22 trivial⟩
              | 23, ho, hD, hE =>
                obtain rfl := Option.some.inj ho
                have e18 : D 18 = true := hE ⟨18, .guard⟩ (by simp) rfl
                obtain rfl := F.f18 e18
                refine wpOpIn_off (fun _ => trivial) rfl (by simp [Region.wanted, yielded]) ?_
                exact ⟨j, _, _, _, _, _, _, _, _, _, _, _, _, _, _, _, _, _, _, _, _, _, _, _, _, _, _, _, _, rfl, F.set23 trivial⟩
              | 24, ho, hD, hE =>
                obtain rfl := Option.some.inj ho
                have e20 : D 20 = true := hE ⟨20, .data⟩ (by simp) rfl
                have e22 : D 22 = true := hE ⟨22, .data⟩ (by simp) rfl
                have e23 : D 23 = true := hE ⟨23, .data⟩ (by simp) rfl
                have e18 : D 18 = true := hE ⟨18, .guard⟩ (by simp) rfl
                obtain rfl := F.f18 e18
                refine wpOpIn_off (fun _ => trivial) rfl (by simp [Region.wanted, yielded]) ?_
                exact ⟨j, _, _, _, _, _, _, _, _, _, _, _, _, _, _, _, _, _, _, _, _, _, _, _, _, _, _, _, _, rfl, F.set24 trivial⟩
              | 25, ho, hD, hE =>
                obtain rfl := Option.some.inj ho
                have e19 : D 19 = true := hE ⟨19, .data⟩ (by simp) rfl
                have e24 : D 24 = true := hE ⟨24, .data⟩ (by simp) rfl
                have e18 : D 18 = true := hE ⟨18, .guard⟩ (by simp) rfl
                obtain rfl := F.f18 e18
                refine wpOpIn_off (fun _ => trivial) rfl (by simp [Region.wanted, yielded]) ?_
                exact ⟨j, _, _, _, _, _, _, _, _, _, _, _, _, _, _, _, _, _, _, _, _, _, _, _, _, _, _, _, _, rfl, F.set25 trivial⟩
              | 26, ho, hD, hE =>
                obtain rfl := Option.some.inj ho
                have e25 : D 25 = true := hE ⟨25, .data⟩ (by simp) rfl
                have e18 : D 18 = true := hE ⟨18, .guard⟩ (by simp) rfl
                obtain rfl := F.f18 e18
                refine wpOpIn_off (fun _ => trivial) rfl (by simp [Region.wanted, yielded]) ?_
                exact ⟨j, _, _, _, _, _, _, _, _, _, _, _, _, _, _, _, _, _, _, _, _, _, _, _, _, _, _, _, _, rfl, F.set26 trivial⟩
              | 27, ho, hD, hE =>
                obtain rfl := Option.some.inj ho
                have e18 : D 18 = true := hE ⟨18, .data⟩ (by simp) rfl
                obtain rfl := F.f18 e18
                have e26 : D 26 = true := hE ⟨26, .data⟩ (by simp) rfl
                refine wpOpIn_on rfl (by simp [Region.wanted, yielded]) (wpIn_of_wp ?_)
                go_simp
                exact ⟨j, _, _, _, _, _, _, _, _, _, _, _, _, _, _, _, _, _, _, _, _, _, _, _, _, _, _, _, _, rfl, F.set27 rfl⟩
              | n + 28, ho, hD, hE => simp at ho
            · intro D a w5 hI hall
              obtain ⟨j, u37, u38, u39, u40, u41, u42, u43, u44, u45, u46, u47, u48, u49, u50, u51, u52, u53, u54, u55, u56, u57, u58, u59, u60, u61, u62, u63, u64, rfl, F⟩ := hI
              obtain rfl := F.f27 (hall 27 (by simp))
              have hT5 := F.st.1
              clear F hall
              go_wp2_with fail
              simp only [Exit.jump]
              refine bodyPost_ret (results_none rfl _ _ _) rfl ⟨⟨_, rfl⟩, ?_⟩
              rw [← hch1]
              exact ⟨G3, v, Lg' + 1, at_, by omega, hT5⟩
end Go.Proofs.YtjmnomohmijbpaaDoor
