/- The law ReelNil is proved for every label: Create, Continue and Open of no medium answer ErrArg and nothing; no condition on the input but that unicode/utf8's two tables hold what the program's text lays (tied). -/
import Derived.Test.YtjmnomohmijbpaaDoorCards
import Derived.Test.YtjmnomohmijbpaaDoorTie
import Derived.Test.YtjmnomohmijbpaaDoorNil
import Derived.Test.YtjmnomohmijbpaaDoorTabs
namespace Go.Proofs.YtjmnomohmijbpaaDoor
open Go.ChangeShapes Go.WideShapes Go.ChangeAt Go.RowKit
namespace NilLaw
theorem params_ok : ∀ t, t ∈ Tryd.f4.params.toList → Tryd.prog.readableRec t = true ∧ t < Tryd.prog.types.size := fun t ht => by
  rw [Tryd.params4] at ht
  obtain rfl : t = 25 := by simpa using ht
  exact ⟨by kernel_rfl, of_decide_eq_true (by kernel_rfl)⟩
theorem witness_row (os : Os) {H : Type} (enc : TypeId × Value → H) :
    (OpenSpec.ofChange Rows.reelNilSpec).preRow enc Tryd.prog Tryd.f4 Rows.reelNilRow.domain false Rows.reelNilRow.laid ((laidWorld os).forCall (fun _ _ => 0) ⟨#[], #[.agg #[.string ⟨#[]⟩, .int .i64 0, .int .i64 0]], []⟩).memory #[.agg #[.string ⟨#[]⟩, .int .i64 0, .int .i64 0]] := by
  have hw : (DataW.whole enc Tryd.prog ((laidWorld os).forCall (fun _ _ => 0) ⟨#[], #[.agg #[.string ⟨#[]⟩, .int .i64 0, .int .i64 0]], []⟩).memory Tryd.f4.params.toList Rows.reelNilSpec.vars false (#[.agg #[.string ⟨#[]⟩, .int .i64 0, .int .i64 0]] : Array Value).toList 8).map (fun x => (x.1, x.2.1)) = some ([.agg [.lit (.string []), .lit (.int .i64 0), .lit (.int .i64 0)]], []) := by kernel_rfl
  obtain ⟨⟨x1, x2, x3⟩, hx, hx1⟩ := Option.map_eq_some_iff.1 hw
  simp only [Prod.mk.injEq] at hx1
  obtain ⟨rfl, rfl⟩ := hx1
  exact OpenSpec.preRow_of_cond 8 hx (by kernel_rfl) (fun k hk => by cases hk) (by kernel_rfl) (laid_met os _)
set_option maxRecDepth 100000 in
theorem lifted (os : Os) (started : os.Started) (H : Type) (enc : TypeId × Value → H) (F : Stop.Interp) :
    ReturnsInHanded {} Tryd.checked os 4 .any ((OpenSpec.ofChange Rows.reelNilSpec).preRow enc Tryd.prog Tryd.f4 Rows.reelNilRow.domain false Rows.reelNilRow.laid) (((OpenSpec.ofChange Rows.reelNilSpec).at F).post enc Tryd.prog Tryd.f4 false true false false) := by
  refine returnsInHanded_of_row (C := Tryd.checked) (s := OpenSpec.ofChange Rows.reelNilSpec) own started (by kernel_rfl) Tryd.func4
    (witness_row_atRef (enc := enc) (C := Tryd.checked) false (laidWorld os) #[.agg #[.string ⟨#[]⟩, .int .i64 0, .int .i64 0]] rfl (by kernel_rfl) (by kernel_rfl) (by kernel_rfl) (witness_row os enc)) ?_
  intro W base args ds gs before hval hW _ _ _ hL _ _
  have hW' := hW
  obtain ⟨p, q, hA, hV, rfl, _, _⟩ := hW
  have hA0 : DataW.TrodAll enc Tryd.prog W 0 (fun _ => true) true Tryd.f4.params.toList args.toList ds p := hA
  rw [Tryd.params4] at hA0
  obtain ⟨rfl, rfl⟩ := trodVars_none hV
  rw [Tryd.params4] at hval
  obtain ⟨v0, d0, rfl, rfl, h0⟩ := trodAll_one hA0
  obtain ⟨cs, rfl, hsz⟩ := okWide_struct Tryd.underlying25 (hval 0 25 v0 rfl rfl)
  obtain ⟨c0, c1, c2, rfl⟩ := Go.Joins.array3 (hsz.trans (show Tryd.prog.cellsOf 25 = 3 by kernel_rfl))
  refine (nil_any c0 c1 c2 W (tabs_of hL)).mono ?_
  rintro e W' ⟨rfl, hb⟩
  exact ⟨_, rfl, law_post laidOut params_ok rfl rfl rfl Tryd.underlying4 hW' hb⟩
theorem said : Rows.ReelNilSaid :=
  OpenClaim.holds_of_cond 4 Tryd.f4 rfl rfl rfl rfl rfl rfl rfl ⟨rfl, rfl, rfl, rfl, rfl⟩ rfl rfl rfl rfl rfl (by kernel_rfl) Tryd.func4 (by kernel_rfl)
    (of_decide_eq_true (by kernel_rfl)) (by unfold Func.isWrapper; first | (rw [if_pos (by decide +kernel)]; kernel_rfl) | (rw [if_neg (by decide +kernel)]; exact ⟨rfl, rfl⟩))
    (fun os started H enc _ F => by rw [OpenClaim.pre_eq_preRow]; exact lifted os started H enc F)
theorem plain (f : FuncId) (fn : Func) (hf : Tryd.pinned.checked.prog.funcNamed "dailies/dailieslaw16.ReelNil" = some f) (hfn : Tryd.pinned.checked.prog.funcs[f]? = some fn) :
    false = Tryd.pinned.checked.prog.looks [] ∧ ∀ (j : Nat) t, fn.params[j]? = some t → Tryd.pinned.checked.prog.wantsStandIn t = false := by
  obtain rfl : f = 4 := Option.some.inj ((show Tryd.prog.funcNamed "dailies/dailieslaw16.ReelNil" = some 4 by kernel_rfl).symm.trans hf) |>.symm
  obtain rfl : fn = Tryd.f4 := (Option.some.inj (Tryd.func4.symm.trans hfn)).symm
  refine ⟨by kernel_rfl, fun j t ht => ?_⟩
  rw [Tryd.params4] at ht
  obtain rfl : t = 25 := by simpa using Array.mem_of_getElem? ht
  exact (show Tryd.prog.wantsStandIn 25 = false by kernel_rfl)
theorem card : Rows.ReelNilCardSaid :=
  Claim7.holds_tied_plain_at .later [] _ _ _ _ said (fun _ h => by cases h) (by kernel_rfl) (fun _ h => by cases h) reelNil_row_tie rfl ⟨rfl, rfl⟩ (by kernel_rfl) rfl plain (by kernel_rfl)
end NilLaw
theorem reelNil_holds : Rows.ReelNilCardSaid := NilLaw.card
#print axioms reelNil_holds
end Go.Proofs.YtjmnomohmijbpaaDoor
