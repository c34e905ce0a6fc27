/- A region that draws its order, by an invariant, within a fence. -/
import Derived.Test.YtjmnomohmijbpaaDoorRegion
import Derived.OrdersIn
import Derived.TacticsIn
import Derived.RangeFuncCalls
namespace Go.Proofs.YtjmnomohmijbpaaDoor
open Go.RowKit
section
variable {F : Fence} {n : Nat} {P : Program} {ops : Array Oper} {Q : Exit → Act → World → Prop}
theorem wpAnyIn_inv (hf : forwardB ops = true) (I : (Nat → Bool) → Act → World → Prop)
    (step : ∀ (D : Nat → Bool) (a : Act) (w : World) (i : Nat) (o : Oper), I D a w → ops[i]? = some o → D i = false → (∀ e ∈ o.after, Region.binds .any e = true → D e.on = true) →
      wpOpIn F n P ops Q i (fun a' w' => I (fun j => D j || j == i) a' w') a w)
    (done : ∀ (D : Nat → Bool) (a : Act) (w : World), I D a w → (∀ i, i < ops.size → D i = true) → Q .normal a w) :
    ∀ (fuel : Nat) (listed : Array Bool) (a : Act) (w : World), listed.size = ops.size → fuel = ((List.range ops.size).filter fun i => !listed.getD i false).length →
      I (fun j => listed.getD j false) a w → wpAnyIn F n P .any ops Q fuel listed a w := by
  intro fuel
  induction fuel with
  | zero =>
    intro listed a w hs hfu hI
    have hall : ∀ i, i < ops.size → listed.getD i false = true := by
      intro i hi
      have hnil : ((List.range ops.size).filter fun i => !listed.getD i false) = [] := List.eq_nil_of_length_eq_zero hfu.symm
      rw [List.filter_eq_nil_iff] at hnil
      have := hnil i (List.mem_range.2 hi)
      simpa using this
    refine ⟨?_, done _ a w hI hall⟩
    apply List.eq_nil_iff_forall_not_mem.2
    intro i hm
    obtain ⟨h0, o, ho, _⟩ := mem_ready.1 hm
    have hi : i < ops.size := (Array.getElem?_eq_some_iff.1 ho).1
    have h1 := hall i hi
    rw [Array.getD_eq_getD_getElem?, Array.getElem?_eq_getElem (by omega)] at h0 h1
    simp only [Option.getD_some] at h0 h1
    rw [h0] at h1
    cases h1
  | succ fuel ih =>
    intro listed a w hs hfu hI
    refine ⟨fun hr => done _ a w hI (ready_nil hf hs hr), fun i hm => ?_⟩
    obtain ⟨h0, o, ho, hedges⟩ := mem_ready.1 hm
    have hi : i < ops.size := (Array.getElem?_eq_some_iff.1 ho).1
    have h0' : listed.getD i false = false := by
      rw [Array.getD_eq_getD_getElem?, Array.getElem?_eq_getElem (by omega)] at h0 ⊢
      exact h0
    have hset : ∀ j, (listed.setIfInBounds i true).getD j false = (listed.getD j false || j == i) := by
      intro j
      simp only [Array.getD_eq_getD_getElem?, Array.getElem?_setIfInBounds]
      by_cases e : i = j
      · subst e; simp [hs, hi]
      · have e' : (j == i) = false := by simpa using fun h : j = i => e h.symm
        rw [if_neg e, e']; simp
    refine wpOpIn_mono (fun a' w' hI' => ih _ a' w' (by simpa using hs) ?_ ?_) (step _ a w i o hI ho h0' hedges)
    · have hfun : (fun j => !(listed.setIfInBounds i true).getD j false) = fun j => !listed.getD j false && !(j == i) := by
        funext j; rw [hset]; cases listed.getD j false <;> simp
      rw [hfun]
      have key : ∀ (l : List Nat), l.Nodup → i ∈ l → (l.filter fun j => !listed.getD j false).length = (l.filter fun j => !listed.getD j false && !(j == i)).length + 1 := by
        intro l
        induction l with
        | nil => intro _ h; cases h
        | cons x l ihl =>
          intro hn hmem
          obtain ⟨hx, hn'⟩ := List.nodup_cons.1 hn
          by_cases e : x = i
          · subst e
            have hrest : l.filter (fun j => !listed.getD j false && !(j == x)) = l.filter fun j => !listed.getD j false := by
              apply List.filter_congr
              intro j hj
              have : (j == x) = false := by simp; rintro rfl; exact hx hj
              rw [this]; simp
            rw [List.filter_cons_of_pos (by simp [h0']), List.filter_cons_of_neg (by simp), hrest]
            simp
          · have hmem' : i ∈ l := by
              rcases List.mem_cons.1 hmem with h | h
              · exact absurd h.symm e
              · exact h
            have hi' := ihl hn' hmem'
            have hxe : (x == i) = false := by simpa using e
            cases hlx : listed.getD x false with
            | true =>
              rw [List.filter_cons_of_neg (by rw [hlx]; simp), List.filter_cons_of_neg (by rw [hlx]; simp)]
              exact hi'
            | false =>
              rw [List.filter_cons_of_pos (by rw [hlx]; rfl), List.filter_cons_of_pos (by rw [hlx, hxe]; rfl)]
              simp only [List.length_cons, hi']
      have := key (List.range ops.size) List.nodup_range (List.mem_range.2 hi)
      omega
    · have e : (fun j => (listed.setIfInBounds i true).getD j false) = fun j => listed.getD j false || j == i := by funext j; exact hset j
      rw [e]; exact hI'
theorem wpIn_region_inv {id : Nat} {a : Act} {w : World} (hm : P.follows .mixedOrders = true) (hf : forwardB ops = true) (I : (Nat → Bool) → Act → World → Prop)
    (h0 : I (fun _ => false) a w.drew)
    (step : ∀ (D : Nat → Bool) (a : Act) (w : World) (i : Nat) (o : Oper), I D a w → ops[i]? = some o → D i = false → (∀ e ∈ o.after, Region.binds .any e = true → D e.on = true) →
      wpOpIn F n P ops Q i (fun a' w' => I (fun j => D j || j == i) a' w') a w)
    (done : ∀ (D : Nat → Bool) (a : Act) (w : World), I D a w → (∀ i, i < ops.size → D i = true) → Q .normal a w) : (Code.region id ops true).wpIn F n P Q a w := by
  refine wpIn_region_any hm (wpAnyIn_inv hf I step done _ _ a _ (by simp) ?_ ?_)
  · have : ((List.range ops.size).filter fun i => !(Array.replicate ops.size false).getD i false) = List.range ops.size := by
      rw [List.filter_eq_self]
      intro i hi
      have := List.mem_range.1 hi
      simp [Array.getD_eq_getD_getElem?, this]
    rw [this, List.length_range]
  · have e : (fun j => (Array.replicate ops.size false).getD j false) = fun _ => false := by
      funext j
      simp only [Array.getD_eq_getD_getElem?, Array.getElem?_replicate]
      split <;> rfl
    rw [e]; exact h0
end
section
variable {n : Nat} {P : Program} {ops : Array Oper} {Q : Exit → Act → World → Prop}
theorem rowsIn_of {row : String} {args : Array Value} {w : World} {R : Value → World → Prop} (h : Rows P row args w R) : RowsIn Fence.wide n P row args w R :=
  fun c cs _ => let ⟨v, w', r, s⟩ := h c cs; ⟨v, w', r, stepsIn_wide.2 s⟩
theorem uponIn_of {F : Fence} {o : Oper} {a : Act} {K : Act → World → Prop} (hd : F.depth = none) (hc : ∀ f args w R, Calls P f args w R → CallsIn F (n - 1) P f args w R)
    (hr : ∀ r args w R, Rows P r args w R → RowsIn F (n - 1) P r args w R) (r : Result Next) (h : o.upon P a K Q r) : o.uponIn F n P a K Q r := by
  cases r with
  | ok x w' =>
    cases x with
    | enter f args => exact ⟨(fun e => by rw [hd] at e; cases e), hc _ _ _ _ h⟩
    | row r args => exact ⟨(fun e => by rw [hd] at e; cases e), hr _ _ _ _ h⟩
    | value v => exact h
    | skip => exact h
    | defer d => exact h
    | _ => exact False.elim h
  | halt x w' => cases x <;> exact h
theorem wpIn_of_wp {o : Oper} {a : Act} {w : World} {K : Act → World → Prop} (h : o.wp P a w K Q) : o.wpIn Fence.wide n P a w K Q := by
  refine ⟨fun f _ => trivial, ?_⟩
  rw [show Fence.wide.round = none from rfl, Oper.semAt_none]
  exact uponIn_of rfl (fun _ _ _ _ h => callsIn_wide.2 h) (fun _ _ _ _ h => rowsIn_of h) _ h
theorem wpIn_of_wp_round {l : Nat} {o : Oper} {a : Act} {w : World} {K : Act → World → Prop} (hd : ∀ c, o.op ≠ .defer c) (h : o.wp P a w K Q) : o.wpIn (Fence.wide.inRound l) n P a w K Q := by
  refine ⟨fun f _ => trivial, ?_⟩
  rw [show (Fence.wide.inRound l).round = some l from rfl, Oper.semAt_some _ _ _ hd]
  exact uponIn_of rfl (fun _ _ _ _ h => CallsIn.inRound l (callsIn_wide.2 h)) (fun _ _ _ _ h => rowsIn_of (n := n - 1) h) _ h
theorem wpOpIn_off {F : Fence} {i : Nat} {o : Oper} {K : Act → World → Prop} {a : Act} {w : World} (hF : ∀ f, F.fn f) (ho : ops[i]? = some o) (hg : Region.wanted o (yielded ops a.tmps) = false) (h : K (a.put o.dst undef) w) : wpOpIn F n P ops Q i K a w := by
  unfold wpOpIn
  rw [ho]
  simp only [hg, Bool.false_eq_true, if_false]
  exact ⟨fun f _ => hF f, h⟩
theorem wpOpIn_on {F : Fence} {i : Nat} {o : Oper} {K : Act → World → Prop} {a : Act} {w : World} (ho : ops[i]? = some o) (hg : Region.wanted o (yielded ops a.tmps) = true) (h : o.wpIn F n P a w K Q) : wpOpIn F n P ops Q i K a w := by
  unfold wpOpIn
  rw [ho]
  simp only [hg, if_true]
  exact h
theorem wanted_none {o : Oper} {ts : Nat → Option Bool} (hg : o.guard = none) : Region.wanted o ts = true := by simp [Region.wanted, hg]
end
end Go.Proofs.YtjmnomohmijbpaaDoor
