/- A region that draws its order, by an invariant: each operation is looked at once, whatever order is drawn. -/
import Derived.WalkKit
import Derived.Orders
namespace Go.Proofs.YtjmnomohmijbpaaDoor
open Go.RowKit
section
variable {P : Program} {ops : Array Oper} {Q : Exit → Act → World → Prop}
/-- what binds stands behind what it waits for -/
def forwardB (ops : Array Oper) : Bool := (List.range ops.size).all fun i => match ops[i]? with
  | some o => o.after.all fun e => !Region.binds .any e || decide (e.on < i)
  | none => true
theorem forward_spec (h : forwardB ops = true) {i : Nat} {o : Oper} (ho : ops[i]? = some o) {e : Edge} (he : e ∈ o.after) (hb : Region.binds .any e = true) : e.on < i := by
  unfold forwardB at h
  rw [List.all_eq_true] at h
  have hi : i < ops.size := (Array.getElem?_eq_some_iff.1 ho).1
  have h1 := h i (List.mem_range.2 hi)
  rw [ho] at h1
  simp only [Array.all_eq_true_iff_forall_mem] at h1
  have h2 := h1 e he
  simpa [hb] using h2
theorem ready_nil (hf : forwardB ops = true) {listed : Array Bool} (hs : listed.size = ops.size) (h : Region.ready .any ops listed = []) : ∀ i, i < ops.size → listed.getD i false = true := by
  intro i
  induction i using Nat.strongRecOn with
  | _ i ih =>
    intro hi
    cases hl : listed.getD i false with
    | true => rfl
    | false =>
      exfalso
      have hm : i ∈ Region.ready .any ops listed := by
        refine mem_ready.2 ⟨?_, ops[i], Array.getElem?_eq_getElem hi, fun e he hb => ?_⟩
        · rw [Array.getD_eq_getD_getElem?, Array.getElem?_eq_getElem (by omega)] at hl ⊢
          exact hl
        · have hlt := forward_spec hf (Array.getElem?_eq_getElem hi) he hb
          exact ih e.on hlt (by omega)
      rw [h] at hm
      cases hm
theorem wpAny_inv (hf : forwardB ops = true) (I : (Nat → Bool) → Act → World → Prop)
    (step : ∀ (D : Nat → Bool) (a : Act) (w : World) (i : Nat) (o : Oper), I D a w → ops[i]? = some o → D i = false → (∀ e ∈ o.after, Region.binds .any e = true → D e.on = true) →
      wpOp P ops Q i (fun a' w' => I (fun j => D j || j == i) a' w') a w)
    (done : ∀ (D : Nat → Bool) (a : Act) (w : World), I D a w → (∀ i, i < ops.size → D i = true) → Q .normal a w) :
    ∀ (fuel : Nat) (listed : Array Bool) (a : Act) (w : World), listed.size = ops.size → fuel = ((List.range ops.size).filter fun i => !listed.getD i false).length →
      I (fun j => listed.getD j false) a w → wpAny P .any ops Q fuel listed a w := by
  intro fuel
  induction fuel with
  | zero =>
    intro listed a w hs hfu hI
    have hall : ∀ i, i < ops.size → listed.getD i false = true := by
      intro i hi
      have hnil : ((List.range ops.size).filter fun i => !listed.getD i false) = [] := List.eq_nil_of_length_eq_zero hfu.symm
      rw [List.filter_eq_nil_iff] at hnil
      have := hnil i (List.mem_range.2 hi)
      simpa using this
    refine ⟨?_, done _ a w hI hall⟩
    apply List.eq_nil_iff_forall_not_mem.2
    intro i hm
    obtain ⟨h0, o, ho, _⟩ := mem_ready.1 hm
    have hi : i < ops.size := (Array.getElem?_eq_some_iff.1 ho).1
    have h1 := hall i hi
    rw [Array.getD_eq_getD_getElem?, Array.getElem?_eq_getElem (by omega)] at h0 h1
    simp only [Option.getD_some] at h0 h1
    rw [h0] at h1
    cases h1
  | succ fuel ih =>
    intro listed a w hs hfu hI
    refine ⟨fun hr => done _ a w hI (ready_nil hf hs hr), fun i hm => ?_⟩
    obtain ⟨h0, o, ho, hedges⟩ := mem_ready.1 hm
    have hi : i < ops.size := (Array.getElem?_eq_some_iff.1 ho).1
    have h0' : listed.getD i false = false := by
      rw [Array.getD_eq_getD_getElem?, Array.getElem?_eq_getElem (by omega)] at h0 ⊢
      exact h0
    have hset : ∀ j, (listed.setIfInBounds i true).getD j false = (listed.getD j false || j == i) := by
      intro j
      simp only [Array.getD_eq_getD_getElem?, Array.getElem?_setIfInBounds]
      by_cases e : i = j
      · subst e; simp [hs, hi]
      · have e' : (j == i) = false := by simpa using fun h : j = i => e h.symm
        rw [if_neg e, e']; simp
    refine wpOp_mono (fun a' w' hI' => ih _ a' w' (by simpa using hs) ?_ ?_) (step _ a w i o hI ho h0' hedges)
    · have hfun : (fun j => !(listed.setIfInBounds i true).getD j false) = fun j => !listed.getD j false && !(j == i) := by
        funext j; rw [hset]; cases listed.getD j false <;> simp
      rw [hfun]
      have key : ∀ (l : List Nat), l.Nodup → i ∈ l → (l.filter fun j => !listed.getD j false).length = (l.filter fun j => !listed.getD j false && !(j == i)).length + 1 := by
        intro l
        induction l with
        | nil => intro _ h; cases h
        | cons x l ihl =>
          intro hn hmem
          obtain ⟨hx, hn'⟩ := List.nodup_cons.1 hn
          by_cases e : x = i
          · subst e
            have hrest : l.filter (fun j => !listed.getD j false && !(j == x)) = l.filter fun j => !listed.getD j false := by
              apply List.filter_congr
              intro j hj
              have : (j == x) = false := by simp; rintro rfl; exact hx hj
              rw [this]; simp
            rw [List.filter_cons_of_pos (by simp [h0']), List.filter_cons_of_neg (by simp), hrest]
            simp
          · have hmem' : i ∈ l := by
              rcases List.mem_cons.1 hmem with h | h
              · exact absurd h.symm e
              · exact h
            have hi' := ihl hn' hmem'
            have hxe : (x == i) = false := by simpa using e
            cases hlx : listed.getD x false with
            | true =>
              rw [List.filter_cons_of_neg (by rw [hlx]; simp), List.filter_cons_of_neg (by rw [hlx]; simp)]
              exact hi'
            | false =>
              rw [List.filter_cons_of_pos (by rw [hlx]; rfl), List.filter_cons_of_pos (by rw [hlx, hxe]; rfl)]
              simp only [List.length_cons, hi']
      have := key (List.range ops.size) List.nodup_range (List.mem_range.2 hi)
      omega
    · have e : (fun j => (listed.setIfInBounds i true).getD j false) = fun j => listed.getD j false || j == i := by funext j; exact hset j
      rw [e]; exact hI'
/-- THE LAW: an invariant that says, for each set D of operations carried out, what the frame and the world hold. -/
theorem wp_region_inv {id : Nat} {a : Act} {w : World} (hm : P.follows .mixedOrders = true) (hf : forwardB ops = true) (I : (Nat → Bool) → Act → World → Prop)
    (h0 : I (fun _ => false) a w.drew)
    (step : ∀ (D : Nat → Bool) (a : Act) (w : World) (i : Nat) (o : Oper), I D a w → ops[i]? = some o → D i = false → (∀ e ∈ o.after, Region.binds .any e = true → D e.on = true) →
      wpOp P ops Q i (fun a' w' => I (fun j => D j || j == i) a' w') a w)
    (done : ∀ (D : Nat → Bool) (a : Act) (w : World), I D a w → (∀ i, i < ops.size → D i = true) → Q .normal a w) : (Code.region id ops true).wp P Q a w := by
  refine wp_region_any hm (wpAny_inv hf I step done _ _ a _ (by simp) ?_ ?_)
  · have : ((List.range ops.size).filter fun i => !(Array.replicate ops.size false).getD i false) = List.range ops.size := by
      rw [List.filter_eq_self]
      intro i hi
      have := List.mem_range.1 hi
      simp [Array.getD_eq_getD_getElem?, this]
    rw [this, List.length_range]
  · have e : (fun j => (Array.replicate ops.size false).getD j false) = fun _ => false := by
      funext j
      simp only [Array.getD_eq_getD_getElem?, Array.getElem?_replicate]
      split <;> rfl
    rw [e]; exact h0
/-- one operation, its guard none -/
theorem wpOp_of {i : Nat} {o : Oper} {K : Act → World → Prop} {a : Act} {w : World} (ho : ops[i]? = some o) (hg : o.guard = none) (h : o.wp P a w K Q) : wpOp P ops Q i K a w := by
  unfold wpOp
  rw [ho]
  have hw : Region.wanted o (yielded ops a.tmps) = true := by simp [Region.wanted, hg]
  simp only [hw, if_true]
  exact .inl h
/-- one operation that is guarded: carried out, passed over -/
theorem wpOp_on {i : Nat} {o : Oper} {K : Act → World → Prop} {a : Act} {w : World} (ho : ops[i]? = some o) (hg : Region.wanted o (yielded ops a.tmps) = true) (h : o.wp P a w K Q) : wpOp P ops Q i K a w := by
  unfold wpOp
  rw [ho]
  simp only [hg, if_true]
  exact .inl h
theorem wpOp_off {i : Nat} {o : Oper} {K : Act → World → Prop} {a : Act} {w : World} (ho : ops[i]? = some o) (hg : Region.wanted o (yielded ops a.tmps) = false) (h : K (a.put o.dst undef) w) : wpOp P ops Q i K a w := by
  unfold wpOp
  rw [ho]
  simp only [hg, Bool.false_eq_true, if_false]
  exact h
end
end Go.Proofs.YtjmnomohmijbpaaDoor
