/-
  A rule for a region that draws its order, by an invariant over what has been done.
  Conditions: those that each theorem names.
-/
import Derived.Test.YtbcafhhheileeaaBase
namespace Go.Proofs.Ytbcafhhheileeaa
open Go.RowKit

/-! ### a region that draws its order, by an invariant over what has been done -/
def Done (listed : Array Bool) (j : Nat) : Prop := listed.getD j false = true

section
variable {P : Program} {ops : Array Oper} {Q : Exit → Act → World → Prop}

def leftCount (n : Nat) (listed : Array Bool) : Nat := (List.range n).countP (fun i => !listed.getD i true)
theorem ready_mem {listed : Array Bool} {i : Nat} : i ∈ Region.ready .any ops listed ↔ i < ops.size ∧ listed.getD i true = false ∧ ∃ o, ops[i]? = some o ∧ ∀ e ∈ o.after.toList, Region.binds .any e = true → listed.getD e.on false = true := by
  unfold Region.ready
  simp only [List.mem_filter, List.mem_range, Bool.and_eq_true, Bool.not_eq_true']
  constructor
  · rintro ⟨h1, h2, h3⟩
    refine ⟨h1, h2, ops[i], Array.getElem?_eq_getElem h1, ?_⟩
    rw [Array.getElem?_eq_getElem h1] at h3
    simp only [Option.map_some, Option.getD_some, Array.all_eq_true'] at h3
    intro e he hb
    have := h3 e (by simpa using he)
    simpa [hb] using this
  · rintro ⟨h1, h2, o, ho, h3⟩
    refine ⟨h1, h2, ?_⟩
    rw [ho]
    simp only [Option.map_some, Option.getD_some, Array.all_eq_true']
    intro e he
    cases hb : Region.binds .any e
    · rfl
    · simpa using h3 e (by simpa using he) hb
theorem leftCount_set {n i : Nat} {listed : Array Bool} (hs : listed.size = n) (hi : i < n) (h : listed.getD i true = false) : leftCount n (listed.setIfInBounds i true) + 1 = leftCount n listed := by
  unfold leftCount
  have hgen : ∀ (l : List Nat), l.Nodup → l.countP (fun j => !(listed.setIfInBounds i true).getD j true) + (if i ∈ l then 1 else 0) = l.countP (fun j => !listed.getD j true) := by
    intro l
    induction l with
    | nil => simp
    | cons j l ih =>
      intro hn
      rw [List.nodup_cons] at hn
      have ih' := ih hn.2
      simp only [List.countP_cons, List.mem_cons]
      by_cases hij : i = j
      · subst hij
        have h1 : (listed.setIfInBounds i true).getD i true = true := by simp [hs, hi]
        rw [h1, h]
        rw [if_neg hn.1] at ih'
        simp only [true_or, if_true, Bool.not_true, Bool.not_false, Bool.false_eq_true, if_false]
        omega
      · have h1 : (listed.setIfInBounds i true).getD j true = listed.getD j true := by
          simp [hij]
        rw [h1]
        simp only [hij, false_or]
        omega
  have := hgen (List.range n) List.nodup_range
  rw [if_pos (List.mem_range.2 hi)] at this
  exact this

theorem wpAny_inv (I : Array Bool → Act → World → Prop)
    (hwf : ∀ i o, ops[i]? = some o → ∀ e ∈ o.after.toList, Region.binds .any e = true → e.on < i)
    (hstep : ∀ listed i o a w, listed.size = ops.size → ops[i]? = some o → listed.getD i true = false → (∀ e ∈ o.after.toList, Region.binds .any e = true → Done listed e.on) → I listed a w →
      wpOp P ops Q i (I (listed.setIfInBounds i true)) a w)
    (hend : ∀ listed a w, (∀ i, i < ops.size → Done listed i) → I listed a w → Q .normal a w) :
    ∀ (fuel : Nat) (listed : Array Bool) (a : Act) (w : World), listed.size = ops.size → leftCount ops.size listed ≤ fuel → I listed a w → wpAny P .any ops Q fuel listed a w := by
  have hall : ∀ listed : Array Bool, listed.size = ops.size → Region.ready .any ops listed = [] → ∀ i, i < ops.size → Done listed i := by
    intro listed hs hr i
    induction i using Nat.strongRecOn with
    | _ i ih =>
      intro hi
      have hn : i ∉ Region.ready .any ops listed := by rw [hr]; simp
      rw [ready_mem] at hn
      have hlt : i < listed.size := by omega
      cases hl : listed.getD i true
      · exfalso
        apply hn
        refine ⟨hi, hl, ops[i], Array.getElem?_eq_getElem hi, fun e he hb => ?_⟩
        have h1 := hwf i _ (Array.getElem?_eq_getElem hi) e he hb
        exact ih e.on h1 (by omega)
      · have : listed[i] = true := by simpa [hlt] using hl
        unfold Done
        simp [hlt, this]
  intro fuel
  induction fuel with
  | zero =>
    intro listed a w hs hc hI
    have hnil : Region.ready .any ops listed = [] := by
      rw [List.eq_nil_iff_forall_not_mem]
      intro i hi
      rw [ready_mem] at hi
      have h0 : leftCount ops.size listed = 0 := by omega
      unfold leftCount at h0
      rw [List.countP_eq_zero] at h0
      have := h0 i (List.mem_range.2 hi.1)
      rw [hi.2.1] at this
      simp at this
    exact ⟨hnil, hend listed a w (hall listed hs hnil) hI⟩
  | succ fuel ih =>
    intro listed a w hs hc hI
    refine ⟨fun hr => hend listed a w (hall listed hs hr) hI, fun i hi => ?_⟩
    rw [ready_mem] at hi
    obtain ⟨h1, h2, o, ho, h3⟩ := hi
    refine wpOp_mono (fun a' w' hI' => ih _ a' w' (by simpa using hs) ?_ hI') (hstep listed i o a w hs ho h2 h3 hI)
    have := leftCount_set hs h1 h2
    omega

theorem wp_region_inv {id : Nat} {a : Act} {w : World} (hm : P.follows .mixedOrders = true) (I : Array Bool → Act → World → Prop)
    (hwf : ∀ i o, ops[i]? = some o → ∀ e ∈ o.after.toList, Region.binds .any e = true → e.on < i)
    (h0 : I (Array.replicate ops.size false) a w.drew)
    (hstep : ∀ listed i o a w, listed.size = ops.size → ops[i]? = some o → listed.getD i true = false → (∀ e ∈ o.after.toList, Region.binds .any e = true → Done listed e.on) → I listed a w →
      wpOp P ops Q i (I (listed.setIfInBounds i true)) a w)
    (hend : ∀ listed a w, (∀ i, i < ops.size → Done listed i) → I listed a w → Q .normal a w) : (Code.region id ops true).wp P Q a w :=
  wp_region_any hm (wpAny_inv I hwf hstep hend ops.size _ a _ (by simp) (by unfold leftCount; exact Nat.le_trans List.countP_le_length (by simp)) h0)

/-- the frame in such a region: what each operation that is done has put into its slot, and all other slots as they were -/
structure RegI (ops : Array Oper) (F : Nat → Value → World → Prop) (J : Array Bool → World → Prop) (a0 : Act) (listed : Array Bool) (a : Act) (w : World) : Prop where
  size : a.tmps.size = a0.tmps.size
  defers : a.defers = a0.defers
  other : ∀ t, (∀ (i : Nat) (o : Oper), ops[i]? = some o → o.dst ≠ some t) → a.tmps.getD t undef = a0.tmps.getD t undef
  facts : ∀ (i : Nat) (o : Oper) (d : Tmp), ops[i]? = some o → o.dst = some d → Done listed i → F i (a.tmps.getD d undef) w
  inv : J listed w

/-- one step: the value, the world behind it, and that what was known of done operations stays -/
theorem RegI.step {F : Nat → Value → World → Prop} {J : Array Bool → World → Prop} {a0 a : Act} {listed : Array Bool} {w w' : World} {i : Nat} {o : Oper}
    (h : RegI ops F J a0 listed a w) (ho : ops[i]? = some o) (hl : listed.getD i true = false) (v : Value)
    (hd : ∀ d, o.dst = some d → d < a0.tmps.size) (hinj : ∀ j o' d, ops[j]? = some o' → o'.dst = some d → o.dst = some d → j = i)
    (hF : ∀ d, o.dst = some d → F i v w') (hmono : ∀ j u, j ≠ i → Done listed j → F j u w → F j u w') (hJ : J (listed.setIfInBounds i true) w') :
    RegI ops F J a0 (listed.setIfInBounds i true) (a.put o.dst v) w' := by
  have hput : ∀ t, (a.put o.dst v).tmps.getD t undef = if o.dst = some t then v else a.tmps.getD t undef := by
    intro t
    cases hod : o.dst with
    | none => simp [Act.put]
    | some d =>
      have hd' := hd d hod
      by_cases hdt : d = t
      · subst hdt
        have : d < a.tmps.size := by rw [h.size]; exact hd'
        simp [Act.put, this]
      · simp [Act.put, hdt]
  refine ⟨?_, ?_, ?_, ?_, hJ⟩
  · cases hod : o.dst <;> simp [Act.put, h.size]
  · cases hod : o.dst <;> simp [Act.put, h.defers]
  · intro t ht
    rw [hput, if_neg (fun e => ht i o ho e)]
    exact h.other t ht
  · intro j o' d hj hd' hdone
    rw [hput]
    by_cases hji : j = i
    · subst hji
      rw [ho] at hj; cases hj
      rw [if_pos hd']
      exact hF d hd'
    · rw [if_neg (fun e => hji (hinj j o' d hj hd' e))]
      have hdone' : Done listed j := by
        unfold Done at hdone ⊢
        simpa [Array.getElem?_setIfInBounds, Ne.symm hji] using hdone
      exact hmono j _ hji hdone' (h.facts j o' d hj hd' hdone')
end
end Go.Proofs.Ytbcafhhheileeaa
