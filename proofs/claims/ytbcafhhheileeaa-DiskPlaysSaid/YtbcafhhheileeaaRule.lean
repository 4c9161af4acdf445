/-
  The rule for a region that draws its order: a fact for each slot, an invariant on the world.
  Conditions: those that each theorem names.
-/
import Derived.Test.YtbcafhhheileeaaRegion
namespace Go.Proofs.Ytbcafhhheileeaa
open Go.RowKit

/-! ### the rule for a region that draws its order: by what each operation leaves in its slot -/
def depsB (o : Oper) : List Nat := o.after.toList.filterMap fun e => if Region.binds .any e then some e.on else none
def wfB (ops : Array Oper) : Bool := (List.range ops.size).all fun i => match ops[i]? with
  | some o => (depsB o).all (fun j => decide (j < i))
  | none => true
def dsts (ops : Array Oper) : List Tmp := ops.toList.filterMap (·.dst)
def nodupB : List Nat → Bool
  | [] => true
  | x :: xs => !xs.contains x && nodupB xs
def dstB (ops : Array Oper) (n : Nat) : Bool := (dsts ops).all (fun d => decide (d < n)) && nodupB (dsts ops)

theorem deps_of {o : Oper} {p : Nat → Prop} (h : ∀ e ∈ o.after.toList, Region.binds .any e = true → p e.on) : ∀ j ∈ depsB o, p j := by
  intro j hj
  obtain ⟨e, he, hj⟩ := List.mem_filterMap.1 hj
  split at hj
  · rename_i hb
    cases hj
    exact h e he hb
  · cases hj
theorem wf_of {ops : Array Oper} (h : wfB ops = true) : ∀ i o, ops[i]? = some o → ∀ e ∈ o.after.toList, Region.binds .any e = true → e.on < i := by
  intro i o ho e he hb
  have hi : i < ops.size := (Array.getElem?_eq_some_iff.1 ho).1
  have h1 := List.all_eq_true.1 h i (List.mem_range.2 hi)
  rw [ho] at h1
  have h2 := List.all_eq_true.1 h1 e.on (List.mem_filterMap.2 ⟨e, he, by rw [if_pos hb]⟩)
  simpa using h2
theorem nodup_of : ∀ {l : List Nat}, nodupB l = true → l.Nodup
  | [], _ => .nil
  | x :: xs, h => by
    simp only [nodupB, Bool.and_eq_true, Bool.not_eq_true'] at h
    refine List.nodup_cons.2 ⟨fun hm => ?_, nodup_of h.2⟩
    have : xs.contains x = true := by simpa using hm
    rw [this] at h
    cases h.1
theorem dst_inj_list : ∀ {l : List Oper}, (l.filterMap (·.dst)).Nodup → ∀ (i j : Nat) (o o' : Oper) (d : Tmp), l[i]? = some o → l[j]? = some o' → o.dst = some d → o'.dst = some d → j = i
  | [], _, _, _, _, _, _, h, _, _, _ => by simp at h
  | x :: xs, hn, i, j, o, o', d, hi, hj, h1, h2 => by
    have hin : ∀ (k : Nat) (p : Oper), xs[k]? = some p → p.dst = some d → d ∈ xs.filterMap (·.dst) := fun k p hk hp => List.mem_filterMap.2 ⟨p, List.mem_of_getElem? hk, hp⟩
    have hn' : (xs.filterMap (·.dst)).Nodup := by
      rw [List.filterMap_cons] at hn
      split at hn
      · exact hn
      · exact (List.nodup_cons.1 hn).2
    have hx : x.dst = some d → d ∉ xs.filterMap (·.dst) := by
      intro hx
      rw [List.filterMap_cons, hx] at hn
      exact (List.nodup_cons.1 hn).1
    cases i with
    | zero =>
      simp at hi; subst hi
      cases j with
      | zero => rfl
      | succ j => simp at hj; exact absurd (hin j o' hj h2) (hx h1)
    | succ i =>
      simp at hi
      cases j with
      | zero => simp at hj; subst hj; exact absurd (hin i o hi h1) (hx h2)
      | succ j => simp at hj; exact congrArg _ (dst_inj_list hn' i j o o' d hi hj h1 h2)
theorem dst_inj {ops : Array Oper} {n : Nat} (h : dstB ops n = true) (i j : Nat) (o o' : Oper) (d : Tmp) (hi : ops[i]? = some o) (hj : ops[j]? = some o') (h1 : o.dst = some d) (h2 : o'.dst = some d) : j = i := by
  simp only [dstB, Bool.and_eq_true] at h
  exact dst_inj_list (nodup_of h.2) i j o o' d (by simpa using hi) (by simpa using hj) h1 h2
theorem dst_lt {ops : Array Oper} {n : Nat} (h : dstB ops n = true) (i : Nat) (o : Oper) (d : Tmp) (hi : ops[i]? = some o) (h1 : o.dst = some d) : d < n := by
  simp only [dstB, Bool.and_eq_true] at h
  have := List.all_eq_true.1 h.1 d (List.mem_filterMap.2 ⟨o, List.mem_of_getElem? (by simpa using hi : ops.toList[i]? = some o), h1⟩)
  simpa using this

def putOne (u : Nat → Value) (b : Act) (o : Oper) : Act := match o.dst with
  | some d => b.put (some d) (u d)
  | none => b
def putAll (ops : Array Oper) (u : Nat → Value) (a : Act) : Act := ops.toList.foldl (putOne u) a
theorem putOne_size (u : Nat → Value) (b : Act) (o : Oper) : (putOne u b o).tmps.size = b.tmps.size := by
  unfold putOne; split <;> simp [Act.put]
theorem putOne_defers (u : Nat → Value) (b : Act) (o : Oper) : (putOne u b o).defers = b.defers := by
  unfold putOne; split <;> simp [Act.put]
theorem putAll_spec (u : Nat → Value) : ∀ (l : List Oper) (b : Act), (l.foldl (putOne u) b).tmps.size = b.tmps.size ∧ (l.foldl (putOne u) b).defers = b.defers ∧
    ∀ t, t < b.tmps.size → (l.foldl (putOne u) b).tmps.getD t undef = if t ∈ l.filterMap (·.dst) then u t else b.tmps.getD t undef
  | [], b => ⟨rfl, rfl, fun t _ => by simp⟩
  | o :: l, b => by
    obtain ⟨h1, h2, h3⟩ := putAll_spec u l (putOne u b o)
    rw [putOne_size] at h1 h3
    rw [putOne_defers] at h2
    refine ⟨h1, h2, fun t ht => ?_⟩
    rw [List.foldl_cons, h3 t ht, List.filterMap_cons]
    unfold putOne
    cases ho : o.dst with
    | none => rfl
    | some d =>
      by_cases hdt : t = d
      · subst hdt
        simp [Act.put, ht]
      · have hdt' : ¬ d = t := fun e => hdt e.symm
        simp [Act.put, hdt, hdt']
theorem act_ext {a b : Act} (h1 : a.tmps.size = b.tmps.size) (h2 : a.defers = b.defers) (h3 : ∀ t, t < a.tmps.size → a.tmps.getD t undef = b.tmps.getD t undef) : a = b := by
  obtain ⟨ta, da⟩ := a
  obtain ⟨tb, db⟩ := b
  dsimp only at *
  subst h2
  congr 1
  refine Array.ext h1 fun i hi1 hi2 => ?_
  have := h3 i hi1
  simpa [hi1, hi2] using this

section
variable {P : Program} {ops : Array Oper} {Q : Exit → Act → World → Prop}
/-- what is done has all done that it waits for -/
def Closed (ops : Array Oper) (listed : Array Bool) : Prop := ∀ (j : Nat) (o : Oper), ops[j]? = some o → Done listed j → ∀ k ∈ depsB o, Done listed k
def pathB (ops : Array Oper) : List Nat → Bool
  | j :: k :: r => (match ops[j]? with
    | some o => (depsB o).contains k
    | none => false) && pathB ops (k :: r)
  | _ => true
theorem path_done {ops : Array Oper} {listed : Array Bool} (hc : Closed ops listed) : ∀ (l : List Nat) (j : Nat), pathB ops (j :: l) = true → Done listed j → ∀ i ∈ l, Done listed i
  | [], _, _, _, i, hi => by simp at hi
  | k :: r, j, hp, hd, i, hi => by
    simp only [pathB, Bool.and_eq_true] at hp
    have hk : Done listed k := by
      cases ho : ops[j]? with
      | none => rw [ho] at hp; cases hp.1
      | some o =>
        rw [ho] at hp
        exact hc j o ho hd k (by simpa using hp.1)
    rcases List.mem_cons.1 hi with rfl | hi
    · exact hk
    · exact path_done hc r k hp.2 hk i hi
theorem Closed.step {ops : Array Oper} {listed : Array Bool} {i : Nat} {o : Oper} (h : Closed ops listed) (ho : ops[i]? = some o) (hd : ∀ k ∈ depsB o, Done listed k) : Closed ops (listed.setIfInBounds i true) := by
  have up : ∀ k, Done listed k → Done (listed.setIfInBounds i true) k := fun k hk => by
    unfold Done at hk ⊢
    by_cases hki : i = k
    · subst hki
      have : i < listed.size := by
        by_cases hlt : i < listed.size
        · exact hlt
        · simp [hlt] at hk
      simp [this]
    · simpa [Array.getElem?_setIfInBounds, hki] using hk
  intro j o' hj hdj k hk
  by_cases hji : j = i
  · subst hji
    rw [ho] at hj; cases hj
    exact up k (hd k hk)
  · refine up k (h j o' hj ?_ k hk)
    unfold Done at hdj ⊢
    simpa [Array.getElem?_setIfInBounds, Ne.symm hji] using hdj
/-- what may be used at one operation -/
structure At (ops : Array Oper) (F : Nat → Value → World → Prop) (a0 : Act) (listed : Array Bool) (a : Act) (w : World) (o : Oper) : Prop where
  deps : ∀ j ∈ depsB o, Done listed j
  other : ∀ t, t ∉ dsts ops → a.tmps.getD t undef = a0.tmps.getD t undef
  facts : ∀ (j : Nat) (o' : Oper) (d : Tmp), ops[j]? = some o' → o'.dst = some d → Done listed j → F j (a.tmps.getD d undef) w
  closed : Closed ops listed

def AllFrom (p : Nat → Oper → Prop) : Nat → List Oper → Prop
  | _, [] => True
  | n, o :: l => p n o ∧ AllFrom p (n + 1) l
theorem AllFrom.get {p : Nat → Oper → Prop} : ∀ {l : List Oper} {n i : Nat} {o : Oper}, AllFrom p n l → l[i]? = some o → p (n + i) o
  | [], _, _, _, _, h => by simp at h
  | x :: xs, n, 0, o, ha, h => by simp at h; subst h; exact ha.1
  | x :: xs, n, i + 1, o, ha, h => by
    have := AllFrom.get ha.2 (by simpa using h : xs[i]? = some o)
    rwa [Nat.add_assoc, Nat.add_comm 1 i] at this
theorem allOps {ops : Array Oper} {p : Nat → Oper → Prop} (h : AllFrom p 0 ops.toList) (i : Nat) (o : Oper) (ho : ops[i]? = some o) : p i o := by
  have := AllFrom.get h (by simpa using ho : ops.toList[i]? = some o)
  rwa [Nat.zero_add] at this

theorem At.dep {F : Nat → Value → World → Prop} {a0 a : Act} {listed : Array Bool} {w : World} {o : Oper} (h : At ops F a0 listed a w o) {j : Nat} (hj : (depsB o).contains j = true) : Done listed j := h.deps j (by simpa using hj)
theorem At.old {F : Nat → Value → World → Prop} {a0 a : Act} {listed : Array Bool} {w : World} {o : Oper} (h : At ops F a0 listed a w o) (t : Nat) (hj : (dsts ops).contains t = false) {v : Value} (hv : a0.tmps.getD t undef = v) : a.tmps[t]?.getD undef = v := by
  rw [← Array.getD_eq_getD_getElem?, h.other t (fun hm => by rw [List.contains_iff_mem.2 hm] at hj; cases hj), hv]
theorem At.is {F : Nat → Value → World → Prop} {a0 a : Act} {listed : Array Bool} {w : World} {o : Oper} (h : At ops F a0 listed a w o) (j : Nat) {o' : Oper} (d : Nat) (hj : ops[j]? = some o') (hd : o'.dst = some d) (hdep : (depsB o).contains j = true) : F j (a.tmps[d]?.getD undef) w := by
  rw [← Array.getD_eq_getD_getElem?]
  exact h.facts j o' d hj hd (h.dep hdep)
theorem At.before {F : Nat → Value → World → Prop} {a0 a : Act} {listed : Array Bool} {w : World} {o : Oper} (h : At ops F a0 listed a w o) {i : Nat} (hl : listed.getD i true = false) (j : Nat) (l : List Nat) (hp : pathB ops (j :: l) = true) (hi : l.contains i = true) : listed.getD j false = false := by
  cases hj : listed.getD j false with
  | false => rfl
  | true =>
    have hd := path_done h.closed l j hp hj i (by simpa using hi)
    unfold Done at hd
    by_cases hlt : i < listed.size
    · simp [hlt] at hd hl
      rw [hd] at hl; cases hl
    · simp [hlt] at hd
theorem At.after {F : Nat → Value → World → Prop} {a0 a : Act} {listed : Array Bool} {w : World} {o : Oper} (h : At ops F a0 listed a w o) (j : Nat) (l : List Nat) (hj : (depsB o).contains j = true) (hp : pathB ops (j :: l) = true) (i : Nat) (hi : l.contains i = true) : Done listed i :=
  path_done h.closed l j hp (h.dep hj) i (by simpa using hi)
theorem wanted_of {a : Act} {o o' : Oper} {g d : Nat} {b : Bool} (hg : o.guard = some (g, b)) (h : ops[g]? = some o') (hd : o'.dst = some d) (hv : a.tmps[d]?.getD undef = .bool b) : Region.wanted o (yielded ops a.tmps) = true := by
  have h1 : a.tmps[d]? = some (.bool b) := by
    cases hx : a.tmps[d]? with
    | none => rw [hx] at hv; cases hv
    | some x => rw [hx] at hv; simp only [Option.getD_some] at hv; rw [hv]
  have h2 : yielded ops a.tmps g = some b := by
    unfold yielded
    simp [h, hd, h1]
  simp [Region.wanted, hg, h2]

theorem wp_eq {o : Oper} {a : Act} {w : World} {K : Act → World → Prop} {v : Value} {w' : World} (h : (execOp a.eval o).run P w = .ok (.value v) w') (hK : K (a.put o.dst v) w') : o.wp P a w K Q := by
  unfold Oper.wp
  rw [h]
  exact hK
theorem wp_enter {o : Oper} {a : Act} {w : World} {K : Act → World → Prop} {f : FuncId} {args : Array Value} {w' : World} (h : (execOp a.eval o).run P w = .ok (.enter f args) w') {R : Value → World → Prop}
    (hc : Calls P f args w' fun e w'' => ∃ v, e = .returned v ∧ R v w'') (hK : ∀ v w'', R v w'' → K (a.put o.dst v) w'') : o.wp P a w K Q := by
  unfold Oper.wp
  rw [h, Oper.upon_enter]
  refine hc.mono ?_
  rintro e w'' ⟨v, rfl, hr⟩
  exact hK v w'' hr
theorem set_ne {listed : Array Bool} {i j : Nat} (h : i ≠ j) : (listed.setIfInBounds i true).getD j false = listed.getD j false := by
  simp [h]
theorem set_self {listed : Array Bool} {i : Nat} (h : listed.getD i true = false) : (listed.setIfInBounds i true).getD i false = true := by
  by_cases hi : i < listed.size
  · simp [hi]
  · simp [hi] at h
theorem not_yet {listed : Array Bool} {i : Nat} (h : listed.getD i true = false) : listed.getD i false = false := by
  by_cases hi : i < listed.size
  · simpa [hi] using h
  · simp [hi] at h

theorem wp_region_rule {id : Nat} {a : Act} {w : World} (hm : P.follows .mixedOrders = true) (F : Nat → Value → World → Prop) (J : Array Bool → World → Prop) (hwf : wfB ops = true) (hst : dstB ops a.tmps.size = true)
    (hJ0 : J (Array.replicate ops.size false) w.drew)
    (hstep : ∀ i o, ops[i]? = some o → ∀ (listed : Array Bool) (a' : Act) (w' : World), listed.getD i true = false → At ops F a listed a' w' o → J listed w' →
      Region.wanted o (yielded ops a'.tmps) = true ∧
      ∀ K : Act → World → Prop, (∀ v w'', (∀ d, o.dst = some d → F i v w'') → (∀ j u, j ≠ i → Done listed j → F j u w' → F j u w'') → J (listed.setIfInBounds i true) w'' → K (a'.put o.dst v) w'') → o.wp P a' w' K Q)
    (hend : ∀ listed (u : Nat → Value) w', (∀ (j : Nat) (o' : Oper) (d : Tmp), ops[j]? = some o' → o'.dst = some d → F j (u d) w') → (∀ i, i < ops.size → Done listed i) → J listed w' → Q .normal (putAll ops u a) w') : (Code.region id ops true).wp P Q a w := by
  have none0 : ∀ (i : Nat) (o : Oper), ops[i]? = some o → ¬ Done (Array.replicate ops.size false) i := fun i o ho hdone => by
    have hi := (Array.getElem?_eq_some_iff.1 ho).1
    unfold Done at hdone
    simp [hi] at hdone
  refine wp_region_inv hm (fun listed a' w' => RegI ops F J a listed a' w' ∧ Closed ops listed) (wf_of hwf) ⟨⟨rfl, rfl, fun _ _ => rfl, fun i o d ho _ hdone => (none0 i o ho hdone).elim, hJ0⟩, fun j o ho hdone => (none0 j o ho hdone).elim⟩ ?_ ?_
  · rintro listed i o a' w' hs ho hl hdep ⟨hI, hC⟩
    have hother : ∀ t, t ∉ dsts ops → a'.tmps.getD t undef = a.tmps.getD t undef := fun t ht => hI.other t fun i' o' h1 h2 => ht (List.mem_filterMap.2 ⟨o', List.mem_of_getElem? (by simpa using h1 : ops.toList[i']? = some o'), h2⟩)
    obtain ⟨hw, hgo⟩ := hstep i o ho listed a' w' hl ⟨deps_of hdep, hother, hI.facts, hC⟩ hI.inv
    unfold wpOp
    rw [ho]
    simp only [hw, if_true]
    exact .inl (hgo _ fun v w'' h1 h2 h3 => ⟨hI.step ho hl v (fun d hd => dst_lt hst i o d ho hd) (fun j o' d hj hd h => dst_inj hst i j o o' d ho hj h hd) h1 h2 h3, hC.step ho (deps_of hdep)⟩)
  · rintro listed a' w' hall ⟨hI, _⟩
    have heq : a' = putAll ops (fun d => a'.tmps.getD d undef) a := by
      obtain ⟨h1, h2, h3⟩ := putAll_spec (fun d => a'.tmps.getD d undef) ops.toList a
      refine act_ext (hI.size.trans h1.symm) (hI.defers.trans h2.symm) fun t ht => ?_
      rw [hI.size] at ht
      unfold putAll
      rw [h3 t ht]
      by_cases hno : t ∈ ops.toList.filterMap (·.dst)
      · rw [if_pos hno]
      · rw [if_neg hno]
        exact hI.other t fun i' o' k1 k2 => hno (List.mem_filterMap.2 ⟨o', List.mem_of_getElem? (by simpa using k1 : ops.toList[i']? = some o'), k2⟩)
    rw [heq]
    exact hend listed _ w' (fun j o' d hj hd => hI.facts j o' d hj hd (hall j (Array.getElem?_eq_some_iff.1 hj).1)) hall hI.inv
end
end Go.Proofs.Ytbcafhhheileeaa
