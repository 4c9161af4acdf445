/-
  Part of the proofs of DiskPlays, SlotPlays: the document's device, New.
  Conditions: those that each theorem names.
-/
import Derived.Test.YtbcafhhheileeaaE8
namespace Go.Proofs.Ytbcafhhheileeaa
open Go.RowKit
set_option maxRecDepth 100000

theorem wpList_app1x {P : Program} (w : World) {ops : Array Oper} {rest : List Oper} {o : Oper} {a : Act} {Q : Exit → Act → World → Prop} (hgd : o.guard = none) (s x : Operand) (t : TypeId) (ho : o.op = .call { callee := .builtin .append, args := #[s, x], argTypes := #[t, t] })
    {e : TypeId} {sz bytes : Nat} (E : ElemOk P t e sz bytes) {base : Nat} {v : Value} {n : Nat} {xs : List Value} (hs : a.eval s = v) (hown : w.ownsRow base e sz v n xs)
    {cs : Array Value} (hx : a.eval x = .slice (some ⟨w.heap.size, 0, none⟩) 1 1) (hcs : cs.size = sz) (h1 : ∀ y ∈ cs.toList, y.oneCell' = true) (hb : (n + 1) * bytes ≤ 140737488355328) (hbase : base ≤ w.heap.size)
    (h : ∀ A c w', w'.ownsRow base e sz (.slice A (n + 1) c) (n + 1) (xs ++ cs.toList) → w.grownBy w' v.ownBlock → ((Value.slice A (n + 1) c).ownBlock = v.ownBlock ∨ ∃ k, (Value.slice A (n + 1) c).ownBlock = some k ∧ w.heap.size ≤ k) → wpList P ops Q rest (a.put o.dst (.slice A (n + 1) c)) w') : wpList P ops Q (o :: rest) a (w.alloc (.cells cs e)) := by
  refine wpList_plain hgd fun K hK => ?_
  obtain ⟨A, c, w', hr, h2, h3, h4⟩ := run_app (P := P) (w.alloc (.cells cs e)) E o.type (hown.alloc _) (RdV.lit w cs e sz 1 (by omega)) h1 hb (by simp; omega)
  unfold Oper.wp execOp
  simp only [ho, resolve, invoke, builtin, Sem.run_bind, Sem.run_pure, Result.andThen_ok, List.map_toArray, List.map_cons, List.map_nil, hs, hx, hr]
  exact hK _ _ (h A c w' h2 ⟨h3.os, h3.tape, h3.output, Nat.le_trans (by simp) h3.size, fun k hk hne => (h3.block k (by simp; omega) hne).trans (Below.heap_alloc w _ k hk)⟩ (h4.imp id (fun ⟨k, h, hk⟩ => ⟨k, h, by simp at hk; omega⟩)))
def devCells (vN vS vC : Value) : Array Value := #[vN, vS, vC, .int .i64 0, .int .i64 0, .bool false, .int .i64 0, .bool false]
structure RNst (B : Nat) (w : World) (g : Nat) (vN vS vC : Value) (kN kS kC : Nat) : Prop where
  b0 : B ≤ g
  blk : w.heap[g]? = some (.cells (devCells vN vS vC) 50 (0, 0))
  n : ∃ vs, w.ownsRow B 28 1 vN kN vs ∧ ∀ v ∈ vs, OwnB w B v zsec
  s : ∃ vs, w.ownsRow B 28 1 vS kS vs ∧ ∀ v ∈ vs, OwnB w B v zsec
  c : w.ownsRow B 4 1 vC kC (List.replicate kC (.bool false))
  ne : ∀ b, vN.ownBlock = some b → vS.ownBlock ≠ some b

theorem own_ty {w : World} {B e : Nat} {v : Value} {n : Nat} {xs : List Value} (h : w.ownsRow B e 1 v n xs) {b : Nat} (hb : v.ownBlock = some b) : ∃ cur, w.heap[b]? = some (.cells cur e (0, 0)) := by
  rcases h.2 with ⟨rfl, _⟩ | ⟨g', cap', cur, rfl, h3, h4, _⟩
  · cases hb
  · injection hb with hb
    subst hb
    exact ⟨cur, h4⟩
section
variable {B : Nat} {w w' W0 : World} {g : Nat} {vN vS vC : Value} {kN kS kC : Nat}
theorem RNst.g_ne (h : RNst B w g vN vS vC kN kS kC) : vN.ownBlock ≠ some g ∧ vS.ownBlock ≠ some g ∧ vC.ownBlock ≠ some g := by
  obtain ⟨vs, h1, _⟩ := h.n
  obtain ⟨vs2, h2, _⟩ := h.s
  refine ⟨fun e => ?_, fun e => ?_, fun e => ?_⟩
  · obtain ⟨cur, hc⟩ := own_ty h1 e
    rw [h.blk] at hc; cases hc
  · obtain ⟨cur, hc⟩ := own_ty h2 e
    rw [h.blk] at hc; cases hc
  · obtain ⟨cur, hc⟩ := own_ty h.c e
    rw [h.blk] at hc; cases hc
theorem rows_kp {X : Nat → Prop} {vs : List Value} (h : ∀ v ∈ vs, OwnB w B v zsec) (hk : Kp X w w') (hx : notTy w X 5) : ∀ v ∈ vs, OwnB w' B v zsec := fun v hv => (h v hv).kp hk hx
/-- the row of Now has grown -/
theorem RNst.stepN (h : RNst B w g vN vS vC kN kS kC) (hB : B ≤ w.heap.size) {v : Value} {b : Nat} {vs : List Value} (hvs : w.ownsRow B 28 1 vN kN vs) (hr : ∀ v ∈ vs, OwnB w B v zsec) (hg : w.grownBy W0 vN.ownBlock)
    (hown : W0.ownsRow B 28 1 v (kN + 1) (vs ++ [.slice (some ⟨b, 0, none⟩) 512 512])) (hby : BytesAt W0 b zsec) (hb : w.heap.size ≤ b) (hvg : v.ownBlock ≠ some g) (hor : v.ownBlock = vN.ownBlock ∨ ∃ b7, v.ownBlock = some b7 ∧ w.heap.size ≤ b7) :
    RNst B (W0.setCell ⟨g, 0, none⟩ v) g v vS vC (kN + 1) kS kC ∧ Kp (fun x => x = g ∨ vN.ownBlock = some x) w (W0.setCell ⟨g, 0, none⟩ v) := by
  obtain ⟨g1, g2, g3⟩ := h.g_ne
  obtain ⟨vs2, hs1, hs2⟩ := h.s
  have hk1 : Kp (fun x => vN.ownBlock = some x) w W0 := Kp.of_grown hg (fun x hx _ => hx)
  have h28 : notTy w (fun x => vN.ownBlock = some x) 5 := fun x cur z hx hc => by
    obtain ⟨cur', hc'⟩ := own_ty hvs hx
    rw [hc] at hc'; cases hc'
  have hgl := lt_of_heap h.blk
  have hblk : W0.heap[g]? = some (.cells (devCells vN vS vC) 50 (0, 0)) := (hk1.keep g hgl g1).trans h.blk
  have hk2 : Kp (fun x => x = g) W0 (W0.setCell ⟨g, 0, none⟩ v) := kp_set W0 g 0 v
  have h50 : notTy W0 (fun x => x = g) 5 := fun x cur z hx hc => by
    subst hx
    rw [hblk] at hc; cases hc
  have hrow : ∀ u, OwnB w B u zsec → OwnB (W0.setCell ⟨g, 0, none⟩ v) B u zsec := fun u hu => (hu.kp hk1 h28).kp hk2 h50
  refine ⟨⟨h.b0, ?_, ⟨_, own_kp hown hk2 (fun b' hb' e => hvg (by rw [hb', e])), fun u hu => ?_⟩, ⟨vs2, ?_, fun u hu => hrow u (hs2 u hu)⟩, ?_, ?_⟩, ?_⟩
  · rw [heap_set_same hblk]; rfl
  · rcases List.mem_append.1 hu with hu | hu
    · exact hrow u (hr u hu)
    · rw [List.mem_singleton] at hu
      subst hu
      have hz := zsec_len
      have h1 := hby.own (B := B) (by omega) (by rw [hz]; simp [maxLen])
      rw [hz] at h1
      exact OwnB.kp h1 hk2 h50
  · exact own_kp (own_kp hs1 hk1 (fun b' hb' e => h.ne b' e hb')) hk2 (fun b' hb' e => g2 (by rw [hb', e]))
  · refine own_kp (own_kp h.c hk1 (fun b' hb' e => ?_)) hk2 (fun b' hb' e => g3 (by rw [hb', e]))
    obtain ⟨c1, hc1⟩ := own_ty hvs e
    obtain ⟨c2, hc2⟩ := own_ty h.c hb'
    rw [hc1] at hc2; cases hc2
  · intro b' hb' hs'
    rcases hor with e | ⟨b7, e, hb7⟩
    · exact h.ne b' (e ▸ hb') hs'
    · rw [hb'] at e
      injection e with e
      have := (hs1.lt b' hs').2
      omega
  · exact (hk1.mono (fun _ _ h => .inr h)).trans (hk2.mono (fun _ _ h => .inl h))
theorem RNst.stepS (h : RNst B w g vN vS vC kN kS kC) (hB : B ≤ w.heap.size) {v : Value} {b : Nat} {vs : List Value} (hvs : w.ownsRow B 28 1 vS kS vs) (hr : ∀ v ∈ vs, OwnB w B v zsec) (hg : w.grownBy W0 vS.ownBlock)
    (hown : W0.ownsRow B 28 1 v (kS + 1) (vs ++ [.slice (some ⟨b, 0, none⟩) 512 512])) (hby : BytesAt W0 b zsec) (hb : w.heap.size ≤ b) (hvg : v.ownBlock ≠ some g) (hor : v.ownBlock = vS.ownBlock ∨ ∃ b7, v.ownBlock = some b7 ∧ w.heap.size ≤ b7) :
    RNst B (W0.setCell ⟨g, 1, none⟩ v) g vN v vC kN (kS + 1) kC ∧ Kp (fun x => x = g ∨ vS.ownBlock = some x) w (W0.setCell ⟨g, 1, none⟩ v) := by
  obtain ⟨g1, g2, g3⟩ := h.g_ne
  obtain ⟨vs2, hs1, hs2⟩ := h.n
  have hk1 : Kp (fun x => vS.ownBlock = some x) w W0 := Kp.of_grown hg (fun x hx _ => hx)
  have h28 : notTy w (fun x => vS.ownBlock = some x) 5 := fun x cur z hx hc => by
    obtain ⟨cur', hc'⟩ := own_ty hvs hx
    rw [hc] at hc'; cases hc'
  have hgl := lt_of_heap h.blk
  have hblk : W0.heap[g]? = some (.cells (devCells vN vS vC) 50 (0, 0)) := (hk1.keep g hgl g2).trans h.blk
  have hk2 : Kp (fun x => x = g) W0 (W0.setCell ⟨g, 1, none⟩ v) := kp_set W0 g 1 v
  have h50 : notTy W0 (fun x => x = g) 5 := fun x cur z hx hc => by
    subst hx
    rw [hblk] at hc; cases hc
  have hrow : ∀ u, OwnB w B u zsec → OwnB (W0.setCell ⟨g, 1, none⟩ v) B u zsec := fun u hu => (hu.kp hk1 h28).kp hk2 h50
  refine ⟨⟨h.b0, ?_, ⟨vs2, ?_, fun u hu => hrow u (hs2 u hu)⟩, ⟨_, own_kp hown hk2 (fun b' hb' e => hvg (by rw [hb', e])), fun u hu => ?_⟩, ?_, ?_⟩, ?_⟩
  · rw [heap_set_same hblk]; rfl
  · exact own_kp (own_kp hs1 hk1 (fun b' hb' e => h.ne b' hb' e)) hk2 (fun b' hb' e => g1 (by rw [hb', e]))
  · rcases List.mem_append.1 hu with hu | hu
    · exact hrow u (hr u hu)
    · rw [List.mem_singleton] at hu
      subst hu
      have hz := zsec_len
      have h1 := hby.own (B := B) (by omega) (by rw [hz]; simp [maxLen])
      rw [hz] at h1
      exact OwnB.kp h1 hk2 h50
  · refine own_kp (own_kp h.c hk1 (fun b' hb' e => ?_)) hk2 (fun b' hb' e => g3 (by rw [hb', e]))
    obtain ⟨c1, hc1⟩ := own_ty hvs e
    obtain ⟨c2, hc2⟩ := own_ty h.c hb'
    rw [hc1] at hc2; cases hc2
  · intro b' hb' hs'
    rcases hor with e | ⟨b7, e, hb7⟩
    · exact h.ne b' hb' (e ▸ hs')
    · rw [hs'] at e
      injection e with e
      have := (hs1.lt b' hb').2
      omega
  · exact (hk1.mono (fun _ _ h => .inr h)).trans (hk2.mono (fun _ _ h => .inl h))
theorem RNst.stepC (h : RNst B w g vN vS vC kN kS kC) {v : Value} (hg : w.grownBy W0 vC.ownBlock) (hown : W0.ownsRow B 4 1 v (kC + 1) (List.replicate kC (.bool false) ++ [.bool false])) (hor : v.ownBlock = vC.ownBlock ∨ ∃ b7, v.ownBlock = some b7 ∧ w.heap.size ≤ b7) :
    W0.heap[g]? = some (.cells (devCells vN vS vC) 50 (0, 0)) ∧ RNst B (W0.setCell ⟨g, 2, none⟩ v) g vN vS v kN kS (kC + 1) ∧ Kp (fun x => x = g ∨ vC.ownBlock = some x) w (W0.setCell ⟨g, 2, none⟩ v) := by
  obtain ⟨g1, g2, g3⟩ := h.g_ne
  obtain ⟨vs1, hn1, hn2⟩ := h.n
  obtain ⟨vs2, hs1, hs2⟩ := h.s
  have hk1 : Kp (fun x => vC.ownBlock = some x) w W0 := Kp.of_grown hg (fun x hx _ => hx)
  have h28 : notTy w (fun x => vC.ownBlock = some x) 5 := fun x cur z hx hc => by
    obtain ⟨cur', hc'⟩ := own_ty h.c hx
    rw [hc] at hc'; cases hc'
  have hgl := lt_of_heap h.blk
  have hblk : W0.heap[g]? = some (.cells (devCells vN vS vC) 50 (0, 0)) := (hk1.keep g hgl g3).trans h.blk
  have hk2 : Kp (fun x => x = g) W0 (W0.setCell ⟨g, 2, none⟩ v) := kp_set W0 g 2 v
  have h50 : notTy W0 (fun x => x = g) 5 := fun x cur z hx hc => by
    subst hx
    rw [hblk] at hc; cases hc
  have hrow : ∀ u, OwnB w B u zsec → OwnB (W0.setCell ⟨g, 2, none⟩ v) B u zsec := fun u hu => (hu.kp hk1 h28).kp hk2 h50
  have hvg : v.ownBlock ≠ some g := fun e => by
    rcases hor with h | ⟨b7, h, hb7⟩
    · exact g3 (h ▸ e)
    · rw [e] at h; injection h with h; omega
  have h4 : ∀ {vX : Value} {k : Nat} {vs : List Value}, w.ownsRow B 28 1 vX k vs → ∀ b', vX.ownBlock = some b' → ¬ vC.ownBlock = some b' := fun hX b' hb' e => by
    obtain ⟨c1, hc1⟩ := own_ty h.c e
    obtain ⟨c2, hc2⟩ := own_ty hX hb'
    rw [hc1] at hc2; cases hc2
  refine ⟨hblk, ⟨h.b0, ?_, ⟨vs1, ?_, fun u hu => hrow u (hn2 u hu)⟩, ⟨vs2, ?_, fun u hu => hrow u (hs2 u hu)⟩, ?_, h.ne⟩, ?_⟩
  · rw [heap_set_same hblk]; rfl
  · exact own_kp (own_kp hn1 hk1 (h4 hn1)) hk2 (fun b' hb' e => g1 (by rw [hb', e]))
  · exact own_kp (own_kp hs1 hk1 (h4 hs1)) hk2 (fun b' hb' e => g2 (by rw [hb', e]))
  · rw [List.replicate_succ']
    exact own_kp hown hk2 (fun b' hb' e => hvg (by rw [hb', e]))
  · exact (hk1.mono (fun _ _ h => .inr h)).trans (hk2.mono (fun _ _ h => .inl h))
theorem RNst.below (h : RNst B w g vN vS vC kN kS kC) (hb : Below w.heap.size w w') : RNst B w' g vN vS vC kN kS kC := by
  obtain ⟨vs1, hn1, hn2⟩ := h.n
  obtain ⟨vs2, hs1, hs2⟩ := h.s
  have hk : Kp (fun _ => False) w w' := Kp.of_below hb
  exact ⟨h.b0, (hb.block g (lt_of_heap h.blk)).trans h.blk, ⟨vs1, own_kp hn1 hk (fun _ _ h => h), rows_kp hn2 hk (fun _ _ _ h => h.elim)⟩, ⟨vs2, own_kp hs1 hk (fun _ _ h => h), rows_kp hs2 hk (fun _ _ _ h => h.elim)⟩, own_kp h.c hk (fun _ _ h => h), h.ne⟩
/-- what is made in the end -/
theorem RNst.done {n : Int} (h : RNst B w g vN vS vC n.toNat n.toNat n.toNat) (hn : 1 ≤ n) : ∃ f : Foot, f.g = g ∧ RAt B w f (dev0 n) := by
  obtain ⟨vs1, hn1, hn2⟩ := h.n
  obtain ⟨vs2, hs1, hs2⟩ := h.s
  have form : ∀ {v : Value} {e : TypeId} {xs : List Value}, w.ownsRow B e 1 v n.toNat xs → ∃ b c, v = slV b n.toNat c := fun hX => by
    rcases hX.2 with ⟨_, h0⟩ | ⟨b, c, cur, rfl, _⟩
    · omega
    · exact ⟨b, c, rfl⟩
  obtain ⟨bN, cN, rfl⟩ := form hn1
  obtain ⟨bS, cS, rfl⟩ := form hs1
  obtain ⟨bC, cC, rfl⟩ := form h.c
  have sec : ∀ {b c : Nat} {vs : List Value}, w.ownsRow B 28 1 (slV b n.toNat c) n.toNat vs → (∀ v ∈ vs, OwnB w B v zsec) → Sec B w none b c n.toNat (fun _ => zsec) := fun {b c vs} h1 h2 => by
    refine ⟨vs, h1, fun i hi => ?_⟩
    have hl : vs.length = n.toNat := by have := h1.1; omega
    exact ⟨vs[i], List.getElem?_eq_getElem (by omega), h2 _ (List.getElem_mem _), fun _ _ e => by cases e⟩
  refine ⟨⟨g, bN, bS, bC, cN, cS, cC, none⟩, rfl, h.b0, h.blk, sec hn1 hn2, sec hs1 hs2, ?_, fun e => h.ne bN rfl (by rw [show bN = bS from e]; rfl)⟩
  have e : ((List.range n.toNat).map fun i : Nat => Value.bool ((dev0 n).chg i)) = List.replicate n.toNat (.bool false) := by
    apply List.ext_getElem
    · simp
    · intro i h1 h2
      simp [dev0]
  show w.ownsRow B 4 1 _ n.toNat ((List.range n.toNat).map fun i : Nat => Value.bool ((dev0 n).chg i))
  rw [e]
  exact h.c
end
end Go.Proofs.Ytbcafhhheileeaa
