/-
  Part of the proofs of DiskPlays, SlotPlays: the document's device.
  Conditions: those that each theorem names.
-/
import Derived.Test.YtbcafhhheileeaaD23
namespace Go.Proofs.Ytbcafhhheileeaa
open Go.RowKit
set_option maxRecDepth 100000

/-! ### the document's device in memory -/
structure Foot where
  g : Nat
  bN : Nat
  bS : Nat
  bC : Nat
  cN : Nat
  cS : Nat
  cC : Nat
  x : Option Nat
def Foot.has (f : Foot) (b : Nat) : Prop := b = f.g ∨ b = f.bN ∨ b = f.bS ∨ b = f.bC
def slV (b n c : Nat) : Value := .slice (some ⟨b, 0, none⟩) n c
/-- a row that doesn't lie in block x -/
def notX (x : Option Nat) (v : Value) : Prop := ∀ b, v.ownBlock = some b → x ≠ some b
/-- n rows of bytes that say f, told by a slice in block b; none lies in block x -/
def Sec (B : Nat) (w : World) (x : Option Nat) (b c n : Nat) (f : Int → List Int) : Prop :=
  ∃ vs : List Value, w.ownsRow B 28 1 (slV b n c) n vs ∧ ∀ i : Nat, i < n → ∃ v, vs[i]? = some v ∧ OwnB w B v (f i) ∧ notX x v
structure RAt (B : Nat) (w : World) (f : Foot) (D : Dev) : Prop where
  b0 : B ≤ f.g
  blk : w.heap[f.g]? = some (.cells #[slV f.bN D.size.toNat f.cN, slV f.bS D.size.toNat f.cS, slV f.bC D.size.toNat f.cC, .int .i64 D.steps, .int .i64 D.syncs, .bool D.armed, .int .i64 D.left, .bool D.down] 50 (0, 0))
  now : Sec B w f.x f.bN f.cN D.size.toNat D.now
  syn : Sec B w f.x f.bS f.cS D.size.toNat D.synced
  chg : w.ownsRow B 4 1 (slV f.bC D.size.toNat f.cC) D.size.toNat ((List.range D.size.toNat).map fun i : Nat => Value.bool (D.chg i))
  ne : f.bN ≠ f.bS
structure LOk (N : Int) (D : Dev) : Prop where
  lo : -N ≤ D.left
  hi : D.left ≤ 9223372036854775807

theorem own_blk {w : World} {B : Nat} {e : TypeId} {b n c : Nat} {xs : List Value} (h : w.ownsRow B e 1 (slV b n c) n xs) : ∃ cur, w.heap[b]? = some (.cells cur e (0, 0)) ∧ B ≤ b := by
  rcases h.2 with ⟨h2, _⟩ | ⟨g', cap', cur, he, h3, h4, _⟩
  · cases h2
  · injection he with he1 _ _
    injection he1 with he1
    injection he1 with he1
    subst he1
    exact ⟨cur, h4, h3⟩
theorem ownB_blk {w : World} {B : Nat} {v : Value} {xs : List Int} (h : OwnB w B v xs) {b : Nat} (hb : v.ownBlock = some b) : ∃ cur, w.heap[b]? = some (.cells cur 5 (0, 0)) ∧ B ≤ b := by
  rcases h.2 with ⟨rfl, _⟩ | ⟨g', cap', cur, rfl, h3, h4, _⟩
  · cases hb
  · injection hb with hb
    subst hb
    exact ⟨cur, h4, h3⟩
/-- a block of another type -/
def notTy (w : World) (X : Nat → Prop) (e : TypeId) : Prop := ∀ b cur z, X b → w.heap[b]? ≠ some (.cells cur e z)
theorem OwnB.kp {X : Nat → Prop} {w w' : World} {B : Nat} {v : Value} {xs : List Int} (h : OwnB w B v xs) (hk : Kp X w w') (hx : notTy w X 5) : OwnB w' B v xs :=
  own_kp h hk fun b hb hX => by
    obtain ⟨cur, hc, _⟩ := ownB_blk h hb
    exact hx b cur _ hX hc
theorem Sec.kp {X : Nat → Prop} {w w' : World} {x : Option Nat} {B b c n : Nat} {f : Int → List Int} (h : Sec B w x b c n f) (hk : Kp X w w') (hx : notTy w X 5) (hb : ¬ X b) : Sec B w' x b c n f := by
  obtain ⟨vs, h1, h2⟩ := h
  refine ⟨vs, own_kp h1 hk fun b' hb' => by injection hb' with hb'; subst hb'; exact hb, fun i hi => ?_⟩
  obtain ⟨v, hv, ho, hn⟩ := h2 i hi
  exact ⟨v, hv, ho.kp hk hx, hn⟩
theorem Sec.below {w w' : World} {x : Option Nat} {B b c n : Nat} {f : Int → List Int} (h : Sec B w x b c n f) (hb : Below w.heap.size w w') : Sec B w' x b c n f :=
  h.kp (X := fun _ => False) (Kp.of_below hb) (fun _ _ _ h => h.elim) (fun h => h)
theorem Sec.cell {w : World} {x : Option Nat} {B b c n : Nat} {f : Int → List Int} (h : Sec B w x b c n f) (i : Nat) (hi : i < n) : ∃ v, w.cell? ⟨b, i, none⟩ = some v ∧ OwnB w B v (f i) ∧ notX x v := by
  obtain ⟨vs, h1, h2⟩ := h
  obtain ⟨v, hv, ho⟩ := h2 i hi
  refine ⟨v, ?_, ho⟩
  have := h1.cellAt i (by omega)
  rw [this, hv]
theorem Sec.fz {w : World} {x : Option Nat} {B b c n : Nat} {f : Int → List Int} (h : Sec B w x b c n f) (i : Nat) : w.frozen? ⟨b, i, none⟩ = false := by
  obtain ⟨vs, h1, _⟩ := h
  exact h1.frozenAt i
theorem Sec.blk {w : World} {x : Option Nat} {B b c n : Nat} {f : Int → List Int} (h : Sec B w x b c n f) : ∃ cur, w.heap[b]? = some (.cells cur 28 (0, 0)) ∧ B ≤ b := by
  obtain ⟨vs, h1, _⟩ := h
  exact own_blk h1
theorem kp_set (w : World) (b i : Nat) (u : Value) : Kp (fun k => k = b) w (w.setCell ⟨b, i, none⟩ u) := (Kp.refl (fun k => k = b) w).setCell (p := ⟨b, i, none⟩) (.inr rfl) u
/-- one row is replaced -/
theorem Sec.put {w : World} {x : Option Nat} {B b c n : Nat} {f : Int → List Int} (h : Sec B w x b c n f) (i : Nat) (hi : i < n) (v : Value) (xs : List Int) (hv : OwnB w B v xs) (hnx : notX x v) : Sec B (w.setCell ⟨b, i, none⟩ v) x b c n (put f i xs) := by
  have hn5 : notTy w (fun k => k = b) 5 := fun b' cur z hb' hc => by
    subst hb'
    obtain ⟨cur', h1, _⟩ := h.blk
    rw [hc] at h1; cases h1
  have hk := kp_set w b i v
  obtain ⟨vs, h1, h2⟩ := h
  refine ⟨vs.set i v, ?_, fun j hj => ?_⟩
  · exact (h1.stored i v).1
  · by_cases hij : j = i
    · subst hij
      refine ⟨v, ?_, ?_, hnx⟩
      · obtain ⟨_, hv1, _⟩ := h2 j hj
        have := (List.getElem?_eq_some_iff.1 hv1).1
        simp [this]
      · unfold Go.Proofs.Ytbcafhhheileeaa.put
        rw [if_pos rfl]
        exact hv.kp hk hn5
    · obtain ⟨v', hv1, ho, hn'⟩ := h2 j hj
      refine ⟨v', ?_, ?_, hn'⟩
      · rw [List.getElem?_set_ne (fun e => hij e.symm)]
        exact hv1
      · unfold Go.Proofs.Ytbcafhhheileeaa.put
        rw [if_neg (by omega)]
        exact ho.kp hk hn5

section
variable {B : Nat} {w w' : World} {f : Foot} {D : Dev}
/-- all rows are older than what comes -/
theorem Sec.reX {x : Option Nat} {b c n : Nat} {g : Int → List Int} (h : Sec B w x b c n g) (y : Nat) (hy : w.heap.size ≤ y) : Sec B w (some y) b c n g := by
  obtain ⟨vs, h1, h2⟩ := h
  refine ⟨vs, h1, fun i hi => ?_⟩
  obtain ⟨v, hv, ho, _⟩ := h2 i hi
  refine ⟨v, hv, ho, fun k hk e => ?_⟩
  injection e with e
  have := (ho.lt k hk).2
  omega
theorem Sec.noX {x : Option Nat} {b c n : Nat} {g : Int → List Int} (h : Sec B w x b c n g) : Sec B w none b c n g := by
  obtain ⟨vs, h1, h2⟩ := h
  refine ⟨vs, h1, fun i hi => ?_⟩
  obtain ⟨v, hv, ho, _⟩ := h2 i hi
  exact ⟨v, hv, ho, fun k hk e => by cases e⟩
theorem RAt.reX (h : RAt B w f D) (y : Nat) (hy : w.heap.size ≤ y) : RAt B w { f with x := some y } D := ⟨h.b0, h.blk, h.now.reX y hy, h.syn.reX y hy, h.chg, h.ne⟩
theorem RAt.noX (h : RAt B w f D) : RAt B w { f with x := none } D := ⟨h.b0, h.blk, h.now.noX, h.syn.noX, h.chg, h.ne⟩
/-- what lies in block x turns -/
theorem RAt.turn (h : RAt B w f D) {y : Nat} (hx : f.x = some y) (hy : ¬ f.has y) (hk : Kp (fun b => b = y) w w') : RAt B w' f D := by
  have sec : ∀ {b c n : Nat} {g : Int → List Int}, Sec B w f.x b c n g → b ≠ y → Sec B w' f.x b c n g := fun {b c n g} hs hb => by
    obtain ⟨vs, h1, h2⟩ := hs
    refine ⟨vs, own_kp h1 hk (fun b' hb' e => by injection hb' with hb'; exact hb (hb'.trans e)), fun i hi => ?_⟩
    obtain ⟨v, hv, ho, hn⟩ := h2 i hi
    exact ⟨v, hv, own_kp ho hk (fun b' hb' e => hn b' hb' (by rw [hx, e])), hn⟩
  exact ⟨h.b0, (hk.keep _ (lt_of_heap h.blk) (fun e => hy (.inl e.symm))).trans h.blk, sec h.now (fun e => hy (.inr (.inl e.symm))), sec h.syn (fun e => hy (.inr (.inr (.inl e.symm)))),
    own_kp h.chg hk (fun b' hb' e => by injection hb' with hb'; exact hy (.inr (.inr (.inr (e.symm.trans hb'.symm))))), h.ne⟩
theorem RAt.foot (h : RAt B w f D) (b : Nat) (hb : f.has b) : B ≤ b ∧ ∃ cur e, w.heap[b]? = some (.cells cur e (0, 0)) ∧ (e = 50 ∨ e = 28 ∨ e = 4) := by
  rcases hb with rfl | rfl | rfl | rfl
  · exact ⟨h.b0, _, _, h.blk, .inl rfl⟩
  · obtain ⟨cur, h1, h2⟩ := h.now.blk
    exact ⟨h2, cur, _, h1, .inr (.inl rfl)⟩
  · obtain ⟨cur, h1, h2⟩ := h.syn.blk
    exact ⟨h2, cur, _, h1, .inr (.inl rfl)⟩
  · obtain ⟨cur, h1, h2⟩ := own_blk h.chg
    exact ⟨h2, cur, _, h1, .inr (.inr rfl)⟩
theorem RAt.tags (h : RAt B w f D) (b : Nat) (o : Obj) (hb : f.has b) (ho : w.heap[b]? = some o) : tagD o = false := by
  obtain ⟨_, cur, e, h1, he⟩ := h.foot b hb
  rw [ho] at h1
  injection h1 with h1
  subst h1
  rcases he with rfl | rfl | rfl <;> rfl
theorem RAt.not5 (h : RAt B w f D) : notTy w f.has 5 := fun b cur z hb hc => by
  obtain ⟨_, cur', e, h1, he⟩ := h.foot b hb
  rw [hc] at h1
  injection h1 with h1
  injection h1 with _ h2 _
  subst h2
  rcases he with he | he | he <;> cases he
theorem RAt.lt (h : RAt B w f D) (b : Nat) (hb : f.has b) : b < w.heap.size := by
  obtain ⟨_, cur, e, h1, _⟩ := h.foot b hb
  exact lt_of_heap h1
theorem RAt.kp {X : Nat → Prop} (h : RAt B w f D) (hk : Kp X w w') (hx : notTy w X 5) (hf : ∀ b, f.has b → ¬ X b) : RAt B w' f D :=
  ⟨h.b0, (hk.keep _ (h.lt _ (.inl rfl)) (hf _ (.inl rfl))).trans h.blk, h.now.kp hk hx (hf _ (.inr (.inl rfl))), h.syn.kp hk hx (hf _ (.inr (.inr (.inl rfl)))),
    own_kp h.chg hk (fun b hb => by injection hb with hb; subst hb; exact hf _ (.inr (.inr (.inr rfl)))), h.ne⟩
theorem RAt.below (h : RAt B w f D) (hb : Below w.heap.size w w') : RAt B w' f D :=
  h.kp (X := fun _ => False) (Kp.of_below hb) (fun _ _ _ h => h.elim) (fun _ _ h => h)
theorem RAt.drew (h : RAt B w f D) : RAt B w.drew f D := h.kp (X := fun _ => False) (Kp.refl _ _).drew (fun _ _ _ h => h.elim) (fun _ _ h => h)
/-- the program's device turns: this one stays -/
theorem RAt.fr {B' : Nat} (h : RAt B w f D) (hF : Fr B' tagD w w') : RAt B w' f D := by
  refine h.kp (X := fun b => ∃ o, w.heap[b]? = some o ∧ tagD o = true) ⟨hF.os, hF.tape, hF.output, hF.size, fun b hb hx => ?_⟩ (fun b cur z hX hc => ?_) (fun b hb hX => ?_)
  · obtain ⟨o, ho⟩ : ∃ o, w.heap[b]? = some o := ⟨_, Array.getElem?_eq_getElem hb⟩
    rw [ho]
    refine hF.keep b o ho (.inr ?_)
    cases ht : tagD o with
    | false => rfl
    | true => exact (hx ⟨o, ho, ht⟩).elim
  · obtain ⟨o, ho, ht⟩ := hX
    rw [hc] at ho
    injection ho with ho
    subst ho
    cases ht
  · obtain ⟨o, ho, ht⟩ := hX
    rw [h.tags b o hb ho] at ht
    cases ht
theorem DRep.foot {d : Nat} {D' : Dev} (hd : DRep B w d D') (h : RAt B w f D) (hk : Kp f.has w w') : DRep B w' d D' := hd.kp hk fun b o hb ho => h.tags b o hb ho
theorem RAt.cell (h : RAt B w f D) : w.cell? ⟨f.g, 0, none⟩ = some (slV f.bN D.size.toNat f.cN) ∧ w.cell? ⟨f.g, 1, none⟩ = some (slV f.bS D.size.toNat f.cS) ∧ w.cell? ⟨f.g, 2, none⟩ = some (slV f.bC D.size.toNat f.cC) ∧
    w.cell? ⟨f.g, 3, none⟩ = some (.int .i64 D.steps) ∧ w.cell? ⟨f.g, 4, none⟩ = some (.int .i64 D.syncs) ∧ w.cell? ⟨f.g, 5, none⟩ = some (.bool D.armed) ∧ w.cell? ⟨f.g, 6, none⟩ = some (.int .i64 D.left) ∧ w.cell? ⟨f.g, 7, none⟩ = some (.bool D.down) := by
  refine ⟨?_, ?_, ?_, ?_, ?_, ?_, ?_, ?_⟩ <;> rw [cell_blk h.blk] <;> rfl
theorem RAt.fz (h : RAt B w f D) (i : Nat) : w.frozen? ⟨f.g, i, none⟩ = false := by simp [World.frozen?, h.blk]
/-- a cell of its block is set -/
theorem RAt.set (h : RAt B w f D) (i : Nat) (u : Value) (steps syncs left : Int) (armed down : Bool)
    (hc : (#[slV f.bN D.size.toNat f.cN, slV f.bS D.size.toNat f.cS, slV f.bC D.size.toNat f.cC, .int .i64 D.steps, .int .i64 D.syncs, .bool D.armed, .int .i64 D.left, .bool D.down] : Array Value).setIfInBounds i u =
      #[slV f.bN D.size.toNat f.cN, slV f.bS D.size.toNat f.cS, slV f.bC D.size.toNat f.cC, .int .i64 steps, .int .i64 syncs, .bool armed, .int .i64 left, .bool down]) :
    RAt B (w.setCell ⟨f.g, i, none⟩ u) f { D with steps := steps, syncs := syncs, left := left, armed := armed, down := down } := by
  have hk := kp_set w f.g i u
  have hg := h.blk
  have hne : ∀ b e cur z, w.heap[b]? = some (.cells cur e z) → e ≠ 50 → ¬ b = f.g := fun b e cur z hb he hbg => by
    subst hbg
    rw [hb] at hg
    injection hg with hg
    injection hg with _ h2 _
    exact he h2
  have h5 : notTy w (fun k => k = f.g) 5 := fun b cur z hb hc => hne b 5 cur z hc (by decide) hb
  obtain ⟨c1, e1, _⟩ := h.now.blk
  obtain ⟨c2, e2, _⟩ := h.syn.blk
  obtain ⟨c3, e3, _⟩ := own_blk h.chg
  exact ⟨h.b0, by rw [heap_set_same h.blk, hc], h.now.kp hk h5 (hne _ _ _ _ e1 (by decide)), h.syn.kp hk h5 (hne _ _ _ _ e2 (by decide)), own_kp h.chg hk (fun b hb => by injection hb with hb; subst hb; exact hne _ _ _ _ e3 (by decide)), h.ne⟩
theorem foot_set (f : Foot) (w : World) (i : Nat) (u : Value) : Kp f.has w (w.setCell ⟨f.g, i, none⟩ u) := (Kp.refl _ _).setCell (.inr (.inl rfl)) u
end

/-! ### plain calls -/
theorem rin_c (B : Nat) (f : Foot) (D : Dev) (w : World) (h : RAt B w f D) (hs : 1 ≤ D.size ∧ D.size ≤ 4096) (at_ : Int) (b : Bool) (hb : decide (0 ≤ at_ ∧ at_ < D.size) = b) :
    Calls Try.prog 56 #[.pointer (some ⟨f.g, 0, none⟩), .int .i64 at_] w fun e w' => e = .returned (.bool b) ∧ w = w' := by
  obtain ⟨c0, _⟩ := h.cell
  unfold slV at c0
  have hsz : ((D.size.toNat : Nat) : Int) = D.size := by omega
  clear h
  subst hb
  by_cases h1 : 0 ≤ at_
  · by_cases h2 : at_ < D.size
    · have hd : decide (0 ≤ at_ ∧ at_ < D.size) = true := by simp [h1, h2]
      rw [hd]
      clear hd
      have h3 : at_ < ((D.size.toNat : Nat) : Int) := by omega
      generalize D.size.toNat = n at *
      clear hsz h2 hs
      go_enter Try.func56, Try.ntmps56
      go_wp2
      go_ret
      exact ⟨rfl, rfl⟩
    · have hd : decide (0 ≤ at_ ∧ at_ < D.size) = false := by simp [h2]
      rw [hd]
      clear hd
      have h3 : ¬ at_ < ((D.size.toNat : Nat) : Int) := by omega
      generalize D.size.toNat = n at *
      clear hsz h2 hs
      go_enter Try.func56, Try.ntmps56
      go_wp2
      go_ret
      exact ⟨rfl, rfl⟩
  · have hd : decide (0 ≤ at_ ∧ at_ < D.size) = false := by simp [h1]
    rw [hd]
    clear hd hs hsz
    go_enter Try.func56, Try.ntmps56
    go_wp2
    go_ret
    exact ⟨rfl, rfl⟩
end Go.Proofs.Ytbcafhhheileeaa
