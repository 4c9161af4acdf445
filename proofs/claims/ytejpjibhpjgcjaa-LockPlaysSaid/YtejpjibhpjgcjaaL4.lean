/-
  Two regions of the law that draw their order: Release and Take on both tables.
  Conditions: those that each theorem names.
-/
import Derived.Test.YtejpjibhpjgcjaaL2
import Derived.Test.YtejpjibhpjgcjaaRule
namespace Go.Proofs.Ytejpjibhpjgcjaa
open Go.RowKit
set_option maxRecDepth 100000

/-- both tables, before and behind two calls -/
structure Both (B t g ob : Nat) (mt mm : Tab) (kind txn page mode : Int) (w0 w : World) : Prop where
  T : TRep B w t mt
  M : MRep B w g mm
  o : w.heap[ob]? = some (.cells #[.int .i64 kind, .int .i64 txn, .int .i64 page, .int .i64 mode] 31 (0, 0))
  bel : Below B w0 w
  size : B ≤ w.heap.size
theorem Both.stepT {B t g ob : Nat} {mt mm mt' : Tab} {kind txn page mode : Int} {w0 w w' : World} (h : Both B t g ob mt mm kind txn page mode w0 w) (hT : TRep B w' t mt') (hf : Fr B tagT w w') : Both B t g ob mt' mm kind txn page mode w0 w' :=
  ⟨hT, h.M.fr hf (fun c e z he => by rcases he with rfl | rfl <;> rfl), hf.keep _ _ h.o (.inr rfl), h.bel.trans (hf.below h.size), Nat.le_trans h.size hf.size⟩
theorem Both.stepM {B t g ob : Nat} {mt mm mm' : Tab} {kind txn page mode : Int} {w0 w w' : World} (h : Both B t g ob mt mm kind txn page mode w0 w) (hM : MRep B w' g mm') (hf : Fr B tagM w w') : Both B t g ob mt mm' kind txn page mode w0 w' :=
  ⟨h.T.keepM hf, hM, hf.keep _ _ h.o (.inr rfl), h.bel.trans (hf.below h.size), Nat.le_trans h.size hf.size⟩
theorem Both.below {B t g ob : Nat} {mt mm : Tab} {kind txn page mode : Int} {w0 w w' : World} (h : Both B t g ob mt mm kind txn page mode w0 w) (hb : Below w.heap.size w w') : Both B t g ob mt mm kind txn page mode w0 w' :=
  ⟨h.T.below hb, h.M.below hb, (hb.block _ (lt_of_heap h.o)).trans h.o, h.bel.trans (hb.mono h.size), Nat.le_trans h.size hb.size⟩
theorem Both.cell {B t g ob : Nat} {mt mm : Tab} {kind txn page mode : Int} {w0 w : World} (h : Both B t g ob mt mm kind txn page mode w0 w) : w.cell? ⟨ob, 1, none⟩ = some (.int .i64 txn) ∧ w.cell? ⟨ob, 2, none⟩ = some (.int .i64 page) ∧ w.cell? ⟨ob, 3, none⟩ = some (.int .i64 mode) := by
  refine ⟨?_, ?_, ?_⟩ <;> rw [cell_blk h.o] <;> rfl
theorem Both.drew {B t g ob : Nat} {mt mm : Tab} {kind txn page mode : Int} {w : World} (hJ : Both B t g ob mt mm kind txn page mode w w) : Both B t g ob mt mm kind txn page mode w w.drew :=
  ⟨hJ.T.keepM (Fr.refl B tagM _).drew, hJ.M.fr (Fr.refl B tagT _).drew (fun c e z he => by rcases he with rfl | rfl <;> rfl), hJ.o, hJ.bel.trans (below_drewN (Below.refl _ _) 1), hJ.size⟩

def ops10 : Array Oper := #[{ dst := some 24, op := Op.move (Operand.tmp 3), type := 24, pos := "law.go:39", after := #[], guard := none }, { dst := some 25, op := Op.fieldAddr 31 (Operand.tmp 6) 1, type := 0, pos := "law.go:39", after := #[], guard := none }, { dst := some 26, op := Op.load 3 (Operand.tmp 25), type := 3, pos := "law.go:39", after := #[{ on := 1, ground := Ground.data }], guard := none }, { dst := some 27, op := Op.call { callee := Callee.value (Operand.func 6), args := #[Operand.tmp 24, Operand.tmp 26], argTypes := #[24, 3] }, type := 3, pos := "law.go:39", after := #[{ on := 0, ground := Ground.data }, { on := 2, ground := Ground.data }], guard := none }, { dst := some 28, op := Op.move (Operand.tmp 4), type := 26, pos := "law.go:39", after := #[], guard := none }, { dst := some 29, op := Op.fieldAddr 31 (Operand.tmp 6) 1, type := 0, pos := "law.go:39", after := #[], guard := none }, { dst := some 30, op := Op.load 3 (Operand.tmp 29), type := 3, pos := "law.go:39", after := #[{ on := 5, ground := Ground.data }], guard := none }, { dst := some 31, op := Op.call { callee := Callee.value (Operand.func 7), args := #[Operand.tmp 28, Operand.tmp 30], argTypes := #[26, 3] }, type := 3, pos := "law.go:39", after := #[{ on := 4, ground := Ground.data }, { on := 6, ground := Ground.data }, { on := 3, ground := Ground.chain }], guard := none }, { dst := some 32, op := Op.binOp BinOp.neq 3 (Operand.tmp 27) (Operand.tmp 31) 3, type := 4, pos := "law.go:39", after := #[{ on := 3, ground := Ground.data }, { on := 7, ground := Ground.data }], guard := none }]

def F10 (t g ob : Nat) (m : Tab) (txn : Int) : Nat → Value → Prop
  | 0, v => v = .pointer (some ⟨t, 0, none⟩)
  | 1, v => v = .pointer (some ⟨ob, 1, none⟩)
  | 2, v => v = .int .i64 txn
  | 3, v => v = .int .i64 (release m txn).1
  | 4, v => v = .pointer (some ⟨g, 0, none⟩)
  | 5, v => v = .pointer (some ⟨ob, 1, none⟩)
  | 6, v => v = .int .i64 txn
  | 7, v => v = .int .i64 (release m txn).1
  | 8, v => v = .bool false
  | _, _ => True
def J10 (B t g ob : Nat) (m : Tab) (kind txn page mode : Int) (w0 : World) (listed : Array Bool) (w : World) : Prop :=
  Both B t g ob (if listed.getD 3 false then (release m txn).2 else m) (if listed.getD 7 false then (release m txn).2 else m) kind txn page mode w0 w
theorem J10.skip {B t g ob : Nat} {m : Tab} {kind txn page mode : Int} {w0 w : World} {listed : Array Bool} {i : Nat} (h : J10 B t g ob m kind txn page mode w0 listed w) (h3 : i ≠ 3) (h7 : i ≠ 7) : J10 B t g ob m kind txn page mode w0 (listed.setIfInBounds i true) w := by
  unfold J10
  rw [set_ne h3, set_ne h7]
  exact h

theorem region10 {Q : Exit → Act → World → Prop} {a : Act} {w : World} (B t g ob : Nat) (m : Tab) (kind txn page mode : Int) (hs : a.tmps.size = 99) (h3 : a.tmps.getD 3 undef = .pointer (some ⟨t, 0, none⟩)) (h4 : a.tmps.getD 4 undef = .pointer (some ⟨g, 0, none⟩)) (h6 : a.tmps.getD 6 undef = .pointer (some ⟨ob, 0, none⟩))
    (vd : Valid m) (hJ : Both B t g ob m m kind txn page mode w w)
    (hend : ∀ (u : Nat → Value) w', u 32 = .bool false → Both B t g ob (release m txn).2 (release m txn).2 kind txn page mode w w' → Q .normal (putAll ops10 u a) w') : (Code.region 10 ops10 true).wp Try.prog Q a w := by
  refine wp_region_rule (by kernel_rfl) (fun i v _ => F10 t g ob m txn i v) (fun listed W => J10 B t g ob m kind txn page mode w listed W) (by kernel_rfl) (by rw [hs]; kernel_rfl) ?_ (allOps ⟨?_, ?_, ?_, ?_, ?_, ?_, ?_, ?_, ?_, trivial⟩) ?_
  · exact ⟨hJ.T.keepM (Fr.refl B tagM _).drew, hJ.M.fr (Fr.refl B tagT _).drew (fun c e z he => by rcases he with rfl | rfl <;> rfl), hJ.o, hJ.bel.trans (below_drewN (Below.refl _ _) 1), hJ.size⟩
  · intro listed a' w' hl H hJ
    have e3 : a'.tmps[3]?.getD undef = .pointer (some ⟨t, 0, none⟩) := H.old 3 rfl h3
    refine ⟨rfl, fun K hK => ?_⟩
    refine wp_eq (v := .pointer (some ⟨t, 0, none⟩)) (w' := w') ?_ (hK _ w' (fun _ _ => rfl) (fun _ _ _ _ h => h) (hJ.skip (by decide) (by decide)))
    simp [go_sem, e3]
  · intro listed a' w' hl H hJ
    have e6 : a'.tmps[6]?.getD undef = .pointer (some ⟨ob, 0, none⟩) := H.old 6 rfl h6
    refine ⟨rfl, fun K hK => ?_⟩
    refine wp_eq (v := .pointer (some ⟨ob, 1, none⟩)) (w' := w') ?_ (hK _ w' (fun _ _ => rfl) (fun _ _ _ _ h => h) (hJ.skip (by decide) (by decide)))
    simp [go_sem, e6]
  · intro listed a' w' hl H hJ
    have e25 : a'.tmps[25]?.getD undef = .pointer (some ⟨ob, 1, none⟩) := H.is 1 25 rfl rfl rfl
    obtain ⟨c1, c2, c3⟩ := hJ.cell
    refine ⟨rfl, fun K hK => ?_⟩
    refine wp_eq (v := .int .i64 txn) (w' := w') ?_ (hK _ w' (fun _ _ => rfl) (fun _ _ _ _ h => h) (hJ.skip (by decide) (by decide)))
    simp [go_sem, e25, c1]
  · intro listed a' w' hl H hJ
    have e24 : a'.tmps[24]?.getD undef = .pointer (some ⟨t, 0, none⟩) := H.is 0 24 rfl rfl rfl
    have e26 : a'.tmps[26]?.getD undef = .int .i64 txn := H.is 2 26 rfl rfl rfl
    refine ⟨rfl, fun K hK => ?_⟩
    have hJ' := hJ
    unfold J10 at hJ'
    rw [not_yet hl] at hJ'
    refine wp_enter (f := 6) (args := #[.pointer (some ⟨t, 0, none⟩), .int .i64 txn]) (w' := w') (R := fun v w2 => v = .int .i64 (release m txn).1 ∧ TRep B w2 t (release m txn).2 ∧ Fr B tagT w' w2) ?_ ((release_c B t m w' vd hJ'.T txn).mono ?_) ?_
    · simp [go_sem, e24, e26]
    · rintro e w2 ⟨rfl, h1, h2⟩
      exact ⟨_, rfl, rfl, h1, h2⟩
    · rintro v w2 ⟨rfl, h1, h2⟩
      refine hK _ w2 (fun _ _ => rfl) (fun _ _ _ _ h => h) ?_
      unfold J10
      rw [set_self hl, set_ne (by decide)]
      exact hJ'.stepT h1 h2
  · intro listed a' w' hl H hJ
    have e4 : a'.tmps[4]?.getD undef = .pointer (some ⟨g, 0, none⟩) := H.old 4 rfl h4
    refine ⟨rfl, fun K hK => ?_⟩
    refine wp_eq (v := .pointer (some ⟨g, 0, none⟩)) (w' := w') ?_ (hK _ w' (fun _ _ => rfl) (fun _ _ _ _ h => h) (hJ.skip (by decide) (by decide)))
    simp [go_sem, e4]
  · intro listed a' w' hl H hJ
    have e6 : a'.tmps[6]?.getD undef = .pointer (some ⟨ob, 0, none⟩) := H.old 6 rfl h6
    refine ⟨rfl, fun K hK => ?_⟩
    refine wp_eq (v := .pointer (some ⟨ob, 1, none⟩)) (w' := w') ?_ (hK _ w' (fun _ _ => rfl) (fun _ _ _ _ h => h) (hJ.skip (by decide) (by decide)))
    simp [go_sem, e6]
  · intro listed a' w' hl H hJ
    have e29 : a'.tmps[29]?.getD undef = .pointer (some ⟨ob, 1, none⟩) := H.is 5 29 rfl rfl rfl
    obtain ⟨c1, c2, c3⟩ := hJ.cell
    refine ⟨rfl, fun K hK => ?_⟩
    refine wp_eq (v := .int .i64 txn) (w' := w') ?_ (hK _ w' (fun _ _ => rfl) (fun _ _ _ _ h => h) (hJ.skip (by decide) (by decide)))
    simp [go_sem, e29, c1]
  · intro listed a' w' hl H hJ
    have e28 : a'.tmps[28]?.getD undef = .pointer (some ⟨g, 0, none⟩) := H.is 4 28 rfl rfl rfl
    have e30 : a'.tmps[30]?.getD undef = .int .i64 txn := H.is 6 30 rfl rfl rfl
    refine ⟨rfl, fun K hK => ?_⟩
    have hJ' := hJ
    unfold J10 at hJ'
    rw [not_yet hl] at hJ'
    refine wp_enter (f := 7) (args := #[.pointer (some ⟨g, 0, none⟩), .int .i64 txn]) (w' := w') (R := fun v w2 => v = .int .i64 (release m txn).1 ∧ MRep B w2 g (release m txn).2 ∧ Fr B tagM w' w2) ?_ ((rrelease_c B g m w' vd hJ'.M txn hJ'.size).mono ?_) ?_
    · simp [go_sem, e28, e30]
    · rintro e w2 ⟨rfl, h1, h2⟩
      exact ⟨_, rfl, rfl, h1, h2⟩
    · rintro v w2 ⟨rfl, h1, h2⟩
      refine hK _ w2 (fun _ _ => rfl) (fun _ _ _ _ h => h) ?_
      unfold J10
      rw [set_self hl, set_ne (by decide)]
      exact hJ'.stepM h1 h2
  · intro listed a' w' hl H hJ
    have e27 : a'.tmps[27]?.getD undef = .int .i64 (release m txn).1 := H.is 3 27 rfl rfl rfl
    have e31 : a'.tmps[31]?.getD undef = .int .i64 (release m txn).1 := H.is 7 31 rfl rfl rfl
    refine ⟨rfl, fun K hK => ?_⟩
    refine wp_eq (v := .bool false) (w' := w') ?_ (hK _ w' (fun _ _ => rfl) (fun _ _ _ _ h => h) (hJ.skip (by decide) (by decide)))
    simp [go_sem, e27, e31]
  · intro listed u w' hF hall hJ
    have h3 := hall 3 (by decide)
    have h7 := hall 7 (by decide)
    unfold Done at h3 h7
    unfold J10 at hJ
    rw [h3, h7] at hJ
    exact hend u w' (hF 8 _ 32 rfl rfl) hJ

def ops12 : Array Oper := #[{ dst := some 33, op := Op.move (Operand.tmp 3), type := 24, pos := "law.go:42", after := #[], guard := none }, { dst := some 34, op := Op.fieldAddr 31 (Operand.tmp 6) 1, type := 0, pos := "law.go:42", after := #[], guard := none }, { dst := some 35, op := Op.load 3 (Operand.tmp 34), type := 3, pos := "law.go:42", after := #[{ on := 1, ground := Ground.data }], guard := none }, { dst := some 36, op := Op.fieldAddr 31 (Operand.tmp 6) 2, type := 0, pos := "law.go:42", after := #[], guard := none }, { dst := some 37, op := Op.load 3 (Operand.tmp 36), type := 3, pos := "law.go:42", after := #[{ on := 3, ground := Ground.data }], guard := none }, { dst := some 38, op := Op.fieldAddr 31 (Operand.tmp 6) 3, type := 0, pos := "law.go:42", after := #[], guard := none }, { dst := some 39, op := Op.load 3 (Operand.tmp 38), type := 3, pos := "law.go:42", after := #[{ on := 5, ground := Ground.data }], guard := none }, { dst := some 40, op := Op.call { callee := Callee.value (Operand.func 9), args := #[Operand.tmp 33, Operand.tmp 35, Operand.tmp 37, Operand.tmp 39], argTypes := #[24, 3, 3, 3] }, type := 35, pos := "law.go:42", after := #[{ on := 0, ground := Ground.data }, { on := 2, ground := Ground.data }, { on := 4, ground := Ground.data }, { on := 6, ground := Ground.data }], guard := none }, { dst := some 41, op := Op.call { callee := Callee.value (Operand.func 8), args := #[Operand.tmp 40], argTypes := #[35] }, type := 3, pos := "law.go:42", after := #[{ on := 7, ground := Ground.data }, { on := 7, ground := Ground.chain }], guard := none }, { dst := some 42, op := Op.move (Operand.tmp 4), type := 26, pos := "law.go:42", after := #[], guard := none }, { dst := some 43, op := Op.fieldAddr 31 (Operand.tmp 6) 1, type := 0, pos := "law.go:42", after := #[], guard := none }, { dst := some 44, op := Op.load 3 (Operand.tmp 43), type := 3, pos := "law.go:42", after := #[{ on := 10, ground := Ground.data }], guard := none }, { dst := some 45, op := Op.fieldAddr 31 (Operand.tmp 6) 2, type := 0, pos := "law.go:42", after := #[], guard := none }, { dst := some 46, op := Op.load 3 (Operand.tmp 45), type := 3, pos := "law.go:42", after := #[{ on := 12, ground := Ground.data }], guard := none }, { dst := some 47, op := Op.fieldAddr 31 (Operand.tmp 6) 3, type := 0, pos := "law.go:42", after := #[], guard := none }, { dst := some 48, op := Op.load 3 (Operand.tmp 47), type := 3, pos := "law.go:42", after := #[{ on := 14, ground := Ground.data }], guard := none }, { dst := some 49, op := Op.call { callee := Callee.value (Operand.func 10), args := #[Operand.tmp 42, Operand.tmp 44, Operand.tmp 46, Operand.tmp 48], argTypes := #[26, 3, 3, 3] }, type := 3, pos := "law.go:42", after := #[{ on := 9, ground := Ground.data }, { on := 11, ground := Ground.data }, { on := 13, ground := Ground.data }, { on := 15, ground := Ground.data }, { on := 8, ground := Ground.chain }], guard := none }, { dst := some 50, op := Op.binOp BinOp.neq 3 (Operand.tmp 41) (Operand.tmp 49) 3, type := 4, pos := "law.go:42", after := #[{ on := 8, ground := Ground.data }, { on := 16, ground := Ground.data }], guard := none }]
def F12 (t g ob : Nat) (m : Tab) (txn page mode : Int) : Nat → Value → Prop
  | 0, v => v = .pointer (some ⟨t, 0, none⟩)
  | 1, v => v = .pointer (some ⟨ob, 1, none⟩)
  | 2, v => v = .int .i64 txn
  | 3, v => v = .pointer (some ⟨ob, 2, none⟩)
  | 4, v => v = .int .i64 page
  | 5, v => v = .pointer (some ⟨ob, 3, none⟩)
  | 6, v => v = .int .i64 mode
  | 7, v => v = errV (take m txn page mode).1
  | 8, v => v = .int .i64 (take m txn page mode).1
  | 9, v => v = .pointer (some ⟨g, 0, none⟩)
  | 10, v => v = .pointer (some ⟨ob, 1, none⟩)
  | 11, v => v = .int .i64 txn
  | 12, v => v = .pointer (some ⟨ob, 2, none⟩)
  | 13, v => v = .int .i64 page
  | 14, v => v = .pointer (some ⟨ob, 3, none⟩)
  | 15, v => v = .int .i64 mode
  | 16, v => v = .int .i64 (take m txn page mode).1
  | 17, v => v = .bool false
  | _, _ => True
def J12 (B t g ob : Nat) (m : Tab) (kind txn page mode : Int) (w0 : World) (listed : Array Bool) (w : World) : Prop :=
  Both B t g ob (if listed.getD 7 false then (take m txn page mode).2 else m) (if listed.getD 16 false then (take m txn page mode).2 else m) kind txn page mode w0 w
theorem J12.skip {B t g ob : Nat} {m : Tab} {kind txn page mode : Int} {w0 w : World} {listed : Array Bool} {i : Nat} (h : J12 B t g ob m kind txn page mode w0 listed w) (h3 : i ≠ 7) (h7 : i ≠ 16) : J12 B t g ob m kind txn page mode w0 (listed.setIfInBounds i true) w := by
  unfold J12
  rw [set_ne h3, set_ne h7]
  exact h
theorem region12 {Q : Exit → Act → World → Prop} {a : Act} {w : World} (B t g ob : Nat) (m : Tab) (kind txn page mode : Int) (hs : a.tmps.size = 99) (h3 : a.tmps.getD 3 undef = .pointer (some ⟨t, 0, none⟩)) (h4 : a.tmps.getD 4 undef = .pointer (some ⟨g, 0, none⟩)) (h6 : a.tmps.getD 6 undef = .pointer (some ⟨ob, 0, none⟩))
    (vd : Valid m) (hJ : Both B t g ob m m kind txn page mode w w)
    (hend : ∀ (u : Nat → Value) w', u 50 = .bool false → Both B t g ob (take m txn page mode).2 (take m txn page mode).2 kind txn page mode w w' → Q .normal (putAll ops12 u a) w') : (Code.region 12 ops12 true).wp Try.prog Q a w := by
  refine wp_region_rule (by kernel_rfl) (fun i v _ => F12 t g ob m txn page mode i v) (fun listed W => J12 B t g ob m kind txn page mode w listed W) (by kernel_rfl) (by rw [hs]; kernel_rfl) ?_ (allOps ⟨?_, ?_, ?_, ?_, ?_, ?_, ?_, ?_, ?_, ?_, ?_, ?_, ?_, ?_, ?_, ?_, ?_, ?_, trivial⟩) ?_
  · exact hJ.drew
  · intro listed a' w' hl H hJ
    have e3 : a'.tmps[3]?.getD undef = .pointer (some ⟨t, 0, none⟩) := H.old 3 rfl h3
    refine ⟨rfl, fun K hK => ?_⟩
    refine wp_eq (v := .pointer (some ⟨t, 0, none⟩)) (w' := w') ?_ (hK _ w' (fun _ _ => rfl) (fun _ _ _ _ h => h) (hJ.skip (by decide) (by decide)))
    simp [go_sem, e3]
  · intro listed a' w' hl H hJ
    have e6 : a'.tmps[6]?.getD undef = .pointer (some ⟨ob, 0, none⟩) := H.old 6 rfl h6
    refine ⟨rfl, fun K hK => ?_⟩
    refine wp_eq (v := .pointer (some ⟨ob, 1, none⟩)) (w' := w') ?_ (hK _ w' (fun _ _ => rfl) (fun _ _ _ _ h => h) (hJ.skip (by decide) (by decide)))
    simp [go_sem, e6]
  · intro listed a' w' hl H hJ
    have e34 : a'.tmps[34]?.getD undef = .pointer (some ⟨ob, 1, none⟩) := H.is 1 34 rfl rfl rfl
    refine ⟨rfl, fun K hK => ?_⟩
    obtain ⟨c1, _, _⟩ := Both.cell hJ
    refine wp_eq (v := .int .i64 txn) (w' := w') ?_ (hK _ w' (fun _ _ => rfl) (fun _ _ _ _ h => h) (hJ.skip (by decide) (by decide)))
    simp [go_sem, e34, c1]
  · intro listed a' w' hl H hJ
    have e6 : a'.tmps[6]?.getD undef = .pointer (some ⟨ob, 0, none⟩) := H.old 6 rfl h6
    refine ⟨rfl, fun K hK => ?_⟩
    refine wp_eq (v := .pointer (some ⟨ob, 2, none⟩)) (w' := w') ?_ (hK _ w' (fun _ _ => rfl) (fun _ _ _ _ h => h) (hJ.skip (by decide) (by decide)))
    simp [go_sem, e6]
  · intro listed a' w' hl H hJ
    have e36 : a'.tmps[36]?.getD undef = .pointer (some ⟨ob, 2, none⟩) := H.is 3 36 rfl rfl rfl
    refine ⟨rfl, fun K hK => ?_⟩
    obtain ⟨_, c2, _⟩ := Both.cell hJ
    refine wp_eq (v := .int .i64 page) (w' := w') ?_ (hK _ w' (fun _ _ => rfl) (fun _ _ _ _ h => h) (hJ.skip (by decide) (by decide)))
    simp [go_sem, e36, c2]
  · intro listed a' w' hl H hJ
    have e6 : a'.tmps[6]?.getD undef = .pointer (some ⟨ob, 0, none⟩) := H.old 6 rfl h6
    refine ⟨rfl, fun K hK => ?_⟩
    refine wp_eq (v := .pointer (some ⟨ob, 3, none⟩)) (w' := w') ?_ (hK _ w' (fun _ _ => rfl) (fun _ _ _ _ h => h) (hJ.skip (by decide) (by decide)))
    simp [go_sem, e6]
  · intro listed a' w' hl H hJ
    have e38 : a'.tmps[38]?.getD undef = .pointer (some ⟨ob, 3, none⟩) := H.is 5 38 rfl rfl rfl
    refine ⟨rfl, fun K hK => ?_⟩
    obtain ⟨_, _, c3⟩ := Both.cell hJ
    refine wp_eq (v := .int .i64 mode) (w' := w') ?_ (hK _ w' (fun _ _ => rfl) (fun _ _ _ _ h => h) (hJ.skip (by decide) (by decide)))
    simp [go_sem, e38, c3]
  · intro listed a' w' hl H hJ
    have e33 : a'.tmps[33]?.getD undef = .pointer (some ⟨t, 0, none⟩) := H.is 0 33 rfl rfl rfl
    have e35 : a'.tmps[35]?.getD undef = .int .i64 txn := H.is 2 35 rfl rfl rfl
    have e37 : a'.tmps[37]?.getD undef = .int .i64 page := H.is 4 37 rfl rfl rfl
    have e39 : a'.tmps[39]?.getD undef = .int .i64 mode := H.is 6 39 rfl rfl rfl
    refine ⟨rfl, fun K hK => ?_⟩
    have hJ' := hJ
    unfold J12 at hJ'
    rw [not_yet hl] at hJ'
    refine wp_enter (f := 9) (args := #[.pointer (some ⟨t, 0, none⟩), .int .i64 txn, .int .i64 page, .int .i64 mode]) (w' := w') (R := fun v w2 => v = errV (take m txn page mode).1 ∧ TRep B w2 t (take m txn page mode).2 ∧ Fr B tagT w' w2) ?_ ((take_c B t m w' vd hJ'.T hJ'.size txn page mode).mono ?_) ?_
    · simp [go_sem, e33, e35, e37, e39]
    · rintro e w2 ⟨rfl, h1, h2⟩
      exact ⟨_, rfl, rfl, h1, h2⟩
    · rintro v w2 ⟨rfl, h1, h2⟩
      refine hK _ w2 (fun _ _ => rfl) (fun _ _ _ _ h => h) ?_
      unfold J12
      rw [set_self hl, set_ne (by decide)]
      exact hJ'.stepT h1 h2
  · intro listed a' w' hl H hJ
    have e40 : a'.tmps[40]?.getD undef = errV (take m txn page mode).1 := H.is 7 40 rfl rfl rfl
    refine ⟨rfl, fun K hK => ?_⟩
    refine wp_enter (f := 8) (args := #[errV (take m txn page mode).1]) (w' := w') (R := fun v w2 => v = .int .i64 (take m txn page mode).1 ∧ w' = w2) ?_ ((num_c _ w').mono ?_) ?_
    · simp [go_sem, e40]
    · rintro e w2 ⟨rfl, rfl⟩
      exact ⟨_, rfl, rfl, rfl⟩
    · rintro v w2 ⟨rfl, rfl⟩
      exact hK _ _ (fun _ _ => rfl) (fun _ _ _ _ h => h) (hJ.skip (by decide) (by decide))
  · intro listed a' w' hl H hJ
    have e4 : a'.tmps[4]?.getD undef = .pointer (some ⟨g, 0, none⟩) := H.old 4 rfl h4
    refine ⟨rfl, fun K hK => ?_⟩
    refine wp_eq (v := .pointer (some ⟨g, 0, none⟩)) (w' := w') ?_ (hK _ w' (fun _ _ => rfl) (fun _ _ _ _ h => h) (hJ.skip (by decide) (by decide)))
    simp [go_sem, e4]
  · intro listed a' w' hl H hJ
    have e6 : a'.tmps[6]?.getD undef = .pointer (some ⟨ob, 0, none⟩) := H.old 6 rfl h6
    refine ⟨rfl, fun K hK => ?_⟩
    refine wp_eq (v := .pointer (some ⟨ob, 1, none⟩)) (w' := w') ?_ (hK _ w' (fun _ _ => rfl) (fun _ _ _ _ h => h) (hJ.skip (by decide) (by decide)))
    simp [go_sem, e6]
  · intro listed a' w' hl H hJ
    have e43 : a'.tmps[43]?.getD undef = .pointer (some ⟨ob, 1, none⟩) := H.is 10 43 rfl rfl rfl
    refine ⟨rfl, fun K hK => ?_⟩
    obtain ⟨c1, _, _⟩ := Both.cell hJ
    refine wp_eq (v := .int .i64 txn) (w' := w') ?_ (hK _ w' (fun _ _ => rfl) (fun _ _ _ _ h => h) (hJ.skip (by decide) (by decide)))
    simp [go_sem, e43, c1]
  · intro listed a' w' hl H hJ
    have e6 : a'.tmps[6]?.getD undef = .pointer (some ⟨ob, 0, none⟩) := H.old 6 rfl h6
    refine ⟨rfl, fun K hK => ?_⟩
    refine wp_eq (v := .pointer (some ⟨ob, 2, none⟩)) (w' := w') ?_ (hK _ w' (fun _ _ => rfl) (fun _ _ _ _ h => h) (hJ.skip (by decide) (by decide)))
    simp [go_sem, e6]
  · intro listed a' w' hl H hJ
    have e45 : a'.tmps[45]?.getD undef = .pointer (some ⟨ob, 2, none⟩) := H.is 12 45 rfl rfl rfl
    refine ⟨rfl, fun K hK => ?_⟩
    obtain ⟨_, c2, _⟩ := Both.cell hJ
    refine wp_eq (v := .int .i64 page) (w' := w') ?_ (hK _ w' (fun _ _ => rfl) (fun _ _ _ _ h => h) (hJ.skip (by decide) (by decide)))
    simp [go_sem, e45, c2]
  · intro listed a' w' hl H hJ
    have e6 : a'.tmps[6]?.getD undef = .pointer (some ⟨ob, 0, none⟩) := H.old 6 rfl h6
    refine ⟨rfl, fun K hK => ?_⟩
    refine wp_eq (v := .pointer (some ⟨ob, 3, none⟩)) (w' := w') ?_ (hK _ w' (fun _ _ => rfl) (fun _ _ _ _ h => h) (hJ.skip (by decide) (by decide)))
    simp [go_sem, e6]
  · intro listed a' w' hl H hJ
    have e47 : a'.tmps[47]?.getD undef = .pointer (some ⟨ob, 3, none⟩) := H.is 14 47 rfl rfl rfl
    refine ⟨rfl, fun K hK => ?_⟩
    obtain ⟨_, _, c3⟩ := Both.cell hJ
    refine wp_eq (v := .int .i64 mode) (w' := w') ?_ (hK _ w' (fun _ _ => rfl) (fun _ _ _ _ h => h) (hJ.skip (by decide) (by decide)))
    simp [go_sem, e47, c3]
  · intro listed a' w' hl H hJ
    have e42 : a'.tmps[42]?.getD undef = .pointer (some ⟨g, 0, none⟩) := H.is 9 42 rfl rfl rfl
    have e44 : a'.tmps[44]?.getD undef = .int .i64 txn := H.is 11 44 rfl rfl rfl
    have e46 : a'.tmps[46]?.getD undef = .int .i64 page := H.is 13 46 rfl rfl rfl
    have e48 : a'.tmps[48]?.getD undef = .int .i64 mode := H.is 15 48 rfl rfl rfl
    refine ⟨rfl, fun K hK => ?_⟩
    have hJ' := hJ
    unfold J12 at hJ'
    rw [not_yet hl] at hJ'
    refine wp_enter (f := 10) (args := #[.pointer (some ⟨g, 0, none⟩), .int .i64 txn, .int .i64 page, .int .i64 mode]) (w' := w') (R := fun v w2 => v = .int .i64 (take m txn page mode).1 ∧ MRep B w2 g (take m txn page mode).2 ∧ Fr B tagM w' w2) ?_ ((rtake_c B g m w' vd hJ'.M hJ'.size txn page mode).mono ?_) ?_
    · simp [go_sem, e42, e44, e46, e48]
    · rintro e w2 ⟨rfl, h1, h2⟩
      exact ⟨_, rfl, rfl, h1, h2⟩
    · rintro v w2 ⟨rfl, h1, h2⟩
      refine hK _ w2 (fun _ _ => rfl) (fun _ _ _ _ h => h) ?_
      unfold J12
      rw [set_self hl, set_ne (by decide)]
      exact hJ'.stepM h1 h2
  · intro listed a' w' hl H hJ
    have e41 : a'.tmps[41]?.getD undef = .int .i64 (take m txn page mode).1 := H.is 8 41 rfl rfl rfl
    have e49 : a'.tmps[49]?.getD undef = .int .i64 (take m txn page mode).1 := H.is 16 49 rfl rfl rfl
    refine ⟨rfl, fun K hK => ?_⟩
    refine wp_eq (v := .bool false) (w' := w') ?_ (hK _ w' (fun _ _ => rfl) (fun _ _ _ _ h => h) (hJ.skip (by decide) (by decide)))
    simp [go_sem, e41, e49]
  · intro listed u w' hF hall hJ
    have h3 := hall 7 (by decide)
    have h7 := hall 16 (by decide)
    unfold Done at h3 h7
    unfold J12 at hJ
    rw [h3, h7] at hJ
    exact hend u w' (hF 17 _ 50 rfl rfl) hJ
end Go.Proofs.Ytejpjibhpjgcjaa
