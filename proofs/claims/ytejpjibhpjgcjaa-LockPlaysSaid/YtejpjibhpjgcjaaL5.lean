/-
  The region of the law that compares both tables.
  Conditions: those that each theorem names.
-/
import Derived.Test.YtejpjibhpjgcjaaL4
namespace Go.Proofs.Ytejpjibhpjgcjaa
open Go.RowKit
set_option maxRecDepth 100000

def ops14 : Array Oper := #[{ dst := some 51, op := Op.move (Operand.tmp 3), type := 24, pos := "law.go:45", after := #[], guard := none }, { dst := some 52, op := Op.call { callee := Callee.value (Operand.func 11), args := #[Operand.tmp 51], argTypes := #[24] }, type := 3, pos := "law.go:45", after := #[{ on := 0, ground := Ground.data }], guard := none }, { dst := some 53, op := Op.move (Operand.tmp 4), type := 26, pos := "law.go:45", after := #[], guard := none }, { dst := some 54, op := Op.nilCheck (Operand.tmp 53), type := 0, pos := "law.go:45", after := #[{ on := 2, ground := Ground.data }], guard := none }, { dst := some 55, op := Op.fieldAddr 29 (Operand.tmp 54) 0, type := 0, pos := "law.go:45", after := #[{ on := 3, ground := Ground.data }], guard := none }, { dst := some 56, op := Op.load 27 (Operand.tmp 55), type := 27, pos := "law.go:45", after := #[{ on := 4, ground := Ground.data }], guard := none }, { dst := some 57, op := Op.call { callee := Callee.builtin Builtin.len, args := #[Operand.tmp 56], argTypes := #[27] }, type := 3, pos := "law.go:45", after := #[{ on := 5, ground := Ground.data }], guard := none }, { dst := some 58, op := Op.binOp BinOp.neq 3 (Operand.tmp 52) (Operand.tmp 57) 3, type := 4, pos := "law.go:45", after := #[{ on := 1, ground := Ground.data }, { on := 6, ground := Ground.data }], guard := none }, { dst := some 59, op := Op.move (Operand.tmp 58), type := 4, pos := "law.go:45", after := #[{ on := 7, ground := Ground.data }, { on := 1, ground := Ground.chain }], guard := none }, { dst := some 60, op := Op.move (Operand.tmp 3), type := 24, pos := "law.go:45", after := #[{ on := 8, ground := Ground.guard }], guard := some (8, false) }, { dst := some 61, op := Op.fieldAddr 31 (Operand.tmp 6) 1, type := 0, pos := "law.go:45", after := #[{ on := 8, ground := Ground.guard }], guard := some (8, false) }, { dst := some 62, op := Op.load 3 (Operand.tmp 61), type := 3, pos := "law.go:45", after := #[{ on := 10, ground := Ground.data }, { on := 8, ground := Ground.guard }], guard := some (8, false) }, { dst := some 63, op := Op.fieldAddr 31 (Operand.tmp 6) 2, type := 0, pos := "law.go:45", after := #[{ on := 8, ground := Ground.guard }], guard := some (8, false) }, { dst := some 64, op := Op.load 3 (Operand.tmp 63), type := 3, pos := "law.go:45", after := #[{ on := 12, ground := Ground.data }, { on := 8, ground := Ground.guard }], guard := some (8, false) }, { dst := some 65, op := Op.call { callee := Callee.value (Operand.func 12), args := #[Operand.tmp 60, Operand.tmp 62, Operand.tmp 64], argTypes := #[24, 3, 3] }, type := 3, pos := "law.go:45", after := #[{ on := 9, ground := Ground.data }, { on := 11, ground := Ground.data }, { on := 13, ground := Ground.data }, { on := 8, ground := Ground.chain }, { on := 8, ground := Ground.guard }], guard := some (8, false) }, { dst := some 66, op := Op.move (Operand.tmp 4), type := 26, pos := "law.go:45", after := #[{ on := 8, ground := Ground.guard }], guard := some (8, false) }, { dst := some 67, op := Op.fieldAddr 31 (Operand.tmp 6) 1, type := 0, pos := "law.go:45", after := #[{ on := 8, ground := Ground.guard }], guard := some (8, false) }, { dst := some 68, op := Op.load 3 (Operand.tmp 67), type := 3, pos := "law.go:45", after := #[{ on := 16, ground := Ground.data }, { on := 8, ground := Ground.guard }], guard := some (8, false) }, { dst := some 69, op := Op.fieldAddr 31 (Operand.tmp 6) 2, type := 0, pos := "law.go:45", after := #[{ on := 8, ground := Ground.guard }], guard := some (8, false) }, { dst := some 70, op := Op.load 3 (Operand.tmp 69), type := 3, pos := "law.go:45", after := #[{ on := 18, ground := Ground.data }, { on := 8, ground := Ground.guard }], guard := some (8, false) }, { dst := some 71, op := Op.call { callee := Callee.value (Operand.func 13), args := #[Operand.tmp 66, Operand.tmp 68, Operand.tmp 70], argTypes := #[26, 3, 3] }, type := 3, pos := "law.go:45", after := #[{ on := 15, ground := Ground.data }, { on := 17, ground := Ground.data }, { on := 19, ground := Ground.data }, { on := 14, ground := Ground.chain }, { on := 8, ground := Ground.guard }], guard := some (8, false) }, { dst := some 72, op := Op.binOp BinOp.neq 3 (Operand.tmp 65) (Operand.tmp 71) 3, type := 4, pos := "law.go:45", after := #[{ on := 14, ground := Ground.data }, { on := 20, ground := Ground.data }, { on := 8, ground := Ground.guard }], guard := some (8, false) }, { dst := some 73, op := Op.pick (Operand.tmp 59) (Operand.const (Value.bool true)) (Operand.tmp 72), type := 4, pos := "law.go:45", after := #[{ on := 8, ground := Ground.data }, { on := 21, ground := Ground.data }], guard := none }, { dst := some 74, op := Op.move (Operand.tmp 73), type := 4, pos := "law.go:45", after := #[{ on := 22, ground := Ground.data }, { on := 20, ground := Ground.chain }], guard := none }, { dst := some 75, op := Op.move (Operand.tmp 3), type := 24, pos := "law.go:45", after := #[{ on := 23, ground := Ground.guard }], guard := some (23, false) }, { dst := some 76, op := Op.fieldAddr 31 (Operand.tmp 6) 2, type := 0, pos := "law.go:45", after := #[{ on := 23, ground := Ground.guard }], guard := some (23, false) }, { dst := some 77, op := Op.load 3 (Operand.tmp 76), type := 3, pos := "law.go:45", after := #[{ on := 25, ground := Ground.data }, { on := 23, ground := Ground.guard }], guard := some (23, false) }, { dst := some 78, op := Op.call { callee := Callee.value (Operand.func 15), args := #[Operand.tmp 75, Operand.tmp 77], argTypes := #[24, 3] }, type := 41, pos := "law.go:45", after := #[{ on := 24, ground := Ground.data }, { on := 26, ground := Ground.data }, { on := 23, ground := Ground.chain }, { on := 23, ground := Ground.guard }], guard := some (23, false) }, { dst := some 79, op := Op.move (Operand.tmp 4), type := 26, pos := "law.go:45", after := #[{ on := 23, ground := Ground.guard }], guard := some (23, false) }, { dst := some 80, op := Op.fieldAddr 31 (Operand.tmp 6) 2, type := 0, pos := "law.go:45", after := #[{ on := 23, ground := Ground.guard }], guard := some (23, false) }, { dst := some 81, op := Op.load 3 (Operand.tmp 80), type := 3, pos := "law.go:45", after := #[{ on := 29, ground := Ground.data }, { on := 23, ground := Ground.guard }], guard := some (23, false) }, { dst := some 82, op := Op.call { callee := Callee.value (Operand.func 16), args := #[Operand.tmp 79, Operand.tmp 81], argTypes := #[26, 3] }, type := 41, pos := "law.go:45", after := #[{ on := 28, ground := Ground.data }, { on := 30, ground := Ground.data }, { on := 27, ground := Ground.chain }, { on := 23, ground := Ground.guard }], guard := some (23, false) }, { dst := some 83, op := Op.call { callee := Callee.value (Operand.func 14), args := #[Operand.tmp 78, Operand.tmp 82], argTypes := #[41, 41] }, type := 4, pos := "law.go:45", after := #[{ on := 27, ground := Ground.data }, { on := 31, ground := Ground.data }, { on := 31, ground := Ground.chain }, { on := 23, ground := Ground.guard }], guard := some (23, false) }, { dst := some 84, op := Op.unOp UnOp.not 4 (Operand.tmp 83), type := 4, pos := "law.go:45", after := #[{ on := 32, ground := Ground.data }, { on := 23, ground := Ground.guard }], guard := some (23, false) }, { dst := some 85, op := Op.pick (Operand.tmp 74) (Operand.const (Value.bool true)) (Operand.tmp 84), type := 4, pos := "law.go:45", after := #[{ on := 23, ground := Ground.data }, { on := 33, ground := Ground.data }], guard := none }, { dst := some 86, op := Op.move (Operand.tmp 85), type := 4, pos := "law.go:45", after := #[{ on := 34, ground := Ground.data }, { on := 32, ground := Ground.chain }], guard := none }, { dst := some 87, op := Op.move (Operand.tmp 3), type := 24, pos := "law.go:45", after := #[{ on := 35, ground := Ground.guard }], guard := some (35, false) }, { dst := some 88, op := Op.fieldAddr 31 (Operand.tmp 6) 1, type := 0, pos := "law.go:45", after := #[{ on := 35, ground := Ground.guard }], guard := some (35, false) }, { dst := some 89, op := Op.load 3 (Operand.tmp 88), type := 3, pos := "law.go:45", after := #[{ on := 37, ground := Ground.data }, { on := 35, ground := Ground.guard }], guard := some (35, false) }, { dst := some 90, op := Op.call { callee := Callee.value (Operand.func 17), args := #[Operand.tmp 87, Operand.tmp 89], argTypes := #[24, 3] }, type := 41, pos := "law.go:45", after := #[{ on := 36, ground := Ground.data }, { on := 38, ground := Ground.data }, { on := 35, ground := Ground.chain }, { on := 35, ground := Ground.guard }], guard := some (35, false) }, { dst := some 91, op := Op.move (Operand.tmp 4), type := 26, pos := "law.go:45", after := #[{ on := 35, ground := Ground.guard }], guard := some (35, false) }, { dst := some 92, op := Op.fieldAddr 31 (Operand.tmp 6) 1, type := 0, pos := "law.go:45", after := #[{ on := 35, ground := Ground.guard }], guard := some (35, false) }, { dst := some 93, op := Op.load 3 (Operand.tmp 92), type := 3, pos := "law.go:45", after := #[{ on := 41, ground := Ground.data }, { on := 35, ground := Ground.guard }], guard := some (35, false) }, { dst := some 94, op := Op.call { callee := Callee.value (Operand.func 18), args := #[Operand.tmp 91, Operand.tmp 93], argTypes := #[26, 3] }, type := 41, pos := "law.go:45", after := #[{ on := 40, ground := Ground.data }, { on := 42, ground := Ground.data }, { on := 39, ground := Ground.chain }, { on := 35, ground := Ground.guard }], guard := some (35, false) }, { dst := some 95, op := Op.call { callee := Callee.value (Operand.func 14), args := #[Operand.tmp 90, Operand.tmp 94], argTypes := #[41, 41] }, type := 4, pos := "law.go:45", after := #[{ on := 39, ground := Ground.data }, { on := 43, ground := Ground.data }, { on := 43, ground := Ground.chain }, { on := 35, ground := Ground.guard }], guard := some (35, false) }, { dst := some 96, op := Op.unOp UnOp.not 4 (Operand.tmp 95), type := 4, pos := "law.go:45", after := #[{ on := 44, ground := Ground.data }, { on := 35, ground := Ground.guard }], guard := some (35, false) }, { dst := some 97, op := Op.pick (Operand.tmp 86) (Operand.const (Value.bool true)) (Operand.tmp 96), type := 4, pos := "law.go:45", after := #[{ on := 35, ground := Ground.data }, { on := 45, ground := Ground.data }], guard := none }]
def V14 (t g ob : Nat) (m : Tab) (txn page : Int) : Nat → Value → Prop
  | 0, v => v = .pointer (some ⟨t, 0, none⟩)
  | 1, v => v = .int .i64 m.locks.length
  | 2, v => v = .pointer (some ⟨g, 0, none⟩)
  | 3, v => v = .pointer (some ⟨g, 0, none⟩)
  | 4, v => v = .pointer (some ⟨g, 0, none⟩)
  | 6, v => v = .int .i64 m.locks.length
  | 7, v => v = .bool false
  | 8, v => v = .bool false
  | 9, v => v = .pointer (some ⟨t, 0, none⟩)
  | 10, v => v = .pointer (some ⟨ob, 1, none⟩)
  | 11, v => v = .int .i64 txn
  | 12, v => v = .pointer (some ⟨ob, 2, none⟩)
  | 13, v => v = .int .i64 page
  | 14, v => v = .int .i64 (holds m.locks txn page)
  | 15, v => v = .pointer (some ⟨g, 0, none⟩)
  | 16, v => v = .pointer (some ⟨ob, 1, none⟩)
  | 17, v => v = .int .i64 txn
  | 18, v => v = .pointer (some ⟨ob, 2, none⟩)
  | 19, v => v = .int .i64 page
  | 20, v => v = .int .i64 (holds m.locks txn page)
  | 21, v => v = .bool false
  | 22, v => v = .bool false
  | 23, v => v = .bool false
  | 24, v => v = .pointer (some ⟨t, 0, none⟩)
  | 25, v => v = .pointer (some ⟨ob, 2, none⟩)
  | 26, v => v = .int .i64 page
  | 28, v => v = .pointer (some ⟨g, 0, none⟩)
  | 29, v => v = .pointer (some ⟨ob, 2, none⟩)
  | 30, v => v = .int .i64 page
  | 32, v => v = .bool true
  | 33, v => v = .bool false
  | 34, v => v = .bool false
  | 35, v => v = .bool false
  | 36, v => v = .pointer (some ⟨t, 0, none⟩)
  | 37, v => v = .pointer (some ⟨ob, 1, none⟩)
  | 38, v => v = .int .i64 txn
  | 40, v => v = .pointer (some ⟨g, 0, none⟩)
  | 41, v => v = .pointer (some ⟨ob, 1, none⟩)
  | 42, v => v = .int .i64 txn
  | 44, v => v = .bool true
  | 45, v => v = .bool false
  | 46, v => v = .bool false
  | 5, v => ∃ A c, v = .slice A m.locks.length c
  | _, _ => True
def F14 (t g ob : Nat) (m : Tab) (txn page : Int) (i : Nat) (v : Value) (w : World) : Prop :=
  V14 t g ob m txn page i v ∧ (i = 27 ∨ i = 31 → RdI w v (holdersOf m.locks page)) ∧ (i = 39 ∨ i = 43 → RdI w v (forW m txn))
theorem rdI_below {w w' : World} {v : Value} {xs : List Int} (h : RdI w v xs) (hb : Below w.heap.size w w') : RdI w' v xs :=
  RdV.keep h (fun b _ _ hb' => hb.block b hb') hb.size
theorem mrep_cell {B g : Nat} {w : World} {m : Tab} (h : MRep B w g m) : ∃ A c, w.cell? ⟨g, 0, none⟩ = some (.slice A m.locks.length c) := by
  obtain ⟨vL, vW, h⟩ := h
  obtain ⟨A, c, rfl⟩ := h.lform
  exact ⟨A, c, by rw [cell_blkM h.blk]; rfl⟩
set_option maxHeartbeats 4000000 in
theorem region14 {Q : Exit → Act → World → Prop} {a : Act} {w : World} (B t g ob : Nat) (m : Tab) (kind txn page mode : Int) (hs : a.tmps.size = 99) (h3 : a.tmps.getD 3 undef = .pointer (some ⟨t, 0, none⟩)) (h4 : a.tmps.getD 4 undef = .pointer (some ⟨g, 0, none⟩)) (h6 : a.tmps.getD 6 undef = .pointer (some ⟨ob, 0, none⟩))
    (vd : Valid m) (hJ : Both B t g ob m m kind txn page mode w w)
    (hend : ∀ (u : Nat → Value) w', u 97 = .bool false → Both B t g ob m m kind txn page mode w w' → Q .normal (putAll ops14 u a) w') : (Code.region 14 ops14 true).wp Try.prog Q a w := by
  refine wp_region_rule (by kernel_rfl) (F14 t g ob m txn page) (fun _ W => Both B t g ob m m kind txn page mode w W) (by kernel_rfl) (by rw [hs]; kernel_rfl) ?_ (allOps ⟨?_, ?_, ?_, ?_, ?_, ?_, ?_, ?_, ?_, ?_, ?_, ?_, ?_, ?_, ?_, ?_, ?_, ?_, ?_, ?_, ?_, ?_, ?_, ?_, ?_, ?_, ?_, ?_, ?_, ?_, ?_, ?_, ?_, ?_, ?_, ?_, ?_, ?_, ?_, ?_, ?_, ?_, ?_, ?_, ?_, ?_, ?_, trivial⟩) ?_
  · exact hJ.drew
  · intro listed a' w' hl H hJ
    have e3 : a'.tmps[3]?.getD undef = .pointer (some ⟨t, 0, none⟩) := H.old 3 rfl h3
    refine ⟨rfl, fun K hK => ?_⟩
    refine wp_eq (v := .pointer (some ⟨t, 0, none⟩)) (w' := w') ?_ (hK _ w' (fun _ _ => ⟨rfl, fun e => by omega, fun e => by omega⟩) (fun _ _ _ _ h => h) hJ)
    simp [go_sem, e3]
  · intro listed a' w' hl H hJ
    have e51 : a'.tmps[51]?.getD undef = .pointer (some ⟨t, 0, none⟩) := (H.is 0 51 rfl rfl rfl).1
    refine ⟨rfl, fun K hK => ?_⟩
    refine wp_enter (f := 11) (args := #[.pointer (some ⟨t, 0, none⟩)]) (w' := w') (R := fun v w2 => v = .int .i64 m.locks.length ∧ Below w'.heap.size w' w2) ?_ ((len_c B t m w' hJ.T).mono fun e w2 h => by obtain ⟨rfl, rfl⟩ := h; exact ⟨_, rfl, rfl, Below.refl _ _⟩) ?_
    · simp [go_sem, e51]
    · rintro v w2 ⟨rfl, hb⟩
      exact hK _ w2 (fun _ _ => ⟨rfl, fun e => by omega, fun e => by omega⟩) (fun j u _ _ hF => ⟨hF.1, fun e => rdI_below (hF.2.1 e) hb, fun e => rdI_below (hF.2.2 e) hb⟩) (hJ.below hb)
  · intro listed a' w' hl H hJ
    have e4 : a'.tmps[4]?.getD undef = .pointer (some ⟨g, 0, none⟩) := H.old 4 rfl h4
    refine ⟨rfl, fun K hK => ?_⟩
    refine wp_eq (v := .pointer (some ⟨g, 0, none⟩)) (w' := w') ?_ (hK _ w' (fun _ _ => ⟨rfl, fun e => by omega, fun e => by omega⟩) (fun _ _ _ _ h => h) hJ)
    simp [go_sem, e4]
  · intro listed a' w' hl H hJ
    have e53 : a'.tmps[53]?.getD undef = .pointer (some ⟨g, 0, none⟩) := (H.is 2 53 rfl rfl rfl).1
    refine ⟨rfl, fun K hK => ?_⟩
    refine wp_eq (v := .pointer (some ⟨g, 0, none⟩)) (w' := w') ?_ (hK _ w' (fun _ _ => ⟨rfl, fun e => by omega, fun e => by omega⟩) (fun _ _ _ _ h => h) hJ)
    simp [go_sem, e53]
  · intro listed a' w' hl H hJ
    have e54 : a'.tmps[54]?.getD undef = .pointer (some ⟨g, 0, none⟩) := (H.is 3 54 rfl rfl rfl).1
    refine ⟨rfl, fun K hK => ?_⟩
    refine wp_eq (v := .pointer (some ⟨g, 0, none⟩)) (w' := w') ?_ (hK _ w' (fun _ _ => ⟨rfl, fun e => by omega, fun e => by omega⟩) (fun _ _ _ _ h => h) hJ)
    simp [go_sem, e54]
  · intro listed a' w' hl H hJ
    have e55 : a'.tmps[55]?.getD undef = .pointer (some ⟨g, 0, none⟩) := (H.is 4 55 rfl rfl rfl).1
    refine ⟨rfl, fun K hK => ?_⟩
    obtain ⟨A, c, hL⟩ := mrep_cell hJ.M
    refine wp_eq (v := .slice A m.locks.length c) (w' := w') ?_ (hK _ w' (fun _ _ => ⟨⟨A, c, rfl⟩, fun e => by omega, fun e => by omega⟩) (fun _ _ _ _ h => h) hJ)
    simp [go_sem, e55, hL]
  · intro listed a' w' hl H hJ
    have e56 := H.is 5 56 rfl rfl rfl
    refine ⟨rfl, fun K hK => ?_⟩
    obtain ⟨⟨A, c, e56'⟩, _⟩ := e56
    refine wp_eq (v := .int .i64 m.locks.length) (w' := w') ?_ (hK _ w' (fun _ _ => ⟨rfl, fun e => by omega, fun e => by omega⟩) (fun _ _ _ _ h => h) hJ)
    simp [go_sem, e56']
  · intro listed a' w' hl H hJ
    have e52 : a'.tmps[52]?.getD undef = .int .i64 m.locks.length := (H.is 1 52 rfl rfl rfl).1
    have e57 : a'.tmps[57]?.getD undef = .int .i64 m.locks.length := (H.is 6 57 rfl rfl rfl).1
    refine ⟨rfl, fun K hK => ?_⟩
    refine wp_eq (v := .bool false) (w' := w') ?_ (hK _ w' (fun _ _ => ⟨rfl, fun e => by omega, fun e => by omega⟩) (fun _ _ _ _ h => h) hJ)
    simp [go_sem, e52, e57]
  · intro listed a' w' hl H hJ
    have e58 : a'.tmps[58]?.getD undef = .bool false := (H.is 7 58 rfl rfl rfl).1
    refine ⟨rfl, fun K hK => ?_⟩
    refine wp_eq (v := .bool false) (w' := w') ?_ (hK _ w' (fun _ _ => ⟨rfl, fun e => by omega, fun e => by omega⟩) (fun _ _ _ _ h => h) hJ)
    simp [go_sem, e58]
  · intro listed a' w' hl H hJ
    have e3 : a'.tmps[3]?.getD undef = .pointer (some ⟨t, 0, none⟩) := H.old 3 rfl h3
    have eg : a'.tmps[59]?.getD undef = .bool false := (H.is 8 59 rfl rfl rfl).1
    refine ⟨wanted_of rfl rfl rfl eg, fun K hK => ?_⟩
    refine wp_eq (v := .pointer (some ⟨t, 0, none⟩)) (w' := w') ?_ (hK _ w' (fun _ _ => ⟨rfl, fun e => by omega, fun e => by omega⟩) (fun _ _ _ _ h => h) hJ)
    simp [go_sem, e3]
  · intro listed a' w' hl H hJ
    have e6 : a'.tmps[6]?.getD undef = .pointer (some ⟨ob, 0, none⟩) := H.old 6 rfl h6
    have eg : a'.tmps[59]?.getD undef = .bool false := (H.is 8 59 rfl rfl rfl).1
    refine ⟨wanted_of rfl rfl rfl eg, fun K hK => ?_⟩
    refine wp_eq (v := .pointer (some ⟨ob, 1, none⟩)) (w' := w') ?_ (hK _ w' (fun _ _ => ⟨rfl, fun e => by omega, fun e => by omega⟩) (fun _ _ _ _ h => h) hJ)
    simp [go_sem, e6]
  · intro listed a' w' hl H hJ
    have e61 : a'.tmps[61]?.getD undef = .pointer (some ⟨ob, 1, none⟩) := (H.is 10 61 rfl rfl rfl).1
    have eg : a'.tmps[59]?.getD undef = .bool false := (H.is 8 59 rfl rfl rfl).1
    refine ⟨wanted_of rfl rfl rfl eg, fun K hK => ?_⟩
    obtain ⟨c1, _, _⟩ := Both.cell hJ
    refine wp_eq (v := .int .i64 txn) (w' := w') ?_ (hK _ w' (fun _ _ => ⟨rfl, fun e => by omega, fun e => by omega⟩) (fun _ _ _ _ h => h) hJ)
    simp [go_sem, e61, c1]
  · intro listed a' w' hl H hJ
    have e6 : a'.tmps[6]?.getD undef = .pointer (some ⟨ob, 0, none⟩) := H.old 6 rfl h6
    have eg : a'.tmps[59]?.getD undef = .bool false := (H.is 8 59 rfl rfl rfl).1
    refine ⟨wanted_of rfl rfl rfl eg, fun K hK => ?_⟩
    refine wp_eq (v := .pointer (some ⟨ob, 2, none⟩)) (w' := w') ?_ (hK _ w' (fun _ _ => ⟨rfl, fun e => by omega, fun e => by omega⟩) (fun _ _ _ _ h => h) hJ)
    simp [go_sem, e6]
  · intro listed a' w' hl H hJ
    have e63 : a'.tmps[63]?.getD undef = .pointer (some ⟨ob, 2, none⟩) := (H.is 12 63 rfl rfl rfl).1
    have eg : a'.tmps[59]?.getD undef = .bool false := (H.is 8 59 rfl rfl rfl).1
    refine ⟨wanted_of rfl rfl rfl eg, fun K hK => ?_⟩
    obtain ⟨_, c2, _⟩ := Both.cell hJ
    refine wp_eq (v := .int .i64 page) (w' := w') ?_ (hK _ w' (fun _ _ => ⟨rfl, fun e => by omega, fun e => by omega⟩) (fun _ _ _ _ h => h) hJ)
    simp [go_sem, e63, c2]
  · intro listed a' w' hl H hJ
    have e60 : a'.tmps[60]?.getD undef = .pointer (some ⟨t, 0, none⟩) := (H.is 9 60 rfl rfl rfl).1
    have e62 : a'.tmps[62]?.getD undef = .int .i64 txn := (H.is 11 62 rfl rfl rfl).1
    have e64 : a'.tmps[64]?.getD undef = .int .i64 page := (H.is 13 64 rfl rfl rfl).1
    have eg : a'.tmps[59]?.getD undef = .bool false := (H.is 8 59 rfl rfl rfl).1
    refine ⟨wanted_of rfl rfl rfl eg, fun K hK => ?_⟩
    refine wp_enter (f := 12) (args := #[.pointer (some ⟨t, 0, none⟩), .int .i64 txn, .int .i64 page]) (w' := w') (R := fun v w2 => v = .int .i64 (holds m.locks txn page) ∧ Below w'.heap.size w' w2) ?_ ((holds_c B t m w' vd hJ.T txn page).mono fun e w2 h => by obtain ⟨rfl, rfl⟩ := h; exact ⟨_, rfl, rfl, Below.refl _ _⟩) ?_
    · simp [go_sem, e60, e62, e64]
    · rintro v w2 ⟨rfl, hb⟩
      exact hK _ w2 (fun _ _ => ⟨rfl, fun e => by omega, fun e => by omega⟩) (fun j u _ _ hF => ⟨hF.1, fun e => rdI_below (hF.2.1 e) hb, fun e => rdI_below (hF.2.2 e) hb⟩) (hJ.below hb)
  · intro listed a' w' hl H hJ
    have e4 : a'.tmps[4]?.getD undef = .pointer (some ⟨g, 0, none⟩) := H.old 4 rfl h4
    have eg : a'.tmps[59]?.getD undef = .bool false := (H.is 8 59 rfl rfl rfl).1
    refine ⟨wanted_of rfl rfl rfl eg, fun K hK => ?_⟩
    refine wp_eq (v := .pointer (some ⟨g, 0, none⟩)) (w' := w') ?_ (hK _ w' (fun _ _ => ⟨rfl, fun e => by omega, fun e => by omega⟩) (fun _ _ _ _ h => h) hJ)
    simp [go_sem, e4]
  · intro listed a' w' hl H hJ
    have e6 : a'.tmps[6]?.getD undef = .pointer (some ⟨ob, 0, none⟩) := H.old 6 rfl h6
    have eg : a'.tmps[59]?.getD undef = .bool false := (H.is 8 59 rfl rfl rfl).1
    refine ⟨wanted_of rfl rfl rfl eg, fun K hK => ?_⟩
    refine wp_eq (v := .pointer (some ⟨ob, 1, none⟩)) (w' := w') ?_ (hK _ w' (fun _ _ => ⟨rfl, fun e => by omega, fun e => by omega⟩) (fun _ _ _ _ h => h) hJ)
    simp [go_sem, e6]
  · intro listed a' w' hl H hJ
    have e67 : a'.tmps[67]?.getD undef = .pointer (some ⟨ob, 1, none⟩) := (H.is 16 67 rfl rfl rfl).1
    have eg : a'.tmps[59]?.getD undef = .bool false := (H.is 8 59 rfl rfl rfl).1
    refine ⟨wanted_of rfl rfl rfl eg, fun K hK => ?_⟩
    obtain ⟨c1, _, _⟩ := Both.cell hJ
    refine wp_eq (v := .int .i64 txn) (w' := w') ?_ (hK _ w' (fun _ _ => ⟨rfl, fun e => by omega, fun e => by omega⟩) (fun _ _ _ _ h => h) hJ)
    simp [go_sem, e67, c1]
  · intro listed a' w' hl H hJ
    have e6 : a'.tmps[6]?.getD undef = .pointer (some ⟨ob, 0, none⟩) := H.old 6 rfl h6
    have eg : a'.tmps[59]?.getD undef = .bool false := (H.is 8 59 rfl rfl rfl).1
    refine ⟨wanted_of rfl rfl rfl eg, fun K hK => ?_⟩
    refine wp_eq (v := .pointer (some ⟨ob, 2, none⟩)) (w' := w') ?_ (hK _ w' (fun _ _ => ⟨rfl, fun e => by omega, fun e => by omega⟩) (fun _ _ _ _ h => h) hJ)
    simp [go_sem, e6]
  · intro listed a' w' hl H hJ
    have e69 : a'.tmps[69]?.getD undef = .pointer (some ⟨ob, 2, none⟩) := (H.is 18 69 rfl rfl rfl).1
    have eg : a'.tmps[59]?.getD undef = .bool false := (H.is 8 59 rfl rfl rfl).1
    refine ⟨wanted_of rfl rfl rfl eg, fun K hK => ?_⟩
    obtain ⟨_, c2, _⟩ := Both.cell hJ
    refine wp_eq (v := .int .i64 page) (w' := w') ?_ (hK _ w' (fun _ _ => ⟨rfl, fun e => by omega, fun e => by omega⟩) (fun _ _ _ _ h => h) hJ)
    simp [go_sem, e69, c2]
  · intro listed a' w' hl H hJ
    have e66 : a'.tmps[66]?.getD undef = .pointer (some ⟨g, 0, none⟩) := (H.is 15 66 rfl rfl rfl).1
    have e68 : a'.tmps[68]?.getD undef = .int .i64 txn := (H.is 17 68 rfl rfl rfl).1
    have e70 : a'.tmps[70]?.getD undef = .int .i64 page := (H.is 19 70 rfl rfl rfl).1
    have eg : a'.tmps[59]?.getD undef = .bool false := (H.is 8 59 rfl rfl rfl).1
    refine ⟨wanted_of rfl rfl rfl eg, fun K hK => ?_⟩
    refine wp_enter (f := 13) (args := #[.pointer (some ⟨g, 0, none⟩), .int .i64 txn, .int .i64 page]) (w' := w') (R := fun v w2 => v = .int .i64 (holds m.locks txn page) ∧ Below w'.heap.size w' w2) ?_ ((rholds_c B g m w' vd hJ.M txn page).mono fun e w2 h => by obtain ⟨rfl, rfl⟩ := h; exact ⟨_, rfl, rfl, Below.refl _ _⟩) ?_
    · simp [go_sem, e66, e68, e70]
    · rintro v w2 ⟨rfl, hb⟩
      exact hK _ w2 (fun _ _ => ⟨rfl, fun e => by omega, fun e => by omega⟩) (fun j u _ _ hF => ⟨hF.1, fun e => rdI_below (hF.2.1 e) hb, fun e => rdI_below (hF.2.2 e) hb⟩) (hJ.below hb)
  · intro listed a' w' hl H hJ
    have e65 : a'.tmps[65]?.getD undef = .int .i64 (holds m.locks txn page) := (H.is 14 65 rfl rfl rfl).1
    have e71 : a'.tmps[71]?.getD undef = .int .i64 (holds m.locks txn page) := (H.is 20 71 rfl rfl rfl).1
    have eg : a'.tmps[59]?.getD undef = .bool false := (H.is 8 59 rfl rfl rfl).1
    refine ⟨wanted_of rfl rfl rfl eg, fun K hK => ?_⟩
    refine wp_eq (v := .bool false) (w' := w') ?_ (hK _ w' (fun _ _ => ⟨rfl, fun e => by omega, fun e => by omega⟩) (fun _ _ _ _ h => h) hJ)
    simp [go_sem, e65, e71]
  · intro listed a' w' hl H hJ
    have e59 : a'.tmps[59]?.getD undef = .bool false := (H.is 8 59 rfl rfl rfl).1
    have e72 : a'.tmps[72]?.getD undef = .bool false := (H.is 21 72 rfl rfl rfl).1
    refine ⟨rfl, fun K hK => ?_⟩
    refine wp_eq (v := .bool false) (w' := w') ?_ (hK _ w' (fun _ _ => ⟨rfl, fun e => by omega, fun e => by omega⟩) (fun _ _ _ _ h => h) hJ)
    simp [go_sem, e59, e72]
  · intro listed a' w' hl H hJ
    have e73 : a'.tmps[73]?.getD undef = .bool false := (H.is 22 73 rfl rfl rfl).1
    refine ⟨rfl, fun K hK => ?_⟩
    refine wp_eq (v := .bool false) (w' := w') ?_ (hK _ w' (fun _ _ => ⟨rfl, fun e => by omega, fun e => by omega⟩) (fun _ _ _ _ h => h) hJ)
    simp [go_sem, e73]
  · intro listed a' w' hl H hJ
    have e3 : a'.tmps[3]?.getD undef = .pointer (some ⟨t, 0, none⟩) := H.old 3 rfl h3
    have eg : a'.tmps[74]?.getD undef = .bool false := (H.is 23 74 rfl rfl rfl).1
    refine ⟨wanted_of rfl rfl rfl eg, fun K hK => ?_⟩
    refine wp_eq (v := .pointer (some ⟨t, 0, none⟩)) (w' := w') ?_ (hK _ w' (fun _ _ => ⟨rfl, fun e => by omega, fun e => by omega⟩) (fun _ _ _ _ h => h) hJ)
    simp [go_sem, e3]
  · intro listed a' w' hl H hJ
    have e6 : a'.tmps[6]?.getD undef = .pointer (some ⟨ob, 0, none⟩) := H.old 6 rfl h6
    have eg : a'.tmps[74]?.getD undef = .bool false := (H.is 23 74 rfl rfl rfl).1
    refine ⟨wanted_of rfl rfl rfl eg, fun K hK => ?_⟩
    refine wp_eq (v := .pointer (some ⟨ob, 2, none⟩)) (w' := w') ?_ (hK _ w' (fun _ _ => ⟨rfl, fun e => by omega, fun e => by omega⟩) (fun _ _ _ _ h => h) hJ)
    simp [go_sem, e6]
  · intro listed a' w' hl H hJ
    have e76 : a'.tmps[76]?.getD undef = .pointer (some ⟨ob, 2, none⟩) := (H.is 25 76 rfl rfl rfl).1
    have eg : a'.tmps[74]?.getD undef = .bool false := (H.is 23 74 rfl rfl rfl).1
    refine ⟨wanted_of rfl rfl rfl eg, fun K hK => ?_⟩
    obtain ⟨_, c2, _⟩ := Both.cell hJ
    refine wp_eq (v := .int .i64 page) (w' := w') ?_ (hK _ w' (fun _ _ => ⟨rfl, fun e => by omega, fun e => by omega⟩) (fun _ _ _ _ h => h) hJ)
    simp [go_sem, e76, c2]
  · intro listed a' w' hl H hJ
    have e75 : a'.tmps[75]?.getD undef = .pointer (some ⟨t, 0, none⟩) := (H.is 24 75 rfl rfl rfl).1
    have e77 : a'.tmps[77]?.getD undef = .int .i64 page := (H.is 26 77 rfl rfl rfl).1
    have eg : a'.tmps[74]?.getD undef = .bool false := (H.is 23 74 rfl rfl rfl).1
    refine ⟨wanted_of rfl rfl rfl eg, fun K hK => ?_⟩
    refine wp_enter (f := 15) (args := #[.pointer (some ⟨t, 0, none⟩), .int .i64 page]) (w' := w') (R := fun v w2 => RdI w2 v (holdersOf m.locks page) ∧ Below w'.heap.size w' w2) ?_ ((holders_c B t m w' vd hJ.T page).mono fun e w2 h => by obtain ⟨v, rfl, h1, h2⟩ := h; exact ⟨_, rfl, h1, h2⟩) ?_
    · simp [go_sem, e75, e77]
    · rintro v w2 ⟨hr, hb⟩
      exact hK _ w2 (fun _ _ => ⟨trivial, fun _ => hr, fun e => by omega⟩) (fun j u _ _ hF => ⟨hF.1, fun e => rdI_below (hF.2.1 e) hb, fun e => rdI_below (hF.2.2 e) hb⟩) (hJ.below hb)
  · intro listed a' w' hl H hJ
    have e4 : a'.tmps[4]?.getD undef = .pointer (some ⟨g, 0, none⟩) := H.old 4 rfl h4
    have eg : a'.tmps[74]?.getD undef = .bool false := (H.is 23 74 rfl rfl rfl).1
    refine ⟨wanted_of rfl rfl rfl eg, fun K hK => ?_⟩
    refine wp_eq (v := .pointer (some ⟨g, 0, none⟩)) (w' := w') ?_ (hK _ w' (fun _ _ => ⟨rfl, fun e => by omega, fun e => by omega⟩) (fun _ _ _ _ h => h) hJ)
    simp [go_sem, e4]
  · intro listed a' w' hl H hJ
    have e6 : a'.tmps[6]?.getD undef = .pointer (some ⟨ob, 0, none⟩) := H.old 6 rfl h6
    have eg : a'.tmps[74]?.getD undef = .bool false := (H.is 23 74 rfl rfl rfl).1
    refine ⟨wanted_of rfl rfl rfl eg, fun K hK => ?_⟩
    refine wp_eq (v := .pointer (some ⟨ob, 2, none⟩)) (w' := w') ?_ (hK _ w' (fun _ _ => ⟨rfl, fun e => by omega, fun e => by omega⟩) (fun _ _ _ _ h => h) hJ)
    simp [go_sem, e6]
  · intro listed a' w' hl H hJ
    have e80 : a'.tmps[80]?.getD undef = .pointer (some ⟨ob, 2, none⟩) := (H.is 29 80 rfl rfl rfl).1
    have eg : a'.tmps[74]?.getD undef = .bool false := (H.is 23 74 rfl rfl rfl).1
    refine ⟨wanted_of rfl rfl rfl eg, fun K hK => ?_⟩
    obtain ⟨_, c2, _⟩ := Both.cell hJ
    refine wp_eq (v := .int .i64 page) (w' := w') ?_ (hK _ w' (fun _ _ => ⟨rfl, fun e => by omega, fun e => by omega⟩) (fun _ _ _ _ h => h) hJ)
    simp [go_sem, e80, c2]
  · intro listed a' w' hl H hJ
    have e79 : a'.tmps[79]?.getD undef = .pointer (some ⟨g, 0, none⟩) := (H.is 28 79 rfl rfl rfl).1
    have e81 : a'.tmps[81]?.getD undef = .int .i64 page := (H.is 30 81 rfl rfl rfl).1
    have eg : a'.tmps[74]?.getD undef = .bool false := (H.is 23 74 rfl rfl rfl).1
    refine ⟨wanted_of rfl rfl rfl eg, fun K hK => ?_⟩
    refine wp_enter (f := 16) (args := #[.pointer (some ⟨g, 0, none⟩), .int .i64 page]) (w' := w') (R := fun v w2 => RdI w2 v (holdersOf m.locks page) ∧ Below w'.heap.size w' w2) ?_ ((rholders_c B g m w' vd hJ.M page).mono fun e w2 h => by obtain ⟨v, rfl, h1, h2⟩ := h; exact ⟨_, rfl, h1, h2⟩) ?_
    · simp [go_sem, e79, e81]
    · rintro v w2 ⟨hr, hb⟩
      exact hK _ w2 (fun _ _ => ⟨trivial, fun _ => hr, fun e => by omega⟩) (fun j u _ _ hF => ⟨hF.1, fun e => rdI_below (hF.2.1 e) hb, fun e => rdI_below (hF.2.2 e) hb⟩) (hJ.below hb)
  · intro listed a' w' hl H hJ
    have e78 := H.is 27 78 rfl rfl rfl
    have e82 := H.is 31 82 rfl rfl rfl
    have eg : a'.tmps[74]?.getD undef = .bool false := (H.is 23 74 rfl rfl rfl).1
    refine ⟨wanted_of rfl rfl rfl eg, fun K hK => ?_⟩
    have r1 := e78.2.1 (by decide)
    have r2 := e82.2.1 (by decide)
    clear e78 e82
    generalize e1 : a'.tmps[78]?.getD undef = v1 at r1
    generalize e2 : a'.tmps[82]?.getD undef = v2 at r2
    refine wp_enter (f := 14) (args := #[v1, v2]) (w' := w') (R := fun v w2 => v = .bool true ∧ Below w'.heap.size w' w2) ?_ ((ints_c v1 v2 _ w' (by have := vd.size; have := holdersOf_len m.locks page; omega) r1 r2).mono fun e w2 h => by obtain ⟨rfl, h2⟩ := h; exact ⟨_, rfl, rfl, h2⟩) ?_
    · simp [go_sem, e1, e2]
    · rintro v w2 ⟨rfl, hb⟩
      exact hK _ w2 (fun _ _ => ⟨rfl, fun e => by omega, fun e => by omega⟩) (fun j u _ _ hF => ⟨hF.1, fun e => rdI_below (hF.2.1 e) hb, fun e => rdI_below (hF.2.2 e) hb⟩) (hJ.below hb)
  · intro listed a' w' hl H hJ
    have e83 : a'.tmps[83]?.getD undef = .bool true := (H.is 32 83 rfl rfl rfl).1
    have eg : a'.tmps[74]?.getD undef = .bool false := (H.is 23 74 rfl rfl rfl).1
    refine ⟨wanted_of rfl rfl rfl eg, fun K hK => ?_⟩
    refine wp_eq (v := .bool false) (w' := w') ?_ (hK _ w' (fun _ _ => ⟨rfl, fun e => by omega, fun e => by omega⟩) (fun _ _ _ _ h => h) hJ)
    simp [go_sem, e83]
  · intro listed a' w' hl H hJ
    have e74 : a'.tmps[74]?.getD undef = .bool false := (H.is 23 74 rfl rfl rfl).1
    have e84 : a'.tmps[84]?.getD undef = .bool false := (H.is 33 84 rfl rfl rfl).1
    refine ⟨rfl, fun K hK => ?_⟩
    refine wp_eq (v := .bool false) (w' := w') ?_ (hK _ w' (fun _ _ => ⟨rfl, fun e => by omega, fun e => by omega⟩) (fun _ _ _ _ h => h) hJ)
    simp [go_sem, e74, e84]
  · intro listed a' w' hl H hJ
    have e85 : a'.tmps[85]?.getD undef = .bool false := (H.is 34 85 rfl rfl rfl).1
    refine ⟨rfl, fun K hK => ?_⟩
    refine wp_eq (v := .bool false) (w' := w') ?_ (hK _ w' (fun _ _ => ⟨rfl, fun e => by omega, fun e => by omega⟩) (fun _ _ _ _ h => h) hJ)
    simp [go_sem, e85]
  · intro listed a' w' hl H hJ
    have e3 : a'.tmps[3]?.getD undef = .pointer (some ⟨t, 0, none⟩) := H.old 3 rfl h3
    have eg : a'.tmps[86]?.getD undef = .bool false := (H.is 35 86 rfl rfl rfl).1
    refine ⟨wanted_of rfl rfl rfl eg, fun K hK => ?_⟩
    refine wp_eq (v := .pointer (some ⟨t, 0, none⟩)) (w' := w') ?_ (hK _ w' (fun _ _ => ⟨rfl, fun e => by omega, fun e => by omega⟩) (fun _ _ _ _ h => h) hJ)
    simp [go_sem, e3]
  · intro listed a' w' hl H hJ
    have e6 : a'.tmps[6]?.getD undef = .pointer (some ⟨ob, 0, none⟩) := H.old 6 rfl h6
    have eg : a'.tmps[86]?.getD undef = .bool false := (H.is 35 86 rfl rfl rfl).1
    refine ⟨wanted_of rfl rfl rfl eg, fun K hK => ?_⟩
    refine wp_eq (v := .pointer (some ⟨ob, 1, none⟩)) (w' := w') ?_ (hK _ w' (fun _ _ => ⟨rfl, fun e => by omega, fun e => by omega⟩) (fun _ _ _ _ h => h) hJ)
    simp [go_sem, e6]
  · intro listed a' w' hl H hJ
    have e88 : a'.tmps[88]?.getD undef = .pointer (some ⟨ob, 1, none⟩) := (H.is 37 88 rfl rfl rfl).1
    have eg : a'.tmps[86]?.getD undef = .bool false := (H.is 35 86 rfl rfl rfl).1
    refine ⟨wanted_of rfl rfl rfl eg, fun K hK => ?_⟩
    obtain ⟨c1, _, _⟩ := Both.cell hJ
    refine wp_eq (v := .int .i64 txn) (w' := w') ?_ (hK _ w' (fun _ _ => ⟨rfl, fun e => by omega, fun e => by omega⟩) (fun _ _ _ _ h => h) hJ)
    simp [go_sem, e88, c1]
  · intro listed a' w' hl H hJ
    have e87 : a'.tmps[87]?.getD undef = .pointer (some ⟨t, 0, none⟩) := (H.is 36 87 rfl rfl rfl).1
    have e89 : a'.tmps[89]?.getD undef = .int .i64 txn := (H.is 38 89 rfl rfl rfl).1
    have eg : a'.tmps[86]?.getD undef = .bool false := (H.is 35 86 rfl rfl rfl).1
    refine ⟨wanted_of rfl rfl rfl eg, fun K hK => ?_⟩
    refine wp_enter (f := 17) (args := #[.pointer (some ⟨t, 0, none⟩), .int .i64 txn]) (w' := w') (R := fun v w2 => RdI w2 v (forW m txn) ∧ Below w'.heap.size w' w2) ?_ ((waits_c B t m w' vd hJ.T txn).mono fun e w2 h => by obtain ⟨v, rfl, h1, h2⟩ := h; exact ⟨_, rfl, h1, h2⟩) ?_
    · simp [go_sem, e87, e89]
    · rintro v w2 ⟨hr, hb⟩
      exact hK _ w2 (fun _ _ => ⟨trivial, fun e => by omega, fun _ => hr⟩) (fun j u _ _ hF => ⟨hF.1, fun e => rdI_below (hF.2.1 e) hb, fun e => rdI_below (hF.2.2 e) hb⟩) (hJ.below hb)
  · intro listed a' w' hl H hJ
    have e4 : a'.tmps[4]?.getD undef = .pointer (some ⟨g, 0, none⟩) := H.old 4 rfl h4
    have eg : a'.tmps[86]?.getD undef = .bool false := (H.is 35 86 rfl rfl rfl).1
    refine ⟨wanted_of rfl rfl rfl eg, fun K hK => ?_⟩
    refine wp_eq (v := .pointer (some ⟨g, 0, none⟩)) (w' := w') ?_ (hK _ w' (fun _ _ => ⟨rfl, fun e => by omega, fun e => by omega⟩) (fun _ _ _ _ h => h) hJ)
    simp [go_sem, e4]
  · intro listed a' w' hl H hJ
    have e6 : a'.tmps[6]?.getD undef = .pointer (some ⟨ob, 0, none⟩) := H.old 6 rfl h6
    have eg : a'.tmps[86]?.getD undef = .bool false := (H.is 35 86 rfl rfl rfl).1
    refine ⟨wanted_of rfl rfl rfl eg, fun K hK => ?_⟩
    refine wp_eq (v := .pointer (some ⟨ob, 1, none⟩)) (w' := w') ?_ (hK _ w' (fun _ _ => ⟨rfl, fun e => by omega, fun e => by omega⟩) (fun _ _ _ _ h => h) hJ)
    simp [go_sem, e6]
  · intro listed a' w' hl H hJ
    have e92 : a'.tmps[92]?.getD undef = .pointer (some ⟨ob, 1, none⟩) := (H.is 41 92 rfl rfl rfl).1
    have eg : a'.tmps[86]?.getD undef = .bool false := (H.is 35 86 rfl rfl rfl).1
    refine ⟨wanted_of rfl rfl rfl eg, fun K hK => ?_⟩
    obtain ⟨c1, _, _⟩ := Both.cell hJ
    refine wp_eq (v := .int .i64 txn) (w' := w') ?_ (hK _ w' (fun _ _ => ⟨rfl, fun e => by omega, fun e => by omega⟩) (fun _ _ _ _ h => h) hJ)
    simp [go_sem, e92, c1]
  · intro listed a' w' hl H hJ
    have e91 : a'.tmps[91]?.getD undef = .pointer (some ⟨g, 0, none⟩) := (H.is 40 91 rfl rfl rfl).1
    have e93 : a'.tmps[93]?.getD undef = .int .i64 txn := (H.is 42 93 rfl rfl rfl).1
    have eg : a'.tmps[86]?.getD undef = .bool false := (H.is 35 86 rfl rfl rfl).1
    refine ⟨wanted_of rfl rfl rfl eg, fun K hK => ?_⟩
    refine wp_enter (f := 18) (args := #[.pointer (some ⟨g, 0, none⟩), .int .i64 txn]) (w' := w') (R := fun v w2 => RdI w2 v (forW m txn) ∧ Below w'.heap.size w' w2) ?_ ((rfor_c B g m w' vd hJ.M txn).mono fun e w2 h => by obtain ⟨v, rfl, h1, h2⟩ := h; exact ⟨_, rfl, h1, h2⟩) ?_
    · simp [go_sem, e91, e93]
    · rintro v w2 ⟨hr, hb⟩
      exact hK _ w2 (fun _ _ => ⟨trivial, fun e => by omega, fun _ => hr⟩) (fun j u _ _ hF => ⟨hF.1, fun e => rdI_below (hF.2.1 e) hb, fun e => rdI_below (hF.2.2 e) hb⟩) (hJ.below hb)
  · intro listed a' w' hl H hJ
    have e90 := H.is 39 90 rfl rfl rfl
    have e94 := H.is 43 94 rfl rfl rfl
    have eg : a'.tmps[86]?.getD undef = .bool false := (H.is 35 86 rfl rfl rfl).1
    refine ⟨wanted_of rfl rfl rfl eg, fun K hK => ?_⟩
    have r1 := e90.2.2 (by decide)
    have r2 := e94.2.2 (by decide)
    clear e90 e94
    generalize e1 : a'.tmps[90]?.getD undef = v1 at r1
    generalize e2 : a'.tmps[94]?.getD undef = v2 at r2
    refine wp_enter (f := 14) (args := #[v1, v2]) (w' := w') (R := fun v w2 => v = .bool true ∧ Below w'.heap.size w' w2) ?_ ((ints_c v1 v2 _ w' (by have := vd.size; have := forW_len m txn; omega) r1 r2).mono fun e w2 h => by obtain ⟨rfl, h2⟩ := h; exact ⟨_, rfl, rfl, h2⟩) ?_
    · simp [go_sem, e1, e2]
    · rintro v w2 ⟨rfl, hb⟩
      exact hK _ w2 (fun _ _ => ⟨rfl, fun e => by omega, fun e => by omega⟩) (fun j u _ _ hF => ⟨hF.1, fun e => rdI_below (hF.2.1 e) hb, fun e => rdI_below (hF.2.2 e) hb⟩) (hJ.below hb)
  · intro listed a' w' hl H hJ
    have e95 : a'.tmps[95]?.getD undef = .bool true := (H.is 44 95 rfl rfl rfl).1
    have eg : a'.tmps[86]?.getD undef = .bool false := (H.is 35 86 rfl rfl rfl).1
    refine ⟨wanted_of rfl rfl rfl eg, fun K hK => ?_⟩
    refine wp_eq (v := .bool false) (w' := w') ?_ (hK _ w' (fun _ _ => ⟨rfl, fun e => by omega, fun e => by omega⟩) (fun _ _ _ _ h => h) hJ)
    simp [go_sem, e95]
  · intro listed a' w' hl H hJ
    have e86 : a'.tmps[86]?.getD undef = .bool false := (H.is 35 86 rfl rfl rfl).1
    have e96 : a'.tmps[96]?.getD undef = .bool false := (H.is 45 96 rfl rfl rfl).1
    refine ⟨rfl, fun K hK => ?_⟩
    refine wp_eq (v := .bool false) (w' := w') ?_ (hK _ w' (fun _ _ => ⟨rfl, fun e => by omega, fun e => by omega⟩) (fun _ _ _ _ h => h) hJ)
    simp [go_sem, e86, e96]
  · intro listed u w' hF hall hJ
    exact hend u w' (hF 46 _ 97 rfl rfl).1 hJ
end Go.Proofs.Ytejpjibhpjgcjaa
