/-
  Part of the proof of DiskPlays: its regions that draw their order.
  Conditions: those that each theorem names.
-/
import Derived.Test.YtbcafhhheileeaaE18
namespace Go.Proofs.Ytbcafhhheileeaa
open Go.RowKit
set_option maxRecDepth 100000

theorem At.noDone {ops : Array Oper} {F : Nat → Value → World → Prop} {a0 a : Act} {listed : Array Bool} {w : World} {o : Oper} (h : At ops F a0 listed a w o) {i : Nat} (hl : listed.getD i true = false) (j : Nat) (l : List Nat) (hp : pathB ops (j :: l) = true) (hi : l.contains i = true) : ¬ Done listed j := fun hd => by
  have := h.before hl j l hp hi
  unfold Done at hd
  rw [hd] at this; cases this
theorem load_op {w : World} {ob : Nat} {o : OpS} (h : w.heap[ob]? = some (.cells (opVals o) 45 (0, 0))) : (Instr.loadAt 45 (.pointer (some ⟨ob, 0, none⟩))).run Try.prog w = .ok (.agg (opVals o)) w := by
  have c0 : w.cell? ⟨ob, 0, none⟩ = some (.int .i64 o.kind) := by rw [cell_blk h]; rfl
  have c1 : w.cell? ⟨ob, 1, none⟩ = some (.int .i64 o.at_) := by rw [cell_blk h]; rfl
  have c2 : w.cell? ⟨ob, 2, none⟩ = some (.int .i64 o.n) := by rw [cell_blk h]; rfl
  have c3 : w.cell? ⟨ob, 3, none⟩ = some o.bv := by rw [cell_blk h]; rfl
  have c4 : w.cell? ⟨ob, 4, none⟩ = some o.kv := by rw [cell_blk h]; rfl
  rw [opV_eq]
  simp [go_sem, c0, c1, c2, c3, c4]
structure JD0 (B d : Nat) (f : Foot) (D : Dev) (w : World) : Prop where
  dr : DRep B w d D
  ra : RAt B w f D
structure JD (B d : Nat) (f : Foot) (ob : Nat) (o : OpS) (D D' : Dev) (wI : World) (listed : Array Bool) (w : World) : Prop where
  all : JD0 B d f (if listed.getD 3 false then D' else D) w
  ob : listed.getD 3 false = false → w.heap[ob]? = some (.cells (opVals o) 45 (0, 0))
  bel : Below B wI w
  base : B ≤ w.heap.size
section
variable {B d : Nat} {f : Foot} {ob : Nat} {o : OpS} {D D' : Dev} {wI : World} {listed : Array Bool} {w w' : World} {i : Nat}
theorem JD.skip (h : JD B d f ob o D D' wI listed w) (hi : i ≠ 3) : JD B d f ob o D D' wI (listed.setIfInBounds i true) w := ⟨by rw [set_ne hi]; exact h.all, by rw [set_ne hi]; exact h.ob, h.bel, h.base⟩
theorem JD.below (h : JD B d f ob o D D' wI listed w) (hb : Below w.heap.size w w') : JD B d f ob o D D' wI listed w' :=
  ⟨⟨h.all.dr.below hb, h.all.ra.below hb⟩, fun e => (hb.block _ (lt_of_heap (h.ob e))).trans (h.ob e), h.bel.trans (hb.mono h.base), Nat.le_trans h.base hb.size⟩
theorem JD.drew (h : JD B d f ob o D D' wI listed w) : JD B d f ob o D D' wI listed w.drew := h.below (below_drewN (Below.refl _ w) 1)
theorem JD.yes (h : JD B d f ob o D D' wI listed w) (hd : Done listed 3) : JD0 B d f D' w := by
  have := h.all
  unfold Done at hd
  rw [hd] at this
  exact this
theorem JD.no (h : JD B d f ob o D D' wI listed w) (hd : listed.getD 3 false = false) : JD0 B d f D w := by
  have := h.all
  rw [hd] at this
  exact this
theorem JD.played (h : JD B d f ob o D D' wI listed w) (hl : listed.getD 3 true = false) (h1 : DRep B w' d D') (h2 : RAt B w' f D') (h3 : Below B w w') : JD B d f ob o D D' wI (listed.setIfInBounds 3 true) w' :=
  ⟨by rw [set_self hl]; exact ⟨h1, h2⟩, (fun e => by rw [set_self hl] at e; cases e), h.bel.trans h3, Nat.le_trans h.base h3.size⟩
end

def opsD10 : Array Oper := #[{ dst := some 55, op := Op.move (Operand.tmp 5), type := 23, pos := "law.go:98", after := #[], guard := none }, { dst := some 56, op := Op.move (Operand.tmp 7), type := 38, pos := "law.go:98", after := #[], guard := none }, { dst := some 57, op := Op.load 45 (Operand.tmp 10), type := 45, pos := "law.go:98", after := #[], guard := none }, { dst := some 58, op := Op.call { callee := Callee.value (Operand.func 16), args := #[Operand.tmp 55, Operand.tmp 56, Operand.tmp 57], argTypes := #[23, 38, 45] }, type := 4, pos := "law.go:98", after := #[{ on := 0, ground := Ground.data }, { on := 1, ground := Ground.data }, { on := 2, ground := Ground.data }], guard := none }, { dst := some 59, op := Op.unOp UnOp.not 4 (Operand.tmp 58), type := 4, pos := "law.go:98", after := #[{ on := 3, ground := Ground.data }], guard := none }, { dst := some 60, op := Op.move (Operand.tmp 59), type := 4, pos := "law.go:98", after := #[{ on := 4, ground := Ground.data }, { on := 3, ground := Ground.chain }], guard := none }, { dst := some 61, op := Op.move (Operand.tmp 5), type := 23, pos := "law.go:98", after := #[{ on := 5, ground := Ground.guard }], guard := some (5, false) }, { dst := some 62, op := Op.call { callee := Callee.value (Operand.func 17), args := #[Operand.tmp 61], argTypes := #[23] }, type := 3, pos := "law.go:98", after := #[{ on := 6, ground := Ground.data }, { on := 5, ground := Ground.chain }, { on := 5, ground := Ground.guard }], guard := some (5, false) }, { dst := some 63, op := Op.move (Operand.tmp 7), type := 38, pos := "law.go:98", after := #[{ on := 5, ground := Ground.guard }], guard := some (5, false) }, { dst := some 64, op := Op.nilCheck (Operand.tmp 63), type := 0, pos := "law.go:98", after := #[{ on := 8, ground := Ground.data }, { on := 5, ground := Ground.guard }], guard := some (5, false) }, { dst := some 65, op := Op.fieldAddr 50 (Operand.tmp 64) 3, type := 0, pos := "law.go:98", after := #[{ on := 9, ground := Ground.data }, { on := 5, ground := Ground.guard }], guard := some (5, false) }, { dst := some 66, op := Op.load 3 (Operand.tmp 65), type := 3, pos := "law.go:98", after := #[{ on := 10, ground := Ground.data }, { on := 5, ground := Ground.guard }], guard := some (5, false) }, { dst := some 67, op := Op.binOp BinOp.neq 3 (Operand.tmp 62) (Operand.tmp 66) 3, type := 4, pos := "law.go:98", after := #[{ on := 7, ground := Ground.data }, { on := 11, ground := Ground.data }, { on := 5, ground := Ground.guard }], guard := some (5, false) }, { dst := some 68, op := Op.pick (Operand.tmp 60) (Operand.const (Value.bool true)) (Operand.tmp 67), type := 4, pos := "law.go:98", after := #[{ on := 5, ground := Ground.data }, { on := 12, ground := Ground.data }], guard := none }, { dst := some 69, op := Op.move (Operand.tmp 68), type := 4, pos := "law.go:98", after := #[{ on := 13, ground := Ground.data }, { on := 7, ground := Ground.chain }], guard := none }, { dst := some 70, op := Op.move (Operand.tmp 5), type := 23, pos := "law.go:98", after := #[{ on := 14, ground := Ground.guard }], guard := some (14, false) }, { dst := some 71, op := Op.call { callee := Callee.value (Operand.func 18), args := #[Operand.tmp 70], argTypes := #[23] }, type := 3, pos := "law.go:98", after := #[{ on := 15, ground := Ground.data }, { on := 14, ground := Ground.chain }, { on := 14, ground := Ground.guard }], guard := some (14, false) }, { dst := some 72, op := Op.move (Operand.tmp 7), type := 38, pos := "law.go:98", after := #[{ on := 14, ground := Ground.guard }], guard := some (14, false) }, { dst := some 73, op := Op.nilCheck (Operand.tmp 72), type := 0, pos := "law.go:98", after := #[{ on := 17, ground := Ground.data }, { on := 14, ground := Ground.guard }], guard := some (14, false) }, { dst := some 74, op := Op.fieldAddr 50 (Operand.tmp 73) 4, type := 0, pos := "law.go:98", after := #[{ on := 18, ground := Ground.data }, { on := 14, ground := Ground.guard }], guard := some (14, false) }, { dst := some 75, op := Op.load 3 (Operand.tmp 74), type := 3, pos := "law.go:98", after := #[{ on := 19, ground := Ground.data }, { on := 14, ground := Ground.guard }], guard := some (14, false) }, { dst := some 76, op := Op.binOp BinOp.neq 3 (Operand.tmp 71) (Operand.tmp 75) 3, type := 4, pos := "law.go:98", after := #[{ on := 16, ground := Ground.data }, { on := 20, ground := Ground.data }, { on := 14, ground := Ground.guard }], guard := some (14, false) }, { dst := some 77, op := Op.pick (Operand.tmp 69) (Operand.const (Value.bool true)) (Operand.tmp 76), type := 4, pos := "law.go:98", after := #[{ on := 14, ground := Ground.data }, { on := 21, ground := Ground.data }], guard := none }, { dst := some 78, op := Op.move (Operand.tmp 77), type := 4, pos := "law.go:98", after := #[{ on := 22, ground := Ground.data }, { on := 16, ground := Ground.chain }], guard := none }, { dst := some 79, op := Op.move (Operand.tmp 5), type := 23, pos := "law.go:98", after := #[{ on := 23, ground := Ground.guard }], guard := some (23, false) }, { dst := some 80, op := Op.call { callee := Callee.value (Operand.func 19), args := #[Operand.tmp 79], argTypes := #[23] }, type := 4, pos := "law.go:98", after := #[{ on := 24, ground := Ground.data }, { on := 23, ground := Ground.chain }, { on := 23, ground := Ground.guard }], guard := some (23, false) }, { dst := some 81, op := Op.move (Operand.tmp 7), type := 38, pos := "law.go:98", after := #[{ on := 23, ground := Ground.guard }], guard := some (23, false) }, { dst := some 82, op := Op.nilCheck (Operand.tmp 81), type := 0, pos := "law.go:98", after := #[{ on := 26, ground := Ground.data }, { on := 23, ground := Ground.guard }], guard := some (23, false) }, { dst := some 83, op := Op.fieldAddr 50 (Operand.tmp 82) 7, type := 0, pos := "law.go:98", after := #[{ on := 27, ground := Ground.data }, { on := 23, ground := Ground.guard }], guard := some (23, false) }, { dst := some 84, op := Op.load 4 (Operand.tmp 83), type := 4, pos := "law.go:98", after := #[{ on := 28, ground := Ground.data }, { on := 23, ground := Ground.guard }], guard := some (23, false) }, { dst := some 85, op := Op.binOp BinOp.neq 4 (Operand.tmp 80) (Operand.tmp 84) 4, type := 4, pos := "law.go:98", after := #[{ on := 25, ground := Ground.data }, { on := 29, ground := Ground.data }, { on := 23, ground := Ground.guard }], guard := some (23, false) }, { dst := some 86, op := Op.pick (Operand.tmp 78) (Operand.const (Value.bool true)) (Operand.tmp 85), type := 4, pos := "law.go:98", after := #[{ on := 23, ground := Ground.data }, { on := 30, ground := Ground.data }], guard := none }, { dst := some 87, op := Op.move (Operand.tmp 86), type := 4, pos := "law.go:98", after := #[{ on := 31, ground := Ground.data }, { on := 25, ground := Ground.chain }], guard := none }, { dst := some 88, op := Op.move (Operand.tmp 5), type := 23, pos := "law.go:98", after := #[{ on := 32, ground := Ground.guard }], guard := some (32, false) }, { dst := some 89, op := Op.call { callee := Callee.value (Operand.func 21), args := #[Operand.tmp 88], argTypes := #[23] }, type := 43, pos := "law.go:98", after := #[{ on := 33, ground := Ground.data }, { on := 32, ground := Ground.chain }, { on := 32, ground := Ground.guard }], guard := some (32, false) }, { dst := some 90, op := Op.move (Operand.tmp 7), type := 38, pos := "law.go:98", after := #[{ on := 32, ground := Ground.guard }], guard := some (32, false) }, { dst := some 91, op := Op.call { callee := Callee.value (Operand.func 22), args := #[Operand.tmp 90], argTypes := #[38] }, type := 43, pos := "law.go:98", after := #[{ on := 35, ground := Ground.data }, { on := 34, ground := Ground.chain }, { on := 32, ground := Ground.guard }], guard := some (32, false) }, { dst := some 92, op := Op.call { callee := Callee.value (Operand.func 20), args := #[Operand.tmp 89, Operand.tmp 91], argTypes := #[43, 43] }, type := 4, pos := "law.go:98", after := #[{ on := 34, ground := Ground.data }, { on := 36, ground := Ground.data }, { on := 36, ground := Ground.chain }, { on := 32, ground := Ground.guard }], guard := some (32, false) }, { dst := some 93, op := Op.unOp UnOp.not 4 (Operand.tmp 92), type := 4, pos := "law.go:98", after := #[{ on := 37, ground := Ground.data }, { on := 32, ground := Ground.guard }], guard := some (32, false) }, { dst := some 94, op := Op.pick (Operand.tmp 87) (Operand.const (Value.bool true)) (Operand.tmp 93), type := 4, pos := "law.go:98", after := #[{ on := 32, ground := Ground.data }, { on := 38, ground := Ground.data }], guard := none }, { dst := some 95, op := Op.move (Operand.tmp 94), type := 4, pos := "law.go:98", after := #[{ on := 39, ground := Ground.data }, { on := 37, ground := Ground.chain }], guard := none }, { dst := some 96, op := Op.move (Operand.tmp 5), type := 23, pos := "law.go:98", after := #[{ on := 40, ground := Ground.guard }], guard := some (40, false) }, { dst := some 97, op := Op.call { callee := Callee.value (Operand.func 23), args := #[Operand.tmp 96], argTypes := #[23] }, type := 3, pos := "law.go:98", after := #[{ on := 41, ground := Ground.data }, { on := 40, ground := Ground.chain }, { on := 40, ground := Ground.guard }], guard := some (40, false) }, { dst := some 98, op := Op.move (Operand.tmp 7), type := 38, pos := "law.go:98", after := #[{ on := 40, ground := Ground.guard }], guard := some (40, false) }, { dst := some 99, op := Op.nilCheck (Operand.tmp 98), type := 0, pos := "law.go:98", after := #[{ on := 43, ground := Ground.data }, { on := 40, ground := Ground.guard }], guard := some (40, false) }, { dst := some 100, op := Op.fieldAddr 50 (Operand.tmp 99) 0, type := 0, pos := "law.go:98", after := #[{ on := 44, ground := Ground.data }, { on := 40, ground := Ground.guard }], guard := some (40, false) }, { dst := some 101, op := Op.load 35 (Operand.tmp 100), type := 35, pos := "law.go:98", after := #[{ on := 45, ground := Ground.data }, { on := 40, ground := Ground.guard }], guard := some (40, false) }, { dst := some 102, op := Op.call { callee := Callee.builtin Builtin.len, args := #[Operand.tmp 101], argTypes := #[35] }, type := 3, pos := "law.go:98", after := #[{ on := 46, ground := Ground.data }, { on := 40, ground := Ground.guard }], guard := some (40, false) }, { dst := some 103, op := Op.binOp BinOp.neq 3 (Operand.tmp 97) (Operand.tmp 102) 3, type := 4, pos := "law.go:98", after := #[{ on := 42, ground := Ground.data }, { on := 47, ground := Ground.data }, { on := 40, ground := Ground.guard }], guard := some (40, false) }, { dst := some 104, op := Op.pick (Operand.tmp 95) (Operand.const (Value.bool true)) (Operand.tmp 103), type := 4, pos := "law.go:98", after := #[{ on := 40, ground := Ground.data }, { on := 48, ground := Ground.data }], guard := none }]
def VD10 (d : Nat) (f : Foot) (o : OpS) (D' : Dev) : Nat → Value → Prop
  | 0, y_ => y_ = .pointer (some ⟨d, 0, none⟩)
  | 1, y_ => y_ = .pointer (some ⟨f.g, 0, none⟩)
  | 2, y_ => y_ = .agg (opVals o)
  | 3, y_ => y_ = .bool true
  | 4, y_ => y_ = .bool false
  | 5, y_ => y_ = .bool false
  | 6, y_ => y_ = .pointer (some ⟨d, 0, none⟩)
  | 7, y_ => y_ = .int .i64 D'.steps
  | 8, y_ => y_ = .pointer (some ⟨f.g, 0, none⟩)
  | 9, y_ => y_ = .pointer (some ⟨f.g, 0, none⟩)
  | 10, y_ => y_ = .pointer (some ⟨f.g, 3, none⟩)
  | 11, y_ => y_ = .int .i64 D'.steps
  | 12, y_ => y_ = .bool false
  | 13, y_ => y_ = .bool false
  | 14, y_ => y_ = .bool false
  | 15, y_ => y_ = .pointer (some ⟨d, 0, none⟩)
  | 16, y_ => y_ = .int .i64 D'.syncs
  | 17, y_ => y_ = .pointer (some ⟨f.g, 0, none⟩)
  | 18, y_ => y_ = .pointer (some ⟨f.g, 0, none⟩)
  | 19, y_ => y_ = .pointer (some ⟨f.g, 4, none⟩)
  | 20, y_ => y_ = .int .i64 D'.syncs
  | 21, y_ => y_ = .bool false
  | 22, y_ => y_ = .bool false
  | 23, y_ => y_ = .bool false
  | 24, y_ => y_ = .pointer (some ⟨d, 0, none⟩)
  | 25, y_ => y_ = .bool D'.down
  | 26, y_ => y_ = .pointer (some ⟨f.g, 0, none⟩)
  | 27, y_ => y_ = .pointer (some ⟨f.g, 0, none⟩)
  | 28, y_ => y_ = .pointer (some ⟨f.g, 7, none⟩)
  | 29, y_ => y_ = .bool D'.down
  | 30, y_ => y_ = .bool false
  | 31, y_ => y_ = .bool false
  | 32, y_ => y_ = .bool false
  | 33, y_ => y_ = .pointer (some ⟨d, 0, none⟩)
  | 35, y_ => y_ = .pointer (some ⟨f.g, 0, none⟩)
  | 37, y_ => y_ = .bool true
  | 38, y_ => y_ = .bool false
  | 39, y_ => y_ = .bool false
  | 40, y_ => y_ = .bool false
  | 41, y_ => y_ = .pointer (some ⟨d, 0, none⟩)
  | 42, y_ => y_ = .int .i64 D'.size
  | 43, y_ => y_ = .pointer (some ⟨f.g, 0, none⟩)
  | 44, y_ => y_ = .pointer (some ⟨f.g, 0, none⟩)
  | 45, y_ => y_ = .pointer (some ⟨f.g, 0, none⟩)
  | 46, y_ => y_ = slV f.bN D'.size.toNat f.cN
  | 47, y_ => y_ = .int .i64 (D'.size.toNat : Nat)
  | 48, y_ => y_ = .bool false
  | 49, y_ => y_ = .bool false
  | _, _ => True
def GD10 (D' : Dev) : Nat → Value → World → Prop
  | 34, v, w => RdI w v (uns D')
  | 36, v, w => RdI w v (uns D')
  | _, _, _ => True
theorem GD10.mono (D' : Dev) {j : Nat} {v : Value} {w w' : World} (h : GD10 D' j v w) (hb : Below w.heap.size w w') : GD10 D' j v w' := by
  unfold GD10 at h ⊢
  split <;> first | exact trivial | exact RdV.below h hb
theorem GD10.none {D' : Dev} {j : Nat} {v : Value} {w : World} (_ : j ≠ 3) (h1 : j ≠ 34) (h2 : j ≠ 36) : GD10 D' j v w := by
  unfold GD10
  split
  · exact absurd rfl h1
  · exact absurd rfl h2
  · trivial
set_option maxHeartbeats 4000000 in
theorem regionD10 {Q : Exit → Act → World → Prop} {a : Act} {w : World} (d ob : Nat) (f : Foot) (o : OpS) (D' : Dev) (B : Nat) (D : Dev) (M : Int) (wI : World) (hs : a.tmps.size = 144) (h5 : a.tmps.getD 5 undef = .pointer (some ⟨d, 0, none⟩)) (h7 : a.tmps.getD 7 undef = .pointer (some ⟨f.g, 0, none⟩)) (h10 : a.tmps.getD 10 undef = .pointer (some ⟨ob, 0, none⟩))
    (hD' : D' = dplay D o) (hok' : DOk (M + 1) D') (hin : ∀ W, Below B wI W → DRep B W d D → RAt B W f D → PlayIn B d f D M o W) (hJ : JD B d f ob o D D' wI (Array.replicate 50 false) w)
    (hend : ∀ (u : Nat → Value) w', u 104 = .bool false → DRep B w' d D' → RAt B w' f D' → Below B wI w' → Q .normal (putAll opsD10 u a) w') : (Code.region 10 opsD10 true).wp Try.prog Q a w := by
  have hsz : ((D'.size.toNat : Nat) : Int) = D'.size := by have := hok'.size; omega
  refine wp_region_rule (by kernel_rfl) (fun i_ v_ w_ => VD10 d f o D' i_ v_ ∧ GD10 D' i_ v_ w_) (JD B d f ob o D D' wI) (by kernel_rfl) (by rw [hs]; kernel_rfl) ?_ (allOps ⟨?_, ?_, ?_, ?_, ?_, ?_, ?_, ?_, ?_, ?_, ?_, ?_, ?_, ?_, ?_, ?_, ?_, ?_, ?_, ?_, ?_, ?_, ?_, ?_, ?_, ?_, ?_, ?_, ?_, ?_, ?_, ?_, ?_, ?_, ?_, ?_, ?_, ?_, ?_, ?_, ?_, ?_, ?_, ?_, ?_, ?_, ?_, ?_, ?_, ?_, trivial⟩) ?_
  · exact hJ.drew
  · intro listed a' w' hl H hJ
    have e5 : a'.tmps[5]?.getD undef = .pointer (some ⟨d, 0, none⟩) := H.old 5 rfl h5
    refine ⟨rfl, fun K hK => ?_⟩
    refine wp_eq (v := .pointer (some ⟨d, 0, none⟩)) (w' := w') ?_ (hK _ w' (fun _ _ => ⟨rfl, trivial⟩) (fun _ _ _ _ h => h) (hJ.skip (by decide)))
    simp [go_sem, e5]
  · intro listed a' w' hl H hJ
    have e7 : a'.tmps[7]?.getD undef = .pointer (some ⟨f.g, 0, none⟩) := H.old 7 rfl h7
    refine ⟨rfl, fun K hK => ?_⟩
    refine wp_eq (v := .pointer (some ⟨f.g, 0, none⟩)) (w' := w') ?_ (hK _ w' (fun _ _ => ⟨rfl, trivial⟩) (fun _ _ _ _ h => h) (hJ.skip (by decide)))
    simp [go_sem, e7]
  · intro listed a' w' hl H hJ
    have e10 : a'.tmps[10]?.getD undef = .pointer (some ⟨ob, 0, none⟩) := H.old 10 rfl h10
    refine ⟨rfl, fun K hK => ?_⟩
    have e10' : a'.eval (.tmp 10) = .pointer (some ⟨ob, 0, none⟩) := by simp only [Act.eval, Array.getD_eq_getD_getElem?]; exact e10
    refine wp_eq (v := .agg (opVals o)) (w' := w') ?_ (hK _ w' (fun _ _ => ⟨rfl, trivial⟩) (fun _ _ _ _ h => h) (hJ.skip (by decide)))
    unfold execOp
    simp only [e10', Sem.run_bind, Sem.run_pure, load_op (hJ.ob (H.before hl 3 [2] (by kernel_rfl) rfl)), Result.andThen_ok]
  · intro listed a' w' hl H hJ
    have e55 : a'.tmps[55]?.getD undef = .pointer (some ⟨d, 0, none⟩) := (H.is 0 55 rfl rfl rfl).1
    have e56 : a'.tmps[56]?.getD undef = .pointer (some ⟨f.g, 0, none⟩) := (H.is 1 56 rfl rfl rfl).1
    have e57 : a'.tmps[57]?.getD undef = .agg (opVals o) := (H.is 2 57 rfl rfl rfl).1
    refine ⟨rfl, fun K hK => ?_⟩
    have hn := hJ.no (not_yet hl)
    refine wp_enter (f := 16) (args := #[.pointer (some ⟨d, 0, none⟩), .pointer (some ⟨f.g, 0, none⟩), .agg (opVals o)]) (w' := w') (R := fun v w2 => v = .bool true ∧ DRep B w2 d D' ∧ RAt B w2 f D' ∧ Below B w' w2) ?_ ?_ ?_
    · simp [go_sem, e55, e56, e57]
    · subst hD'
      refine (play_c B d f D M o w' (hin w' hJ.bel hn.dr hn.ra)).mono ?_
      rintro e w2 ⟨rfl, h1, h2, h3⟩
      exact ⟨_, rfl, rfl, h1, h2, h3⟩
    · rintro v w2 ⟨rfl, h1, h2, h3⟩
      exact hK _ w2 (fun _ _ => ⟨rfl, trivial⟩) (fun j u hj hd hF => ⟨hF.1, GD10.none hj (fun h => by subst h; exact H.noDone hl 34 [32, 31, 23, 22, 14, 13, 5, 4, 3] (by kernel_rfl) rfl hd) (fun h => by subst h; exact H.noDone hl 36 [32, 31, 23, 22, 14, 13, 5, 4, 3] (by kernel_rfl) rfl hd)⟩) (hJ.played hl h1 h2 h3)
  · intro listed a' w' hl H hJ
    have e58 : a'.tmps[58]?.getD undef = .bool true := (H.is 3 58 rfl rfl rfl).1
    refine ⟨rfl, fun K hK => ?_⟩
    refine wp_eq (v := .bool false) (w' := w') ?_ (hK _ w' (fun _ _ => ⟨rfl, trivial⟩) (fun _ _ _ _ h => h) (hJ.skip (by decide)))
    simp [go_sem, e58]
  · intro listed a' w' hl H hJ
    have e59 : a'.tmps[59]?.getD undef = .bool false := (H.is 4 59 rfl rfl rfl).1
    refine ⟨rfl, fun K hK => ?_⟩
    refine wp_eq (v := .bool false) (w' := w') ?_ (hK _ w' (fun _ _ => ⟨rfl, trivial⟩) (fun _ _ _ _ h => h) (hJ.skip (by decide)))
    simp [go_sem, e59]
  · intro listed a' w' hl H hJ
    have e5 : a'.tmps[5]?.getD undef = .pointer (some ⟨d, 0, none⟩) := H.old 5 rfl h5
    have eg : a'.tmps[60]?.getD undef = .bool false := (H.is 5 60 rfl rfl rfl).1
    refine ⟨wanted_of rfl rfl rfl eg, fun K hK => ?_⟩
    refine wp_eq (v := .pointer (some ⟨d, 0, none⟩)) (w' := w') ?_ (hK _ w' (fun _ _ => ⟨rfl, trivial⟩) (fun _ _ _ _ h => h) (hJ.skip (by decide)))
    simp [go_sem, e5]
  · intro listed a' w' hl H hJ
    have e61 : a'.tmps[61]?.getD undef = .pointer (some ⟨d, 0, none⟩) := (H.is 6 61 rfl rfl rfl).1
    have eg : a'.tmps[60]?.getD undef = .bool false := (H.is 5 60 rfl rfl rfl).1
    refine ⟨wanted_of rfl rfl rfl eg, fun K hK => ?_⟩
    refine wp_enter (f := 17) (args := #[.pointer (some ⟨d, 0, none⟩)]) (w' := w') (R := fun v w2 => v = .int .i64 D'.steps ∧ w' = w2) ?_ ((steps_c B d D' w' (hJ.yes (H.after 5 [4, 3] (by kernel_rfl) (by kernel_rfl) 3 rfl)).dr).mono fun e w2 h => by obtain ⟨rfl, rfl⟩ := h; exact ⟨_, rfl, rfl, rfl⟩) ?_
    · simp [go_sem, e61]
    · rintro v w2 ⟨rfl, rfl⟩
      exact hK _ _ (fun _ _ => ⟨rfl, trivial⟩) (fun _ _ _ _ h => h) (hJ.skip (by decide))
  · intro listed a' w' hl H hJ
    have e7 : a'.tmps[7]?.getD undef = .pointer (some ⟨f.g, 0, none⟩) := H.old 7 rfl h7
    have eg : a'.tmps[60]?.getD undef = .bool false := (H.is 5 60 rfl rfl rfl).1
    refine ⟨wanted_of rfl rfl rfl eg, fun K hK => ?_⟩
    refine wp_eq (v := .pointer (some ⟨f.g, 0, none⟩)) (w' := w') ?_ (hK _ w' (fun _ _ => ⟨rfl, trivial⟩) (fun _ _ _ _ h => h) (hJ.skip (by decide)))
    simp [go_sem, e7]
  · intro listed a' w' hl H hJ
    have e63 : a'.tmps[63]?.getD undef = .pointer (some ⟨f.g, 0, none⟩) := (H.is 8 63 rfl rfl rfl).1
    have eg : a'.tmps[60]?.getD undef = .bool false := (H.is 5 60 rfl rfl rfl).1
    refine ⟨wanted_of rfl rfl rfl eg, fun K hK => ?_⟩
    refine wp_eq (v := .pointer (some ⟨f.g, 0, none⟩)) (w' := w') ?_ (hK _ w' (fun _ _ => ⟨rfl, trivial⟩) (fun _ _ _ _ h => h) (hJ.skip (by decide)))
    simp [go_sem, e63]
  · intro listed a' w' hl H hJ
    have e64 : a'.tmps[64]?.getD undef = .pointer (some ⟨f.g, 0, none⟩) := (H.is 9 64 rfl rfl rfl).1
    have eg : a'.tmps[60]?.getD undef = .bool false := (H.is 5 60 rfl rfl rfl).1
    refine ⟨wanted_of rfl rfl rfl eg, fun K hK => ?_⟩
    refine wp_eq (v := .pointer (some ⟨f.g, 3, none⟩)) (w' := w') ?_ (hK _ w' (fun _ _ => ⟨rfl, trivial⟩) (fun _ _ _ _ h => h) (hJ.skip (by decide)))
    simp [go_sem, e64]
  · intro listed a' w' hl H hJ
    have e65 : a'.tmps[65]?.getD undef = .pointer (some ⟨f.g, 3, none⟩) := (H.is 10 65 rfl rfl rfl).1
    have eg : a'.tmps[60]?.getD undef = .bool false := (H.is 5 60 rfl rfl rfl).1
    refine ⟨wanted_of rfl rfl rfl eg, fun K hK => ?_⟩
    have hc := (hJ.yes (H.after 5 [4, 3] (by kernel_rfl) (by kernel_rfl) 3 rfl)).ra.cell.2.2.2.1
    refine wp_eq (v := .int .i64 D'.steps) (w' := w') ?_ (hK _ w' (fun _ _ => ⟨rfl, trivial⟩) (fun _ _ _ _ h => h) (hJ.skip (by decide)))
    simp [go_sem, e65, hc]
  · intro listed a' w' hl H hJ
    have e62 : a'.tmps[62]?.getD undef = .int .i64 D'.steps := (H.is 7 62 rfl rfl rfl).1
    have e66 : a'.tmps[66]?.getD undef = .int .i64 D'.steps := (H.is 11 66 rfl rfl rfl).1
    have eg : a'.tmps[60]?.getD undef = .bool false := (H.is 5 60 rfl rfl rfl).1
    refine ⟨wanted_of rfl rfl rfl eg, fun K hK => ?_⟩
    refine wp_eq (v := .bool false) (w' := w') ?_ (hK _ w' (fun _ _ => ⟨rfl, trivial⟩) (fun _ _ _ _ h => h) (hJ.skip (by decide)))
    simp [go_sem, e62, e66]
  · intro listed a' w' hl H hJ
    have e60 : a'.tmps[60]?.getD undef = .bool false := (H.is 5 60 rfl rfl rfl).1
    have e67 : a'.tmps[67]?.getD undef = .bool false := (H.is 12 67 rfl rfl rfl).1
    refine ⟨rfl, fun K hK => ?_⟩
    refine wp_eq (v := .bool false) (w' := w') ?_ (hK _ w' (fun _ _ => ⟨rfl, trivial⟩) (fun _ _ _ _ h => h) (hJ.skip (by decide)))
    simp [go_sem, e60, e67]
  · intro listed a' w' hl H hJ
    have e68 : a'.tmps[68]?.getD undef = .bool false := (H.is 13 68 rfl rfl rfl).1
    refine ⟨rfl, fun K hK => ?_⟩
    refine wp_eq (v := .bool false) (w' := w') ?_ (hK _ w' (fun _ _ => ⟨rfl, trivial⟩) (fun _ _ _ _ h => h) (hJ.skip (by decide)))
    simp [go_sem, e68]
  · intro listed a' w' hl H hJ
    have e5 : a'.tmps[5]?.getD undef = .pointer (some ⟨d, 0, none⟩) := H.old 5 rfl h5
    have eg : a'.tmps[69]?.getD undef = .bool false := (H.is 14 69 rfl rfl rfl).1
    refine ⟨wanted_of rfl rfl rfl eg, fun K hK => ?_⟩
    refine wp_eq (v := .pointer (some ⟨d, 0, none⟩)) (w' := w') ?_ (hK _ w' (fun _ _ => ⟨rfl, trivial⟩) (fun _ _ _ _ h => h) (hJ.skip (by decide)))
    simp [go_sem, e5]
  · intro listed a' w' hl H hJ
    have e70 : a'.tmps[70]?.getD undef = .pointer (some ⟨d, 0, none⟩) := (H.is 15 70 rfl rfl rfl).1
    have eg : a'.tmps[69]?.getD undef = .bool false := (H.is 14 69 rfl rfl rfl).1
    refine ⟨wanted_of rfl rfl rfl eg, fun K hK => ?_⟩
    refine wp_enter (f := 18) (args := #[.pointer (some ⟨d, 0, none⟩)]) (w' := w') (R := fun v w2 => v = .int .i64 D'.syncs ∧ w' = w2) ?_ ((syncs_c B d D' w' (hJ.yes (H.after 14 [13, 5, 4, 3] (by kernel_rfl) (by kernel_rfl) 3 rfl)).dr).mono fun e w2 h => by obtain ⟨rfl, rfl⟩ := h; exact ⟨_, rfl, rfl, rfl⟩) ?_
    · simp [go_sem, e70]
    · rintro v w2 ⟨rfl, rfl⟩
      exact hK _ _ (fun _ _ => ⟨rfl, trivial⟩) (fun _ _ _ _ h => h) (hJ.skip (by decide))
  · intro listed a' w' hl H hJ
    have e7 : a'.tmps[7]?.getD undef = .pointer (some ⟨f.g, 0, none⟩) := H.old 7 rfl h7
    have eg : a'.tmps[69]?.getD undef = .bool false := (H.is 14 69 rfl rfl rfl).1
    refine ⟨wanted_of rfl rfl rfl eg, fun K hK => ?_⟩
    refine wp_eq (v := .pointer (some ⟨f.g, 0, none⟩)) (w' := w') ?_ (hK _ w' (fun _ _ => ⟨rfl, trivial⟩) (fun _ _ _ _ h => h) (hJ.skip (by decide)))
    simp [go_sem, e7]
  · intro listed a' w' hl H hJ
    have e72 : a'.tmps[72]?.getD undef = .pointer (some ⟨f.g, 0, none⟩) := (H.is 17 72 rfl rfl rfl).1
    have eg : a'.tmps[69]?.getD undef = .bool false := (H.is 14 69 rfl rfl rfl).1
    refine ⟨wanted_of rfl rfl rfl eg, fun K hK => ?_⟩
    refine wp_eq (v := .pointer (some ⟨f.g, 0, none⟩)) (w' := w') ?_ (hK _ w' (fun _ _ => ⟨rfl, trivial⟩) (fun _ _ _ _ h => h) (hJ.skip (by decide)))
    simp [go_sem, e72]
  · intro listed a' w' hl H hJ
    have e73 : a'.tmps[73]?.getD undef = .pointer (some ⟨f.g, 0, none⟩) := (H.is 18 73 rfl rfl rfl).1
    have eg : a'.tmps[69]?.getD undef = .bool false := (H.is 14 69 rfl rfl rfl).1
    refine ⟨wanted_of rfl rfl rfl eg, fun K hK => ?_⟩
    refine wp_eq (v := .pointer (some ⟨f.g, 4, none⟩)) (w' := w') ?_ (hK _ w' (fun _ _ => ⟨rfl, trivial⟩) (fun _ _ _ _ h => h) (hJ.skip (by decide)))
    simp [go_sem, e73]
  · intro listed a' w' hl H hJ
    have e74 : a'.tmps[74]?.getD undef = .pointer (some ⟨f.g, 4, none⟩) := (H.is 19 74 rfl rfl rfl).1
    have eg : a'.tmps[69]?.getD undef = .bool false := (H.is 14 69 rfl rfl rfl).1
    refine ⟨wanted_of rfl rfl rfl eg, fun K hK => ?_⟩
    have hc := (hJ.yes (H.after 14 [13, 5, 4, 3] (by kernel_rfl) (by kernel_rfl) 3 rfl)).ra.cell.2.2.2.2.1
    refine wp_eq (v := .int .i64 D'.syncs) (w' := w') ?_ (hK _ w' (fun _ _ => ⟨rfl, trivial⟩) (fun _ _ _ _ h => h) (hJ.skip (by decide)))
    simp [go_sem, e74, hc]
  · intro listed a' w' hl H hJ
    have e71 : a'.tmps[71]?.getD undef = .int .i64 D'.syncs := (H.is 16 71 rfl rfl rfl).1
    have e75 : a'.tmps[75]?.getD undef = .int .i64 D'.syncs := (H.is 20 75 rfl rfl rfl).1
    have eg : a'.tmps[69]?.getD undef = .bool false := (H.is 14 69 rfl rfl rfl).1
    refine ⟨wanted_of rfl rfl rfl eg, fun K hK => ?_⟩
    refine wp_eq (v := .bool false) (w' := w') ?_ (hK _ w' (fun _ _ => ⟨rfl, trivial⟩) (fun _ _ _ _ h => h) (hJ.skip (by decide)))
    simp [go_sem, e71, e75]
  · intro listed a' w' hl H hJ
    have e69 : a'.tmps[69]?.getD undef = .bool false := (H.is 14 69 rfl rfl rfl).1
    have e76 : a'.tmps[76]?.getD undef = .bool false := (H.is 21 76 rfl rfl rfl).1
    refine ⟨rfl, fun K hK => ?_⟩
    refine wp_eq (v := .bool false) (w' := w') ?_ (hK _ w' (fun _ _ => ⟨rfl, trivial⟩) (fun _ _ _ _ h => h) (hJ.skip (by decide)))
    simp [go_sem, e69, e76]
  · intro listed a' w' hl H hJ
    have e77 : a'.tmps[77]?.getD undef = .bool false := (H.is 22 77 rfl rfl rfl).1
    refine ⟨rfl, fun K hK => ?_⟩
    refine wp_eq (v := .bool false) (w' := w') ?_ (hK _ w' (fun _ _ => ⟨rfl, trivial⟩) (fun _ _ _ _ h => h) (hJ.skip (by decide)))
    simp [go_sem, e77]
  · intro listed a' w' hl H hJ
    have e5 : a'.tmps[5]?.getD undef = .pointer (some ⟨d, 0, none⟩) := H.old 5 rfl h5
    have eg : a'.tmps[78]?.getD undef = .bool false := (H.is 23 78 rfl rfl rfl).1
    refine ⟨wanted_of rfl rfl rfl eg, fun K hK => ?_⟩
    refine wp_eq (v := .pointer (some ⟨d, 0, none⟩)) (w' := w') ?_ (hK _ w' (fun _ _ => ⟨rfl, trivial⟩) (fun _ _ _ _ h => h) (hJ.skip (by decide)))
    simp [go_sem, e5]
  · intro listed a' w' hl H hJ
    have e79 : a'.tmps[79]?.getD undef = .pointer (some ⟨d, 0, none⟩) := (H.is 24 79 rfl rfl rfl).1
    have eg : a'.tmps[78]?.getD undef = .bool false := (H.is 23 78 rfl rfl rfl).1
    refine ⟨wanted_of rfl rfl rfl eg, fun K hK => ?_⟩
    refine wp_enter (f := 19) (args := #[.pointer (some ⟨d, 0, none⟩)]) (w' := w') (R := fun v w2 => v = .bool D'.down ∧ w' = w2) ?_ ((down_c B d D' w' (hJ.yes (H.after 23 [22, 14, 13, 5, 4, 3] (by kernel_rfl) (by kernel_rfl) 3 rfl)).dr).mono fun e w2 h => by obtain ⟨rfl, rfl⟩ := h; exact ⟨_, rfl, rfl, rfl⟩) ?_
    · simp [go_sem, e79]
    · rintro v w2 ⟨rfl, rfl⟩
      exact hK _ _ (fun _ _ => ⟨rfl, trivial⟩) (fun _ _ _ _ h => h) (hJ.skip (by decide))
  · intro listed a' w' hl H hJ
    have e7 : a'.tmps[7]?.getD undef = .pointer (some ⟨f.g, 0, none⟩) := H.old 7 rfl h7
    have eg : a'.tmps[78]?.getD undef = .bool false := (H.is 23 78 rfl rfl rfl).1
    refine ⟨wanted_of rfl rfl rfl eg, fun K hK => ?_⟩
    refine wp_eq (v := .pointer (some ⟨f.g, 0, none⟩)) (w' := w') ?_ (hK _ w' (fun _ _ => ⟨rfl, trivial⟩) (fun _ _ _ _ h => h) (hJ.skip (by decide)))
    simp [go_sem, e7]
  · intro listed a' w' hl H hJ
    have e81 : a'.tmps[81]?.getD undef = .pointer (some ⟨f.g, 0, none⟩) := (H.is 26 81 rfl rfl rfl).1
    have eg : a'.tmps[78]?.getD undef = .bool false := (H.is 23 78 rfl rfl rfl).1
    refine ⟨wanted_of rfl rfl rfl eg, fun K hK => ?_⟩
    refine wp_eq (v := .pointer (some ⟨f.g, 0, none⟩)) (w' := w') ?_ (hK _ w' (fun _ _ => ⟨rfl, trivial⟩) (fun _ _ _ _ h => h) (hJ.skip (by decide)))
    simp [go_sem, e81]
  · intro listed a' w' hl H hJ
    have e82 : a'.tmps[82]?.getD undef = .pointer (some ⟨f.g, 0, none⟩) := (H.is 27 82 rfl rfl rfl).1
    have eg : a'.tmps[78]?.getD undef = .bool false := (H.is 23 78 rfl rfl rfl).1
    refine ⟨wanted_of rfl rfl rfl eg, fun K hK => ?_⟩
    refine wp_eq (v := .pointer (some ⟨f.g, 7, none⟩)) (w' := w') ?_ (hK _ w' (fun _ _ => ⟨rfl, trivial⟩) (fun _ _ _ _ h => h) (hJ.skip (by decide)))
    simp [go_sem, e82]
  · intro listed a' w' hl H hJ
    have e83 : a'.tmps[83]?.getD undef = .pointer (some ⟨f.g, 7, none⟩) := (H.is 28 83 rfl rfl rfl).1
    have eg : a'.tmps[78]?.getD undef = .bool false := (H.is 23 78 rfl rfl rfl).1
    refine ⟨wanted_of rfl rfl rfl eg, fun K hK => ?_⟩
    have hc := (hJ.yes (H.after 23 [22, 14, 13, 5, 4, 3] (by kernel_rfl) (by kernel_rfl) 3 rfl)).ra.cell.2.2.2.2.2.2.2
    refine wp_eq (v := .bool D'.down) (w' := w') ?_ (hK _ w' (fun _ _ => ⟨rfl, trivial⟩) (fun _ _ _ _ h => h) (hJ.skip (by decide)))
    simp [go_sem, e83, hc]
  · intro listed a' w' hl H hJ
    have e80 : a'.tmps[80]?.getD undef = .bool D'.down := (H.is 25 80 rfl rfl rfl).1
    have e84 : a'.tmps[84]?.getD undef = .bool D'.down := (H.is 29 84 rfl rfl rfl).1
    have eg : a'.tmps[78]?.getD undef = .bool false := (H.is 23 78 rfl rfl rfl).1
    refine ⟨wanted_of rfl rfl rfl eg, fun K hK => ?_⟩
    refine wp_eq (v := .bool false) (w' := w') ?_ (hK _ w' (fun _ _ => ⟨rfl, trivial⟩) (fun _ _ _ _ h => h) (hJ.skip (by decide)))
    simp [go_sem, e80, e84]
  · intro listed a' w' hl H hJ
    have e78 : a'.tmps[78]?.getD undef = .bool false := (H.is 23 78 rfl rfl rfl).1
    have e85 : a'.tmps[85]?.getD undef = .bool false := (H.is 30 85 rfl rfl rfl).1
    refine ⟨rfl, fun K hK => ?_⟩
    refine wp_eq (v := .bool false) (w' := w') ?_ (hK _ w' (fun _ _ => ⟨rfl, trivial⟩) (fun _ _ _ _ h => h) (hJ.skip (by decide)))
    simp [go_sem, e78, e85]
  · intro listed a' w' hl H hJ
    have e86 : a'.tmps[86]?.getD undef = .bool false := (H.is 31 86 rfl rfl rfl).1
    refine ⟨rfl, fun K hK => ?_⟩
    refine wp_eq (v := .bool false) (w' := w') ?_ (hK _ w' (fun _ _ => ⟨rfl, trivial⟩) (fun _ _ _ _ h => h) (hJ.skip (by decide)))
    simp [go_sem, e86]
  · intro listed a' w' hl H hJ
    have e5 : a'.tmps[5]?.getD undef = .pointer (some ⟨d, 0, none⟩) := H.old 5 rfl h5
    have eg : a'.tmps[87]?.getD undef = .bool false := (H.is 32 87 rfl rfl rfl).1
    refine ⟨wanted_of rfl rfl rfl eg, fun K hK => ?_⟩
    refine wp_eq (v := .pointer (some ⟨d, 0, none⟩)) (w' := w') ?_ (hK _ w' (fun _ _ => ⟨rfl, trivial⟩) (fun _ _ _ _ h => h) (hJ.skip (by decide)))
    simp [go_sem, e5]
  · intro listed a' w' hl H hJ
    have e88 : a'.tmps[88]?.getD undef = .pointer (some ⟨d, 0, none⟩) := (H.is 33 88 rfl rfl rfl).1
    have eg : a'.tmps[87]?.getD undef = .bool false := (H.is 32 87 rfl rfl rfl).1
    refine ⟨wanted_of rfl rfl rfl eg, fun K hK => ?_⟩
    refine wp_enter (f := 21) (args := #[.pointer (some ⟨d, 0, none⟩)]) (w' := w') (R := fun v w2 => RdI w2 v (uns D') ∧ Below w'.heap.size w' w2) ?_ ((unsynced_c B d D' (M + 1) w' hok' (hJ.yes (H.after 32 [31, 23, 22, 14, 13, 5, 4, 3] (by kernel_rfl) (by kernel_rfl) 3 rfl)).dr).mono fun e w2 h => by obtain ⟨v, rfl, h1, h2⟩ := h; exact ⟨_, rfl, h1, h2⟩) ?_
    · simp [go_sem, e88]
    · rintro v w2 ⟨hr, hb⟩
      exact hK _ _ (fun _ _ => ⟨trivial, hr⟩) (fun j u _ _ hF => ⟨hF.1, GD10.mono D' hF.2 hb⟩) ((hJ.below hb).skip (by decide))
  · intro listed a' w' hl H hJ
    have e7 : a'.tmps[7]?.getD undef = .pointer (some ⟨f.g, 0, none⟩) := H.old 7 rfl h7
    have eg : a'.tmps[87]?.getD undef = .bool false := (H.is 32 87 rfl rfl rfl).1
    refine ⟨wanted_of rfl rfl rfl eg, fun K hK => ?_⟩
    refine wp_eq (v := .pointer (some ⟨f.g, 0, none⟩)) (w' := w') ?_ (hK _ w' (fun _ _ => ⟨rfl, trivial⟩) (fun _ _ _ _ h => h) (hJ.skip (by decide)))
    simp [go_sem, e7]
  · intro listed a' w' hl H hJ
    have e90 : a'.tmps[90]?.getD undef = .pointer (some ⟨f.g, 0, none⟩) := (H.is 35 90 rfl rfl rfl).1
    have eg : a'.tmps[87]?.getD undef = .bool false := (H.is 32 87 rfl rfl rfl).1
    refine ⟨wanted_of rfl rfl rfl eg, fun K hK => ?_⟩
    refine wp_enter (f := 22) (args := #[.pointer (some ⟨f.g, 0, none⟩)]) (w' := w') (R := fun v w2 => RdI w2 v (uns D') ∧ Below w'.heap.size w' w2) ?_ ((runsynced_c B f D' w' (hJ.yes (H.after 32 [31, 23, 22, 14, 13, 5, 4, 3] (by kernel_rfl) (by kernel_rfl) 3 rfl)).ra hok'.size).mono fun e w2 h => by obtain ⟨v, rfl, h1, h2⟩ := h; exact ⟨_, rfl, h1, h2⟩) ?_
    · simp [go_sem, e90]
    · rintro v w2 ⟨hr, hb⟩
      exact hK _ _ (fun _ _ => ⟨trivial, hr⟩) (fun j u _ _ hF => ⟨hF.1, GD10.mono D' hF.2 hb⟩) ((hJ.below hb).skip (by decide))
  · intro listed a' w' hl H hJ
    have e89 := H.is 34 89 rfl rfl rfl
    have e91 := H.is 36 91 rfl rfl rfl
    have eg : a'.tmps[87]?.getD undef = .bool false := (H.is 32 87 rfl rfl rfl).1
    refine ⟨wanted_of rfl rfl rfl eg, fun K hK => ?_⟩
    have hr1 := e89.2
    have hr2 := e91.2
    clear e89 e91
    generalize g1 : a'.tmps[89]?.getD undef = v1 at hr1
    generalize g2 : a'.tmps[91]?.getD undef = v2 at hr2
    refine wp_enter (f := 20) (args := #[v1, v2]) (w' := w') (R := fun v w2 => v = .bool true ∧ Below w'.heap.size w' w2) ?_ ((ints_c v1 v2 _ w' (by have := uns_len D' hok'.size.2; omega) hr1 hr2).mono fun e w2 h => by obtain ⟨rfl, h1⟩ := h; exact ⟨_, rfl, rfl, h1.below (fun _ h => h.elim) (Nat.le_refl _)⟩) ?_
    · simp [go_sem, g1, g2]
    · rintro v w2 ⟨rfl, hb⟩
      exact hK _ _ (fun _ _ => ⟨rfl, trivial⟩) (fun j u _ _ hF => ⟨hF.1, GD10.mono D' hF.2 hb⟩) ((hJ.below hb).skip (by decide))
  · intro listed a' w' hl H hJ
    have e92 : a'.tmps[92]?.getD undef = .bool true := (H.is 37 92 rfl rfl rfl).1
    have eg : a'.tmps[87]?.getD undef = .bool false := (H.is 32 87 rfl rfl rfl).1
    refine ⟨wanted_of rfl rfl rfl eg, fun K hK => ?_⟩
    refine wp_eq (v := .bool false) (w' := w') ?_ (hK _ w' (fun _ _ => ⟨rfl, trivial⟩) (fun _ _ _ _ h => h) (hJ.skip (by decide)))
    simp [go_sem, e92]
  · intro listed a' w' hl H hJ
    have e87 : a'.tmps[87]?.getD undef = .bool false := (H.is 32 87 rfl rfl rfl).1
    have e93 : a'.tmps[93]?.getD undef = .bool false := (H.is 38 93 rfl rfl rfl).1
    refine ⟨rfl, fun K hK => ?_⟩
    refine wp_eq (v := .bool false) (w' := w') ?_ (hK _ w' (fun _ _ => ⟨rfl, trivial⟩) (fun _ _ _ _ h => h) (hJ.skip (by decide)))
    simp [go_sem, e87, e93]
  · intro listed a' w' hl H hJ
    have e94 : a'.tmps[94]?.getD undef = .bool false := (H.is 39 94 rfl rfl rfl).1
    refine ⟨rfl, fun K hK => ?_⟩
    refine wp_eq (v := .bool false) (w' := w') ?_ (hK _ w' (fun _ _ => ⟨rfl, trivial⟩) (fun _ _ _ _ h => h) (hJ.skip (by decide)))
    simp [go_sem, e94]
  · intro listed a' w' hl H hJ
    have e5 : a'.tmps[5]?.getD undef = .pointer (some ⟨d, 0, none⟩) := H.old 5 rfl h5
    have eg : a'.tmps[95]?.getD undef = .bool false := (H.is 40 95 rfl rfl rfl).1
    refine ⟨wanted_of rfl rfl rfl eg, fun K hK => ?_⟩
    refine wp_eq (v := .pointer (some ⟨d, 0, none⟩)) (w' := w') ?_ (hK _ w' (fun _ _ => ⟨rfl, trivial⟩) (fun _ _ _ _ h => h) (hJ.skip (by decide)))
    simp [go_sem, e5]
  · intro listed a' w' hl H hJ
    have e96 : a'.tmps[96]?.getD undef = .pointer (some ⟨d, 0, none⟩) := (H.is 41 96 rfl rfl rfl).1
    have eg : a'.tmps[95]?.getD undef = .bool false := (H.is 40 95 rfl rfl rfl).1
    refine ⟨wanted_of rfl rfl rfl eg, fun K hK => ?_⟩
    refine wp_enter (f := 23) (args := #[.pointer (some ⟨d, 0, none⟩)]) (w' := w') (R := fun v w2 => v = .int .i64 D'.size ∧ w' = w2) ?_ ((size_c B d D' w' (hJ.yes (H.after 40 [39, 32, 31, 23, 22, 14, 13, 5, 4, 3] (by kernel_rfl) (by kernel_rfl) 3 rfl)).dr).mono fun e w2 h => by obtain ⟨rfl, rfl⟩ := h; exact ⟨_, rfl, rfl, rfl⟩) ?_
    · simp [go_sem, e96]
    · rintro v w2 ⟨rfl, rfl⟩
      exact hK _ _ (fun _ _ => ⟨rfl, trivial⟩) (fun _ _ _ _ h => h) (hJ.skip (by decide))
  · intro listed a' w' hl H hJ
    have e7 : a'.tmps[7]?.getD undef = .pointer (some ⟨f.g, 0, none⟩) := H.old 7 rfl h7
    have eg : a'.tmps[95]?.getD undef = .bool false := (H.is 40 95 rfl rfl rfl).1
    refine ⟨wanted_of rfl rfl rfl eg, fun K hK => ?_⟩
    refine wp_eq (v := .pointer (some ⟨f.g, 0, none⟩)) (w' := w') ?_ (hK _ w' (fun _ _ => ⟨rfl, trivial⟩) (fun _ _ _ _ h => h) (hJ.skip (by decide)))
    simp [go_sem, e7]
  · intro listed a' w' hl H hJ
    have e98 : a'.tmps[98]?.getD undef = .pointer (some ⟨f.g, 0, none⟩) := (H.is 43 98 rfl rfl rfl).1
    have eg : a'.tmps[95]?.getD undef = .bool false := (H.is 40 95 rfl rfl rfl).1
    refine ⟨wanted_of rfl rfl rfl eg, fun K hK => ?_⟩
    refine wp_eq (v := .pointer (some ⟨f.g, 0, none⟩)) (w' := w') ?_ (hK _ w' (fun _ _ => ⟨rfl, trivial⟩) (fun _ _ _ _ h => h) (hJ.skip (by decide)))
    simp [go_sem, e98]
  · intro listed a' w' hl H hJ
    have e99 : a'.tmps[99]?.getD undef = .pointer (some ⟨f.g, 0, none⟩) := (H.is 44 99 rfl rfl rfl).1
    have eg : a'.tmps[95]?.getD undef = .bool false := (H.is 40 95 rfl rfl rfl).1
    refine ⟨wanted_of rfl rfl rfl eg, fun K hK => ?_⟩
    refine wp_eq (v := .pointer (some ⟨f.g, 0, none⟩)) (w' := w') ?_ (hK _ w' (fun _ _ => ⟨rfl, trivial⟩) (fun _ _ _ _ h => h) (hJ.skip (by decide)))
    simp [go_sem, e99]
  · intro listed a' w' hl H hJ
    have e100 : a'.tmps[100]?.getD undef = .pointer (some ⟨f.g, 0, none⟩) := (H.is 45 100 rfl rfl rfl).1
    have eg : a'.tmps[95]?.getD undef = .bool false := (H.is 40 95 rfl rfl rfl).1
    refine ⟨wanted_of rfl rfl rfl eg, fun K hK => ?_⟩
    have hc := (hJ.yes (H.after 40 [39, 32, 31, 23, 22, 14, 13, 5, 4, 3] (by kernel_rfl) (by kernel_rfl) 3 rfl)).ra.cell.1
    refine wp_eq (v := slV f.bN D'.size.toNat f.cN) (w' := w') ?_ (hK _ w' (fun _ _ => ⟨rfl, trivial⟩) (fun _ _ _ _ h => h) (hJ.skip (by decide)))
    simp [go_sem, e100, hc]
  · intro listed a' w' hl H hJ
    have e101 : a'.tmps[101]?.getD undef = slV f.bN D'.size.toNat f.cN := (H.is 46 101 rfl rfl rfl).1
    have eg : a'.tmps[95]?.getD undef = .bool false := (H.is 40 95 rfl rfl rfl).1
    refine ⟨wanted_of rfl rfl rfl eg, fun K hK => ?_⟩
    refine wp_eq (v := .int .i64 (D'.size.toNat : Nat)) (w' := w') ?_ (hK _ w' (fun _ _ => ⟨rfl, trivial⟩) (fun _ _ _ _ h => h) (hJ.skip (by decide)))
    simp [go_sem, e101, slV]
  · intro listed a' w' hl H hJ
    have e97 : a'.tmps[97]?.getD undef = .int .i64 D'.size := (H.is 42 97 rfl rfl rfl).1
    have e102 : a'.tmps[102]?.getD undef = .int .i64 (D'.size.toNat : Nat) := (H.is 47 102 rfl rfl rfl).1
    have eg : a'.tmps[95]?.getD undef = .bool false := (H.is 40 95 rfl rfl rfl).1
    refine ⟨wanted_of rfl rfl rfl eg, fun K hK => ?_⟩
    refine wp_eq (v := .bool false) (w' := w') ?_ (hK _ w' (fun _ _ => ⟨rfl, trivial⟩) (fun _ _ _ _ h => h) (hJ.skip (by decide)))
    simp [go_sem, e97, e102, hsz]
  · intro listed a' w' hl H hJ
    have e95 : a'.tmps[95]?.getD undef = .bool false := (H.is 40 95 rfl rfl rfl).1
    have e103 : a'.tmps[103]?.getD undef = .bool false := (H.is 48 103 rfl rfl rfl).1
    refine ⟨rfl, fun K hK => ?_⟩
    refine wp_eq (v := .bool false) (w' := w') ?_ (hK _ w' (fun _ _ => ⟨rfl, trivial⟩) (fun _ _ _ _ h => h) (hJ.skip (by decide)))
    simp [go_sem, e95, e103]
  · intro listed u w' hF hall hJ
    have h3 := hJ.yes (hall 3 (by decide))
    exact hend u w' (hF 49 _ 104 rfl rfl).1 h3.dr h3.ra hJ.bel

def opsD19 : Array Oper := #[{ dst := some 129, op := Op.move (Operand.tmp 13), type := 25, pos := "law.go:107", after := #[], guard := none }, { dst := some 130, op := Op.binOp BinOp.neq 25 (Operand.tmp 129) (Operand.const Value.nilIface) 25, type := 4, pos := "law.go:107", after := #[{ on := 0, ground := Ground.data }], guard := none }, { dst := some 131, op := Op.move (Operand.tmp 130), type := 4, pos := "law.go:107", after := #[{ on := 1, ground := Ground.data }], guard := none }, { dst := some 132, op := Op.move (Operand.tmp 12), type := 28, pos := "law.go:107", after := #[{ on := 2, ground := Ground.guard }], guard := some (2, false) }, { dst := some 133, op := Op.convert 28 9 (Operand.tmp 132), type := 9, pos := "law.go:107", after := #[{ on := 3, ground := Ground.data }, { on := 2, ground := Ground.guard }], guard := some (2, false) }, { dst := some 134, op := Op.move (Operand.tmp 7), type := 38, pos := "law.go:107", after := #[{ on := 2, ground := Ground.guard }], guard := some (2, false) }, { dst := some 135, op := Op.nilCheck (Operand.tmp 134), type := 0, pos := "law.go:107", after := #[{ on := 5, ground := Ground.data }, { on := 2, ground := Ground.guard }], guard := some (2, false) }, { dst := some 136, op := Op.fieldAddr 50 (Operand.tmp 135) 0, type := 0, pos := "law.go:107", after := #[{ on := 6, ground := Ground.data }, { on := 2, ground := Ground.guard }], guard := some (2, false) }, { dst := some 137, op := Op.load 35 (Operand.tmp 136), type := 35, pos := "law.go:107", after := #[{ on := 7, ground := Ground.data }, { on := 2, ground := Ground.guard }], guard := some (2, false) }, { dst := some 138, op := Op.move (Operand.tmp 11), type := 3, pos := "law.go:107", after := #[{ on := 2, ground := Ground.guard }], guard := some (2, false) }, { dst := some 139, op := Op.indexAddr 35 (Operand.tmp 137) (Operand.tmp 138), type := 0, pos := "law.go:107", after := #[{ on := 8, ground := Ground.data }, { on := 9, ground := Ground.data }, { on := 2, ground := Ground.guard }], guard := some (2, false) }, { dst := some 140, op := Op.load 28 (Operand.tmp 139), type := 28, pos := "law.go:107", after := #[{ on := 10, ground := Ground.data }, { on := 2, ground := Ground.guard }], guard := some (2, false) }, { dst := some 141, op := Op.convert 28 9 (Operand.tmp 140), type := 9, pos := "law.go:107", after := #[{ on := 11, ground := Ground.data }, { on := 2, ground := Ground.guard }], guard := some (2, false) }, { dst := some 142, op := Op.binOp BinOp.neq 9 (Operand.tmp 133) (Operand.tmp 141) 9, type := 4, pos := "law.go:107", after := #[{ on := 4, ground := Ground.data }, { on := 12, ground := Ground.data }, { on := 2, ground := Ground.guard }], guard := some (2, false) }, { dst := some 143, op := Op.pick (Operand.tmp 131) (Operand.const (Value.bool true)) (Operand.tmp 142), type := 4, pos := "law.go:107", after := #[{ on := 2, ground := Ground.data }, { on := 13, ground := Ground.data }], guard := none }]
def VD19 (f : Foot) (n i : Nat) (vb v : Value) (s : List Int) : Nat → Value → Prop
  | 0, y_ => y_ = .nilIface
  | 1, y_ => y_ = .bool false
  | 2, y_ => y_ = .bool false
  | 3, y_ => y_ = vb
  | 4, y_ => y_ = .string (strOfNums s)
  | 5, y_ => y_ = .pointer (some ⟨f.g, 0, none⟩)
  | 6, y_ => y_ = .pointer (some ⟨f.g, 0, none⟩)
  | 7, y_ => y_ = .pointer (some ⟨f.g, 0, none⟩)
  | 8, y_ => y_ = slV f.bN n f.cN
  | 9, y_ => y_ = .int .i64 i
  | 10, y_ => y_ = .pointer (some ⟨f.bN, i, none⟩)
  | 11, y_ => y_ = v
  | 12, y_ => y_ = .string (strOfNums s)
  | 13, y_ => y_ = .bool false
  | 14, y_ => y_ = .bool false
  | _, _ => True
set_option maxHeartbeats 4000000 in
theorem regionD19 {Q : Exit → Act → World → Prop} {a : Act} {w : World} (f : Foot) (n i : Nat) (vb v : Value) (s : List Int)  (hs : a.tmps.size = 144) (h7 : a.tmps.getD 7 undef = .pointer (some ⟨f.g, 0, none⟩)) (h11 : a.tmps.getD 11 undef = .int .i64 i) (h12 : a.tmps.getD 12 undef = vb) (h13 : a.tmps.getD 13 undef = .nilIface)
    (hi : i < n) (hc0 : w.cell? ⟨f.g, 0, none⟩ = some (slV f.bN n f.cN)) (hcv : w.cell? ⟨f.bN, i, none⟩ = some v) (hb : RdB w vb s) (hv : RdB w v s)
    (hend : ∀ (u : Nat → Value), u 143 = .bool false → Q .normal (putAll opsD19 u a) w.drew) : (Code.region 19 opsD19 true).wp Try.prog Q a w := by
  refine wp_region_rule (by kernel_rfl) (fun i_ v_ _ => VD19 f n i vb v s i_ v_) (fun _ W => W = w.drew) (by kernel_rfl) (by rw [hs]; kernel_rfl) ?_ (allOps ⟨?_, ?_, ?_, ?_, ?_, ?_, ?_, ?_, ?_, ?_, ?_, ?_, ?_, ?_, ?_, trivial⟩) ?_
  · rfl
  · intro listed a' w' hl H hJ
    have e13 : a'.tmps[13]?.getD undef = .nilIface := H.old 13 rfl h13
    refine ⟨rfl, fun K hK => ?_⟩
    refine wp_eq (v := .nilIface) (w' := w') ?_ (hK _ w' (fun _ _ => rfl) (fun _ _ _ _ h => h) hJ)
    simp [go_sem, e13]
  · intro listed a' w' hl H hJ
    have e129 : a'.tmps[129]?.getD undef = .nilIface := (H.is 0 129 rfl rfl rfl)
    refine ⟨rfl, fun K hK => ?_⟩
    refine wp_eq (v := .bool false) (w' := w') ?_ (hK _ w' (fun _ _ => rfl) (fun _ _ _ _ h => h) hJ)
    simp [go_sem, e129]
  · intro listed a' w' hl H hJ
    have e130 : a'.tmps[130]?.getD undef = .bool false := (H.is 1 130 rfl rfl rfl)
    refine ⟨rfl, fun K hK => ?_⟩
    refine wp_eq (v := .bool false) (w' := w') ?_ (hK _ w' (fun _ _ => rfl) (fun _ _ _ _ h => h) hJ)
    simp [go_sem, e130]
  · intro listed a' w' hl H hJ
    have e12 : a'.tmps[12]?.getD undef = vb := H.old 12 rfl h12
    have eg : a'.tmps[131]?.getD undef = .bool false := (H.is 2 131 rfl rfl rfl)
    refine ⟨wanted_of rfl rfl rfl eg, fun K hK => ?_⟩
    refine wp_eq (v := vb) (w' := w') ?_ (hK _ w' (fun _ _ => rfl) (fun _ _ _ _ h => h) hJ)
    simp [go_sem, e12]
  · intro listed a' w' hl H hJ
    have e132 : a'.tmps[132]?.getD undef = vb := (H.is 3 132 rfl rfl rfl)
    have eg : a'.tmps[131]?.getD undef = .bool false := (H.is 2 131 rfl rfl rfl)
    refine ⟨wanted_of rfl rfl rfl eg, fun K hK => ?_⟩
    have ea : a'.eval (.tmp 132) = vb := by simpa [Act.eval] using e132
    have hbw : RdB w' vb s := hJ ▸ RdB.drew hb
    refine wp_eq (v := .string (strOfNums s)) (w' := w') ?_ (hK _ w' (fun _ _ => rfl) (fun _ _ _ _ h => h) hJ)
    unfold execOp
    simp only [ea, Sem.run_bind, Sem.run_pure, conv_b hbw, Result.andThen_ok]
  · intro listed a' w' hl H hJ
    have e7 : a'.tmps[7]?.getD undef = .pointer (some ⟨f.g, 0, none⟩) := H.old 7 rfl h7
    have eg : a'.tmps[131]?.getD undef = .bool false := (H.is 2 131 rfl rfl rfl)
    refine ⟨wanted_of rfl rfl rfl eg, fun K hK => ?_⟩
    refine wp_eq (v := .pointer (some ⟨f.g, 0, none⟩)) (w' := w') ?_ (hK _ w' (fun _ _ => rfl) (fun _ _ _ _ h => h) hJ)
    simp [go_sem, e7]
  · intro listed a' w' hl H hJ
    have e134 : a'.tmps[134]?.getD undef = .pointer (some ⟨f.g, 0, none⟩) := (H.is 5 134 rfl rfl rfl)
    have eg : a'.tmps[131]?.getD undef = .bool false := (H.is 2 131 rfl rfl rfl)
    refine ⟨wanted_of rfl rfl rfl eg, fun K hK => ?_⟩
    refine wp_eq (v := .pointer (some ⟨f.g, 0, none⟩)) (w' := w') ?_ (hK _ w' (fun _ _ => rfl) (fun _ _ _ _ h => h) hJ)
    simp [go_sem, e134]
  · intro listed a' w' hl H hJ
    have e135 : a'.tmps[135]?.getD undef = .pointer (some ⟨f.g, 0, none⟩) := (H.is 6 135 rfl rfl rfl)
    have eg : a'.tmps[131]?.getD undef = .bool false := (H.is 2 131 rfl rfl rfl)
    refine ⟨wanted_of rfl rfl rfl eg, fun K hK => ?_⟩
    refine wp_eq (v := .pointer (some ⟨f.g, 0, none⟩)) (w' := w') ?_ (hK _ w' (fun _ _ => rfl) (fun _ _ _ _ h => h) hJ)
    simp [go_sem, e135]
  · intro listed a' w' hl H hJ
    have e136 : a'.tmps[136]?.getD undef = .pointer (some ⟨f.g, 0, none⟩) := (H.is 7 136 rfl rfl rfl)
    have eg : a'.tmps[131]?.getD undef = .bool false := (H.is 2 131 rfl rfl rfl)
    refine ⟨wanted_of rfl rfl rfl eg, fun K hK => ?_⟩
    have hc := hJ ▸ (show w.drew.cell? _ = _ from hc0)
    refine wp_eq (v := slV f.bN n f.cN) (w' := w') ?_ (hK _ w' (fun _ _ => rfl) (fun _ _ _ _ h => h) hJ)
    simp [go_sem, e136, hc]
  · intro listed a' w' hl H hJ
    have e11 : a'.tmps[11]?.getD undef = .int .i64 i := H.old 11 rfl h11
    have eg : a'.tmps[131]?.getD undef = .bool false := (H.is 2 131 rfl rfl rfl)
    refine ⟨wanted_of rfl rfl rfl eg, fun K hK => ?_⟩
    refine wp_eq (v := .int .i64 i) (w' := w') ?_ (hK _ w' (fun _ _ => rfl) (fun _ _ _ _ h => h) hJ)
    simp [go_sem, e11]
  · intro listed a' w' hl H hJ
    have e137 : a'.tmps[137]?.getD undef = slV f.bN n f.cN := (H.is 8 137 rfl rfl rfl)
    have e138 : a'.tmps[138]?.getD undef = .int .i64 i := (H.is 9 138 rfl rfl rfl)
    have eg : a'.tmps[131]?.getD undef = .bool false := (H.is 2 131 rfl rfl rfl)
    refine ⟨wanted_of rfl rfl rfl eg, fun K hK => ?_⟩
    refine wp_eq (v := .pointer (some ⟨f.bN, i, none⟩)) (w' := w') ?_ (hK _ w' (fun _ _ => rfl) (fun _ _ _ _ h => h) hJ)
    simp [go_sem, e137, e138, slV, hi]
  · intro listed a' w' hl H hJ
    have e139 : a'.tmps[139]?.getD undef = .pointer (some ⟨f.bN, i, none⟩) := (H.is 10 139 rfl rfl rfl)
    have eg : a'.tmps[131]?.getD undef = .bool false := (H.is 2 131 rfl rfl rfl)
    refine ⟨wanted_of rfl rfl rfl eg, fun K hK => ?_⟩
    have hc := hJ ▸ (show w.drew.cell? _ = _ from hcv)
    refine wp_eq (v := v) (w' := w') ?_ (hK _ w' (fun _ _ => rfl) (fun _ _ _ _ h => h) hJ)
    simp [go_sem, e139, hc]
  · intro listed a' w' hl H hJ
    have e140 : a'.tmps[140]?.getD undef = v := (H.is 11 140 rfl rfl rfl)
    have eg : a'.tmps[131]?.getD undef = .bool false := (H.is 2 131 rfl rfl rfl)
    refine ⟨wanted_of rfl rfl rfl eg, fun K hK => ?_⟩
    have ea : a'.eval (.tmp 140) = v := by simpa [Act.eval] using e140
    have hbw : RdB w' v s := hJ ▸ RdB.drew hv
    refine wp_eq (v := .string (strOfNums s)) (w' := w') ?_ (hK _ w' (fun _ _ => rfl) (fun _ _ _ _ h => h) hJ)
    unfold execOp
    simp only [ea, Sem.run_bind, Sem.run_pure, conv_b hbw, Result.andThen_ok]
  · intro listed a' w' hl H hJ
    have e133 : a'.tmps[133]?.getD undef = .string (strOfNums s) := (H.is 4 133 rfl rfl rfl)
    have e141 : a'.tmps[141]?.getD undef = .string (strOfNums s) := (H.is 12 141 rfl rfl rfl)
    have eg : a'.tmps[131]?.getD undef = .bool false := (H.is 2 131 rfl rfl rfl)
    refine ⟨wanted_of rfl rfl rfl eg, fun K hK => ?_⟩
    refine wp_eq (v := .bool false) (w' := w') ?_ (hK _ w' (fun _ _ => rfl) (fun _ _ _ _ h => h) hJ)
    simp [go_sem, e133, e141]
  · intro listed a' w' hl H hJ
    have e131 : a'.tmps[131]?.getD undef = .bool false := (H.is 2 131 rfl rfl rfl)
    have e142 : a'.tmps[142]?.getD undef = .bool false := (H.is 13 142 rfl rfl rfl)
    refine ⟨rfl, fun K hK => ?_⟩
    refine wp_eq (v := .bool false) (w' := w') ?_ (hK _ w' (fun _ _ => rfl) (fun _ _ _ _ h => h) hJ)
    simp [go_sem, e131, e142]
  · intro listed u w' hF hall hJ
    subst hJ
    exact hend u (hF 14 _ 143 rfl rfl)

end Go.Proofs.Ytbcafhhheileeaa
