/-
  Part of the proofs of DiskPlays, SlotPlays: play's regions that draw their order.
  Conditions: those that each theorem names.
-/
import Derived.Test.YtbcafhhheileeaaE12
namespace Go.Proofs.Ytbcafhhheileeaa
open Go.RowKit
set_option maxRecDepth 100000

/-- what is newer than S0 and no part of a device stays -/
def GF (S0 : Nat) (w w' : World) : Prop := ∀ b o, S0 ≤ b → w.heap[b]? = some o → tagD o = false → w'.heap[b]? = some o
theorem GF.of_below {S0 : Nat} {w w' : World} (h : Below w.heap.size w w') : GF S0 w w' := fun b _ _ ho _ => (h.block b (lt_of_heap ho)).trans ho
theorem GF.of_fr {S0 B : Nat} {w w' : World} (h : Fr B tagD w w') : GF S0 w w' := fun b o _ ho ht => h.keep b o ho (.inr ht)
theorem GF.of_kp {S0 : Nat} {X : Nat → Prop} {w w' : World} (h : Kp X w w') (hx : ∀ b, X b → b < S0) : GF S0 w w' := fun b _ hb ho _ => (h.keep b (lt_of_heap ho) (fun hX => by have := hx b hX; omega)).trans ho
theorem gf_parts {S0 n : Nat} {v : Value} {cs : Array Value} {w w' : World} (h : ∃ pb, v = .slice (some ⟨pb, 0, none⟩) n n ∧ S0 ≤ pb ∧ w.heap[pb]? = some (.cells cs 28 (0, 0))) (hb : GF S0 w w') : ∃ pb, v = .slice (some ⟨pb, 0, none⟩) n n ∧ S0 ≤ pb ∧ w'.heap[pb]? = some (.cells cs 28 (0, 0)) := by
  obtain ⟨pb, h1, h2, h3⟩ := h
  exact ⟨pb, h1, h2, hb pb _ h2 h3 rfl⟩

/-- both devices, the call, the copy -/
structure JP (hr : Bool) (B S0 d ob : Nat) (f : Foot) (cg cc : Nat) (xs : List Int) (kd at_ n : Int) (bv kv : Value) (Dd Dm : Dev) (wI w : World) : Prop where
  dr : DRep B w d Dd
  ra : RAt B w f Dm
  ob : w.heap[ob]? = some (.cells #[.int .i64 kd, .int .i64 at_, .int .i64 n, bv, kv] 45 (0, 0))
  row : hr = true → Row1 B w cg cc (xs.length + 2) (marked xs)
  bel : Below B wI w
  bI : B ≤ wI.heap.size
  base : B ≤ w.heap.size
  size : S0 ≤ w.heap.size
  flt : ∀ b, f.has b → b < S0
  fx : ∀ y, f.x = some y → y < S0
section
variable {hr : Bool} {B S0 d ob : Nat} {f : Foot} {cg cc : Nat} {xs : List Int} {kd at_ n : Int} {bv kv : Value} {Dd Dm D' : Dev} {wI w w' : World}
theorem JP.o1 (h : JP hr B S0 d ob f cg cc xs kd at_ n bv kv Dd Dm wI w) : w.cell? ⟨ob, 1, none⟩ = some (.int .i64 at_) := by rw [cell_blk h.ob]; rfl
theorem JP.o2 (h : JP hr B S0 d ob f cg cc xs kd at_ n bv kv Dd Dm wI w) : w.cell? ⟨ob, 2, none⟩ = some (.int .i64 n) := by rw [cell_blk h.ob]; rfl
theorem JP.o3 (h : JP hr B S0 d ob f cg cc xs kd at_ n bv kv Dd Dm wI w) : w.cell? ⟨ob, 3, none⟩ = some bv := by rw [cell_blk h.ob]; rfl
theorem JP.below (h : JP hr B S0 d ob f cg cc xs kd at_ n bv kv Dd Dm wI w) (hb : Below w.heap.size w w') : JP hr B S0 d ob f cg cc xs kd at_ n bv kv Dd Dm wI w' :=
  ⟨h.dr.below hb, h.ra.below hb, (hb.block _ (lt_of_heap h.ob)).trans h.ob, fun e => row_kp0 (h.row e) hb, h.bel.trans (hb.mono h.base), h.bI, Nat.le_trans h.base hb.size, Nat.le_trans h.size hb.size, h.flt, h.fx⟩
theorem JP.drew (h : JP hr B S0 d ob f cg cc xs kd at_ n bv kv Dd Dm wI w) : JP hr B S0 d ob f cg cc xs kd at_ n bv kv Dd Dm wI w.drew :=
  h.below (below_drewN (Below.refl _ w) 1)
theorem JP.stepD (h : JP hr B S0 d ob f cg cc xs kd at_ n bv kv Dd Dm wI w) (h1 : DRep B w' d D') (h2 : Fr B tagD w w') : JP hr B S0 d ob f cg cc xs kd at_ n bv kv D' Dm wI w' :=
  ⟨h1, h.ra.fr h2, h2.keep _ _ h.ob (.inr rfl), fun e => by
    rcases (h.row e).2 with ⟨h3, _⟩ | ⟨g', c', cur, he, h3, h4, h5⟩
    · cases h3
    · injection he with he1 _ he3
      injection he1 with he1
      injection he1 with he1
      subst he1 he3
      exact ⟨(h.row e).1, .inr ⟨cg, cc, cur, rfl, h3, h2.keep _ _ h4 (.inr rfl), h5⟩⟩, h.bel.trans (h2.below h.base), h.bI, Nat.le_trans h.base h2.size, Nat.le_trans h.size h2.size, h.flt, h.fx⟩
theorem JP.stepM (h : JP hr B S0 d ob f cg cc xs kd at_ n bv kv Dd Dm wI w) (h1 : RAt B w' f D') (h2 : Kp f.has w w') : JP hr B S0 d ob f cg cc xs kd at_ n bv kv Dd D' wI w' :=
  ⟨h.dr.foot h.ra h2, h1, (h2.keep _ (lt_of_heap h.ob) (fun hf => by
    obtain ⟨_, cur, e, hc, he⟩ := h.ra.foot _ hf
    rw [h.ob] at hc
    injection hc with hc
    injection hc with _ hc _
    subst hc
    rcases he with he | he | he <;> cases he)).trans h.ob, fun e => (h.row e).kp h2 (fun hf => by
    rcases (h.row e).2 with ⟨h3, _⟩ | ⟨g', c', cur, he, h3, h4, h5⟩
    · cases h3
    · injection he with he1 _ he3
      injection he1 with he1
      injection he1 with he1
      subst he1
      exact h.ra.not5 _ _ _ hf h4), h.bel.trans (h2.below (fun b hb => (h.ra.foot b hb).1) h.base), h.bI, Nat.le_trans h.base h2.size, Nat.le_trans h.size h2.size, h.flt, h.fx⟩
theorem JP.rd (h : JP hr B S0 d ob f cg cc xs kd at_ n bv kv Dd Dm wI w) {ys : List Int} (hr : RdB wI bv ys) (hb : ∀ b, bv.ownBlock = some b → ys.length ≠ 0 → b < B) : RdB w bv ys :=
  RdV.keep hr (fun b h1 h2 _ => h.bel.block b (hb b h1 h2)) h.bel.size

/-- .. in a region: operation a is the program's call, operation b the document's -/
structure JL (hr : Bool) (a b B S0 d ob : Nat) (f : Foot) (cg cc : Nat) (xs : List Int) (kd at_ n : Int) (bv kv : Value) (D D' : Dev) (wI : World) (listed : Array Bool) (w : World) : Prop where
  all : JP hr B S0 d ob f cg cc xs kd at_ n bv kv (if listed.getD a false then D' else D) (if listed.getD b false then D' else D) wI w
  ne : a ≠ b
variable {a b : Nat} {D : Dev} {listed : Array Bool} {i : Nat}
theorem JL.o1 (h : JL hr a b B S0 d ob f cg cc xs kd at_ n bv kv D D' wI listed w) : w.cell? ⟨ob, 1, none⟩ = some (.int .i64 at_) := h.all.o1
theorem JL.o2 (h : JL hr a b B S0 d ob f cg cc xs kd at_ n bv kv D D' wI listed w) : w.cell? ⟨ob, 2, none⟩ = some (.int .i64 n) := h.all.o2
theorem JL.o3 (h : JL hr a b B S0 d ob f cg cc xs kd at_ n bv kv D D' wI listed w) : w.cell? ⟨ob, 3, none⟩ = some bv := h.all.o3
theorem JL.row (h : JL true a b B S0 d ob f cg cc xs kd at_ n bv kv D D' wI listed w) : Row1 B w cg cc (xs.length + 2) (marked xs) := h.all.row rfl
theorem JL.base (h : JL hr a b B S0 d ob f cg cc xs kd at_ n bv kv D D' wI listed w) : B ≤ w.heap.size := h.all.base
theorem JL.size (h : JL hr a b B S0 d ob f cg cc xs kd at_ n bv kv D D' wI listed w) : S0 ≤ w.heap.size := h.all.size
theorem JL.flt (h : JL hr a b B S0 d ob f cg cc xs kd at_ n bv kv D D' wI listed w) : ∀ x, f.has x → x < S0 := h.all.flt
theorem JL.skip (h : JL hr a b B S0 d ob f cg cc xs kd at_ n bv kv D D' wI listed w) (h1 : i ≠ a) (h2 : i ≠ b) : JL hr a b B S0 d ob f cg cc xs kd at_ n bv kv D D' wI (listed.setIfInBounds i true) w :=
  ⟨by rw [set_ne h1, set_ne h2]; exact h.all, h.ne⟩
theorem JL.below (h : JL hr a b B S0 d ob f cg cc xs kd at_ n bv kv D D' wI listed w) (hb : Below w.heap.size w w') : JL hr a b B S0 d ob f cg cc xs kd at_ n bv kv D D' wI listed w' :=
  ⟨h.all.below hb, h.ne⟩
theorem JL.start (h : JP hr B S0 d ob f cg cc xs kd at_ n bv kv D D wI w) (h1 : listed.getD a false = false) (h2 : listed.getD b false = false) (hne : a ≠ b) : JL hr a b B S0 d ob f cg cc xs kd at_ n bv kv D D' wI listed w :=
  ⟨by rw [h1, h2]; exact h, hne⟩
theorem JL.noA (h : JL hr a b B S0 d ob f cg cc xs kd at_ n bv kv D D' wI listed w) (hl : listed.getD a false = false) : DRep B w d D := by
  have := h.all.dr
  rw [hl] at this
  exact this
theorem JL.noB (h : JL hr a b B S0 d ob f cg cc xs kd at_ n bv kv D D' wI listed w) (hl : listed.getD b false = false) : RAt B w f D := by
  have := h.all.ra
  rw [hl] at this
  exact this
theorem JL.write (h : JL hr a b B S0 d ob f cg cc xs kd at_ n bv kv D D' wI listed w) (hl : listed.getD a true = false) (h1 : DRep B w' d D') (h2 : Fr B tagD w w') : JL hr a b B S0 d ob f cg cc xs kd at_ n bv kv D D' wI (listed.setIfInBounds a true) w' := by
  refine ⟨?_, h.ne⟩
  rw [set_self hl, set_ne h.ne]
  exact h.all.stepD h1 h2
theorem JL.rwrite (h : JL hr a b B S0 d ob f cg cc xs kd at_ n bv kv D D' wI listed w) (hl : listed.getD b true = false) (h1 : RAt B w' f D') (h2 : Kp f.has w w') : JL hr a b B S0 d ob f cg cc xs kd at_ n bv kv D D' wI (listed.setIfInBounds b true) w' := by
  refine ⟨?_, h.ne⟩
  rw [set_self hl, set_ne (Ne.symm h.ne)]
  exact h.all.stepM h1 h2
theorem JL.end_ (h : JL hr a b B S0 d ob f cg cc xs kd at_ n bv kv D D' wI listed w) (h1 : Done listed a) (h2 : Done listed b) : JP hr B S0 d ob f cg cc xs kd at_ n bv kv D' D' wI w := by
  have := h.all
  unfold Done at h1 h2
  rw [h1, h2] at this
  exact this
end
theorem cat2 (u v : Value) (xs : List Int) (k : Nat) : cat [(u, xs.take k), (v, xs.drop k)] = xs := by simp [cat]
theorem parts2 {B cg cc k pb : Nat} {xs : List Int} {w w' : World} (h : Row1 B w cg cc (xs.length + 2) (marked xs)) (hk : k ≤ xs.length) (hp : w.heap[pb]? = some (.cells #[.slice (some ⟨cg, 0, none⟩) k cc, .slice (some ⟨cg, k, none⟩) (xs.length - k) (cc - k)] 28 (0, 0))) (hf : Fr B tagD w w') :
    RdP w' (.slice (some ⟨pb, 0, none⟩) 2 2) [(.slice (some ⟨cg, 0, none⟩) k cc, xs.take k), (.slice (some ⟨cg, k, none⟩) (xs.length - k) (cc - k), xs.drop k)] := by
  have hr : Row1 B w' cg cc (xs.length + 2) (marked xs) := by
    rcases h.2 with ⟨h3, _⟩ | ⟨g', c', cur, he, h3, h4, h5⟩
    · cases h3
    · injection he with he1 _ he3
      injection he1 with he1
      injection he1 with he1
      subst he1 he3
      exact ⟨h.1, .inr ⟨cg, cc, cur, rfl, h3, hf.keep _ _ h4 (.inr rfl), h5⟩⟩
  have hp' := hf.keep _ _ hp (.inr rfl)
  have hcell : ∀ (j : Nat) (hj : j < xs.length), w'.cell? ⟨cg, j, none⟩ = some (.int .u8 xs[j]) := fun j hj => by
    have := hr.cell j (by omega)
    simpa [marked, hj] using this
  have hle := hr.le
  have hlt := hr.lt.1
  have hkl : (xs.take k).length = k := by simp; omega
  refine ⟨⟨rfl, _, _, rfl, Nat.le_refl _, .inr ⟨pb, 0, rfl, lt_of_heap hp', fun j u hj => by rw [cell_blk hp', Nat.zero_add]; simpa using hj⟩⟩, fun p hp2 => ?_⟩
  simp only [List.mem_cons, List.not_mem_nil, or_false] at hp2
  rcases hp2 with rfl | rfl
  · show RdV w' 1 _ (xs.take k).length _
    rw [hkl]
    refine ⟨by simp [byt]; omega, _, _, rfl, by omega, .inr ⟨cg, 0, rfl, hlt, fun j u hj => ?_⟩⟩
    have hjk : j < k := by have := (List.getElem?_eq_some_iff.1 hj).1; simp [byt] at this; omega
    rw [Nat.zero_add, hcell j (by omega)]
    simpa [byt, hjk, show j < xs.length by omega] using hj
  · show RdV w' 1 _ (xs.drop k).length _
    rw [List.length_drop]
    refine ⟨by simp [byt], _, _, rfl, by omega, .inr ⟨cg, k, rfl, hlt, fun j u hj => ?_⟩⟩
    have hjk : k + j < xs.length := by have := (List.getElem?_eq_some_iff.1 hj).1; simp [byt] at this; omega
    rw [hcell (k + j) hjk]
    simpa [byt, hjk] using hj

def opsP5 : Array Oper := #[{ dst := some 30, op := Op.move (Operand.tmp 0), type := 23, pos := "law.go:59", after := #[], guard := none }, { dst := some 31, op := Op.fieldAddr 45 (Operand.tmp 5) 1, type := 0, pos := "law.go:59", after := #[], guard := none }, { dst := some 32, op := Op.load 3 (Operand.tmp 31), type := 3, pos := "law.go:59", after := #[{ on := 1, ground := Ground.data }], guard := none }, { dst := some 33, op := Op.move (Operand.tmp 7), type := 28, pos := "law.go:59", after := #[], guard := none }, { dst := some 34, op := Op.move (Operand.tmp 8), type := 3, pos := "law.go:59", after := #[], guard := none }, { dst := some 35, op := Op.slice 28 (Operand.tmp 33) none (some (Operand.tmp 34)) none, type := 28, pos := "law.go:59", after := #[{ on := 3, ground := Ground.data }, { on := 4, ground := Ground.data }], guard := none }, { dst := some 36, op := Op.move (Operand.tmp 7), type := 28, pos := "law.go:59", after := #[], guard := none }, { dst := some 37, op := Op.move (Operand.tmp 8), type := 3, pos := "law.go:59", after := #[], guard := none }, { dst := some 38, op := Op.slice 28 (Operand.tmp 36) (some (Operand.tmp 37)) none none, type := 28, pos := "law.go:59", after := #[{ on := 6, ground := Ground.data }, { on := 7, ground := Ground.data }], guard := none }, { dst := some 39, op := Op.buildSlice 35 2 #[(0, Operand.tmp 35), (1, Operand.tmp 38)], type := 35, pos := "law.go:59", after := #[{ on := 5, ground := Ground.data }, { on := 8, ground := Ground.data }], guard := none }, { dst := some 40, op := Op.call { callee := Callee.value (Operand.func 9), args := #[Operand.tmp 30, Operand.tmp 32, Operand.tmp 39], argTypes := #[23, 3, 35] }, type := 25, pos := "law.go:59", after := #[{ on := 0, ground := Ground.data }, { on := 2, ground := Ground.data }, { on := 9, ground := Ground.data }], guard := none }, { dst := some 41, op := Op.call { callee := Callee.value (Operand.func 14), args := #[Operand.tmp 40], argTypes := #[25] }, type := 3, pos := "law.go:59", after := #[{ on := 10, ground := Ground.data }, { on := 10, ground := Ground.chain }], guard := none }, { dst := some 42, op := Op.move (Operand.tmp 1), type := 38, pos := "law.go:59", after := #[], guard := none }, { dst := some 43, op := Op.fieldAddr 45 (Operand.tmp 5) 1, type := 0, pos := "law.go:59", after := #[], guard := none }, { dst := some 44, op := Op.load 3 (Operand.tmp 43), type := 3, pos := "law.go:59", after := #[{ on := 13, ground := Ground.data }], guard := none }, { dst := some 45, op := Op.fieldAddr 45 (Operand.tmp 5) 3, type := 0, pos := "law.go:59", after := #[], guard := none }, { dst := some 46, op := Op.load 28 (Operand.tmp 45), type := 28, pos := "law.go:59", after := #[{ on := 15, ground := Ground.data }], guard := none }, { dst := some 47, op := Op.call { callee := Callee.value (Operand.func 34), args := #[Operand.tmp 42, Operand.tmp 44, Operand.tmp 46], argTypes := #[38, 3, 28] }, type := 3, pos := "law.go:59", after := #[{ on := 12, ground := Ground.data }, { on := 14, ground := Ground.data }, { on := 16, ground := Ground.data }, { on := 11, ground := Ground.chain }], guard := none }, { dst := some 48, op := Op.binOp BinOp.eql 3 (Operand.tmp 41) (Operand.tmp 47) 3, type := 4, pos := "law.go:59", after := #[{ on := 11, ground := Ground.data }, { on := 17, ground := Ground.data }], guard := none }, { dst := some 49, op := Op.move (Operand.tmp 48), type := 4, pos := "law.go:59", after := #[{ on := 18, ground := Ground.data }, { on := 17, ground := Ground.chain }], guard := none }, { dst := some 50, op := Op.move (Operand.tmp 7), type := 28, pos := "law.go:59", after := #[{ on := 19, ground := Ground.guard }], guard := some (19, true) }, { dst := some 51, op := Op.fieldAddr 45 (Operand.tmp 5) 3, type := 0, pos := "law.go:59", after := #[{ on := 19, ground := Ground.guard }], guard := some (19, true) }, { dst := some 52, op := Op.load 28 (Operand.tmp 51), type := 28, pos := "law.go:59", after := #[{ on := 21, ground := Ground.data }, { on := 19, ground := Ground.guard }], guard := some (19, true) }, { dst := some 53, op := Op.call { callee := Callee.value (Operand.func 35), args := #[Operand.tmp 50, Operand.tmp 52], argTypes := #[28, 28] }, type := 4, pos := "law.go:59", after := #[{ on := 20, ground := Ground.data }, { on := 22, ground := Ground.data }, { on := 19, ground := Ground.chain }, { on := 19, ground := Ground.guard }], guard := some (19, true) }, { dst := some 54, op := Op.pick (Operand.tmp 49) (Operand.tmp 53) (Operand.const (Value.bool false)), type := 4, pos := "law.go:59", after := #[{ on := 19, ground := Ground.data }, { on := 23, ground := Ground.data }], guard := none }, { dst := some 9, op := Op.assign (Operand.tmp 54), type := 4, pos := "law.go:59", after := #[{ on := 24, ground := Ground.data }, { on := 23, ground := Ground.chain }, { on := 0, ground := Ground.phase }, { on := 1, ground := Ground.phase }, { on := 2, ground := Ground.phase }, { on := 3, ground := Ground.phase }, { on := 4, ground := Ground.phase }, { on := 5, ground := Ground.phase }, { on := 6, ground := Ground.phase }, { on := 7, ground := Ground.phase }, { on := 8, ground := Ground.phase }, { on := 9, ground := Ground.phase }, { on := 10, ground := Ground.phase }, { on := 11, ground := Ground.phase }, { on := 12, ground := Ground.phase }, { on := 13, ground := Ground.phase }, { on := 14, ground := Ground.phase }, { on := 15, ground := Ground.phase }, { on := 16, ground := Ground.phase }, { on := 17, ground := Ground.phase }, { on := 18, ground := Ground.phase }, { on := 19, ground := Ground.phase }, { on := 20, ground := Ground.phase }, { on := 21, ground := Ground.phase }, { on := 22, ground := Ground.phase }, { on := 23, ground := Ground.phase }, { on := 24, ground := Ground.phase }], guard := none }]
def VP5 (d ob cg cc k : Nat) (f : Foot) (at_ : Int) (bv : Value) (xs : List Int) (D : Dev) : Nat → Value → Prop
  | 0, y_ => y_ = .pointer (some ⟨d, 0, none⟩)
  | 1, y_ => y_ = .pointer (some ⟨ob, 1, none⟩)
  | 2, y_ => y_ = .int .i64 at_
  | 3, y_ => y_ = .slice (some ⟨cg, 0, none⟩) xs.length cc
  | 4, y_ => y_ = .int .i64 k
  | 5, y_ => y_ = .slice (some ⟨cg, 0, none⟩) k cc
  | 6, y_ => y_ = .slice (some ⟨cg, 0, none⟩) xs.length cc
  | 7, y_ => y_ = .int .i64 k
  | 8, y_ => y_ = .slice (some ⟨cg, k, none⟩) (xs.length - k) (cc - k)
  | 10, y_ => y_ = errV (dwrite D at_ xs).1
  | 11, y_ => y_ = .int .i64 (dwrite D at_ xs).1
  | 12, y_ => y_ = .pointer (some ⟨f.g, 0, none⟩)
  | 13, y_ => y_ = .pointer (some ⟨ob, 1, none⟩)
  | 14, y_ => y_ = .int .i64 at_
  | 15, y_ => y_ = .pointer (some ⟨ob, 3, none⟩)
  | 16, y_ => y_ = bv
  | 17, y_ => y_ = .int .i64 (dwrite D at_ xs).1
  | 18, y_ => y_ = .bool true
  | 19, y_ => y_ = .bool true
  | 20, y_ => y_ = .slice (some ⟨cg, 0, none⟩) xs.length cc
  | 21, y_ => y_ = .pointer (some ⟨ob, 3, none⟩)
  | 22, y_ => y_ = bv
  | 23, y_ => y_ = .bool true
  | 24, y_ => y_ = .bool true
  | 25, y_ => y_ = .bool true
  | _, _ => True
def GP5 (cg cc k S0 : Nat) (xs : List Int) : Nat → Value → World → Prop
  | 9, v, w => ∃ pb, v = .slice (some ⟨pb, 0, none⟩) 2 2 ∧ S0 ≤ pb ∧ w.heap[pb]? = some (.cells #[.slice (some ⟨cg, 0, none⟩) k cc, .slice (some ⟨cg, k, none⟩) (xs.length - k) (cc - k)] 28 (0, 0))
  | _, _, _ => True
theorem GP5.mono (cg cc k S0 : Nat) (xs : List Int) {j : Nat} {v : Value} {w w' : World} (h : GP5 cg cc k S0 xs j v w) (hb : GF S0 w w') : GP5 cg cc k S0 xs j v w' := by
  unfold GP5 at h ⊢
  split <;> first | exact trivial | exact gf_parts h hb
set_option maxHeartbeats 4000000 in
theorem regionP5 {Q : Exit → Act → World → Prop} {a : Act} {w : World} (d ob cg cc k S0 : Nat) (f : Foot) (at_ : Int) (bv : Value) (xs : List Int) (D : Dev) (B : Nat) (kd n : Int) (kv : Value) (M : Int) (wI : World) (hs : a.tmps.size = 150) (h0 : a.tmps.getD 0 undef = .pointer (some ⟨d, 0, none⟩)) (h1 : a.tmps.getD 1 undef = .pointer (some ⟨f.g, 0, none⟩)) (h5 : a.tmps.getD 5 undef = .pointer (some ⟨ob, 0, none⟩)) (h7 : a.tmps.getD 7 undef = .slice (some ⟨cg, 0, none⟩) xs.length cc) (h8 : a.tmps.getD 8 undef = .int .i64 k)
    (hk : k ≤ xs.length) (hxl : xs.length ≤ 1000000000) (hM : M ≤ 900000000) (hok : DOk M D) (hlo : LOk M D) (hbvI : RdB wI bv xs) (hbv : ∀ b, bv.ownBlock = some b → xs.length ≠ 0 → b < B) (hcc : xs.length + 2 ≤ cc) (hJ : JP true B S0 d ob f cg cc xs kd at_ n bv kv D D wI w)
    (hend : ∀ (u : Nat → Value) w', u 9 = .bool true → JP true B S0 d ob f cg cc xs kd at_ n bv kv (dwrite D at_ xs).2 (dwrite D at_ xs).2 wI w' → Q .normal (putAll opsP5 u a) w') : (Code.region 5 opsP5 true).wp Try.prog Q a w := by
  refine wp_region_rule (by kernel_rfl) (fun i_ v_ w_ => VP5 d ob cg cc k f at_ bv xs D i_ v_ ∧ GP5 cg cc k S0 xs i_ v_ w_) (fun listed W => JL true 10 17 B S0 d ob f cg cc xs kd at_ n bv kv D (dwrite D at_ xs).2 wI listed W) (by kernel_rfl) (by rw [hs]; kernel_rfl) ?_ (allOps ⟨?_, ?_, ?_, ?_, ?_, ?_, ?_, ?_, ?_, ?_, ?_, ?_, ?_, ?_, ?_, ?_, ?_, ?_, ?_, ?_, ?_, ?_, ?_, ?_, ?_, ?_, trivial⟩) ?_
  · exact JL.start hJ.drew (by simp [opsP5]) (by simp [opsP5]) (by decide)
  · intro listed a' w' hl H hJ
    have e0 : a'.tmps[0]?.getD undef = .pointer (some ⟨d, 0, none⟩) := H.old 0 rfl h0
    refine ⟨rfl, fun K hK => ?_⟩
    refine wp_eq (v := .pointer (some ⟨d, 0, none⟩)) (w' := w') ?_ (hK _ w' (fun _ _ => ⟨rfl, trivial⟩) (fun _ _ _ _ h => h) (hJ.skip (by decide) (by decide)))
    simp [go_sem, e0]
  · intro listed a' w' hl H hJ
    have e5 : a'.tmps[5]?.getD undef = .pointer (some ⟨ob, 0, none⟩) := H.old 5 rfl h5
    refine ⟨rfl, fun K hK => ?_⟩
    refine wp_eq (v := .pointer (some ⟨ob, 1, none⟩)) (w' := w') ?_ (hK _ w' (fun _ _ => ⟨rfl, trivial⟩) (fun _ _ _ _ h => h) (hJ.skip (by decide) (by decide)))
    simp [go_sem, e5]
  · intro listed a' w' hl H hJ
    have e31 : a'.tmps[31]?.getD undef = .pointer (some ⟨ob, 1, none⟩) := (H.is 1 31 rfl rfl rfl).1
    refine ⟨rfl, fun K hK => ?_⟩
    have hc := hJ.o1
    refine wp_eq (v := .int .i64 at_) (w' := w') ?_ (hK _ w' (fun _ _ => ⟨rfl, trivial⟩) (fun _ _ _ _ h => h) (hJ.skip (by decide) (by decide)))
    simp [go_sem, e31, hc]
  · intro listed a' w' hl H hJ
    have e7 : a'.tmps[7]?.getD undef = .slice (some ⟨cg, 0, none⟩) xs.length cc := H.old 7 rfl h7
    refine ⟨rfl, fun K hK => ?_⟩
    refine wp_eq (v := .slice (some ⟨cg, 0, none⟩) xs.length cc) (w' := w') ?_ (hK _ w' (fun _ _ => ⟨rfl, trivial⟩) (fun _ _ _ _ h => h) (hJ.skip (by decide) (by decide)))
    simp [go_sem, e7]
  · intro listed a' w' hl H hJ
    have e8 : a'.tmps[8]?.getD undef = .int .i64 k := H.old 8 rfl h8
    refine ⟨rfl, fun K hK => ?_⟩
    refine wp_eq (v := .int .i64 k) (w' := w') ?_ (hK _ w' (fun _ _ => ⟨rfl, trivial⟩) (fun _ _ _ _ h => h) (hJ.skip (by decide) (by decide)))
    simp [go_sem, e8]
  · intro listed a' w' hl H hJ
    have e33 : a'.tmps[33]?.getD undef = .slice (some ⟨cg, 0, none⟩) xs.length cc := (H.is 3 33 rfl rfl rfl).1
    have e34 : a'.tmps[34]?.getD undef = .int .i64 k := (H.is 4 34 rfl rfl rfl).1
    refine ⟨rfl, fun K hK => ?_⟩
    refine wp_eq (v := .slice (some ⟨cg, 0, none⟩) k cc) (w' := w') ?_ (hK _ w' (fun _ _ => ⟨rfl, trivial⟩) (fun _ _ _ _ h => h) (hJ.skip (by decide) (by decide)))
    simp [go_sem, e33, e34, show k ≤ cc by omega]
  · intro listed a' w' hl H hJ
    have e7 : a'.tmps[7]?.getD undef = .slice (some ⟨cg, 0, none⟩) xs.length cc := H.old 7 rfl h7
    refine ⟨rfl, fun K hK => ?_⟩
    refine wp_eq (v := .slice (some ⟨cg, 0, none⟩) xs.length cc) (w' := w') ?_ (hK _ w' (fun _ _ => ⟨rfl, trivial⟩) (fun _ _ _ _ h => h) (hJ.skip (by decide) (by decide)))
    simp [go_sem, e7]
  · intro listed a' w' hl H hJ
    have e8 : a'.tmps[8]?.getD undef = .int .i64 k := H.old 8 rfl h8
    refine ⟨rfl, fun K hK => ?_⟩
    refine wp_eq (v := .int .i64 k) (w' := w') ?_ (hK _ w' (fun _ _ => ⟨rfl, trivial⟩) (fun _ _ _ _ h => h) (hJ.skip (by decide) (by decide)))
    simp [go_sem, e8]
  · intro listed a' w' hl H hJ
    have e36 : a'.tmps[36]?.getD undef = .slice (some ⟨cg, 0, none⟩) xs.length cc := (H.is 6 36 rfl rfl rfl).1
    have e37 : a'.tmps[37]?.getD undef = .int .i64 k := (H.is 7 37 rfl rfl rfl).1
    refine ⟨rfl, fun K hK => ?_⟩
    refine wp_eq (v := .slice (some ⟨cg, k, none⟩) (xs.length - k) (cc - k)) (w' := w') ?_ (hK _ w' (fun _ _ => ⟨rfl, trivial⟩) (fun _ _ _ _ h => h) (hJ.skip (by decide) (by decide)))
    simp [go_sem, e36, e37, hk, show ¬ cc = k by omega]
  · intro listed a' w' hl H hJ
    have e35 : a'.tmps[35]?.getD undef = .slice (some ⟨cg, 0, none⟩) k cc := (H.is 5 35 rfl rfl rfl).1
    have e38 : a'.tmps[38]?.getD undef = .slice (some ⟨cg, k, none⟩) (xs.length - k) (cc - k) := (H.is 8 38 rfl rfl rfl).1
    refine ⟨rfl, fun K hK => ?_⟩
    have hal : Below w'.heap.size w' (w'.alloc (.cells #[.slice (some ⟨cg, 0, none⟩) k cc, .slice (some ⟨cg, k, none⟩) (xs.length - k) (cc - k)] 28)) := (Below.refl _ _).alloc (Nat.le_refl _) _
    have hgf : GF S0 w' (w'.alloc (.cells #[.slice (some ⟨cg, 0, none⟩) k cc, .slice (some ⟨cg, k, none⟩) (xs.length - k) (cc - k)] 28)) := GF.of_below hal
    refine wp_eq (v := .slice (some ⟨w'.heap.size, 0, none⟩) 2 2) (w' := w'.alloc (.cells #[.slice (some ⟨cg, 0, none⟩) k cc, .slice (some ⟨cg, k, none⟩) (xs.length - k) (cc - k)] 28)) ?_ (hK _ _ (fun _ _ => ⟨trivial, _, rfl, hJ.size, (MapKept.heap_alloc w' _).1⟩) (fun j y _ _ hF => ⟨hF.1, GP5.mono cg cc k S0 xs hF.2 hgf⟩) ((JL.below hJ hal).skip (by decide) (by decide)))
    simp [go_sem, e35, e38]
  · intro listed a' w' hl H hJ
    have e30 : a'.tmps[30]?.getD undef = .pointer (some ⟨d, 0, none⟩) := (H.is 0 30 rfl rfl rfl).1
    have e32 : a'.tmps[32]?.getD undef = .int .i64 at_ := (H.is 2 32 rfl rfl rfl).1
    have e39 := H.is 9 39 rfl rfl rfl
    refine ⟨rfl, fun K hK => ?_⟩
    obtain ⟨pb, hpv, hpS, hpc⟩ := e39.2
    have e39' := e39.1
    clear e39
    have hJ0 := (JL.noA hJ (not_yet hl))
    have hW := write_c B d D M w' hok (by omega) hJ0 hJ.base at_ (.slice (some ⟨pb, 0, none⟩) 2 2) [(.slice (some ⟨cg, 0, none⟩) k cc, xs.take k), (.slice (some ⟨cg, k, none⟩) (xs.length - k) (cc - k), xs.drop k)] (fun w2 hw2 => ?_) (by rw [cat2]; omega) (by simp)
    · rw [cat2] at hW
      refine wp_enter (f := 9) (args := #[.pointer (some ⟨d, 0, none⟩), .int .i64 at_, .slice (some ⟨pb, 0, none⟩) 2 2]) (w' := w') (R := fun v w2 => v = errV (dwrite D at_ xs).1 ∧ DRep B w2 d (dwrite D at_ xs).2 ∧ Fr B tagD w' w2) ?_ (hW.mono fun e w2 h => by obtain ⟨rfl, h1, h2⟩ := h; exact ⟨_, rfl, rfl, h1, h2⟩) ?_
      · simp [go_sem, e30, e32, hpv]
      · rintro v w2 ⟨rfl, h1, h2⟩
        have hgf : GF S0 w' w2 := GF.of_fr h2
        exact hK _ w2 (fun _ _ => ⟨rfl, trivial⟩) (fun j y _ _ hF => ⟨hF.1, GP5.mono cg cc k S0 xs hF.2 hgf⟩) (JL.write hJ hl h1 h2)
    · exact parts2 hJ.row hk hpc hw2
  · intro listed a' w' hl H hJ
    have e40 : a'.tmps[40]?.getD undef = errV (dwrite D at_ xs).1 := (H.is 10 40 rfl rfl rfl).1
    refine ⟨rfl, fun K hK => ?_⟩
    refine wp_enter (f := 14) (args := #[errV (dwrite D at_ xs).1]) (w' := w') (R := fun v w2 => v = .int .i64 (dwrite D at_ xs).1 ∧ w' = w2) ?_ ((num_c (dwrite D at_ xs).1 w').mono fun e w2 h => by obtain ⟨rfl, rfl⟩ := h; exact ⟨_, rfl, rfl, rfl⟩) ?_
    · simp [go_sem, e40]
    · rintro v w2 ⟨rfl, rfl⟩
      exact hK _ _ (fun _ _ => ⟨rfl, trivial⟩) (fun _ _ _ _ h => h) (hJ.skip (by decide) (by decide))
  · intro listed a' w' hl H hJ
    have e1 : a'.tmps[1]?.getD undef = .pointer (some ⟨f.g, 0, none⟩) := H.old 1 rfl h1
    refine ⟨rfl, fun K hK => ?_⟩
    refine wp_eq (v := .pointer (some ⟨f.g, 0, none⟩)) (w' := w') ?_ (hK _ w' (fun _ _ => ⟨rfl, trivial⟩) (fun _ _ _ _ h => h) (hJ.skip (by decide) (by decide)))
    simp [go_sem, e1]
  · intro listed a' w' hl H hJ
    have e5 : a'.tmps[5]?.getD undef = .pointer (some ⟨ob, 0, none⟩) := H.old 5 rfl h5
    refine ⟨rfl, fun K hK => ?_⟩
    refine wp_eq (v := .pointer (some ⟨ob, 1, none⟩)) (w' := w') ?_ (hK _ w' (fun _ _ => ⟨rfl, trivial⟩) (fun _ _ _ _ h => h) (hJ.skip (by decide) (by decide)))
    simp [go_sem, e5]
  · intro listed a' w' hl H hJ
    have e43 : a'.tmps[43]?.getD undef = .pointer (some ⟨ob, 1, none⟩) := (H.is 13 43 rfl rfl rfl).1
    refine ⟨rfl, fun K hK => ?_⟩
    have hc := hJ.o1
    refine wp_eq (v := .int .i64 at_) (w' := w') ?_ (hK _ w' (fun _ _ => ⟨rfl, trivial⟩) (fun _ _ _ _ h => h) (hJ.skip (by decide) (by decide)))
    simp [go_sem, e43, hc]
  · intro listed a' w' hl H hJ
    have e5 : a'.tmps[5]?.getD undef = .pointer (some ⟨ob, 0, none⟩) := H.old 5 rfl h5
    refine ⟨rfl, fun K hK => ?_⟩
    refine wp_eq (v := .pointer (some ⟨ob, 3, none⟩)) (w' := w') ?_ (hK _ w' (fun _ _ => ⟨rfl, trivial⟩) (fun _ _ _ _ h => h) (hJ.skip (by decide) (by decide)))
    simp [go_sem, e5]
  · intro listed a' w' hl H hJ
    have e45 : a'.tmps[45]?.getD undef = .pointer (some ⟨ob, 3, none⟩) := (H.is 15 45 rfl rfl rfl).1
    refine ⟨rfl, fun K hK => ?_⟩
    have hc := hJ.o3
    refine wp_eq (v := bv) (w' := w') ?_ (hK _ w' (fun _ _ => ⟨rfl, trivial⟩) (fun _ _ _ _ h => h) (hJ.skip (by decide) (by decide)))
    simp [go_sem, e45, hc]
  · intro listed a' w' hl H hJ
    have e42 : a'.tmps[42]?.getD undef = .pointer (some ⟨f.g, 0, none⟩) := (H.is 12 42 rfl rfl rfl).1
    have e44 : a'.tmps[44]?.getD undef = .int .i64 at_ := (H.is 14 44 rfl rfl rfl).1
    have e46 : a'.tmps[46]?.getD undef = bv := (H.is 16 46 rfl rfl rfl).1
    refine ⟨rfl, fun K hK => ?_⟩
    have hJ0 := (JL.noB hJ (not_yet hl))
    have hW := rwrite_c B f D M w' hok hlo (by omega) hJ0 at_ bv xs (hJ.all.rd hbvI hbv) (fun b hb hn hf => by have := hbv b hb hn; have := (hJ0.foot b hf).1; omega) (fun y hy => by have := hJ.all.fx y hy; have := hJ.size; omega)
    refine wp_enter (f := 34) (args := #[.pointer (some ⟨f.g, 0, none⟩), .int .i64 at_, bv]) (w' := w') (R := fun v w2 => v = .int .i64 (dwrite D at_ xs).1 ∧ RAt B w2 f (dwrite D at_ xs).2 ∧ Kp f.has w' w2) ?_ (hW.mono fun e w2 h => by obtain ⟨rfl, h1, h2⟩ := h; exact ⟨_, rfl, rfl, h1, h2⟩) ?_
    · simp [go_sem, e42, e44, e46]
    · rintro v w2 ⟨rfl, h1, h2⟩
      have hgf : GF S0 w' w2 := GF.of_kp h2 (fun b hb => hJ.flt b hb)
      exact hK _ w2 (fun _ _ => ⟨rfl, trivial⟩) (fun j y _ _ hF => ⟨hF.1, GP5.mono cg cc k S0 xs hF.2 hgf⟩) (JL.rwrite hJ hl h1 h2)
  · intro listed a' w' hl H hJ
    have e41 : a'.tmps[41]?.getD undef = .int .i64 (dwrite D at_ xs).1 := (H.is 11 41 rfl rfl rfl).1
    have e47 : a'.tmps[47]?.getD undef = .int .i64 (dwrite D at_ xs).1 := (H.is 17 47 rfl rfl rfl).1
    refine ⟨rfl, fun K hK => ?_⟩
    refine wp_eq (v := .bool true) (w' := w') ?_ (hK _ w' (fun _ _ => ⟨rfl, trivial⟩) (fun _ _ _ _ h => h) (hJ.skip (by decide) (by decide)))
    simp [go_sem, e41, e47]
  · intro listed a' w' hl H hJ
    have e48 : a'.tmps[48]?.getD undef = .bool true := (H.is 18 48 rfl rfl rfl).1
    refine ⟨rfl, fun K hK => ?_⟩
    refine wp_eq (v := .bool true) (w' := w') ?_ (hK _ w' (fun _ _ => ⟨rfl, trivial⟩) (fun _ _ _ _ h => h) (hJ.skip (by decide) (by decide)))
    simp [go_sem, e48]
  · intro listed a' w' hl H hJ
    have e7 : a'.tmps[7]?.getD undef = .slice (some ⟨cg, 0, none⟩) xs.length cc := H.old 7 rfl h7
    have eg : a'.tmps[49]?.getD undef = .bool true := (H.is 19 49 rfl rfl rfl).1
    refine ⟨wanted_of rfl rfl rfl eg, fun K hK => ?_⟩
    refine wp_eq (v := .slice (some ⟨cg, 0, none⟩) xs.length cc) (w' := w') ?_ (hK _ w' (fun _ _ => ⟨rfl, trivial⟩) (fun _ _ _ _ h => h) (hJ.skip (by decide) (by decide)))
    simp [go_sem, e7]
  · intro listed a' w' hl H hJ
    have e5 : a'.tmps[5]?.getD undef = .pointer (some ⟨ob, 0, none⟩) := H.old 5 rfl h5
    have eg : a'.tmps[49]?.getD undef = .bool true := (H.is 19 49 rfl rfl rfl).1
    refine ⟨wanted_of rfl rfl rfl eg, fun K hK => ?_⟩
    refine wp_eq (v := .pointer (some ⟨ob, 3, none⟩)) (w' := w') ?_ (hK _ w' (fun _ _ => ⟨rfl, trivial⟩) (fun _ _ _ _ h => h) (hJ.skip (by decide) (by decide)))
    simp [go_sem, e5]
  · intro listed a' w' hl H hJ
    have e51 : a'.tmps[51]?.getD undef = .pointer (some ⟨ob, 3, none⟩) := (H.is 21 51 rfl rfl rfl).1
    have eg : a'.tmps[49]?.getD undef = .bool true := (H.is 19 49 rfl rfl rfl).1
    refine ⟨wanted_of rfl rfl rfl eg, fun K hK => ?_⟩
    have hc := hJ.o3
    refine wp_eq (v := bv) (w' := w') ?_ (hK _ w' (fun _ _ => ⟨rfl, trivial⟩) (fun _ _ _ _ h => h) (hJ.skip (by decide) (by decide)))
    simp [go_sem, e51, hc]
  · intro listed a' w' hl H hJ
    have e50 : a'.tmps[50]?.getD undef = .slice (some ⟨cg, 0, none⟩) xs.length cc := (H.is 20 50 rfl rfl rfl).1
    have e52 : a'.tmps[52]?.getD undef = bv := (H.is 22 52 rfl rfl rfl).1
    have eg : a'.tmps[49]?.getD undef = .bool true := (H.is 19 49 rfl rfl rfl).1
    refine ⟨wanted_of rfl rfl rfl eg, fun K hK => ?_⟩
    refine wp_enter (f := 35) (args := #[.slice (some ⟨cg, 0, none⟩) xs.length cc, bv]) (w' := w') (R := fun v w2 => v = .bool true ∧ w' = w2) ?_ ((kept_c B cg cc bv xs w' hJ.row (hJ.all.rd hbvI hbv) hxl).mono fun e w2 h => by obtain ⟨rfl, rfl⟩ := h; exact ⟨_, rfl, rfl, rfl⟩) ?_
    · simp [go_sem, e50, e52]
    · rintro v w2 ⟨rfl, rfl⟩
      exact hK _ _ (fun _ _ => ⟨rfl, trivial⟩) (fun _ _ _ _ h => h) (hJ.skip (by decide) (by decide))
  · intro listed a' w' hl H hJ
    have e49 : a'.tmps[49]?.getD undef = .bool true := (H.is 19 49 rfl rfl rfl).1
    have e53 : a'.tmps[53]?.getD undef = .bool true := (H.is 23 53 rfl rfl rfl).1
    refine ⟨rfl, fun K hK => ?_⟩
    refine wp_eq (v := .bool true) (w' := w') ?_ (hK _ w' (fun _ _ => ⟨rfl, trivial⟩) (fun _ _ _ _ h => h) (hJ.skip (by decide) (by decide)))
    simp [go_sem, e49, e53]
  · intro listed a' w' hl H hJ
    have e54 : a'.tmps[54]?.getD undef = .bool true := (H.is 24 54 rfl rfl rfl).1
    refine ⟨rfl, fun K hK => ?_⟩
    refine wp_eq (v := .bool true) (w' := w') ?_ (hK _ w' (fun _ _ => ⟨rfl, trivial⟩) (fun _ _ _ _ h => h) (hJ.skip (by decide) (by decide)))
    simp [go_sem, e54]
  · intro listed u w' hF hall hJ
    exact hend u w' (hF 25 _ 9 rfl rfl).1 (hJ.end_ (hall 10 (by decide)) (hall 17 (by decide)))

end Go.Proofs.Ytbcafhhheileeaa
