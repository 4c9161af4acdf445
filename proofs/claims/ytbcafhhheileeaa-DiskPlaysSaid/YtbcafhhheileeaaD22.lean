/-
  Part of the proofs of DiskOwns, DiskPlays, SlotPlays: contracts of the device and what they need.
  Conditions: those that each theorem names.
-/
import Derived.Test.YtbcafhhheileeaaD21
namespace Go.Proofs.Ytbcafhhheileeaa
open Go.RowKit
set_option maxRecDepth 100000

structure JO (B S0 d : Nat) (D : Dev) (n : Int) (gx cx gy cy gb : Nat) (wI : World) (listed : Array Bool) (w : World) : Prop where
  dr : DRep B w d D
  bel : Below B wI w
  size : S0 ≤ w.heap.size
  base : B ≤ w.heap.size
  rows : listed.getD 19 false = false → Row1 B w gx cx 512 (fl n) ∧ Row1 B w gy cy 512 (fl n) ∧ ∃ ys, Row1 B w gb 512 512 ys
section
variable {B S0 d : Nat} {D : Dev} {n : Int} {gx cx gy cy gb : Nat} {wI w w' : World} {listed : Array Bool} {i : Nat}
theorem JO.skip (h : JO B S0 d D n gx cx gy cy gb wI listed w) (hi : i ≠ 19) : JO B S0 d D n gx cx gy cy gb wI (listed.setIfInBounds i true) w :=
  ⟨h.dr, h.bel, h.size, h.base, by rw [set_ne hi]; exact h.rows⟩
theorem JO.below (h : JO B S0 d D n gx cx gy cy gb wI listed w) (hi : i ≠ 19) (hb : Below w.heap.size w w') : JO B S0 d D n gx cx gy cy gb wI (listed.setIfInBounds i true) w' :=
  ⟨h.dr.below hb, h.bel.trans (hb.mono h.base), Nat.le_trans h.size hb.size, Nat.le_trans h.base hb.size, by
    rw [set_ne hi]
    intro hl
    obtain ⟨h1, h2, ys, h3⟩ := h.rows hl
    have hk : Kp (fun _ => False) w w' := Kp.of_below hb
    exact ⟨h1.kp hk (fun h => h), h2.kp hk (fun h => h), ys, h3.kp hk (fun h => h)⟩⟩
theorem JO.start (h : JO B S0 d D n gx cx gy cy gb wI listed w) : JO B S0 d D n gx cx gy cy gb wI listed w.drew :=
  ⟨h.dr.drew, below_drewN h.bel 1, h.size, h.base, h.rows⟩
theorem row_tag {g c m : Nat} {xs : List Int} (h : Row1 B w g c m xs) (o : Obj) (ho : w.heap[g]? = some o) : tagD o = false := by
  rcases h.2 with ⟨h2, _⟩ | ⟨g', cap', cur, he, h3, h4, _⟩
  · cases h2
  · injection he with he1 _ _
    injection he1 with he1
    injection he1 with he1
    subst he1
    rw [ho] at h4
    injection h4 with h4
    subst h4
    rfl
theorem JO.apart (h : JO B S0 d D n gx cx gy cy gb wI listed w) (hl : listed.getD 19 true = false) (hk : Kp (isRow [(gx, cx), (gy, cy), (gb, 512)]) w w') : JO B S0 d D n gx cx gy cy gb wI (listed.setIfInBounds 19 true) w' := by
  obtain ⟨h1, h2, ys, h3⟩ := h.rows (not_yet hl)
  refine ⟨h.dr.kp hk fun b o hb ho => ?_, h.bel.trans (hk.below (fun b hb => ?_) h.base), Nat.le_trans h.size hk.size, Nat.le_trans h.base hk.size, fun hc => by rw [set_self hl] at hc; cases hc⟩
  · obtain ⟨s, hs, rfl⟩ := hb
    simp only [List.mem_cons, List.not_mem_nil, or_false] at hs
    rcases hs with rfl | rfl | rfl
    · exact row_tag h1 o ho
    · exact row_tag h2 o ho
    · exact row_tag h3 o ho
  · obtain ⟨s, hs, rfl⟩ := hb
    simp only [List.mem_cons, List.not_mem_nil, or_false] at hs
    rcases hs with rfl | rfl | rfl
    · exact h1.lt.2
    · exact h2.lt.2
    · exact h3.lt.2
end
theorem GO10a {S0 : Nat} {v : Value} {xs : List Int} {w w' : World} (h : RdB w v xs ∧ ∃ b, v = .slice (some ⟨b, 0, none⟩) 512 512 ∧ S0 ≤ b) (hb : Kp (fun b => b < S0) w w') : RdB w' v xs ∧ ∃ b, v = .slice (some ⟨b, 0, none⟩) 512 512 ∧ S0 ≤ b := by
  obtain ⟨h1, b, rfl, h2⟩ := h
  exact ⟨RdV.kp h1 hb (fun b' hb' _ hlt => by simp [Value.ownBlock] at hb'; omega), b, rfl, h2⟩
theorem GO10b {S0 : Nat} {v u0 u1 u2 : Value} {w w' : World} (h : ∃ b, v = .slice (some ⟨b, 0, none⟩) 3 3 ∧ S0 ≤ b ∧ w.cell? ⟨b, 0, none⟩ = some u0 ∧ w.cell? ⟨b, 0 + 1, none⟩ = some u1 ∧ w.cell? ⟨b, 0 + 2, none⟩ = some u2) (hb : Kp (fun b => b < S0) w w') :
    ∃ b, v = .slice (some ⟨b, 0, none⟩) 3 3 ∧ S0 ≤ b ∧ w'.cell? ⟨b, 0, none⟩ = some u0 ∧ w'.cell? ⟨b, 0 + 1, none⟩ = some u1 ∧ w'.cell? ⟨b, 0 + 2, none⟩ = some u2 := by
  obtain ⟨b, rfl, h2, c0, c1, c2⟩ := h
  have hkb : w'.heap[b]? = w.heap[b]? := hb.keep b (World.block_lt_of_cell? _ _ c0) (by omega)
  exact ⟨b, rfl, h2, by rw [World.cell?_of_block hkb]; exact c0, by rw [World.cell?_of_block hkb]; exact c1, by rw [World.cell?_of_block hkb]; exact c2⟩

def opsO10 : Array Oper := #[{ dst := some 43, op := Op.move (Operand.tmp 4), type := 25, pos := "law.go:229", after := #[], guard := none }, { dst := some 44, op := Op.binOp BinOp.neq 25 (Operand.tmp 43) (Operand.const Value.nilIface) 25, type := 4, pos := "law.go:229", after := #[{ on := 0, ground := Ground.data }], guard := none }, { dst := some 45, op := Op.move (Operand.tmp 44), type := 4, pos := "law.go:229", after := #[{ on := 1, ground := Ground.data }], guard := none }, { dst := some 46, op := Op.move (Operand.tmp 8), type := 25, pos := "law.go:229", after := #[{ on := 2, ground := Ground.guard }], guard := some (2, false) }, { dst := some 47, op := Op.binOp BinOp.neq 25 (Operand.tmp 46) (Operand.const Value.nilIface) 25, type := 4, pos := "law.go:229", after := #[{ on := 3, ground := Ground.data }, { on := 2, ground := Ground.guard }], guard := some (2, false) }, { dst := some 48, op := Op.pick (Operand.tmp 45) (Operand.const (Value.bool true)) (Operand.tmp 47), type := 4, pos := "law.go:229", after := #[{ on := 2, ground := Ground.data }, { on := 4, ground := Ground.data }], guard := none }, { dst := some 49, op := Op.move (Operand.tmp 48), type := 4, pos := "law.go:229", after := #[{ on := 5, ground := Ground.data }, { on := 2, ground := Ground.chain }], guard := none }, { dst := some 50, op := Op.move (Operand.tmp 6), type := 28, pos := "law.go:229", after := #[{ on := 6, ground := Ground.guard }], guard := some (6, false) }, { dst := some 51, op := Op.convert 28 9 (Operand.tmp 50), type := 9, pos := "law.go:229", after := #[{ on := 7, ground := Ground.data }, { on := 6, ground := Ground.guard }], guard := some (6, false) }, { dst := some 52, op := Op.move (Operand.tmp 0), type := 3, pos := "law.go:229", after := #[{ on := 6, ground := Ground.guard }], guard := some (6, false) }, { dst := some 53, op := Op.call { callee := Callee.value (Operand.func 8), args := #[Operand.tmp 52], argTypes := #[3] }, type := 28, pos := "law.go:229", after := #[{ on := 9, ground := Ground.data }, { on := 6, ground := Ground.chain }, { on := 6, ground := Ground.guard }], guard := some (6, false) }, { dst := some 54, op := Op.convert 28 9 (Operand.tmp 53), type := 9, pos := "law.go:229", after := #[{ on := 10, ground := Ground.data }, { on := 6, ground := Ground.guard }], guard := some (6, false) }, { dst := some 55, op := Op.binOp BinOp.neq 9 (Operand.tmp 51) (Operand.tmp 54) 9, type := 4, pos := "law.go:229", after := #[{ on := 8, ground := Ground.data }, { on := 11, ground := Ground.data }, { on := 6, ground := Ground.guard }], guard := some (6, false) }, { dst := some 56, op := Op.pick (Operand.tmp 49) (Operand.const (Value.bool true)) (Operand.tmp 55), type := 4, pos := "law.go:229", after := #[{ on := 6, ground := Ground.data }, { on := 12, ground := Ground.data }], guard := none }, { dst := some 57, op := Op.move (Operand.tmp 56), type := 4, pos := "law.go:229", after := #[{ on := 13, ground := Ground.data }, { on := 10, ground := Ground.chain }], guard := none }, { dst := some 58, op := Op.move (Operand.tmp 6), type := 28, pos := "law.go:229", after := #[{ on := 14, ground := Ground.guard }], guard := some (14, false) }, { dst := some 59, op := Op.move (Operand.tmp 7), type := 28, pos := "law.go:229", after := #[{ on := 14, ground := Ground.guard }], guard := some (14, false) }, { dst := some 60, op := Op.move (Operand.tmp 5), type := 28, pos := "law.go:229", after := #[{ on := 14, ground := Ground.guard }], guard := some (14, false) }, { dst := some 61, op := Op.buildSlice 35 3 #[(0, Operand.tmp 58), (1, Operand.tmp 59), (2, Operand.tmp 60)], type := 35, pos := "law.go:229", after := #[{ on := 15, ground := Ground.data }, { on := 16, ground := Ground.data }, { on := 17, ground := Ground.data }, { on := 14, ground := Ground.guard }], guard := some (14, false) }, { dst := some 62, op := Op.call { callee := Callee.value (Operand.func 12), args := #[Operand.tmp 61], argTypes := #[35] }, type := 4, pos := "law.go:229", after := #[{ on := 18, ground := Ground.data }, { on := 14, ground := Ground.chain }, { on := 14, ground := Ground.guard }], guard := some (14, false) }, { dst := some 63, op := Op.unOp UnOp.not 4 (Operand.tmp 62), type := 4, pos := "law.go:229", after := #[{ on := 19, ground := Ground.data }, { on := 14, ground := Ground.guard }], guard := some (14, false) }, { dst := some 64, op := Op.pick (Operand.tmp 57) (Operand.const (Value.bool true)) (Operand.tmp 63), type := 4, pos := "law.go:229", after := #[{ on := 14, ground := Ground.data }, { on := 20, ground := Ground.data }], guard := none }]
def VO10 (n : Int) (gx cx gy cy gb : Nat) : Nat → Value → Prop
  | 0, v => v = .nilIface
  | 1, v => v = .bool false
  | 2, v => v = .bool false
  | 3, v => v = .nilIface
  | 4, v => v = .bool false
  | 5, v => v = .bool false
  | 6, v => v = .bool false
  | 7, v => v = .slice (some ⟨gx, 0, none⟩) 512 cx
  | 8, v => v = .string (strOfNums (fl n))
  | 9, v => v = .int .i64 n
  | 11, v => v = .string (strOfNums (fl n))
  | 12, v => v = .bool false
  | 13, v => v = .bool false
  | 14, v => v = .bool false
  | 15, v => v = .slice (some ⟨gx, 0, none⟩) 512 cx
  | 16, v => v = .slice (some ⟨gy, 0, none⟩) 512 cy
  | 17, v => v = .slice (some ⟨gb, 0, none⟩) 512 512
  | 19, v => v = .bool true
  | 20, v => v = .bool false
  | 21, v => v = .bool false
  | _, _ => True
def GO10 (S0 : Nat) (n : Int) (gx cx gy cy gb : Nat) : Nat → Value → World → Prop
  | 10, v, w => RdB w v (fl n) ∧ ∃ b, v = .slice (some ⟨b, 0, none⟩) 512 512 ∧ S0 ≤ b
  | 18, v, w => ∃ b, v = .slice (some ⟨b, 0, none⟩) 3 3 ∧ S0 ≤ b ∧ w.cell? ⟨b, 0, none⟩ = some (.slice (some ⟨gx, 0, none⟩) 512 cx) ∧ w.cell? ⟨b, 0 + 1, none⟩ = some (.slice (some ⟨gy, 0, none⟩) 512 cy) ∧ w.cell? ⟨b, 0 + 2, none⟩ = some (.slice (some ⟨gb, 0, none⟩) 512 512)
  | _, _, _ => True
theorem GO10.mono (S0 : Nat) (n : Int) (gx cx gy cy gb : Nat) {j : Nat} {v : Value} {w w' : World} (h : GO10 S0 n gx cx gy cy gb j v w) (hb : Kp (fun b => b < S0) w w') : GO10 S0 n gx cx gy cy gb j v w' := by
  unfold GO10 at h ⊢
  split <;> first | exact trivial | exact GO10a h hb | exact GO10b h hb
set_option maxHeartbeats 4000000 in
theorem regionO10 {Q : Exit → Act → World → Prop} {a : Act} {w : World} (S0 d : Nat) (n : Int) (gx cx gy cy gb : Nat) (B : Nat) (D : Dev) (wI : World) (hs : a.tmps.size = 80) (h0 : a.tmps.getD 0 undef = .int .i64 n) (h4 : a.tmps.getD 4 undef = .nilIface) (h5 : a.tmps.getD 5 undef = .slice (some ⟨gb, 0, none⟩) 512 512) (h6 : a.tmps.getD 6 undef = .slice (some ⟨gx, 0, none⟩) 512 cx) (h7 : a.tmps.getD 7 undef = .slice (some ⟨gy, 0, none⟩) 512 cy) (h8 : a.tmps.getD 8 undef = .nilIface)
    (hxS : gx < S0) (hyS : gy < S0) (hbS : gb < S0) (hxy : gx ≠ gy) (hxb : gx ≠ gb) (hyb : gy ≠ gb) (hJ : JO B S0 d D n gx cx gy cy gb wI (Array.replicate 22 false) w)
    (hend : ∀ (u : Nat → Value) w', u 64 = .bool false → DRep B w' d D → Below B wI w' → Q .normal (putAll opsO10 u a) w') : (Code.region 10 opsO10 true).wp Try.prog Q a w := by
  refine wp_region_rule (by kernel_rfl) (fun i v w => VO10 n gx cx gy cy gb i v ∧ GO10 S0 n gx cx gy cy gb i v w) (fun listed W => JO B S0 d D n gx cx gy cy gb wI listed W) (by kernel_rfl) (by rw [hs]; kernel_rfl) ?_ (allOps ⟨?_, ?_, ?_, ?_, ?_, ?_, ?_, ?_, ?_, ?_, ?_, ?_, ?_, ?_, ?_, ?_, ?_, ?_, ?_, ?_, ?_, ?_, trivial⟩) ?_
  · exact hJ.start
  · intro listed a' w' hl H hJ
    have e4 : a'.tmps[4]?.getD undef = .nilIface := H.old 4 rfl h4
    refine ⟨rfl, fun K hK => ?_⟩
    refine wp_eq (v := .nilIface) (w' := w') ?_ (hK _ w' (fun _ _ => ⟨rfl, trivial⟩) (fun _ _ _ _ h => h) (hJ.skip (by decide)))
    simp [go_sem, e4]
  · intro listed a' w' hl H hJ
    have e43 : a'.tmps[43]?.getD undef = .nilIface := (H.is 0 43 rfl rfl rfl).1
    refine ⟨rfl, fun K hK => ?_⟩
    refine wp_eq (v := .bool false) (w' := w') ?_ (hK _ w' (fun _ _ => ⟨rfl, trivial⟩) (fun _ _ _ _ h => h) (hJ.skip (by decide)))
    simp [go_sem, e43]
  · intro listed a' w' hl H hJ
    have e44 : a'.tmps[44]?.getD undef = .bool false := (H.is 1 44 rfl rfl rfl).1
    refine ⟨rfl, fun K hK => ?_⟩
    refine wp_eq (v := .bool false) (w' := w') ?_ (hK _ w' (fun _ _ => ⟨rfl, trivial⟩) (fun _ _ _ _ h => h) (hJ.skip (by decide)))
    simp [go_sem, e44]
  · intro listed a' w' hl H hJ
    have e8 : a'.tmps[8]?.getD undef = .nilIface := H.old 8 rfl h8
    have eg : a'.tmps[45]?.getD undef = .bool false := (H.is 2 45 rfl rfl rfl).1
    refine ⟨wanted_of rfl rfl rfl eg, fun K hK => ?_⟩
    refine wp_eq (v := .nilIface) (w' := w') ?_ (hK _ w' (fun _ _ => ⟨rfl, trivial⟩) (fun _ _ _ _ h => h) (hJ.skip (by decide)))
    simp [go_sem, e8]
  · intro listed a' w' hl H hJ
    have e46 : a'.tmps[46]?.getD undef = .nilIface := (H.is 3 46 rfl rfl rfl).1
    have eg : a'.tmps[45]?.getD undef = .bool false := (H.is 2 45 rfl rfl rfl).1
    refine ⟨wanted_of rfl rfl rfl eg, fun K hK => ?_⟩
    refine wp_eq (v := .bool false) (w' := w') ?_ (hK _ w' (fun _ _ => ⟨rfl, trivial⟩) (fun _ _ _ _ h => h) (hJ.skip (by decide)))
    simp [go_sem, e46]
  · intro listed a' w' hl H hJ
    have e45 : a'.tmps[45]?.getD undef = .bool false := (H.is 2 45 rfl rfl rfl).1
    have e47 : a'.tmps[47]?.getD undef = .bool false := (H.is 4 47 rfl rfl rfl).1
    refine ⟨rfl, fun K hK => ?_⟩
    refine wp_eq (v := .bool false) (w' := w') ?_ (hK _ w' (fun _ _ => ⟨rfl, trivial⟩) (fun _ _ _ _ h => h) (hJ.skip (by decide)))
    simp [go_sem, e45, e47]
  · intro listed a' w' hl H hJ
    have e48 : a'.tmps[48]?.getD undef = .bool false := (H.is 5 48 rfl rfl rfl).1
    refine ⟨rfl, fun K hK => ?_⟩
    refine wp_eq (v := .bool false) (w' := w') ?_ (hK _ w' (fun _ _ => ⟨rfl, trivial⟩) (fun _ _ _ _ h => h) (hJ.skip (by decide)))
    simp [go_sem, e48]
  · intro listed a' w' hl H hJ
    have e6 : a'.tmps[6]?.getD undef = .slice (some ⟨gx, 0, none⟩) 512 cx := H.old 6 rfl h6
    have eg : a'.tmps[49]?.getD undef = .bool false := (H.is 6 49 rfl rfl rfl).1
    refine ⟨wanted_of rfl rfl rfl eg, fun K hK => ?_⟩
    refine wp_eq (v := .slice (some ⟨gx, 0, none⟩) 512 cx) (w' := w') ?_ (hK _ w' (fun _ _ => ⟨rfl, trivial⟩) (fun _ _ _ _ h => h) (hJ.skip (by decide)))
    simp [go_sem, e6]
  · intro listed a' w' hl H hJ
    have e50 : a'.tmps[50]?.getD undef = .slice (some ⟨gx, 0, none⟩) 512 cx := (H.is 7 50 rfl rfl rfl).1
    have eg : a'.tmps[49]?.getD undef = .bool false := (H.is 6 49 rfl rfl rfl).1
    refine ⟨wanted_of rfl rfl rfl eg, fun K hK => ?_⟩
    have ea : a'.eval (.tmp 50) = .slice (some ⟨gx, 0, none⟩) 512 cx := by simpa [Act.eval] using e50
    refine wp_eq (v := .string (strOfNums (fl n))) (w' := w') ?_ (hK _ w' (fun _ _ => ⟨rfl, trivial⟩) (fun _ _ _ _ h => h) (hJ.skip (by decide)))
    unfold execOp
    simp only [ea, Sem.run_bind, Sem.run_pure, conv_b (RdV.of_own (hJ.rows (H.before hl 19 [14, 13, 12, 8] (by kernel_rfl) rfl)).1), Result.andThen_ok]
  · intro listed a' w' hl H hJ
    have e0 : a'.tmps[0]?.getD undef = .int .i64 n := H.old 0 rfl h0
    have eg : a'.tmps[49]?.getD undef = .bool false := (H.is 6 49 rfl rfl rfl).1
    refine ⟨wanted_of rfl rfl rfl eg, fun K hK => ?_⟩
    refine wp_eq (v := .int .i64 n) (w' := w') ?_ (hK _ w' (fun _ _ => ⟨rfl, trivial⟩) (fun _ _ _ _ h => h) (hJ.skip (by decide)))
    simp [go_sem, e0]
  · intro listed a' w' hl H hJ
    have e52 : a'.tmps[52]?.getD undef = .int .i64 n := (H.is 9 52 rfl rfl rfl).1
    have eg : a'.tmps[49]?.getD undef = .bool false := (H.is 6 49 rfl rfl rfl).1
    refine ⟨wanted_of rfl rfl rfl eg, fun K hK => ?_⟩
    refine wp_enter (f := 8) (args := #[.int .i64 n]) (w' := w') (R := fun v w2 => (RdB w2 v (fl n) ∧ ∃ b, v = .slice (some ⟨b, 0, none⟩) 512 512 ∧ S0 ≤ b) ∧ Below w'.heap.size w' w2) ?_ ((full_c n w').mono fun e w2 h => by obtain ⟨rfl, h1, h2⟩ := h; exact ⟨_, rfl, ⟨full_rd h1, _, rfl, hJ.size⟩, h2⟩) ?_
    · simp [go_sem, e52]
    · rintro v w2 ⟨hr, hb⟩
      exact hK _ w2 (fun _ _ => ⟨trivial, hr⟩) (fun j u _ _ hF => ⟨hF.1, GO10.mono S0 n gx cx gy cy gb hF.2 (Kp.of_below hb)⟩) (hJ.below (by decide) hb)
  · intro listed a' w' hl H hJ
    have e53 := H.is 10 53 rfl rfl rfl
    have eg : a'.tmps[49]?.getD undef = .bool false := (H.is 6 49 rfl rfl rfl).1
    refine ⟨wanted_of rfl rfl rfl eg, fun K hK => ?_⟩
    have ea : a'.eval (.tmp 53) = a'.tmps[53]?.getD undef := by simp [Act.eval]
    refine wp_eq (v := .string (strOfNums (fl n))) (w' := w') ?_ (hK _ w' (fun _ _ => ⟨rfl, trivial⟩) (fun _ _ _ _ h => h) (hJ.skip (by decide)))
    unfold execOp
    simp only [ea, Sem.run_bind, Sem.run_pure, conv_b e53.2.1, Result.andThen_ok]
  · intro listed a' w' hl H hJ
    have e51 : a'.tmps[51]?.getD undef = .string (strOfNums (fl n)) := (H.is 8 51 rfl rfl rfl).1
    have e54 : a'.tmps[54]?.getD undef = .string (strOfNums (fl n)) := (H.is 11 54 rfl rfl rfl).1
    have eg : a'.tmps[49]?.getD undef = .bool false := (H.is 6 49 rfl rfl rfl).1
    refine ⟨wanted_of rfl rfl rfl eg, fun K hK => ?_⟩
    refine wp_eq (v := .bool false) (w' := w') ?_ (hK _ w' (fun _ _ => ⟨rfl, trivial⟩) (fun _ _ _ _ h => h) (hJ.skip (by decide)))
    simp [go_sem, e51, e54]
  · intro listed a' w' hl H hJ
    have e49 : a'.tmps[49]?.getD undef = .bool false := (H.is 6 49 rfl rfl rfl).1
    have e55 : a'.tmps[55]?.getD undef = .bool false := (H.is 12 55 rfl rfl rfl).1
    refine ⟨rfl, fun K hK => ?_⟩
    refine wp_eq (v := .bool false) (w' := w') ?_ (hK _ w' (fun _ _ => ⟨rfl, trivial⟩) (fun _ _ _ _ h => h) (hJ.skip (by decide)))
    simp [go_sem, e49, e55]
  · intro listed a' w' hl H hJ
    have e56 : a'.tmps[56]?.getD undef = .bool false := (H.is 13 56 rfl rfl rfl).1
    refine ⟨rfl, fun K hK => ?_⟩
    refine wp_eq (v := .bool false) (w' := w') ?_ (hK _ w' (fun _ _ => ⟨rfl, trivial⟩) (fun _ _ _ _ h => h) (hJ.skip (by decide)))
    simp [go_sem, e56]
  · intro listed a' w' hl H hJ
    have e6 : a'.tmps[6]?.getD undef = .slice (some ⟨gx, 0, none⟩) 512 cx := H.old 6 rfl h6
    have eg : a'.tmps[57]?.getD undef = .bool false := (H.is 14 57 rfl rfl rfl).1
    refine ⟨wanted_of rfl rfl rfl eg, fun K hK => ?_⟩
    refine wp_eq (v := .slice (some ⟨gx, 0, none⟩) 512 cx) (w' := w') ?_ (hK _ w' (fun _ _ => ⟨rfl, trivial⟩) (fun _ _ _ _ h => h) (hJ.skip (by decide)))
    simp [go_sem, e6]
  · intro listed a' w' hl H hJ
    have e7 : a'.tmps[7]?.getD undef = .slice (some ⟨gy, 0, none⟩) 512 cy := H.old 7 rfl h7
    have eg : a'.tmps[57]?.getD undef = .bool false := (H.is 14 57 rfl rfl rfl).1
    refine ⟨wanted_of rfl rfl rfl eg, fun K hK => ?_⟩
    refine wp_eq (v := .slice (some ⟨gy, 0, none⟩) 512 cy) (w' := w') ?_ (hK _ w' (fun _ _ => ⟨rfl, trivial⟩) (fun _ _ _ _ h => h) (hJ.skip (by decide)))
    simp [go_sem, e7]
  · intro listed a' w' hl H hJ
    have e5 : a'.tmps[5]?.getD undef = .slice (some ⟨gb, 0, none⟩) 512 512 := H.old 5 rfl h5
    have eg : a'.tmps[57]?.getD undef = .bool false := (H.is 14 57 rfl rfl rfl).1
    refine ⟨wanted_of rfl rfl rfl eg, fun K hK => ?_⟩
    refine wp_eq (v := .slice (some ⟨gb, 0, none⟩) 512 512) (w' := w') ?_ (hK _ w' (fun _ _ => ⟨rfl, trivial⟩) (fun _ _ _ _ h => h) (hJ.skip (by decide)))
    simp [go_sem, e5]
  · intro listed a' w' hl H hJ
    have e58 : a'.tmps[58]?.getD undef = .slice (some ⟨gx, 0, none⟩) 512 cx := (H.is 15 58 rfl rfl rfl).1
    have e59 : a'.tmps[59]?.getD undef = .slice (some ⟨gy, 0, none⟩) 512 cy := (H.is 16 59 rfl rfl rfl).1
    have e60 : a'.tmps[60]?.getD undef = .slice (some ⟨gb, 0, none⟩) 512 512 := (H.is 17 60 rfl rfl rfl).1
    have eg : a'.tmps[57]?.getD undef = .bool false := (H.is 14 57 rfl rfl rfl).1
    refine ⟨wanted_of rfl rfl rfl eg, fun K hK => ?_⟩
    refine wp_eq (v := .slice (some ⟨w'.heap.size, 0, none⟩) 3 3) (w' := w'.alloc (.cells #[.slice (some ⟨gx, 0, none⟩) 512 cx, .slice (some ⟨gy, 0, none⟩) 512 cy, .slice (some ⟨gb, 0, none⟩) 512 512] 28)) ?_ ?_
    · simp [go_sem, e58, e59, e60]
    · have hal : Below w'.heap.size w' (w'.alloc (.cells #[.slice (some ⟨gx, 0, none⟩) 512 cx, .slice (some ⟨gy, 0, none⟩) 512 cy, .slice (some ⟨gb, 0, none⟩) 512 512] 28)) := (Below.refl _ _).alloc (Nat.le_refl _) _
      have hb := hal
      have hcl := (MapKept.heap_alloc w' (.cells #[.slice (some ⟨gx, 0, none⟩) 512 cx, .slice (some ⟨gy, 0, none⟩) 512 cy, .slice (some ⟨gb, 0, none⟩) 512 512] 28)).1
      exact hK _ _ (fun _ _ => ⟨trivial, w'.heap.size, rfl, hJ.size, by rw [cell_blk hcl]; rfl, by rw [cell_blk hcl]; rfl, by rw [cell_blk hcl]; rfl⟩) (fun j u _ _ hF => ⟨hF.1, GO10.mono S0 n gx cx gy cy gb hF.2 (Kp.of_below hb)⟩) (hJ.below (by decide) hal)
  · intro listed a' w' hl H hJ
    have e61 := H.is 18 61 rfl rfl rfl
    have eg : a'.tmps[57]?.getD undef = .bool false := (H.is 14 57 rfl rfl rfl).1
    refine ⟨wanted_of rfl rfl rfl eg, fun K hK => ?_⟩
    obtain ⟨vb, hvv, hvb, hc0, hc1, hc2⟩ := e61.2
    have e61' := e61.1
    clear e61
    have hrows := hJ.rows (not_yet hl)
    have hK2 := apart_c B vb 0 3 3 [(gx, cx), (gy, cy), (gb, 512)] w' rfl (by omega) (World.block_lt_of_cell? _ _ hc0) (fun i hi => ?_) (fun h => ?_) (fun j hj => ?_) (fun i j hi hj hij => ?_)
    · refine wp_enter (f := 12) (args := #[.slice (some ⟨vb, 0, none⟩) 3 3]) (w' := w') (R := fun v w2 => v = .bool true ∧ Kp (isRow [(gx, cx), (gy, cy), (gb, 512)]) w' w2) ?_ (hK2.mono fun e w2 h => by obtain ⟨rfl, h2⟩ := h; exact ⟨_, rfl, rfl, h2⟩) ?_
      · simp [go_sem, hvv]
      · rintro v w2 ⟨rfl, hk⟩
        have hk3 : Kp (fun b => b < S0) w' w2 := hk.mono (fun b _ hb => by
          obtain ⟨s, hs, rfl⟩ := hb
          simp only [List.mem_cons, List.not_mem_nil, or_false] at hs
          rcases hs with rfl | rfl | rfl <;> assumption)
        exact hK _ w2 (fun _ _ => ⟨rfl, trivial⟩) (fun j u _ _ hF => ⟨hF.1, GO10.mono S0 n gx cx gy cy gb hF.2 hk3⟩) (hJ.apart hl hk)
    · match i, hi with
      | 0, _ => exact hc0
      | 1, _ => exact hc1
      | 2, _ => exact hc2
    · obtain ⟨s, hs, he⟩ := h
      simp only [List.mem_cons, List.not_mem_nil, or_false] at hs
      rcases hs with rfl | rfl | rfl <;> (dsimp only at he; omega)
    · match j, hj with
      | 0, _ => exact ⟨_, hrows.1⟩
      | 1, _ => exact ⟨_, hrows.2.1⟩
      | 2, _ => exact hrows.2.2
    · match i, j, hi, hj with
      | 0, 0, _, _ => exact absurd rfl hij
      | 0, 1, _, _ => exact hxy
      | 0, 2, _, _ => exact hxb
      | 1, 0, _, _ => exact fun e => hxy e.symm
      | 1, 1, _, _ => exact absurd rfl hij
      | 1, 2, _, _ => exact hyb
      | 2, 0, _, _ => exact fun e => hxb e.symm
      | 2, 1, _, _ => exact fun e => hyb e.symm
      | 2, 2, _, _ => exact absurd rfl hij
  · intro listed a' w' hl H hJ
    have e62 : a'.tmps[62]?.getD undef = .bool true := (H.is 19 62 rfl rfl rfl).1
    have eg : a'.tmps[57]?.getD undef = .bool false := (H.is 14 57 rfl rfl rfl).1
    refine ⟨wanted_of rfl rfl rfl eg, fun K hK => ?_⟩
    refine wp_eq (v := .bool false) (w' := w') ?_ (hK _ w' (fun _ _ => ⟨rfl, trivial⟩) (fun _ _ _ _ h => h) (hJ.skip (by decide)))
    simp [go_sem, e62]
  · intro listed a' w' hl H hJ
    have e57 : a'.tmps[57]?.getD undef = .bool false := (H.is 14 57 rfl rfl rfl).1
    have e63 : a'.tmps[63]?.getD undef = .bool false := (H.is 20 63 rfl rfl rfl).1
    refine ⟨rfl, fun K hK => ?_⟩
    refine wp_eq (v := .bool false) (w' := w') ?_ (hK _ w' (fun _ _ => ⟨rfl, trivial⟩) (fun _ _ _ _ h => h) (hJ.skip (by decide)))
    simp [go_sem, e57, e63]
  · intro listed u w' hF hall hJ
    exact hend u w' (hF 21 _ 64 rfl rfl).1 hJ.dr hJ.bel

def opsO13 : Array Oper := #[{ dst := some 70, op := Op.move (Operand.tmp 4), type := 25, pos := "law.go:233", after := #[], guard := none }, { dst := some 71, op := Op.binOp BinOp.eql 25 (Operand.tmp 70) (Operand.const Value.nilIface) 25, type := 4, pos := "law.go:233", after := #[{ on := 0, ground := Ground.data }], guard := none }, { dst := some 72, op := Op.move (Operand.tmp 71), type := 4, pos := "law.go:233", after := #[{ on := 1, ground := Ground.data }], guard := none }, { dst := some 73, op := Op.move (Operand.tmp 9), type := 28, pos := "law.go:233", after := #[{ on := 2, ground := Ground.guard }], guard := some (2, true) }, { dst := some 74, op := Op.convert 28 9 (Operand.tmp 73), type := 9, pos := "law.go:233", after := #[{ on := 3, ground := Ground.data }, { on := 2, ground := Ground.guard }], guard := some (2, true) }, { dst := some 75, op := Op.move (Operand.tmp 0), type := 3, pos := "law.go:233", after := #[{ on := 2, ground := Ground.guard }], guard := some (2, true) }, { dst := some 76, op := Op.call { callee := Callee.value (Operand.func 8), args := #[Operand.tmp 75], argTypes := #[3] }, type := 28, pos := "law.go:233", after := #[{ on := 5, ground := Ground.data }, { on := 2, ground := Ground.chain }, { on := 2, ground := Ground.guard }], guard := some (2, true) }, { dst := some 77, op := Op.convert 28 9 (Operand.tmp 76), type := 9, pos := "law.go:233", after := #[{ on := 6, ground := Ground.data }, { on := 2, ground := Ground.guard }], guard := some (2, true) }, { dst := some 78, op := Op.binOp BinOp.eql 9 (Operand.tmp 74) (Operand.tmp 77) 9, type := 4, pos := "law.go:233", after := #[{ on := 4, ground := Ground.data }, { on := 7, ground := Ground.data }, { on := 2, ground := Ground.guard }], guard := some (2, true) }, { dst := some 79, op := Op.pick (Operand.tmp 72) (Operand.tmp 78) (Operand.const (Value.bool false)), type := 4, pos := "law.go:233", after := #[{ on := 2, ground := Ground.data }, { on := 8, ground := Ground.data }], guard := none }, { dst := some 2, op := Op.assign (Operand.tmp 79), type := 4, pos := "law.go:233", after := #[{ on := 9, ground := Ground.data }, { on := 6, ground := Ground.chain }, { on := 0, ground := Ground.phase }, { on := 1, ground := Ground.phase }, { on := 2, ground := Ground.phase }, { on := 3, ground := Ground.phase }, { on := 4, ground := Ground.phase }, { on := 5, ground := Ground.phase }, { on := 6, ground := Ground.phase }, { on := 7, ground := Ground.phase }, { on := 8, ground := Ground.phase }, { on := 9, ground := Ground.phase }], guard := none }]
def VO13 (n : Int) (vz : Value) : Nat → Value → Prop
  | 0, v => v = .nilIface
  | 1, v => v = .bool true
  | 2, v => v = .bool true
  | 3, v => v = vz
  | 4, v => v = .string (strOfNums (fl n))
  | 5, v => v = .int .i64 n
  | 7, v => v = .string (strOfNums (fl n))
  | 8, v => v = .bool true
  | 9, v => v = .bool true
  | 10, v => v = .bool true
  | _, _ => True
def GO13 (n : Int) : Nat → Value → World → Prop
  | 6, v, w => RdB w v (fl n)
  | _, _, _ => True
theorem GO13.mono (n : Int) {j : Nat} {v : Value} {w w' : World} (h : GO13 n j v w) (hb : Below w.heap.size w w') : GO13 n j v w' := by
  unfold GO13 at h ⊢
  split <;> first | exact trivial | exact GMono h hb
set_option maxHeartbeats 4000000 in
theorem regionO13 {Q : Exit → Act → World → Prop} {a : Act} {w : World} (n : Int) (vz : Value) (B : Nat) (wI : World) (hs : a.tmps.size = 80) (h0 : a.tmps.getD 0 undef = .int .i64 n) (h4 : a.tmps.getD 4 undef = .nilIface) (h9 : a.tmps.getD 9 undef = vz)
    (hJ : RdB w vz (fl n)) (hbI : Below B wI w) (hB : B ≤ w.heap.size)
    (hend : ∀ (u : Nat → Value) w', u 2 = .bool true → Below B wI w' → Q .normal (putAll opsO13 u a) w') : (Code.region 13 opsO13 true).wp Try.prog Q a w := by
  refine wp_region_rule (by kernel_rfl) (fun i v w => VO13 n vz i v ∧ GO13 n i v w) (fun _ W => RdB W vz (fl n) ∧ Below B wI W ∧ B ≤ W.heap.size) (by kernel_rfl) (by rw [hs]; kernel_rfl) ?_ (allOps ⟨?_, ?_, ?_, ?_, ?_, ?_, ?_, ?_, ?_, ?_, ?_, trivial⟩) ?_
  · exact ⟨RdB.drew hJ, below_drewN hbI 1, hB⟩
  · intro listed a' w' hl H hJ
    have e4 : a'.tmps[4]?.getD undef = .nilIface := H.old 4 rfl h4
    refine ⟨rfl, fun K hK => ?_⟩
    refine wp_eq (v := .nilIface) (w' := w') ?_ (hK _ w' (fun _ _ => ⟨rfl, trivial⟩) (fun _ _ _ _ h => h) hJ)
    simp [go_sem, e4]
  · intro listed a' w' hl H hJ
    have e70 : a'.tmps[70]?.getD undef = .nilIface := (H.is 0 70 rfl rfl rfl).1
    refine ⟨rfl, fun K hK => ?_⟩
    refine wp_eq (v := .bool true) (w' := w') ?_ (hK _ w' (fun _ _ => ⟨rfl, trivial⟩) (fun _ _ _ _ h => h) hJ)
    simp [go_sem, e70]
  · intro listed a' w' hl H hJ
    have e71 : a'.tmps[71]?.getD undef = .bool true := (H.is 1 71 rfl rfl rfl).1
    refine ⟨rfl, fun K hK => ?_⟩
    refine wp_eq (v := .bool true) (w' := w') ?_ (hK _ w' (fun _ _ => ⟨rfl, trivial⟩) (fun _ _ _ _ h => h) hJ)
    simp [go_sem, e71]
  · intro listed a' w' hl H hJ
    have e9 : a'.tmps[9]?.getD undef = vz := H.old 9 rfl h9
    have eg : a'.tmps[72]?.getD undef = .bool true := (H.is 2 72 rfl rfl rfl).1
    refine ⟨wanted_of rfl rfl rfl eg, fun K hK => ?_⟩
    refine wp_eq (v := vz) (w' := w') ?_ (hK _ w' (fun _ _ => ⟨rfl, trivial⟩) (fun _ _ _ _ h => h) hJ)
    simp [go_sem, e9]
  · intro listed a' w' hl H hJ
    have e73 : a'.tmps[73]?.getD undef = vz := (H.is 3 73 rfl rfl rfl).1
    have eg : a'.tmps[72]?.getD undef = .bool true := (H.is 2 72 rfl rfl rfl).1
    refine ⟨wanted_of rfl rfl rfl eg, fun K hK => ?_⟩
    have ea : a'.eval (.tmp 73) = vz := by simpa [Act.eval] using e73
    refine wp_eq (v := .string (strOfNums (fl n))) (w' := w') ?_ (hK _ w' (fun _ _ => ⟨rfl, trivial⟩) (fun _ _ _ _ h => h) hJ)
    unfold execOp
    simp only [ea, Sem.run_bind, Sem.run_pure, conv_b hJ.1, Result.andThen_ok]
  · intro listed a' w' hl H hJ
    have e0 : a'.tmps[0]?.getD undef = .int .i64 n := H.old 0 rfl h0
    have eg : a'.tmps[72]?.getD undef = .bool true := (H.is 2 72 rfl rfl rfl).1
    refine ⟨wanted_of rfl rfl rfl eg, fun K hK => ?_⟩
    refine wp_eq (v := .int .i64 n) (w' := w') ?_ (hK _ w' (fun _ _ => ⟨rfl, trivial⟩) (fun _ _ _ _ h => h) hJ)
    simp [go_sem, e0]
  · intro listed a' w' hl H hJ
    have e75 : a'.tmps[75]?.getD undef = .int .i64 n := (H.is 5 75 rfl rfl rfl).1
    have eg : a'.tmps[72]?.getD undef = .bool true := (H.is 2 72 rfl rfl rfl).1
    refine ⟨wanted_of rfl rfl rfl eg, fun K hK => ?_⟩
    refine wp_enter (f := 8) (args := #[.int .i64 n]) (w' := w') (R := fun v w2 => RdB w2 v (fl n) ∧ Below w'.heap.size w' w2) ?_ ((full_c n w').mono fun e w2 h => by obtain ⟨rfl, h1, h2⟩ := h; exact ⟨_, rfl, full_rd h1, h2⟩) ?_
    · simp [go_sem, e75]
    · rintro v w2 ⟨hr, hb⟩
      exact hK _ w2 (fun _ _ => ⟨trivial, hr⟩) (fun j u _ _ hF => ⟨hF.1, GO13.mono n hF.2 hb⟩) ⟨RdV.below hJ.1 hb, hJ.2.1.trans (hb.mono hJ.2.2), Nat.le_trans hJ.2.2 hb.size⟩
  · intro listed a' w' hl H hJ
    have e76 := H.is 6 76 rfl rfl rfl
    have eg : a'.tmps[72]?.getD undef = .bool true := (H.is 2 72 rfl rfl rfl).1
    refine ⟨wanted_of rfl rfl rfl eg, fun K hK => ?_⟩
    have ea : a'.eval (.tmp 76) = a'.tmps[76]?.getD undef := by simp [Act.eval]
    refine wp_eq (v := .string (strOfNums (fl n))) (w' := w') ?_ (hK _ w' (fun _ _ => ⟨rfl, trivial⟩) (fun _ _ _ _ h => h) hJ)
    unfold execOp
    simp only [ea, Sem.run_bind, Sem.run_pure, conv_b e76.2, Result.andThen_ok]
  · intro listed a' w' hl H hJ
    have e74 : a'.tmps[74]?.getD undef = .string (strOfNums (fl n)) := (H.is 4 74 rfl rfl rfl).1
    have e77 : a'.tmps[77]?.getD undef = .string (strOfNums (fl n)) := (H.is 7 77 rfl rfl rfl).1
    have eg : a'.tmps[72]?.getD undef = .bool true := (H.is 2 72 rfl rfl rfl).1
    refine ⟨wanted_of rfl rfl rfl eg, fun K hK => ?_⟩
    refine wp_eq (v := .bool true) (w' := w') ?_ (hK _ w' (fun _ _ => ⟨rfl, trivial⟩) (fun _ _ _ _ h => h) hJ)
    simp [go_sem, e74, e77]
  · intro listed a' w' hl H hJ
    have e72 : a'.tmps[72]?.getD undef = .bool true := (H.is 2 72 rfl rfl rfl).1
    have e78 : a'.tmps[78]?.getD undef = .bool true := (H.is 8 78 rfl rfl rfl).1
    refine ⟨rfl, fun K hK => ?_⟩
    refine wp_eq (v := .bool true) (w' := w') ?_ (hK _ w' (fun _ _ => ⟨rfl, trivial⟩) (fun _ _ _ _ h => h) hJ)
    simp [go_sem, e72, e78]
  · intro listed a' w' hl H hJ
    have e79 : a'.tmps[79]?.getD undef = .bool true := (H.is 9 79 rfl rfl rfl).1
    refine ⟨rfl, fun K hK => ?_⟩
    refine wp_eq (v := .bool true) (w' := w') ?_ (hK _ w' (fun _ _ => ⟨rfl, trivial⟩) (fun _ _ _ _ h => h) hJ)
    simp [go_sem, e79]
  · intro listed u w' hF hall hJ
    exact hend u w' (hF 10 _ 2 rfl rfl).1 hJ.2.1

end Go.Proofs.Ytbcafhhheileeaa
