/-
  Part of the proofs of DiskOwns, DiskPlays, SlotPlays: contracts of the device and what they need.
  Conditions: those that each theorem names.
-/
import Derived.Test.YtbcafhhheileeaaD16
namespace Go.Proofs.Ytbcafhhheileeaa
open Go.RowKit
set_option maxRecDepth 100000

theorem conv_b {w : World} {v : Value} {xs : List Int} (h : RdB w v xs) : (convert 28 9 v).run Try.prog w = .ok (.string (strOfNums xs)) w := by
  obtain ⟨_, A, c, rfl, hc, h3⟩ := h
  by_cases h0 : xs.length = 0
  · have hx : xs = [] := List.eq_nil_of_length_eq_zero h0
    subst hx
    cases A with
    | none => exact run_convert_bytes_nil w 28 5 Try.underlying28 Try.underlying5 0 c 9 Try.underlying9
    | some a =>
      have hl : (loadCells a 0).run Try.prog w = .ok #[] w := run_loadCells_list (P := Try.prog) w a [] (fun j v hj => by simp at hj)
      rw [run_convert_bytes_string w 28 9 5 _ _ c Try.underlying28 Try.underlying5 Try.underlying9]
      simp [Conv.bytesToString, hl, Result.andThen]
      rfl
  · rcases h3 with h3 | ⟨b, o, rfl, _, h4⟩
    · exact absurd h3 h0
    · exact run_convert_bytes_arg w 28 5 Try.underlying28 Try.underlying5 b o xs.length c xs rfl (fun i hi => h4 i _ (by rw [byt, List.getElem?_map, List.getElem?_eq_getElem hi]; simp [List.getD_eq_getElem?_getD, hi])) 9 Try.underlying9
theorem full_rd {w : World} {b : Nat} {x : Int} (h : BytesAt w b (List.replicate 512 x)) : RdB w (.slice (some ⟨b, 0, none⟩) 512 512) (List.replicate 512 x) := by
  have := h.rd
  rwa [List.length_replicate] at this
theorem GMono {w w' : World} {v : Value} {xs : List Int} (h : RdB w v xs) (hb : Below w.heap.size w w') : RdB w' v xs := RdV.below h hb
theorem DRep.below {B d : Nat} {D : Dev} {w w' : World} (h : DRep B w d D) (hb : Below w.heap.size w w') : DRep B w' d D := by
  obtain ⟨bn, bs, bc, kn, ks, kc, lf, h⟩ := h
  exact ⟨_, _, _, _, _, _, _, h.below hb⟩
theorem DRep.drew {B d : Nat} {D : Dev} {w : World} (h : DRep B w d D) : DRep B w.drew d D := by
  obtain ⟨bn, bs, bc, kn, ks, kc, lf, h⟩ := h
  exact ⟨_, _, _, _, _, _, _, h.drew⟩
theorem RdB.drew {w : World} {v : Value} {xs : List Int} (h : RdB w v xs) : RdB w.drew v xs := RdV.keep h (fun _ _ _ _ => rfl) (Nat.le_refl _)
structure JA (B d : Nat) (D : Dev) (va vb : Value) (x1 x3 : List Int) (w0 w : World) : Prop where
  dr : DRep B w d D
  a : RdB w va x1
  b : RdB w vb x3
  fr : Fr B tagD w0 w
theorem JA.below {B d : Nat} {D : Dev} {va vb : Value} {x1 x3 : List Int} {w0 w w' : World} (h : JA B d D va vb x1 x3 w0 w) (hb : Below w.heap.size w w') : JA B d D va vb x1 x3 w0 w' :=
  ⟨h.dr.below hb, RdV.below h.a hb, RdV.below h.b hb, h.fr.trans (Fr.of_below hb)⟩
theorem JA.drew {B d : Nat} {D : Dev} {va vb : Value} {x1 x3 : List Int} {w0 w : World} (h : JA B d D va vb x1 x3 w0 w) : JA B d D va vb x1 x3 w0 w.drew :=
  ⟨h.dr.drew, RdB.drew h.a, RdB.drew h.b, h.fr.drew⟩

def opsA7 : Array Oper := #[{ dst := some 55, op := Op.move (Operand.tmp 2), type := 25, pos := "law.go:38", after := #[], guard := none }, { dst := some 56, op := Op.binOp BinOp.eql 25 (Operand.tmp 55) (Operand.const Value.nilIface) 25, type := 4, pos := "law.go:38", after := #[{ on := 0, ground := Ground.data }], guard := none }, { dst := some 57, op := Op.move (Operand.tmp 56), type := 4, pos := "law.go:38", after := #[{ on := 1, ground := Ground.data }], guard := none }, { dst := some 58, op := Op.move (Operand.tmp 5), type := 25, pos := "law.go:38", after := #[{ on := 2, ground := Ground.guard }], guard := some (2, true) }, { dst := some 59, op := Op.binOp BinOp.eql 25 (Operand.tmp 58) (Operand.const Value.nilIface) 25, type := 4, pos := "law.go:38", after := #[{ on := 3, ground := Ground.data }, { on := 2, ground := Ground.guard }], guard := some (2, true) }, { dst := some 60, op := Op.pick (Operand.tmp 57) (Operand.tmp 59) (Operand.const (Value.bool false)), type := 4, pos := "law.go:38", after := #[{ on := 2, ground := Ground.data }, { on := 4, ground := Ground.data }], guard := none }, { dst := some 61, op := Op.move (Operand.tmp 60), type := 4, pos := "law.go:38", after := #[{ on := 5, ground := Ground.data }, { on := 2, ground := Ground.chain }], guard := none }, { dst := some 62, op := Op.move (Operand.tmp 3), type := 28, pos := "law.go:38", after := #[{ on := 6, ground := Ground.guard }], guard := some (6, true) }, { dst := some 63, op := Op.convert 28 9 (Operand.tmp 62), type := 9, pos := "law.go:38", after := #[{ on := 7, ground := Ground.data }, { on := 6, ground := Ground.guard }], guard := some (6, true) }, { dst := some 64, op := Op.call { callee := Callee.value (Operand.func 8), args := #[Operand.const (Value.int IntKind.i64 1)], argTypes := #[3] }, type := 28, pos := "law.go:38", after := #[{ on := 6, ground := Ground.chain }, { on := 6, ground := Ground.guard }], guard := some (6, true) }, { dst := some 65, op := Op.convert 28 9 (Operand.tmp 64), type := 9, pos := "law.go:38", after := #[{ on := 9, ground := Ground.data }, { on := 6, ground := Ground.guard }], guard := some (6, true) }, { dst := some 66, op := Op.binOp BinOp.eql 9 (Operand.tmp 63) (Operand.tmp 65) 9, type := 4, pos := "law.go:38", after := #[{ on := 8, ground := Ground.data }, { on := 10, ground := Ground.data }, { on := 6, ground := Ground.guard }], guard := some (6, true) }, { dst := some 67, op := Op.pick (Operand.tmp 61) (Operand.tmp 66) (Operand.const (Value.bool false)), type := 4, pos := "law.go:38", after := #[{ on := 6, ground := Ground.data }, { on := 11, ground := Ground.data }], guard := none }, { dst := some 68, op := Op.move (Operand.tmp 67), type := 4, pos := "law.go:38", after := #[{ on := 12, ground := Ground.data }, { on := 9, ground := Ground.chain }], guard := none }, { dst := some 69, op := Op.move (Operand.tmp 4), type := 28, pos := "law.go:38", after := #[{ on := 13, ground := Ground.guard }], guard := some (13, true) }, { dst := some 70, op := Op.convert 28 9 (Operand.tmp 69), type := 9, pos := "law.go:38", after := #[{ on := 14, ground := Ground.data }, { on := 13, ground := Ground.guard }], guard := some (13, true) }, { dst := some 71, op := Op.call { callee := Callee.value (Operand.func 8), args := #[Operand.const (Value.int IntKind.i64 3)], argTypes := #[3] }, type := 28, pos := "law.go:38", after := #[{ on := 13, ground := Ground.chain }, { on := 13, ground := Ground.guard }], guard := some (13, true) }, { dst := some 72, op := Op.convert 28 9 (Operand.tmp 71), type := 9, pos := "law.go:38", after := #[{ on := 16, ground := Ground.data }, { on := 13, ground := Ground.guard }], guard := some (13, true) }, { dst := some 73, op := Op.binOp BinOp.eql 9 (Operand.tmp 70) (Operand.tmp 72) 9, type := 4, pos := "law.go:38", after := #[{ on := 15, ground := Ground.data }, { on := 17, ground := Ground.data }, { on := 13, ground := Ground.guard }], guard := some (13, true) }, { dst := some 74, op := Op.pick (Operand.tmp 68) (Operand.tmp 73) (Operand.const (Value.bool false)), type := 4, pos := "law.go:38", after := #[{ on := 13, ground := Ground.data }, { on := 18, ground := Ground.data }], guard := none }, { dst := some 75, op := Op.move (Operand.tmp 74), type := 4, pos := "law.go:38", after := #[{ on := 19, ground := Ground.data }, { on := 16, ground := Ground.chain }], guard := none }, { dst := some 76, op := Op.move (Operand.tmp 1), type := 23, pos := "law.go:38", after := #[{ on := 20, ground := Ground.guard }], guard := some (20, true) }, { dst := some 77, op := Op.call { callee := Callee.value (Operand.func 17), args := #[Operand.tmp 76], argTypes := #[23] }, type := 3, pos := "law.go:38", after := #[{ on := 21, ground := Ground.data }, { on := 20, ground := Ground.chain }, { on := 20, ground := Ground.guard }], guard := some (20, true) }, { dst := some 78, op := Op.binOp BinOp.eql 3 (Operand.tmp 77) (Operand.const (Value.int IntKind.i64 4)) 3, type := 4, pos := "law.go:38", after := #[{ on := 22, ground := Ground.data }, { on := 20, ground := Ground.guard }], guard := some (20, true) }, { dst := some 79, op := Op.pick (Operand.tmp 75) (Operand.tmp 78) (Operand.const (Value.bool false)), type := 4, pos := "law.go:38", after := #[{ on := 20, ground := Ground.data }, { on := 23, ground := Ground.data }], guard := none }, { dst := some 80, op := Op.move (Operand.tmp 79), type := 4, pos := "law.go:38", after := #[{ on := 24, ground := Ground.data }, { on := 22, ground := Ground.chain }], guard := none }, { dst := some 81, op := Op.move (Operand.tmp 1), type := 23, pos := "law.go:38", after := #[{ on := 25, ground := Ground.guard }], guard := some (25, true) }, { dst := some 82, op := Op.call { callee := Callee.value (Operand.func 18), args := #[Operand.tmp 81], argTypes := #[23] }, type := 3, pos := "law.go:38", after := #[{ on := 26, ground := Ground.data }, { on := 25, ground := Ground.chain }, { on := 25, ground := Ground.guard }], guard := some (25, true) }, { dst := some 83, op := Op.binOp BinOp.eql 3 (Operand.tmp 82) (Operand.const (Value.int IntKind.i64 1)) 3, type := 4, pos := "law.go:38", after := #[{ on := 27, ground := Ground.data }, { on := 25, ground := Ground.guard }], guard := some (25, true) }, { dst := some 84, op := Op.pick (Operand.tmp 80) (Operand.tmp 83) (Operand.const (Value.bool false)), type := 4, pos := "law.go:38", after := #[{ on := 25, ground := Ground.data }, { on := 28, ground := Ground.data }], guard := none }, { dst := some 0, op := Op.assign (Operand.tmp 84), type := 4, pos := "law.go:38", after := #[{ on := 29, ground := Ground.data }, { on := 27, ground := Ground.chain }, { on := 0, ground := Ground.phase }, { on := 1, ground := Ground.phase }, { on := 2, ground := Ground.phase }, { on := 3, ground := Ground.phase }, { on := 4, ground := Ground.phase }, { on := 5, ground := Ground.phase }, { on := 6, ground := Ground.phase }, { on := 7, ground := Ground.phase }, { on := 8, ground := Ground.phase }, { on := 9, ground := Ground.phase }, { on := 10, ground := Ground.phase }, { on := 11, ground := Ground.phase }, { on := 12, ground := Ground.phase }, { on := 13, ground := Ground.phase }, { on := 14, ground := Ground.phase }, { on := 15, ground := Ground.phase }, { on := 16, ground := Ground.phase }, { on := 17, ground := Ground.phase }, { on := 18, ground := Ground.phase }, { on := 19, ground := Ground.phase }, { on := 20, ground := Ground.phase }, { on := 21, ground := Ground.phase }, { on := 22, ground := Ground.phase }, { on := 23, ground := Ground.phase }, { on := 24, ground := Ground.phase }, { on := 25, ground := Ground.phase }, { on := 26, ground := Ground.phase }, { on := 27, ground := Ground.phase }, { on := 28, ground := Ground.phase }, { on := 29, ground := Ground.phase }], guard := none }]
def VA7 (d : Nat) (va vb : Value) (x1 x3 : List Int) : Nat → Value → Prop
  | 0, v => v = .nilIface
  | 1, v => v = .bool true
  | 2, v => v = .bool true
  | 3, v => v = .nilIface
  | 4, v => v = .bool true
  | 5, v => v = .bool true
  | 6, v => v = .bool true
  | 7, v => v = va
  | 8, v => v = .string (strOfNums x1)
  | 10, v => v = .string (strOfNums x1)
  | 11, v => v = .bool true
  | 12, v => v = .bool true
  | 13, v => v = .bool true
  | 14, v => v = vb
  | 15, v => v = .string (strOfNums x3)
  | 17, v => v = .string (strOfNums x3)
  | 18, v => v = .bool true
  | 19, v => v = .bool true
  | 20, v => v = .bool true
  | 21, v => v = .pointer (some ⟨d, 0, none⟩)
  | 22, v => v = .int .i64 4
  | 23, v => v = .bool true
  | 24, v => v = .bool true
  | 25, v => v = .bool true
  | 26, v => v = .pointer (some ⟨d, 0, none⟩)
  | 27, v => v = .int .i64 1
  | 28, v => v = .bool true
  | 29, v => v = .bool true
  | 30, v => v = .bool true
  | _, _ => True
def GA7 (x1 x3 : List Int) : Nat → Value → World → Prop
  | 9, v, w => RdB w v x1
  | 16, v, w => RdB w v x3
  | _, _, _ => True
theorem GA7.mono (x1 x3 : List Int) {j : Nat} {v : Value} {w w' : World} (h : GA7 x1 x3 j v w) (hb : Below w.heap.size w w') : GA7 x1 x3 j v w' := by
  unfold GA7 at h ⊢
  split <;> first | exact trivial | exact GMono h hb
set_option maxHeartbeats 4000000 in
theorem regionA7 {Q : Exit → Act → World → Prop} {a : Act} {w : World} (d : Nat) (va vb : Value) (x1 x3 : List Int) (B : Nat) (D : Dev) (hs : a.tmps.size = 85) (h1 : a.tmps.getD 1 undef = .pointer (some ⟨d, 0, none⟩)) (h2 : a.tmps.getD 2 undef = .nilIface) (h3 : a.tmps.getD 3 undef = va) (h4 : a.tmps.getD 4 undef = vb) (h5 : a.tmps.getD 5 undef = .nilIface)
    (hx1 : x1 = List.replicate 512 (b8 1)) (hx3 : x3 = List.replicate 512 (b8 3)) (hs4 : D.steps = 4) (hs1 : D.syncs = 1) (hJ : JA B d D va vb x1 x3 w w)
    (hend : ∀ (u : Nat → Value) w', u 0 = .bool true → JA B d D va vb x1 x3 w w' → Q .normal (putAll opsA7 u a) w') : (Code.region 7 opsA7 true).wp Try.prog Q a w := by
  refine wp_region_rule (by kernel_rfl) (fun i v w => VA7 d va vb x1 x3 i v ∧ GA7 x1 x3 i v w) (fun _ W => JA B d D va vb x1 x3 w W) (by kernel_rfl) (by rw [hs]; kernel_rfl) ?_ (allOps ⟨?_, ?_, ?_, ?_, ?_, ?_, ?_, ?_, ?_, ?_, ?_, ?_, ?_, ?_, ?_, ?_, ?_, ?_, ?_, ?_, ?_, ?_, ?_, ?_, ?_, ?_, ?_, ?_, ?_, ?_, ?_, trivial⟩) ?_
  · exact hJ.drew
  · intro listed a' w' hl H hJ
    have e2 : a'.tmps[2]?.getD undef = .nilIface := H.old 2 rfl h2
    refine ⟨rfl, fun K hK => ?_⟩
    refine wp_eq (v := .nilIface) (w' := w') ?_ (hK _ w' (fun _ _ => ⟨rfl, trivial⟩) (fun _ _ _ _ h => h) hJ)
    simp [go_sem, e2]
  · intro listed a' w' hl H hJ
    have e55 : a'.tmps[55]?.getD undef = .nilIface := (H.is 0 55 rfl rfl rfl).1
    refine ⟨rfl, fun K hK => ?_⟩
    refine wp_eq (v := .bool true) (w' := w') ?_ (hK _ w' (fun _ _ => ⟨rfl, trivial⟩) (fun _ _ _ _ h => h) hJ)
    simp [go_sem, e55]
  · intro listed a' w' hl H hJ
    have e56 : a'.tmps[56]?.getD undef = .bool true := (H.is 1 56 rfl rfl rfl).1
    refine ⟨rfl, fun K hK => ?_⟩
    refine wp_eq (v := .bool true) (w' := w') ?_ (hK _ w' (fun _ _ => ⟨rfl, trivial⟩) (fun _ _ _ _ h => h) hJ)
    simp [go_sem, e56]
  · intro listed a' w' hl H hJ
    have e5 : a'.tmps[5]?.getD undef = .nilIface := H.old 5 rfl h5
    have eg : a'.tmps[57]?.getD undef = .bool true := (H.is 2 57 rfl rfl rfl).1
    refine ⟨wanted_of rfl rfl rfl eg, fun K hK => ?_⟩
    refine wp_eq (v := .nilIface) (w' := w') ?_ (hK _ w' (fun _ _ => ⟨rfl, trivial⟩) (fun _ _ _ _ h => h) hJ)
    simp [go_sem, e5]
  · intro listed a' w' hl H hJ
    have e58 : a'.tmps[58]?.getD undef = .nilIface := (H.is 3 58 rfl rfl rfl).1
    have eg : a'.tmps[57]?.getD undef = .bool true := (H.is 2 57 rfl rfl rfl).1
    refine ⟨wanted_of rfl rfl rfl eg, fun K hK => ?_⟩
    refine wp_eq (v := .bool true) (w' := w') ?_ (hK _ w' (fun _ _ => ⟨rfl, trivial⟩) (fun _ _ _ _ h => h) hJ)
    simp [go_sem, e58]
  · intro listed a' w' hl H hJ
    have e57 : a'.tmps[57]?.getD undef = .bool true := (H.is 2 57 rfl rfl rfl).1
    have e59 : a'.tmps[59]?.getD undef = .bool true := (H.is 4 59 rfl rfl rfl).1
    refine ⟨rfl, fun K hK => ?_⟩
    refine wp_eq (v := .bool true) (w' := w') ?_ (hK _ w' (fun _ _ => ⟨rfl, trivial⟩) (fun _ _ _ _ h => h) hJ)
    simp [go_sem, e57, e59]
  · intro listed a' w' hl H hJ
    have e60 : a'.tmps[60]?.getD undef = .bool true := (H.is 5 60 rfl rfl rfl).1
    refine ⟨rfl, fun K hK => ?_⟩
    refine wp_eq (v := .bool true) (w' := w') ?_ (hK _ w' (fun _ _ => ⟨rfl, trivial⟩) (fun _ _ _ _ h => h) hJ)
    simp [go_sem, e60]
  · intro listed a' w' hl H hJ
    have e3 : a'.tmps[3]?.getD undef = va := H.old 3 rfl h3
    have eg : a'.tmps[61]?.getD undef = .bool true := (H.is 6 61 rfl rfl rfl).1
    refine ⟨wanted_of rfl rfl rfl eg, fun K hK => ?_⟩
    refine wp_eq (v := va) (w' := w') ?_ (hK _ w' (fun _ _ => ⟨rfl, trivial⟩) (fun _ _ _ _ h => h) hJ)
    simp [go_sem, e3]
  · intro listed a' w' hl H hJ
    have e62 : a'.tmps[62]?.getD undef = va := (H.is 7 62 rfl rfl rfl).1
    have eg : a'.tmps[61]?.getD undef = .bool true := (H.is 6 61 rfl rfl rfl).1
    refine ⟨wanted_of rfl rfl rfl eg, fun K hK => ?_⟩
    have ea : a'.eval (.tmp 62) = va := by simpa [Act.eval] using e62
    refine wp_eq (v := .string (strOfNums x1)) (w' := w') ?_ (hK _ w' (fun _ _ => ⟨rfl, trivial⟩) (fun _ _ _ _ h => h) hJ)
    unfold execOp
    simp only [ea, Sem.run_bind, Sem.run_pure, conv_b hJ.a, Result.andThen_ok]
  · intro listed a' w' hl H hJ
    have eg : a'.tmps[61]?.getD undef = .bool true := (H.is 6 61 rfl rfl rfl).1
    refine ⟨wanted_of rfl rfl rfl eg, fun K hK => ?_⟩
    refine wp_enter (f := 8) (args := #[.int .i64 1]) (w' := w') (R := fun v w2 => RdB w2 v x1 ∧ Below w'.heap.size w' w2) ?_ ((full_c 1 w').mono fun e w2 h => by obtain ⟨rfl, h1, h2⟩ := h; exact ⟨_, rfl, by first | (rw [hx1]; exact full_rd h1) | (rw [hx3]; exact full_rd h1), h2⟩) ?_
    · simp [go_sem]
    · rintro v w2 ⟨hr, hb⟩
      exact hK _ w2 (fun _ _ => ⟨trivial, hr⟩) (fun j u _ _ hF => ⟨hF.1, GA7.mono x1 x3 hF.2 hb⟩) (hJ.below hb)
  · intro listed a' w' hl H hJ
    have e64 := H.is 9 64 rfl rfl rfl
    have eg : a'.tmps[61]?.getD undef = .bool true := (H.is 6 61 rfl rfl rfl).1
    refine ⟨wanted_of rfl rfl rfl eg, fun K hK => ?_⟩
    have ea : a'.eval (.tmp 64) = a'.tmps[64]?.getD undef := by simp [Act.eval]
    refine wp_eq (v := .string (strOfNums x1)) (w' := w') ?_ (hK _ w' (fun _ _ => ⟨rfl, trivial⟩) (fun _ _ _ _ h => h) hJ)
    unfold execOp
    simp only [ea, Sem.run_bind, Sem.run_pure, conv_b e64.2, Result.andThen_ok]
  · intro listed a' w' hl H hJ
    have e63 : a'.tmps[63]?.getD undef = .string (strOfNums x1) := (H.is 8 63 rfl rfl rfl).1
    have e65 : a'.tmps[65]?.getD undef = .string (strOfNums x1) := (H.is 10 65 rfl rfl rfl).1
    have eg : a'.tmps[61]?.getD undef = .bool true := (H.is 6 61 rfl rfl rfl).1
    refine ⟨wanted_of rfl rfl rfl eg, fun K hK => ?_⟩
    refine wp_eq (v := .bool true) (w' := w') ?_ (hK _ w' (fun _ _ => ⟨rfl, trivial⟩) (fun _ _ _ _ h => h) hJ)
    simp [go_sem, e63, e65]
  · intro listed a' w' hl H hJ
    have e61 : a'.tmps[61]?.getD undef = .bool true := (H.is 6 61 rfl rfl rfl).1
    have e66 : a'.tmps[66]?.getD undef = .bool true := (H.is 11 66 rfl rfl rfl).1
    refine ⟨rfl, fun K hK => ?_⟩
    refine wp_eq (v := .bool true) (w' := w') ?_ (hK _ w' (fun _ _ => ⟨rfl, trivial⟩) (fun _ _ _ _ h => h) hJ)
    simp [go_sem, e61, e66]
  · intro listed a' w' hl H hJ
    have e67 : a'.tmps[67]?.getD undef = .bool true := (H.is 12 67 rfl rfl rfl).1
    refine ⟨rfl, fun K hK => ?_⟩
    refine wp_eq (v := .bool true) (w' := w') ?_ (hK _ w' (fun _ _ => ⟨rfl, trivial⟩) (fun _ _ _ _ h => h) hJ)
    simp [go_sem, e67]
  · intro listed a' w' hl H hJ
    have e4 : a'.tmps[4]?.getD undef = vb := H.old 4 rfl h4
    have eg : a'.tmps[68]?.getD undef = .bool true := (H.is 13 68 rfl rfl rfl).1
    refine ⟨wanted_of rfl rfl rfl eg, fun K hK => ?_⟩
    refine wp_eq (v := vb) (w' := w') ?_ (hK _ w' (fun _ _ => ⟨rfl, trivial⟩) (fun _ _ _ _ h => h) hJ)
    simp [go_sem, e4]
  · intro listed a' w' hl H hJ
    have e69 : a'.tmps[69]?.getD undef = vb := (H.is 14 69 rfl rfl rfl).1
    have eg : a'.tmps[68]?.getD undef = .bool true := (H.is 13 68 rfl rfl rfl).1
    refine ⟨wanted_of rfl rfl rfl eg, fun K hK => ?_⟩
    have ea : a'.eval (.tmp 69) = vb := by simpa [Act.eval] using e69
    refine wp_eq (v := .string (strOfNums x3)) (w' := w') ?_ (hK _ w' (fun _ _ => ⟨rfl, trivial⟩) (fun _ _ _ _ h => h) hJ)
    unfold execOp
    simp only [ea, Sem.run_bind, Sem.run_pure, conv_b hJ.b, Result.andThen_ok]
  · intro listed a' w' hl H hJ
    have eg : a'.tmps[68]?.getD undef = .bool true := (H.is 13 68 rfl rfl rfl).1
    refine ⟨wanted_of rfl rfl rfl eg, fun K hK => ?_⟩
    refine wp_enter (f := 8) (args := #[.int .i64 3]) (w' := w') (R := fun v w2 => RdB w2 v x3 ∧ Below w'.heap.size w' w2) ?_ ((full_c 3 w').mono fun e w2 h => by obtain ⟨rfl, h1, h2⟩ := h; exact ⟨_, rfl, by first | (rw [hx1]; exact full_rd h1) | (rw [hx3]; exact full_rd h1), h2⟩) ?_
    · simp [go_sem]
    · rintro v w2 ⟨hr, hb⟩
      exact hK _ w2 (fun _ _ => ⟨trivial, hr⟩) (fun j u _ _ hF => ⟨hF.1, GA7.mono x1 x3 hF.2 hb⟩) (hJ.below hb)
  · intro listed a' w' hl H hJ
    have e71 := H.is 16 71 rfl rfl rfl
    have eg : a'.tmps[68]?.getD undef = .bool true := (H.is 13 68 rfl rfl rfl).1
    refine ⟨wanted_of rfl rfl rfl eg, fun K hK => ?_⟩
    have ea : a'.eval (.tmp 71) = a'.tmps[71]?.getD undef := by simp [Act.eval]
    refine wp_eq (v := .string (strOfNums x3)) (w' := w') ?_ (hK _ w' (fun _ _ => ⟨rfl, trivial⟩) (fun _ _ _ _ h => h) hJ)
    unfold execOp
    simp only [ea, Sem.run_bind, Sem.run_pure, conv_b e71.2, Result.andThen_ok]
  · intro listed a' w' hl H hJ
    have e70 : a'.tmps[70]?.getD undef = .string (strOfNums x3) := (H.is 15 70 rfl rfl rfl).1
    have e72 : a'.tmps[72]?.getD undef = .string (strOfNums x3) := (H.is 17 72 rfl rfl rfl).1
    have eg : a'.tmps[68]?.getD undef = .bool true := (H.is 13 68 rfl rfl rfl).1
    refine ⟨wanted_of rfl rfl rfl eg, fun K hK => ?_⟩
    refine wp_eq (v := .bool true) (w' := w') ?_ (hK _ w' (fun _ _ => ⟨rfl, trivial⟩) (fun _ _ _ _ h => h) hJ)
    simp [go_sem, e70, e72]
  · intro listed a' w' hl H hJ
    have e68 : a'.tmps[68]?.getD undef = .bool true := (H.is 13 68 rfl rfl rfl).1
    have e73 : a'.tmps[73]?.getD undef = .bool true := (H.is 18 73 rfl rfl rfl).1
    refine ⟨rfl, fun K hK => ?_⟩
    refine wp_eq (v := .bool true) (w' := w') ?_ (hK _ w' (fun _ _ => ⟨rfl, trivial⟩) (fun _ _ _ _ h => h) hJ)
    simp [go_sem, e68, e73]
  · intro listed a' w' hl H hJ
    have e74 : a'.tmps[74]?.getD undef = .bool true := (H.is 19 74 rfl rfl rfl).1
    refine ⟨rfl, fun K hK => ?_⟩
    refine wp_eq (v := .bool true) (w' := w') ?_ (hK _ w' (fun _ _ => ⟨rfl, trivial⟩) (fun _ _ _ _ h => h) hJ)
    simp [go_sem, e74]
  · intro listed a' w' hl H hJ
    have e1 : a'.tmps[1]?.getD undef = .pointer (some ⟨d, 0, none⟩) := H.old 1 rfl h1
    have eg : a'.tmps[75]?.getD undef = .bool true := (H.is 20 75 rfl rfl rfl).1
    refine ⟨wanted_of rfl rfl rfl eg, fun K hK => ?_⟩
    refine wp_eq (v := .pointer (some ⟨d, 0, none⟩)) (w' := w') ?_ (hK _ w' (fun _ _ => ⟨rfl, trivial⟩) (fun _ _ _ _ h => h) hJ)
    simp [go_sem, e1]
  · intro listed a' w' hl H hJ
    have e76 : a'.tmps[76]?.getD undef = .pointer (some ⟨d, 0, none⟩) := (H.is 21 76 rfl rfl rfl).1
    have eg : a'.tmps[75]?.getD undef = .bool true := (H.is 20 75 rfl rfl rfl).1
    refine ⟨wanted_of rfl rfl rfl eg, fun K hK => ?_⟩
    refine wp_enter (f := 17) (args := #[.pointer (some ⟨d, 0, none⟩)]) (w' := w') (R := fun v w2 => v = .int .i64 4 ∧ Below w'.heap.size w' w2) ?_ ((hs4 ▸ steps_c B d D w' hJ.dr).mono fun e w2 h => by obtain ⟨rfl, rfl⟩ := h; exact ⟨_, rfl, rfl, Below.refl _ _⟩) ?_
    · simp [go_sem, e76]
    · rintro v w2 ⟨rfl, hb⟩
      exact hK _ w2 (fun _ _ => ⟨rfl, trivial⟩) (fun j u _ _ hF => ⟨hF.1, GA7.mono x1 x3 hF.2 hb⟩) (hJ.below hb)
  · intro listed a' w' hl H hJ
    have e77 : a'.tmps[77]?.getD undef = .int .i64 4 := (H.is 22 77 rfl rfl rfl).1
    have eg : a'.tmps[75]?.getD undef = .bool true := (H.is 20 75 rfl rfl rfl).1
    refine ⟨wanted_of rfl rfl rfl eg, fun K hK => ?_⟩
    refine wp_eq (v := .bool true) (w' := w') ?_ (hK _ w' (fun _ _ => ⟨rfl, trivial⟩) (fun _ _ _ _ h => h) hJ)
    simp [go_sem, e77]
  · intro listed a' w' hl H hJ
    have e75 : a'.tmps[75]?.getD undef = .bool true := (H.is 20 75 rfl rfl rfl).1
    have e78 : a'.tmps[78]?.getD undef = .bool true := (H.is 23 78 rfl rfl rfl).1
    refine ⟨rfl, fun K hK => ?_⟩
    refine wp_eq (v := .bool true) (w' := w') ?_ (hK _ w' (fun _ _ => ⟨rfl, trivial⟩) (fun _ _ _ _ h => h) hJ)
    simp [go_sem, e75, e78]
  · intro listed a' w' hl H hJ
    have e79 : a'.tmps[79]?.getD undef = .bool true := (H.is 24 79 rfl rfl rfl).1
    refine ⟨rfl, fun K hK => ?_⟩
    refine wp_eq (v := .bool true) (w' := w') ?_ (hK _ w' (fun _ _ => ⟨rfl, trivial⟩) (fun _ _ _ _ h => h) hJ)
    simp [go_sem, e79]
  · intro listed a' w' hl H hJ
    have e1 : a'.tmps[1]?.getD undef = .pointer (some ⟨d, 0, none⟩) := H.old 1 rfl h1
    have eg : a'.tmps[80]?.getD undef = .bool true := (H.is 25 80 rfl rfl rfl).1
    refine ⟨wanted_of rfl rfl rfl eg, fun K hK => ?_⟩
    refine wp_eq (v := .pointer (some ⟨d, 0, none⟩)) (w' := w') ?_ (hK _ w' (fun _ _ => ⟨rfl, trivial⟩) (fun _ _ _ _ h => h) hJ)
    simp [go_sem, e1]
  · intro listed a' w' hl H hJ
    have e81 : a'.tmps[81]?.getD undef = .pointer (some ⟨d, 0, none⟩) := (H.is 26 81 rfl rfl rfl).1
    have eg : a'.tmps[80]?.getD undef = .bool true := (H.is 25 80 rfl rfl rfl).1
    refine ⟨wanted_of rfl rfl rfl eg, fun K hK => ?_⟩
    refine wp_enter (f := 18) (args := #[.pointer (some ⟨d, 0, none⟩)]) (w' := w') (R := fun v w2 => v = .int .i64 1 ∧ Below w'.heap.size w' w2) ?_ ((hs1 ▸ syncs_c B d D w' hJ.dr).mono fun e w2 h => by obtain ⟨rfl, rfl⟩ := h; exact ⟨_, rfl, rfl, Below.refl _ _⟩) ?_
    · simp [go_sem, e81]
    · rintro v w2 ⟨rfl, hb⟩
      exact hK _ w2 (fun _ _ => ⟨rfl, trivial⟩) (fun j u _ _ hF => ⟨hF.1, GA7.mono x1 x3 hF.2 hb⟩) (hJ.below hb)
  · intro listed a' w' hl H hJ
    have e82 : a'.tmps[82]?.getD undef = .int .i64 1 := (H.is 27 82 rfl rfl rfl).1
    have eg : a'.tmps[80]?.getD undef = .bool true := (H.is 25 80 rfl rfl rfl).1
    refine ⟨wanted_of rfl rfl rfl eg, fun K hK => ?_⟩
    refine wp_eq (v := .bool true) (w' := w') ?_ (hK _ w' (fun _ _ => ⟨rfl, trivial⟩) (fun _ _ _ _ h => h) hJ)
    simp [go_sem, e82]
  · intro listed a' w' hl H hJ
    have e80 : a'.tmps[80]?.getD undef = .bool true := (H.is 25 80 rfl rfl rfl).1
    have e83 : a'.tmps[83]?.getD undef = .bool true := (H.is 28 83 rfl rfl rfl).1
    refine ⟨rfl, fun K hK => ?_⟩
    refine wp_eq (v := .bool true) (w' := w') ?_ (hK _ w' (fun _ _ => ⟨rfl, trivial⟩) (fun _ _ _ _ h => h) hJ)
    simp [go_sem, e80, e83]
  · intro listed a' w' hl H hJ
    have e84 : a'.tmps[84]?.getD undef = .bool true := (H.is 29 84 rfl rfl rfl).1
    refine ⟨rfl, fun K hK => ?_⟩
    refine wp_eq (v := .bool true) (w' := w') ?_ (hK _ w' (fun _ _ => ⟨rfl, trivial⟩) (fun _ _ _ _ h => h) hJ)
    simp [go_sem, e84]
  · intro listed u w' hF hall hJ
    exact hend u w' (hF 30 _ 0 rfl rfl).1 hJ

end Go.Proofs.Ytbcafhhheileeaa
