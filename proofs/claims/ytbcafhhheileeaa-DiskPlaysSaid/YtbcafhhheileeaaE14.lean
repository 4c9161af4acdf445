/-
  Part of the proofs of DiskPlays, SlotPlays: play's regions that draw their order, more.
  Conditions: those that each theorem names.
-/
import Derived.Test.YtbcafhhheileeaaE13
namespace Go.Proofs.Ytbcafhhheileeaa
open Go.RowKit
set_option maxRecDepth 100000

theorem gf_full {S0 : Nat} {v : Value} {ys : List Int} {w w' : World} (h : ∃ b, v = .slice (some ⟨b, 0, none⟩) 512 512 ∧ S0 ≤ b ∧ BytesAt w b ys) (hb : GF S0 w w') : ∃ b, v = .slice (some ⟨b, 0, none⟩) 512 512 ∧ S0 ≤ b ∧ BytesAt w' b ys := by
  obtain ⟨b, h1, h2, h3⟩ := h
  exact ⟨b, h1, h2, hb b _ h2 h3 rfl⟩
theorem gf_one {S0 : Nat} {v : Value} {ys : List Int} {w w' : World} (h : ∃ pb, v = .slice (some ⟨pb, 0, none⟩) 1 1 ∧ S0 ≤ pb ∧ ∃ b, w.heap[pb]? = some (.cells #[.slice (some ⟨b, 0, none⟩) 512 512] 28 (0, 0)) ∧ S0 ≤ b ∧ BytesAt w b ys) (hb : GF S0 w w') :
    ∃ pb, v = .slice (some ⟨pb, 0, none⟩) 1 1 ∧ S0 ≤ pb ∧ ∃ b, w'.heap[pb]? = some (.cells #[.slice (some ⟨b, 0, none⟩) 512 512] 28 (0, 0)) ∧ S0 ≤ b ∧ BytesAt w' b ys := by
  obtain ⟨pb, h1, h2, b, h3, h4, h5⟩ := h
  exact ⟨pb, h1, h2, b, hb pb _ h2 h3 rfl, h4, hb b _ h4 h5 rfl⟩
theorem parts1' {B pb b : Nat} {n : Int} {w w' : World} (hpc : w.heap[pb]? = some (.cells #[.slice (some ⟨b, 0, none⟩) 512 512] 28 (0, 0))) (hby : BytesAt w b (fl n)) (hf : Fr B tagD w w') : RdP w' (.slice (some ⟨pb, 0, none⟩) 1 1) [(.slice (some ⟨b, 0, none⟩) 512 512, fl n)] := by
  have g1 := hf.keep _ _ hpc (.inr rfl)
  have g2 : BytesAt w' b (fl n) := hf.keep _ _ hby (.inr rfl)
  refine ⟨⟨rfl, _, _, rfl, Nat.le_refl _, .inr ⟨_, 0, rfl, lt_of_heap g1, fun j u hj => ?_⟩⟩, fun p hp => ?_⟩
  · rw [cell_blk g1, Nat.zero_add]
    simpa using hj
  · rw [List.mem_singleton] at hp
    subst hp
    show RdV _ 1 _ (fl n).length _
    rw [fl_len]
    exact full_rd g2
/-- Armed and Left are set, in either order -/
structure JR (B ob : Nat) (f : Foot) (kd at_ n : Int) (bv kv : Value) (D : Dev) (w0 : World) (listed : Array Bool) (w : World) : Prop where
  ra : RAt B w f { D with armed := if listed.getD 6 false then true else D.armed, left := if listed.getD 9 false then n else D.left }
  ob : w.heap[ob]? = some (.cells #[.int .i64 kd, .int .i64 at_, .int .i64 n, bv, kv] 45 (0, 0))
  kp : Kp f.has w0 w
section
variable {B ob : Nat} {f : Foot} {kd at_ n : Int} {bv kv : Value} {D : Dev} {w0 w : World} {listed : Array Bool} {i : Nat}
theorem JR.o2 (h : JR B ob f kd at_ n bv kv D w0 listed w) : w.cell? ⟨ob, 2, none⟩ = some (.int .i64 n) := by rw [cell_blk h.ob]; rfl
theorem JR.skip (h : JR B ob f kd at_ n bv kv D w0 listed w) (h6 : i ≠ 6) (h9 : i ≠ 9) : JR B ob f kd at_ n bv kv D w0 (listed.setIfInBounds i true) w :=
  ⟨by rw [set_ne h6, set_ne h9]; exact h.ra, h.ob, h.kp⟩
theorem JR.obs (h : JR B ob f kd at_ n bv kv D w0 listed w) (i : Nat) (u : Value) : (w.setCell ⟨f.g, i, none⟩ u).heap[ob]? = some (.cells #[.int .i64 kd, .int .i64 at_, .int .i64 n, bv, kv] 45 (0, 0)) := by
  rw [Below.heap_setCell _ _ _ _ (fun e => ?_)]
  · exact h.ob
  · have h1 := h.ob
    rw [show ob = f.g from e, h.ra.blk] at h1
    cases h1
theorem JR.st6 (h : JR B ob f kd at_ n bv kv D w0 listed w) (hl : listed.getD 6 true = false) : ∃ w2, (Instr.storeAt 4 (.pointer (some ⟨f.g, 5, none⟩)) (.bool true)).run Try.prog w = .ok () w2 ∧ JR B ob f kd at_ n bv kv D w0 (listed.setIfInBounds 6 true) w2 := by
  have hc := h.ra.cell.2.2.2.2.2.1
  have hf := h.ra.fz 5
  refine ⟨w.setCell ⟨f.g, 5, none⟩ (.bool true), by simp [go_sem, hc, hf], ?_, h.obs 5 _, h.kp.setCell (p := ⟨f.g, 5, none⟩) (.inr (.inl rfl)) _⟩
  rw [set_self hl, set_ne (by decide)]
  exact h.ra.set 5 (.bool true) D.steps D.syncs (if listed.getD 9 false then n else D.left) true D.down rfl
theorem JR.st9 (h : JR B ob f kd at_ n bv kv D w0 listed w) (hl : listed.getD 9 true = false) : ∃ w2, (Instr.storeAt 3 (.pointer (some ⟨f.g, 6, none⟩)) (.int .i64 n)).run Try.prog w = .ok () w2 ∧ JR B ob f kd at_ n bv kv D w0 (listed.setIfInBounds 9 true) w2 := by
  have hc := h.ra.cell.2.2.2.2.2.2.1
  have hf := h.ra.fz 6
  refine ⟨w.setCell ⟨f.g, 6, none⟩ (.int .i64 n), by simp [go_sem, hc, hf], ?_, h.obs 6 _, h.kp.setCell (p := ⟨f.g, 6, none⟩) (.inr (.inl rfl)) _⟩
  rw [set_self hl, set_ne (by decide)]
  exact h.ra.set 6 (.int .i64 n) D.steps D.syncs n (if listed.getD 6 false then true else D.armed) D.down rfl
end

def opsP9 : Array Oper := #[{ dst := some 60, op := Op.move (Operand.tmp 0), type := 23, pos := "law.go:63", after := #[], guard := none }, { dst := some 61, op := Op.fieldAddr 45 (Operand.tmp 5) 1, type := 0, pos := "law.go:63", after := #[], guard := none }, { dst := some 62, op := Op.load 3 (Operand.tmp 61), type := 3, pos := "law.go:63", after := #[{ on := 1, ground := Ground.data }], guard := none }, { dst := some 63, op := Op.fieldAddr 45 (Operand.tmp 5) 2, type := 0, pos := "law.go:63", after := #[], guard := none }, { dst := some 64, op := Op.load 3 (Operand.tmp 63), type := 3, pos := "law.go:63", after := #[{ on := 3, ground := Ground.data }], guard := none }, { dst := some 65, op := Op.call { callee := Callee.value (Operand.func 8), args := #[Operand.tmp 64], argTypes := #[3] }, type := 28, pos := "law.go:63", after := #[{ on := 4, ground := Ground.data }], guard := none }, { dst := some 66, op := Op.buildSlice 35 1 #[(0, Operand.tmp 65)], type := 35, pos := "law.go:63", after := #[{ on := 5, ground := Ground.data }], guard := none }, { dst := some 67, op := Op.call { callee := Callee.value (Operand.func 9), args := #[Operand.tmp 60, Operand.tmp 62, Operand.tmp 66], argTypes := #[23, 3, 35] }, type := 25, pos := "law.go:63", after := #[{ on := 0, ground := Ground.data }, { on := 2, ground := Ground.data }, { on := 6, ground := Ground.data }, { on := 5, ground := Ground.chain }], guard := none }, { dst := some 68, op := Op.call { callee := Callee.value (Operand.func 14), args := #[Operand.tmp 67], argTypes := #[25] }, type := 3, pos := "law.go:63", after := #[{ on := 7, ground := Ground.data }, { on := 7, ground := Ground.chain }], guard := none }, { dst := some 69, op := Op.move (Operand.tmp 1), type := 38, pos := "law.go:63", after := #[], guard := none }, { dst := some 70, op := Op.fieldAddr 45 (Operand.tmp 5) 1, type := 0, pos := "law.go:63", after := #[], guard := none }, { dst := some 71, op := Op.load 3 (Operand.tmp 70), type := 3, pos := "law.go:63", after := #[{ on := 10, ground := Ground.data }], guard := none }, { dst := some 72, op := Op.fieldAddr 45 (Operand.tmp 5) 2, type := 0, pos := "law.go:63", after := #[], guard := none }, { dst := some 73, op := Op.load 3 (Operand.tmp 72), type := 3, pos := "law.go:63", after := #[{ on := 12, ground := Ground.data }], guard := none }, { dst := some 74, op := Op.call { callee := Callee.value (Operand.func 8), args := #[Operand.tmp 73], argTypes := #[3] }, type := 28, pos := "law.go:63", after := #[{ on := 13, ground := Ground.data }, { on := 8, ground := Ground.chain }], guard := none }, { dst := some 75, op := Op.call { callee := Callee.value (Operand.func 34), args := #[Operand.tmp 69, Operand.tmp 71, Operand.tmp 74], argTypes := #[38, 3, 28] }, type := 3, pos := "law.go:63", after := #[{ on := 9, ground := Ground.data }, { on := 11, ground := Ground.data }, { on := 14, ground := Ground.data }, { on := 14, ground := Ground.chain }], guard := none }, { dst := some 76, op := Op.binOp BinOp.eql 3 (Operand.tmp 68) (Operand.tmp 75) 3, type := 4, pos := "law.go:63", after := #[{ on := 8, ground := Ground.data }, { on := 15, ground := Ground.data }], guard := none }, { dst := some 6, op := Op.assign (Operand.tmp 76), type := 4, pos := "law.go:63", after := #[{ on := 16, ground := Ground.data }, { on := 15, ground := Ground.chain }, { on := 0, ground := Ground.phase }, { on := 1, ground := Ground.phase }, { on := 2, ground := Ground.phase }, { on := 3, ground := Ground.phase }, { on := 4, ground := Ground.phase }, { on := 5, ground := Ground.phase }, { on := 6, ground := Ground.phase }, { on := 7, ground := Ground.phase }, { on := 8, ground := Ground.phase }, { on := 9, ground := Ground.phase }, { on := 10, ground := Ground.phase }, { on := 11, ground := Ground.phase }, { on := 12, ground := Ground.phase }, { on := 13, ground := Ground.phase }, { on := 14, ground := Ground.phase }, { on := 15, ground := Ground.phase }, { on := 16, ground := Ground.phase }], guard := none }]
def VP9 (d ob : Nat) (f : Foot) (at_ n : Int) (D : Dev) : Nat → Value → Prop
  | 0, y_ => y_ = .pointer (some ⟨d, 0, none⟩)
  | 1, y_ => y_ = .pointer (some ⟨ob, 1, none⟩)
  | 2, y_ => y_ = .int .i64 at_
  | 3, y_ => y_ = .pointer (some ⟨ob, 2, none⟩)
  | 4, y_ => y_ = .int .i64 n
  | 7, y_ => y_ = errV (dwrite D at_ (fl n)).1
  | 8, y_ => y_ = .int .i64 (dwrite D at_ (fl n)).1
  | 9, y_ => y_ = .pointer (some ⟨f.g, 0, none⟩)
  | 10, y_ => y_ = .pointer (some ⟨ob, 1, none⟩)
  | 11, y_ => y_ = .int .i64 at_
  | 12, y_ => y_ = .pointer (some ⟨ob, 2, none⟩)
  | 13, y_ => y_ = .int .i64 n
  | 15, y_ => y_ = .int .i64 (dwrite D at_ (fl n)).1
  | 16, y_ => y_ = .bool true
  | 17, y_ => y_ = .bool true
  | _, _ => True
def GP9 (S0 : Nat) (n : Int) : Nat → Value → World → Prop
  | 5, v, w => ∃ b, v = .slice (some ⟨b, 0, none⟩) 512 512 ∧ S0 ≤ b ∧ BytesAt w b (fl n)
  | 6, v, w => ∃ pb, v = .slice (some ⟨pb, 0, none⟩) 1 1 ∧ S0 ≤ pb ∧ ∃ b, w.heap[pb]? = some (.cells #[.slice (some ⟨b, 0, none⟩) 512 512] 28 (0, 0)) ∧ S0 ≤ b ∧ BytesAt w b (fl n)
  | 14, v, w => ∃ b, v = .slice (some ⟨b, 0, none⟩) 512 512 ∧ S0 ≤ b ∧ BytesAt w b (fl n)
  | _, _, _ => True
theorem GP9.mono (S0 : Nat) (n : Int) {j : Nat} {v : Value} {w w' : World} (h : GP9 S0 n j v w) (hb : GF S0 w w') : GP9 S0 n j v w' := by
  unfold GP9 at h ⊢
  split <;> first | exact trivial | exact gf_full h hb | exact gf_one h hb
set_option maxHeartbeats 4000000 in
theorem regionP9 {Q : Exit → Act → World → Prop} {a : Act} {w : World} (d ob S0 : Nat) (f : Foot) (at_ n : Int) (D : Dev) (B : Nat) (kd : Int) (bv kv : Value) (M : Int) (wI : World) (hs : a.tmps.size = 150) (h0 : a.tmps.getD 0 undef = .pointer (some ⟨d, 0, none⟩)) (h1 : a.tmps.getD 1 undef = .pointer (some ⟨f.g, 0, none⟩)) (h5 : a.tmps.getD 5 undef = .pointer (some ⟨ob, 0, none⟩))
    (hM : M ≤ 900000000) (hok : DOk M D) (hlo : LOk M D) (hJ : JP false B S0 d ob f 0 0 [] kd at_ n bv kv D D wI w)
    (hend : ∀ (u : Nat → Value) w', u 6 = .bool true → JP false B S0 d ob f 0 0 [] kd at_ n bv kv (dwrite D at_ (fl n)).2 (dwrite D at_ (fl n)).2 wI w' → Q .normal (putAll opsP9 u a) w') : (Code.region 9 opsP9 true).wp Try.prog Q a w := by
  refine wp_region_rule (by kernel_rfl) (fun i_ v_ w_ => VP9 d ob f at_ n D i_ v_ ∧ GP9 S0 n i_ v_ w_) (fun listed W => JL false 7 15 B S0 d ob f 0 0 [] kd at_ n bv kv D (dwrite D at_ (fl n)).2 wI listed W) (by kernel_rfl) (by rw [hs]; kernel_rfl) ?_ (allOps ⟨?_, ?_, ?_, ?_, ?_, ?_, ?_, ?_, ?_, ?_, ?_, ?_, ?_, ?_, ?_, ?_, ?_, ?_, trivial⟩) ?_
  · exact JL.start hJ.drew (by simp [opsP9]) (by simp [opsP9]) (by decide)
  · intro listed a' w' hl H hJ
    have e0 : a'.tmps[0]?.getD undef = .pointer (some ⟨d, 0, none⟩) := H.old 0 rfl h0
    refine ⟨rfl, fun K hK => ?_⟩
    refine wp_eq (v := .pointer (some ⟨d, 0, none⟩)) (w' := w') ?_ (hK _ w' (fun _ _ => ⟨rfl, trivial⟩) (fun _ _ _ _ h => h) (hJ.skip (by decide) (by decide)))
    simp [go_sem, e0]
  · intro listed a' w' hl H hJ
    have e5 : a'.tmps[5]?.getD undef = .pointer (some ⟨ob, 0, none⟩) := H.old 5 rfl h5
    refine ⟨rfl, fun K hK => ?_⟩
    refine wp_eq (v := .pointer (some ⟨ob, 1, none⟩)) (w' := w') ?_ (hK _ w' (fun _ _ => ⟨rfl, trivial⟩) (fun _ _ _ _ h => h) (hJ.skip (by decide) (by decide)))
    simp [go_sem, e5]
  · intro listed a' w' hl H hJ
    have e61 : a'.tmps[61]?.getD undef = .pointer (some ⟨ob, 1, none⟩) := (H.is 1 61 rfl rfl rfl).1
    refine ⟨rfl, fun K hK => ?_⟩
    have hc := hJ.o1
    refine wp_eq (v := .int .i64 at_) (w' := w') ?_ (hK _ w' (fun _ _ => ⟨rfl, trivial⟩) (fun _ _ _ _ h => h) (hJ.skip (by decide) (by decide)))
    simp [go_sem, e61, hc]
  · intro listed a' w' hl H hJ
    have e5 : a'.tmps[5]?.getD undef = .pointer (some ⟨ob, 0, none⟩) := H.old 5 rfl h5
    refine ⟨rfl, fun K hK => ?_⟩
    refine wp_eq (v := .pointer (some ⟨ob, 2, none⟩)) (w' := w') ?_ (hK _ w' (fun _ _ => ⟨rfl, trivial⟩) (fun _ _ _ _ h => h) (hJ.skip (by decide) (by decide)))
    simp [go_sem, e5]
  · intro listed a' w' hl H hJ
    have e63 : a'.tmps[63]?.getD undef = .pointer (some ⟨ob, 2, none⟩) := (H.is 3 63 rfl rfl rfl).1
    refine ⟨rfl, fun K hK => ?_⟩
    have hc := hJ.o2
    refine wp_eq (v := .int .i64 n) (w' := w') ?_ (hK _ w' (fun _ _ => ⟨rfl, trivial⟩) (fun _ _ _ _ h => h) (hJ.skip (by decide) (by decide)))
    simp [go_sem, e63, hc]
  · intro listed a' w' hl H hJ
    have e64 : a'.tmps[64]?.getD undef = .int .i64 n := (H.is 4 64 rfl rfl rfl).1
    refine ⟨rfl, fun K hK => ?_⟩
    refine wp_enter (f := 8) (args := #[.int .i64 n]) (w' := w') (R := fun v w2 => (∃ b, v = .slice (some ⟨b, 0, none⟩) 512 512 ∧ S0 ≤ b ∧ BytesAt w2 b (fl n)) ∧ Below w'.heap.size w' w2) ?_ ((full_c n w').mono fun e w2 h => by obtain ⟨rfl, h1, h2⟩ := h; exact ⟨_, rfl, ⟨_, rfl, hJ.size, h1⟩, h2⟩) ?_
    · simp [go_sem, e64]
    · rintro v w2 ⟨hr, hb0⟩
      exact hK _ _ (fun _ _ => ⟨trivial, hr⟩) (fun j u _ _ hF => ⟨hF.1, GP9.mono S0 n hF.2 (GF.of_below hb0)⟩) ((JL.below hJ hb0).skip (by decide) (by decide))
  · intro listed a' w' hl H hJ
    have e65 := H.is 5 65 rfl rfl rfl
    refine ⟨rfl, fun K hK => ?_⟩
    obtain ⟨b, hv, hbS, hby⟩ := e65.2
    have hal : Below w'.heap.size w' (w'.alloc (.cells #[.slice (some ⟨b, 0, none⟩) 512 512] 28)) := (Below.refl _ _).alloc (Nat.le_refl _) _
    have hgf : GF S0 w' (w'.alloc (.cells #[.slice (some ⟨b, 0, none⟩) 512 512] 28)) := GF.of_below hal
    refine wp_eq (v := .slice (some ⟨w'.heap.size, 0, none⟩) 1 1) (w' := w'.alloc (.cells #[.slice (some ⟨b, 0, none⟩) 512 512] 28)) ?_ (hK _ _ (fun _ _ => ⟨trivial, _, rfl, hJ.size, b, (MapKept.heap_alloc w' _).1, hbS, hby.keep (hal.block _ hby.lt)⟩) (fun j y _ _ hF => ⟨hF.1, GP9.mono S0 n hF.2 hgf⟩) ((JL.below hJ hal).skip (by decide) (by decide)))
    simp [go_sem, hv]
  · intro listed a' w' hl H hJ
    have e60 : a'.tmps[60]?.getD undef = .pointer (some ⟨d, 0, none⟩) := (H.is 0 60 rfl rfl rfl).1
    have e62 : a'.tmps[62]?.getD undef = .int .i64 at_ := (H.is 2 62 rfl rfl rfl).1
    have e66 := H.is 6 66 rfl rfl rfl
    refine ⟨rfl, fun K hK => ?_⟩
    obtain ⟨pb, hpv, hpS, b, hpc, hbS, hby⟩ := e66.2
    have e66' := e66.1
    clear e66
    have hJ0 := JL.noA hJ (not_yet hl)
    have hW := write_c B d D M w' hok (by omega) hJ0 hJ.base at_ (.slice (some ⟨pb, 0, none⟩) 1 1) [(.slice (some ⟨b, 0, none⟩) 512 512, fl n)] (fun w2 hw2 => parts1' hpc hby hw2) (by rw [cat1, fl_len]; omega) (by simp)
    rw [cat1] at hW
    refine wp_enter (f := 9) (args := #[.pointer (some ⟨d, 0, none⟩), .int .i64 at_, .slice (some ⟨pb, 0, none⟩) 1 1]) (w' := w') (R := fun v w2 => v = errV (dwrite D at_ (fl n)).1 ∧ DRep B w2 d (dwrite D at_ (fl n)).2 ∧ Fr B tagD w' w2) ?_ (hW.mono fun e w2 h => by obtain ⟨rfl, h1, h2⟩ := h; exact ⟨_, rfl, rfl, h1, h2⟩) ?_
    · simp [go_sem, e60, e62, hpv]
    · rintro v w2 ⟨rfl, h1, h2⟩
      have hgf : GF S0 w' w2 := GF.of_fr h2
      exact hK _ w2 (fun _ _ => ⟨rfl, trivial⟩) (fun j y _ _ hF => ⟨hF.1, GP9.mono S0 n hF.2 hgf⟩) (JL.write hJ hl h1 h2)
  · intro listed a' w' hl H hJ
    have e67 : a'.tmps[67]?.getD undef = errV (dwrite D at_ (fl n)).1 := (H.is 7 67 rfl rfl rfl).1
    refine ⟨rfl, fun K hK => ?_⟩
    refine wp_enter (f := 14) (args := #[errV (dwrite D at_ (fl n)).1]) (w' := w') (R := fun v w2 => v = .int .i64 (dwrite D at_ (fl n)).1 ∧ w' = w2) ?_ ((num_c (dwrite D at_ (fl n)).1 w').mono fun e w2 h => by obtain ⟨rfl, rfl⟩ := h; exact ⟨_, rfl, rfl, rfl⟩) ?_
    · simp [go_sem, e67]
    · rintro v w2 ⟨rfl, rfl⟩
      exact hK _ _ (fun _ _ => ⟨rfl, trivial⟩) (fun _ _ _ _ h => h) (hJ.skip (by decide) (by decide))
  · intro listed a' w' hl H hJ
    have e1 : a'.tmps[1]?.getD undef = .pointer (some ⟨f.g, 0, none⟩) := H.old 1 rfl h1
    refine ⟨rfl, fun K hK => ?_⟩
    refine wp_eq (v := .pointer (some ⟨f.g, 0, none⟩)) (w' := w') ?_ (hK _ w' (fun _ _ => ⟨rfl, trivial⟩) (fun _ _ _ _ h => h) (hJ.skip (by decide) (by decide)))
    simp [go_sem, e1]
  · intro listed a' w' hl H hJ
    have e5 : a'.tmps[5]?.getD undef = .pointer (some ⟨ob, 0, none⟩) := H.old 5 rfl h5
    refine ⟨rfl, fun K hK => ?_⟩
    refine wp_eq (v := .pointer (some ⟨ob, 1, none⟩)) (w' := w') ?_ (hK _ w' (fun _ _ => ⟨rfl, trivial⟩) (fun _ _ _ _ h => h) (hJ.skip (by decide) (by decide)))
    simp [go_sem, e5]
  · intro listed a' w' hl H hJ
    have e70 : a'.tmps[70]?.getD undef = .pointer (some ⟨ob, 1, none⟩) := (H.is 10 70 rfl rfl rfl).1
    refine ⟨rfl, fun K hK => ?_⟩
    have hc := hJ.o1
    refine wp_eq (v := .int .i64 at_) (w' := w') ?_ (hK _ w' (fun _ _ => ⟨rfl, trivial⟩) (fun _ _ _ _ h => h) (hJ.skip (by decide) (by decide)))
    simp [go_sem, e70, hc]
  · intro listed a' w' hl H hJ
    have e5 : a'.tmps[5]?.getD undef = .pointer (some ⟨ob, 0, none⟩) := H.old 5 rfl h5
    refine ⟨rfl, fun K hK => ?_⟩
    refine wp_eq (v := .pointer (some ⟨ob, 2, none⟩)) (w' := w') ?_ (hK _ w' (fun _ _ => ⟨rfl, trivial⟩) (fun _ _ _ _ h => h) (hJ.skip (by decide) (by decide)))
    simp [go_sem, e5]
  · intro listed a' w' hl H hJ
    have e72 : a'.tmps[72]?.getD undef = .pointer (some ⟨ob, 2, none⟩) := (H.is 12 72 rfl rfl rfl).1
    refine ⟨rfl, fun K hK => ?_⟩
    have hc := hJ.o2
    refine wp_eq (v := .int .i64 n) (w' := w') ?_ (hK _ w' (fun _ _ => ⟨rfl, trivial⟩) (fun _ _ _ _ h => h) (hJ.skip (by decide) (by decide)))
    simp [go_sem, e72, hc]
  · intro listed a' w' hl H hJ
    have e73 : a'.tmps[73]?.getD undef = .int .i64 n := (H.is 13 73 rfl rfl rfl).1
    refine ⟨rfl, fun K hK => ?_⟩
    refine wp_enter (f := 8) (args := #[.int .i64 n]) (w' := w') (R := fun v w2 => (∃ b, v = .slice (some ⟨b, 0, none⟩) 512 512 ∧ S0 ≤ b ∧ BytesAt w2 b (fl n)) ∧ Below w'.heap.size w' w2) ?_ ((full_c n w').mono fun e w2 h => by obtain ⟨rfl, h1, h2⟩ := h; exact ⟨_, rfl, ⟨_, rfl, hJ.size, h1⟩, h2⟩) ?_
    · simp [go_sem, e73]
    · rintro v w2 ⟨hr, hb0⟩
      exact hK _ _ (fun _ _ => ⟨trivial, hr⟩) (fun j u _ _ hF => ⟨hF.1, GP9.mono S0 n hF.2 (GF.of_below hb0)⟩) ((JL.below hJ hb0).skip (by decide) (by decide))
  · intro listed a' w' hl H hJ
    have e69 : a'.tmps[69]?.getD undef = .pointer (some ⟨f.g, 0, none⟩) := (H.is 9 69 rfl rfl rfl).1
    have e71 : a'.tmps[71]?.getD undef = .int .i64 at_ := (H.is 11 71 rfl rfl rfl).1
    have e74 := H.is 14 74 rfl rfl rfl
    refine ⟨rfl, fun K hK => ?_⟩
    obtain ⟨b, hv, hbS, hby⟩ := e74.2
    have hJ0 := JL.noB hJ (not_yet hl)
    have hW := rwrite_c B f D M w' hok hlo (by omega) hJ0 at_ (.slice (some ⟨b, 0, none⟩) 512 512) (fl n) (full_rd hby) (fun b' hb' hn hf => by injection hb' with hb'; have := hJ.flt b' hf; simp at hb'; omega) (fun y hy => by have := hJ.all.fx y hy; have := hJ.size; omega)
    refine wp_enter (f := 34) (args := #[.pointer (some ⟨f.g, 0, none⟩), .int .i64 at_, .slice (some ⟨b, 0, none⟩) 512 512]) (w' := w') (R := fun v w2 => v = .int .i64 (dwrite D at_ (fl n)).1 ∧ RAt B w2 f (dwrite D at_ (fl n)).2 ∧ Kp f.has w' w2) ?_ (hW.mono fun e w2 h => by obtain ⟨rfl, h1, h2⟩ := h; exact ⟨_, rfl, rfl, h1, h2⟩) ?_
    · simp [go_sem, e69, e71, hv]
    · rintro v w2 ⟨rfl, h1, h2⟩
      have hgf : GF S0 w' w2 := GF.of_kp h2 (fun b hb => hJ.flt b hb)
      exact hK _ w2 (fun _ _ => ⟨rfl, trivial⟩) (fun j y _ _ hF => ⟨hF.1, GP9.mono S0 n hF.2 hgf⟩) (JL.rwrite hJ hl h1 h2)
  · intro listed a' w' hl H hJ
    have e68 : a'.tmps[68]?.getD undef = .int .i64 (dwrite D at_ (fl n)).1 := (H.is 8 68 rfl rfl rfl).1
    have e75 : a'.tmps[75]?.getD undef = .int .i64 (dwrite D at_ (fl n)).1 := (H.is 15 75 rfl rfl rfl).1
    refine ⟨rfl, fun K hK => ?_⟩
    refine wp_eq (v := .bool true) (w' := w') ?_ (hK _ w' (fun _ _ => ⟨rfl, trivial⟩) (fun _ _ _ _ h => h) (hJ.skip (by decide) (by decide)))
    simp [go_sem, e68, e75]
  · intro listed a' w' hl H hJ
    have e76 : a'.tmps[76]?.getD undef = .bool true := (H.is 16 76 rfl rfl rfl).1
    refine ⟨rfl, fun K hK => ?_⟩
    refine wp_eq (v := .bool true) (w' := w') ?_ (hK _ w' (fun _ _ => ⟨rfl, trivial⟩) (fun _ _ _ _ h => h) (hJ.skip (by decide) (by decide)))
    simp [go_sem, e76]
  · intro listed u w' hF hall hJ
    exact hend u w' (hF 17 _ 6 rfl rfl).1 (JL.end_ hJ (hall 7 (by decide)) (hall 15 (by decide)))

def opsP22 : Array Oper := #[{ dst := some 120, op := Op.move (Operand.tmp 1), type := 38, pos := "law.go:77", after := #[], guard := none }, { dst := some 121, op := Op.move (Operand.tmp 1), type := 38, pos := "law.go:77", after := #[{ on := 6, ground := Ground.gcOnly Departure.lateStores }], guard := none }, { dst := some 122, op := Op.fieldAddr 45 (Operand.tmp 5) 2, type := 0, pos := "law.go:77", after := #[{ on := 6, ground := Ground.gcOnly Departure.lateStores }], guard := none }, { dst := some 123, op := Op.load 3 (Operand.tmp 122), type := 3, pos := "law.go:77", after := #[{ on := 2, ground := Ground.data }, { on := 6, ground := Ground.gcOnly Departure.lateStores }], guard := none }, { dst := some 124, op := Op.nilCheck (Operand.tmp 120), type := 0, pos := "law.go:77", after := #[{ on := 0, ground := Ground.data }, { on := 0, ground := Ground.phase }, { on := 1, ground := Ground.textOnly Departure.lateStores }, { on := 2, ground := Ground.textOnly Departure.lateStores }, { on := 3, ground := Ground.textOnly Departure.lateStores }], guard := none }, { dst := some 125, op := Op.fieldAddr 50 (Operand.tmp 124) 5, type := 0, pos := "law.go:77", after := #[{ on := 4, ground := Ground.data }, { on := 0, ground := Ground.phase }, { on := 1, ground := Ground.textOnly Departure.lateStores }, { on := 2, ground := Ground.textOnly Departure.lateStores }, { on := 3, ground := Ground.textOnly Departure.lateStores }], guard := none }, { dst := none, op := Op.store 4 (Operand.tmp 125) (Operand.const (Value.bool true)), type := 0, pos := "law.go:77", after := #[{ on := 5, ground := Ground.data }, { on := 0, ground := Ground.phase }, { on := 1, ground := Ground.textOnly Departure.lateStores }, { on := 2, ground := Ground.textOnly Departure.lateStores }, { on := 3, ground := Ground.textOnly Departure.lateStores }], guard := none }, { dst := some 126, op := Op.nilCheck (Operand.tmp 121), type := 0, pos := "law.go:77", after := #[{ on := 1, ground := Ground.data }, { on := 0, ground := Ground.phase }, { on := 1, ground := Ground.phase }, { on := 2, ground := Ground.phase }, { on := 3, ground := Ground.phase }, { on := 4, ground := Ground.phase }, { on := 5, ground := Ground.phase }, { on := 6, ground := Ground.phase }], guard := none }, { dst := some 127, op := Op.fieldAddr 50 (Operand.tmp 126) 6, type := 0, pos := "law.go:77", after := #[{ on := 7, ground := Ground.data }, { on := 0, ground := Ground.phase }, { on := 1, ground := Ground.phase }, { on := 2, ground := Ground.phase }, { on := 3, ground := Ground.phase }, { on := 4, ground := Ground.phase }, { on := 5, ground := Ground.phase }, { on := 6, ground := Ground.phase }], guard := none }, { dst := none, op := Op.store 3 (Operand.tmp 127) (Operand.tmp 123), type := 0, pos := "law.go:77", after := #[{ on := 8, ground := Ground.data }, { on := 3, ground := Ground.data }, { on := 6, ground := Ground.chain }, { on := 0, ground := Ground.phase }, { on := 1, ground := Ground.phase }, { on := 2, ground := Ground.phase }, { on := 3, ground := Ground.phase }, { on := 4, ground := Ground.phase }, { on := 5, ground := Ground.phase }, { on := 6, ground := Ground.phase }], guard := none }]
def VP22 (ob : Nat) (f : Foot) (n : Int) : Nat → Value → Prop
  | 0, y_ => y_ = .pointer (some ⟨f.g, 0, none⟩)
  | 1, y_ => y_ = .pointer (some ⟨f.g, 0, none⟩)
  | 2, y_ => y_ = .pointer (some ⟨ob, 2, none⟩)
  | 3, y_ => y_ = .int .i64 n
  | 4, y_ => y_ = .pointer (some ⟨f.g, 0, none⟩)
  | 5, y_ => y_ = .pointer (some ⟨f.g, 5, none⟩)
  | 7, y_ => y_ = .pointer (some ⟨f.g, 0, none⟩)
  | 8, y_ => y_ = .pointer (some ⟨f.g, 6, none⟩)
  | _, _ => True
set_option maxHeartbeats 4000000 in
theorem regionP22 {Q : Exit → Act → World → Prop} {a : Act} {w : World} (ob : Nat) (f : Foot) (n : Int) (B : Nat) (kd at_ : Int) (bv kv : Value) (D : Dev) (hs : a.tmps.size = 150) (h1 : a.tmps.getD 1 undef = .pointer (some ⟨f.g, 0, none⟩)) (h5 : a.tmps.getD 5 undef = .pointer (some ⟨ob, 0, none⟩))
    (hra : RAt B w f D) (hob : w.heap[ob]? = some (.cells #[.int .i64 kd, .int .i64 at_, .int .i64 n, bv, kv] 45 (0, 0)))
    (hend : ∀ (u : Nat → Value) w', RAt B w' f { D with armed := true, left := n } → w'.heap[ob]? = some (.cells #[.int .i64 kd, .int .i64 at_, .int .i64 n, bv, kv] 45 (0, 0)) → Kp f.has w w' → Q .normal (putAll opsP22 u a) w') : (Code.region 22 opsP22 true).wp Try.prog Q a w := by
  refine wp_region_rule (by kernel_rfl) (fun i_ v_ _ => VP22 ob f n i_ v_) (JR B ob f kd at_ n bv kv D w) (by kernel_rfl) (by rw [hs]; kernel_rfl) ?_ (allOps ⟨?_, ?_, ?_, ?_, ?_, ?_, ?_, ?_, ?_, ?_, trivial⟩) ?_
  · exact ⟨by simpa [opsP22] using hra.drew, hob, (Kp.refl _ _).drew⟩
  · intro listed a' w' hl H hJ
    have e1 : a'.tmps[1]?.getD undef = .pointer (some ⟨f.g, 0, none⟩) := H.old 1 rfl h1
    refine ⟨rfl, fun K hK => ?_⟩
    refine wp_eq (v := .pointer (some ⟨f.g, 0, none⟩)) (w' := w') ?_ (hK _ w' (fun _ _ => rfl) (fun _ _ _ _ h => h) (hJ.skip (by decide) (by decide)))
    simp [go_sem, e1]
  · intro listed a' w' hl H hJ
    have e1 : a'.tmps[1]?.getD undef = .pointer (some ⟨f.g, 0, none⟩) := H.old 1 rfl h1
    refine ⟨rfl, fun K hK => ?_⟩
    refine wp_eq (v := .pointer (some ⟨f.g, 0, none⟩)) (w' := w') ?_ (hK _ w' (fun _ _ => rfl) (fun _ _ _ _ h => h) (hJ.skip (by decide) (by decide)))
    simp [go_sem, e1]
  · intro listed a' w' hl H hJ
    have e5 : a'.tmps[5]?.getD undef = .pointer (some ⟨ob, 0, none⟩) := H.old 5 rfl h5
    refine ⟨rfl, fun K hK => ?_⟩
    refine wp_eq (v := .pointer (some ⟨ob, 2, none⟩)) (w' := w') ?_ (hK _ w' (fun _ _ => rfl) (fun _ _ _ _ h => h) (hJ.skip (by decide) (by decide)))
    simp [go_sem, e5]
  · intro listed a' w' hl H hJ
    have e122 : a'.tmps[122]?.getD undef = .pointer (some ⟨ob, 2, none⟩) := (H.is 2 122 rfl rfl rfl)
    refine ⟨rfl, fun K hK => ?_⟩
    have hc := hJ.o2
    refine wp_eq (v := .int .i64 n) (w' := w') ?_ (hK _ w' (fun _ _ => rfl) (fun _ _ _ _ h => h) (hJ.skip (by decide) (by decide)))
    simp [go_sem, e122, hc]
  · intro listed a' w' hl H hJ
    have e120 : a'.tmps[120]?.getD undef = .pointer (some ⟨f.g, 0, none⟩) := (H.is 0 120 rfl rfl rfl)
    refine ⟨rfl, fun K hK => ?_⟩
    refine wp_eq (v := .pointer (some ⟨f.g, 0, none⟩)) (w' := w') ?_ (hK _ w' (fun _ _ => rfl) (fun _ _ _ _ h => h) (hJ.skip (by decide) (by decide)))
    simp [go_sem, e120]
  · intro listed a' w' hl H hJ
    have e124 : a'.tmps[124]?.getD undef = .pointer (some ⟨f.g, 0, none⟩) := (H.is 4 124 rfl rfl rfl)
    refine ⟨rfl, fun K hK => ?_⟩
    refine wp_eq (v := .pointer (some ⟨f.g, 5, none⟩)) (w' := w') ?_ (hK _ w' (fun _ _ => rfl) (fun _ _ _ _ h => h) (hJ.skip (by decide) (by decide)))
    simp [go_sem, e124]
  · intro listed a' w' hl H hJ
    have e125 : a'.tmps[125]?.getD undef = .pointer (some ⟨f.g, 5, none⟩) := (H.is 5 125 rfl rfl rfl)
    refine ⟨rfl, fun K hK => ?_⟩
    have ep : a'.eval (.tmp 125) = .pointer (some ⟨f.g, 5, none⟩) := by simp only [Act.eval, Array.getD_eq_getD_getElem?]; exact e125
    obtain ⟨w2, hs, hJ2⟩ := hJ.st6 hl
    unfold Oper.wp execOp
    simp only [ep, show a'.eval (.const (.bool true)) = .bool true from rfl, Sem.run_bind, Sem.run_pure, hs, Result.andThen_ok]
    exact hK undef _ (fun _ h => by cases h) (fun _ _ _ _ h => h) hJ2
  · intro listed a' w' hl H hJ
    have e121 : a'.tmps[121]?.getD undef = .pointer (some ⟨f.g, 0, none⟩) := (H.is 1 121 rfl rfl rfl)
    refine ⟨rfl, fun K hK => ?_⟩
    refine wp_eq (v := .pointer (some ⟨f.g, 0, none⟩)) (w' := w') ?_ (hK _ w' (fun _ _ => rfl) (fun _ _ _ _ h => h) (hJ.skip (by decide) (by decide)))
    simp [go_sem, e121]
  · intro listed a' w' hl H hJ
    have e126 : a'.tmps[126]?.getD undef = .pointer (some ⟨f.g, 0, none⟩) := (H.is 7 126 rfl rfl rfl)
    refine ⟨rfl, fun K hK => ?_⟩
    refine wp_eq (v := .pointer (some ⟨f.g, 6, none⟩)) (w' := w') ?_ (hK _ w' (fun _ _ => rfl) (fun _ _ _ _ h => h) (hJ.skip (by decide) (by decide)))
    simp [go_sem, e126]
  · intro listed a' w' hl H hJ
    have e127 : a'.tmps[127]?.getD undef = .pointer (some ⟨f.g, 6, none⟩) := (H.is 8 127 rfl rfl rfl)
    have e123 : a'.tmps[123]?.getD undef = .int .i64 n := (H.is 3 123 rfl rfl rfl)
    refine ⟨rfl, fun K hK => ?_⟩
    have ep : a'.eval (.tmp 127) = .pointer (some ⟨f.g, 6, none⟩) := by simp only [Act.eval, Array.getD_eq_getD_getElem?]; exact e127
    have ev : a'.eval (.tmp 123) = .int .i64 n := by simp only [Act.eval, Array.getD_eq_getD_getElem?]; exact e123
    obtain ⟨w2, hs, hJ2⟩ := hJ.st9 hl
    unfold Oper.wp execOp
    simp only [ep, ev, Sem.run_bind, Sem.run_pure, hs, Result.andThen_ok]
    exact hK undef _ (fun _ h => by cases h) (fun _ _ _ _ h => h) hJ2
  · intro listed u w' hF hall hJ
    have h6 := hall 6 (by decide)
    have h9 := hall 9 (by decide)
    unfold Done at h6 h9
    have h1 := hJ.ra
    rw [h6, h9] at h1
    exact hend u w' h1 hJ.ob hJ.kp

end Go.Proofs.Ytbcafhhheileeaa
