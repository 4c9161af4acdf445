/-
  Part of the proofs of DiskPlays, SlotPlays: the document's device, regions that draw their order.
  Conditions: those that each theorem names.
-/
import Derived.Test.YtbcafhhheileeaaE2
namespace Go.Proofs.Ytbcafhhheileeaa
open Go.RowKit
set_option maxRecDepth 100000

/-- the world in a region whose operation k is its only write -/
structure Jk (k : Nat) (wd w5 : World) (listed : Array Bool) (w : World) : Prop where
  no : listed.getD k false = false → w = wd
  yes : listed.getD k false = true → w = w5
theorem Jk.skip {k : Nat} {wd w5 : World} {listed : Array Bool} {w : World} {i : Nat} (h : Jk k wd w5 listed w) (hi : i ≠ k) : Jk k wd w5 (listed.setIfInBounds i true) w :=
  ⟨by rw [set_ne hi]; exact h.no, by rw [set_ne hi]; exact h.yes⟩
theorem Jk.or {k : Nat} {wd w5 : World} {listed : Array Bool} {w : World} (h : Jk k wd w5 listed w) : w = wd ∨ w = w5 := by
  cases h1 : listed.getD k false with
  | false => exact .inl (h.no h1)
  | true => exact .inr (h.yes h1)
theorem store_one {w : World} {b i : Nat} {v u : Value} (hc : w.cell? ⟨b, i, none⟩ = some u) (hf : w.frozen? ⟨b, i, none⟩ = false) (hv : ∃ A n c, v = .slice A n c) : (Instr.storeAt 28 (.pointer (some ⟨b, i, none⟩)) v).run Try.prog w = .ok () (w.setCell ⟨b, i, none⟩ v) := by
  obtain ⟨A, n, c, rfl⟩ := hv
  simp [go_sem, hc, hf]

def opsRS3 : Array Oper := #[{ dst := some 12, op := Op.move (Operand.tmp 0), type := 38, pos := "ref.go:90", after := #[], guard := none }, { dst := some 13, op := Op.nilCheck (Operand.tmp 12), type := 0, pos := "ref.go:90", after := #[{ on := 0, ground := Ground.data }], guard := none }, { dst := some 14, op := Op.fieldAddr 50 (Operand.tmp 13) 1, type := 0, pos := "ref.go:90", after := #[{ on := 1, ground := Ground.data }], guard := none }, { dst := some 15, op := Op.load 35 (Operand.tmp 14), type := 35, pos := "ref.go:90", after := #[{ on := 2, ground := Ground.data }], guard := none }, { dst := some 16, op := Op.move (Operand.tmp 2), type := 3, pos := "ref.go:90", after := #[], guard := none }, { dst := some 17, op := Op.move (Operand.tmp 0), type := 38, pos := "ref.go:90", after := #[], guard := none }, { dst := some 18, op := Op.nilCheck (Operand.tmp 17), type := 0, pos := "ref.go:90", after := #[{ on := 5, ground := Ground.data }], guard := none }, { dst := some 19, op := Op.fieldAddr 50 (Operand.tmp 18) 0, type := 0, pos := "ref.go:90", after := #[{ on := 6, ground := Ground.data }], guard := none }, { dst := some 20, op := Op.load 35 (Operand.tmp 19), type := 35, pos := "ref.go:90", after := #[{ on := 7, ground := Ground.data }], guard := none }, { dst := some 21, op := Op.move (Operand.tmp 2), type := 3, pos := "ref.go:90", after := #[], guard := none }, { dst := some 22, op := Op.indexAddr 35 (Operand.tmp 20) (Operand.tmp 21), type := 0, pos := "ref.go:90", after := #[{ on := 8, ground := Ground.data }, { on := 9, ground := Ground.data }], guard := none }, { dst := some 23, op := Op.load 28 (Operand.tmp 22), type := 28, pos := "ref.go:90", after := #[{ on := 10, ground := Ground.data }], guard := none }, { dst := some 24, op := Op.indexAddr 35 (Operand.tmp 15) (Operand.tmp 16), type := 0, pos := "ref.go:90", after := #[{ on := 3, ground := Ground.data }, { on := 4, ground := Ground.data }, { on := 0, ground := Ground.phase }, { on := 1, ground := Ground.phase }, { on := 2, ground := Ground.phase }, { on := 3, ground := Ground.phase }, { on := 4, ground := Ground.phase }, { on := 5, ground := Ground.phase }, { on := 6, ground := Ground.phase }, { on := 7, ground := Ground.phase }, { on := 8, ground := Ground.phase }, { on := 9, ground := Ground.phase }, { on := 10, ground := Ground.phase }, { on := 11, ground := Ground.phase }], guard := none }, { dst := none, op := Op.store 28 (Operand.tmp 24) (Operand.tmp 23), type := 0, pos := "ref.go:90", after := #[{ on := 12, ground := Ground.data }, { on := 11, ground := Ground.data }, { on := 0, ground := Ground.phase }, { on := 1, ground := Ground.phase }, { on := 2, ground := Ground.phase }, { on := 3, ground := Ground.phase }, { on := 4, ground := Ground.phase }, { on := 5, ground := Ground.phase }, { on := 6, ground := Ground.phase }, { on := 7, ground := Ground.phase }, { on := 8, ground := Ground.phase }, { on := 9, ground := Ground.phase }, { on := 10, ground := Ground.phase }, { on := 11, ground := Ground.phase }], guard := none }]
def VRS3 (f : Foot) (n i : Nat) (v : Value) : Nat → Value → Prop
  | 0, y_ => y_ = .pointer (some ⟨f.g, 0, none⟩)
  | 1, y_ => y_ = .pointer (some ⟨f.g, 0, none⟩)
  | 2, y_ => y_ = .pointer (some ⟨f.g, 1, none⟩)
  | 3, y_ => y_ = slV f.bS n f.cS
  | 4, y_ => y_ = .int .i64 i
  | 5, y_ => y_ = .pointer (some ⟨f.g, 0, none⟩)
  | 6, y_ => y_ = .pointer (some ⟨f.g, 0, none⟩)
  | 7, y_ => y_ = .pointer (some ⟨f.g, 0, none⟩)
  | 8, y_ => y_ = slV f.bN n f.cN
  | 9, y_ => y_ = .int .i64 i
  | 10, y_ => y_ = .pointer (some ⟨f.bN, i, none⟩)
  | 11, y_ => y_ = v
  | 12, y_ => y_ = .pointer (some ⟨f.bS, i, none⟩)
  | _, _ => True
set_option maxHeartbeats 4000000 in
theorem regionRS3 {Q : Exit → Act → World → Prop} {a : Act} {w : World} (f : Foot) (n i : Nat) (v : Value) (w5 : World) (hs : a.tmps.size = 31) (h0 : a.tmps.getD 0 undef = .pointer (some ⟨f.g, 0, none⟩)) (hk : a.tmps.getD 2 undef = .int .i64 i)
    (hi : i < n) (hd : ∀ W, W = w.drew ∨ W = w5 → W.cell? ⟨f.g, 1, none⟩ = some (slV f.bS n f.cS)) (hsr : ∀ W, W = w.drew ∨ W = w5 → W.cell? ⟨f.g, 0, none⟩ = some (slV f.bN n f.cN)) (hl : ∀ W, W = w.drew ∨ W = w5 → W.cell? ⟨f.bN, i, none⟩ = some v)
    (hst : w5 = w.drew.setCell ⟨f.bS, i, none⟩ v) (hc : ∃ u, w.drew.cell? ⟨f.bS, i, none⟩ = some u) (hf : w.drew.frozen? ⟨f.bS, i, none⟩ = false) (hv : ∃ A n c, v = .slice A n c)
    (hend : ∀ (u : Nat → Value), Q .normal (putAll opsRS3 u a) w5) : (Code.region 3 opsRS3 true).wp Try.prog Q a w := by
  refine wp_region_rule (by kernel_rfl) (fun i_ v_ _ => VRS3 f n i v i_ v_) (Jk 13 w.drew w5) (by kernel_rfl) (by rw [hs]; kernel_rfl) ?_ (allOps ⟨?_, ?_, ?_, ?_, ?_, ?_, ?_, ?_, ?_, ?_, ?_, ?_, ?_, ?_, trivial⟩) ?_
  · exact ⟨fun _ => rfl, fun h => by simp [opsRS3] at h⟩
  · intro listed a' w' hl' H hJ
    have e0 : a'.tmps[0]?.getD undef = .pointer (some ⟨f.g, 0, none⟩) := H.old 0 rfl h0
    refine ⟨rfl, fun K hK => ?_⟩
    refine wp_eq (v := .pointer (some ⟨f.g, 0, none⟩)) (w' := w') ?_ (hK _ w' (fun _ _ => rfl) (fun _ _ _ _ h => h) (hJ.skip (by decide)))
    simp [go_sem, e0]
  · intro listed a' w' hl' H hJ
    have e12 : a'.tmps[12]?.getD undef = .pointer (some ⟨f.g, 0, none⟩) := (H.is 0 12 rfl rfl rfl)
    refine ⟨rfl, fun K hK => ?_⟩
    refine wp_eq (v := .pointer (some ⟨f.g, 0, none⟩)) (w' := w') ?_ (hK _ w' (fun _ _ => rfl) (fun _ _ _ _ h => h) (hJ.skip (by decide)))
    simp [go_sem, e12]
  · intro listed a' w' hl' H hJ
    have e13 : a'.tmps[13]?.getD undef = .pointer (some ⟨f.g, 0, none⟩) := (H.is 1 13 rfl rfl rfl)
    refine ⟨rfl, fun K hK => ?_⟩
    refine wp_eq (v := .pointer (some ⟨f.g, 1, none⟩)) (w' := w') ?_ (hK _ w' (fun _ _ => rfl) (fun _ _ _ _ h => h) (hJ.skip (by decide)))
    simp [go_sem, e13]
  · intro listed a' w' hl' H hJ
    have e14 : a'.tmps[14]?.getD undef = .pointer (some ⟨f.g, 1, none⟩) := (H.is 2 14 rfl rfl rfl)
    refine ⟨rfl, fun K hK => ?_⟩
    have hc := hd w' hJ.or
    refine wp_eq (v := slV f.bS n f.cS) (w' := w') ?_ (hK _ w' (fun _ _ => rfl) (fun _ _ _ _ h => h) (hJ.skip (by decide)))
    simp [go_sem, e14, hc]
  · intro listed a' w' hl' H hJ
    have e2 : a'.tmps[2]?.getD undef = .int .i64 i := H.old 2 rfl hk
    refine ⟨rfl, fun K hK => ?_⟩
    refine wp_eq (v := .int .i64 i) (w' := w') ?_ (hK _ w' (fun _ _ => rfl) (fun _ _ _ _ h => h) (hJ.skip (by decide)))
    simp [go_sem, e2]
  · intro listed a' w' hl' H hJ
    have e0 : a'.tmps[0]?.getD undef = .pointer (some ⟨f.g, 0, none⟩) := H.old 0 rfl h0
    refine ⟨rfl, fun K hK => ?_⟩
    refine wp_eq (v := .pointer (some ⟨f.g, 0, none⟩)) (w' := w') ?_ (hK _ w' (fun _ _ => rfl) (fun _ _ _ _ h => h) (hJ.skip (by decide)))
    simp [go_sem, e0]
  · intro listed a' w' hl' H hJ
    have e17 : a'.tmps[17]?.getD undef = .pointer (some ⟨f.g, 0, none⟩) := (H.is 5 17 rfl rfl rfl)
    refine ⟨rfl, fun K hK => ?_⟩
    refine wp_eq (v := .pointer (some ⟨f.g, 0, none⟩)) (w' := w') ?_ (hK _ w' (fun _ _ => rfl) (fun _ _ _ _ h => h) (hJ.skip (by decide)))
    simp [go_sem, e17]
  · intro listed a' w' hl' H hJ
    have e18 : a'.tmps[18]?.getD undef = .pointer (some ⟨f.g, 0, none⟩) := (H.is 6 18 rfl rfl rfl)
    refine ⟨rfl, fun K hK => ?_⟩
    refine wp_eq (v := .pointer (some ⟨f.g, 0, none⟩)) (w' := w') ?_ (hK _ w' (fun _ _ => rfl) (fun _ _ _ _ h => h) (hJ.skip (by decide)))
    simp [go_sem, e18]
  · intro listed a' w' hl' H hJ
    have e19 : a'.tmps[19]?.getD undef = .pointer (some ⟨f.g, 0, none⟩) := (H.is 7 19 rfl rfl rfl)
    refine ⟨rfl, fun K hK => ?_⟩
    have hc := hsr w' hJ.or
    refine wp_eq (v := slV f.bN n f.cN) (w' := w') ?_ (hK _ w' (fun _ _ => rfl) (fun _ _ _ _ h => h) (hJ.skip (by decide)))
    simp [go_sem, e19, hc]
  · intro listed a' w' hl' H hJ
    have e2 : a'.tmps[2]?.getD undef = .int .i64 i := H.old 2 rfl hk
    refine ⟨rfl, fun K hK => ?_⟩
    refine wp_eq (v := .int .i64 i) (w' := w') ?_ (hK _ w' (fun _ _ => rfl) (fun _ _ _ _ h => h) (hJ.skip (by decide)))
    simp [go_sem, e2]
  · intro listed a' w' hl' H hJ
    have e20 : a'.tmps[20]?.getD undef = slV f.bN n f.cN := (H.is 8 20 rfl rfl rfl)
    have e21 : a'.tmps[21]?.getD undef = .int .i64 i := (H.is 9 21 rfl rfl rfl)
    refine ⟨rfl, fun K hK => ?_⟩
    refine wp_eq (v := .pointer (some ⟨f.bN, i, none⟩)) (w' := w') ?_ (hK _ w' (fun _ _ => rfl) (fun _ _ _ _ h => h) (hJ.skip (by decide)))
    simp [go_sem, e20, e21, slV, hi]
  · intro listed a' w' hl' H hJ
    have e22 : a'.tmps[22]?.getD undef = .pointer (some ⟨f.bN, i, none⟩) := (H.is 10 22 rfl rfl rfl)
    refine ⟨rfl, fun K hK => ?_⟩
    have hc := hl w' hJ.or
    refine wp_eq (v := v) (w' := w') ?_ (hK _ w' (fun _ _ => rfl) (fun _ _ _ _ h => h) (hJ.skip (by decide)))
    simp [go_sem, e22, hc]
  · intro listed a' w' hl' H hJ
    have e15 : a'.tmps[15]?.getD undef = slV f.bS n f.cS := (H.is 3 15 rfl rfl rfl)
    have e16 : a'.tmps[16]?.getD undef = .int .i64 i := (H.is 4 16 rfl rfl rfl)
    refine ⟨rfl, fun K hK => ?_⟩
    refine wp_eq (v := .pointer (some ⟨f.bS, i, none⟩)) (w' := w') ?_ (hK _ w' (fun _ _ => rfl) (fun _ _ _ _ h => h) (hJ.skip (by decide)))
    simp [go_sem, e15, e16, slV, hi]
  · intro listed a' w' hl' H hJ
    have e24 : a'.tmps[24]?.getD undef = .pointer (some ⟨f.bS, i, none⟩) := (H.is 12 24 rfl rfl rfl)
    have e23 : a'.tmps[23]?.getD undef = v := (H.is 11 23 rfl rfl rfl)
    refine ⟨rfl, fun K hK => ?_⟩
    have hw := hJ.no (not_yet hl')
    subst hw
    obtain ⟨uo, hc⟩ := hc
    have ew := hst
    subst ew
    unfold Oper.wp execOp
    simp only [Act.eval, Array.getD_eq_getD_getElem?, e24, e23, Sem.run_bind, Sem.run_pure, store_one hc hf hv, Result.andThen_ok]
    exact hK undef _ (fun _ h => by cases h) (fun _ _ _ _ h => h) ⟨(fun h => by rw [set_self hl'] at h; cases h), fun _ => rfl⟩
  · intro listed u w' hF hall hJ
    have h6 := hall 13 (by decide)
    have := hJ.yes h6
    subst this
    exact hend u

def opsRC9 : Array Oper := #[{ dst := some 33, op := Op.move (Operand.tmp 0), type := 38, pos := "ref.go:114", after := #[], guard := none }, { dst := some 34, op := Op.nilCheck (Operand.tmp 33), type := 0, pos := "ref.go:114", after := #[{ on := 0, ground := Ground.data }], guard := none }, { dst := some 35, op := Op.fieldAddr 50 (Operand.tmp 34) 0, type := 0, pos := "ref.go:114", after := #[{ on := 1, ground := Ground.data }], guard := none }, { dst := some 36, op := Op.load 35 (Operand.tmp 35), type := 35, pos := "ref.go:114", after := #[{ on := 2, ground := Ground.data }], guard := none }, { dst := some 37, op := Op.move (Operand.tmp 4), type := 3, pos := "ref.go:114", after := #[], guard := none }, { dst := some 38, op := Op.move (Operand.tmp 0), type := 38, pos := "ref.go:114", after := #[], guard := none }, { dst := some 39, op := Op.nilCheck (Operand.tmp 38), type := 0, pos := "ref.go:114", after := #[{ on := 5, ground := Ground.data }], guard := none }, { dst := some 40, op := Op.fieldAddr 50 (Operand.tmp 39) 1, type := 0, pos := "ref.go:114", after := #[{ on := 6, ground := Ground.data }], guard := none }, { dst := some 41, op := Op.load 35 (Operand.tmp 40), type := 35, pos := "ref.go:114", after := #[{ on := 7, ground := Ground.data }], guard := none }, { dst := some 42, op := Op.move (Operand.tmp 4), type := 3, pos := "ref.go:114", after := #[], guard := none }, { dst := some 43, op := Op.indexAddr 35 (Operand.tmp 41) (Operand.tmp 42), type := 0, pos := "ref.go:114", after := #[{ on := 8, ground := Ground.data }, { on := 9, ground := Ground.data }], guard := none }, { dst := some 44, op := Op.load 28 (Operand.tmp 43), type := 28, pos := "ref.go:114", after := #[{ on := 10, ground := Ground.data }], guard := none }, { dst := some 45, op := Op.indexAddr 35 (Operand.tmp 36) (Operand.tmp 37), type := 0, pos := "ref.go:114", after := #[{ on := 3, ground := Ground.data }, { on := 4, ground := Ground.data }, { on := 0, ground := Ground.phase }, { on := 1, ground := Ground.phase }, { on := 2, ground := Ground.phase }, { on := 3, ground := Ground.phase }, { on := 4, ground := Ground.phase }, { on := 5, ground := Ground.phase }, { on := 6, ground := Ground.phase }, { on := 7, ground := Ground.phase }, { on := 8, ground := Ground.phase }, { on := 9, ground := Ground.phase }, { on := 10, ground := Ground.phase }, { on := 11, ground := Ground.phase }], guard := none }, { dst := none, op := Op.store 28 (Operand.tmp 45) (Operand.tmp 44), type := 0, pos := "ref.go:114", after := #[{ on := 12, ground := Ground.data }, { on := 11, ground := Ground.data }, { on := 0, ground := Ground.phase }, { on := 1, ground := Ground.phase }, { on := 2, ground := Ground.phase }, { on := 3, ground := Ground.phase }, { on := 4, ground := Ground.phase }, { on := 5, ground := Ground.phase }, { on := 6, ground := Ground.phase }, { on := 7, ground := Ground.phase }, { on := 8, ground := Ground.phase }, { on := 9, ground := Ground.phase }, { on := 10, ground := Ground.phase }, { on := 11, ground := Ground.phase }], guard := none }]
def VRC9 (f : Foot) (n i : Nat) (v : Value) : Nat → Value → Prop
  | 0, y_ => y_ = .pointer (some ⟨f.g, 0, none⟩)
  | 1, y_ => y_ = .pointer (some ⟨f.g, 0, none⟩)
  | 2, y_ => y_ = .pointer (some ⟨f.g, 0, none⟩)
  | 3, y_ => y_ = slV f.bN n f.cN
  | 4, y_ => y_ = .int .i64 i
  | 5, y_ => y_ = .pointer (some ⟨f.g, 0, none⟩)
  | 6, y_ => y_ = .pointer (some ⟨f.g, 0, none⟩)
  | 7, y_ => y_ = .pointer (some ⟨f.g, 1, none⟩)
  | 8, y_ => y_ = slV f.bS n f.cS
  | 9, y_ => y_ = .int .i64 i
  | 10, y_ => y_ = .pointer (some ⟨f.bS, i, none⟩)
  | 11, y_ => y_ = v
  | 12, y_ => y_ = .pointer (some ⟨f.bN, i, none⟩)
  | _, _ => True
set_option maxHeartbeats 4000000 in
theorem regionRC9 {Q : Exit → Act → World → Prop} {a : Act} {w : World} (f : Foot) (n i : Nat) (v : Value) (w5 : World) (hs : a.tmps.size = 54) (h0 : a.tmps.getD 0 undef = .pointer (some ⟨f.g, 0, none⟩)) (hk : a.tmps.getD 4 undef = .int .i64 i)
    (hi : i < n) (hd : ∀ W, W = w.drew ∨ W = w5 → W.cell? ⟨f.g, 0, none⟩ = some (slV f.bN n f.cN)) (hsr : ∀ W, W = w.drew ∨ W = w5 → W.cell? ⟨f.g, 1, none⟩ = some (slV f.bS n f.cS)) (hl : ∀ W, W = w.drew ∨ W = w5 → W.cell? ⟨f.bS, i, none⟩ = some v)
    (hst : w5 = w.drew.setCell ⟨f.bN, i, none⟩ v) (hc : ∃ u, w.drew.cell? ⟨f.bN, i, none⟩ = some u) (hf : w.drew.frozen? ⟨f.bN, i, none⟩ = false) (hv : ∃ A n c, v = .slice A n c)
    (hend : ∀ (u : Nat → Value), Q .normal (putAll opsRC9 u a) w5) : (Code.region 9 opsRC9 true).wp Try.prog Q a w := by
  refine wp_region_rule (by kernel_rfl) (fun i_ v_ _ => VRC9 f n i v i_ v_) (Jk 13 w.drew w5) (by kernel_rfl) (by rw [hs]; kernel_rfl) ?_ (allOps ⟨?_, ?_, ?_, ?_, ?_, ?_, ?_, ?_, ?_, ?_, ?_, ?_, ?_, ?_, trivial⟩) ?_
  · exact ⟨fun _ => rfl, fun h => by simp [opsRC9] at h⟩
  · intro listed a' w' hl' H hJ
    have e0 : a'.tmps[0]?.getD undef = .pointer (some ⟨f.g, 0, none⟩) := H.old 0 rfl h0
    refine ⟨rfl, fun K hK => ?_⟩
    refine wp_eq (v := .pointer (some ⟨f.g, 0, none⟩)) (w' := w') ?_ (hK _ w' (fun _ _ => rfl) (fun _ _ _ _ h => h) (hJ.skip (by decide)))
    simp [go_sem, e0]
  · intro listed a' w' hl' H hJ
    have e33 : a'.tmps[33]?.getD undef = .pointer (some ⟨f.g, 0, none⟩) := (H.is 0 33 rfl rfl rfl)
    refine ⟨rfl, fun K hK => ?_⟩
    refine wp_eq (v := .pointer (some ⟨f.g, 0, none⟩)) (w' := w') ?_ (hK _ w' (fun _ _ => rfl) (fun _ _ _ _ h => h) (hJ.skip (by decide)))
    simp [go_sem, e33]
  · intro listed a' w' hl' H hJ
    have e34 : a'.tmps[34]?.getD undef = .pointer (some ⟨f.g, 0, none⟩) := (H.is 1 34 rfl rfl rfl)
    refine ⟨rfl, fun K hK => ?_⟩
    refine wp_eq (v := .pointer (some ⟨f.g, 0, none⟩)) (w' := w') ?_ (hK _ w' (fun _ _ => rfl) (fun _ _ _ _ h => h) (hJ.skip (by decide)))
    simp [go_sem, e34]
  · intro listed a' w' hl' H hJ
    have e35 : a'.tmps[35]?.getD undef = .pointer (some ⟨f.g, 0, none⟩) := (H.is 2 35 rfl rfl rfl)
    refine ⟨rfl, fun K hK => ?_⟩
    have hc := hd w' hJ.or
    refine wp_eq (v := slV f.bN n f.cN) (w' := w') ?_ (hK _ w' (fun _ _ => rfl) (fun _ _ _ _ h => h) (hJ.skip (by decide)))
    simp [go_sem, e35, hc]
  · intro listed a' w' hl' H hJ
    have e4 : a'.tmps[4]?.getD undef = .int .i64 i := H.old 4 rfl hk
    refine ⟨rfl, fun K hK => ?_⟩
    refine wp_eq (v := .int .i64 i) (w' := w') ?_ (hK _ w' (fun _ _ => rfl) (fun _ _ _ _ h => h) (hJ.skip (by decide)))
    simp [go_sem, e4]
  · intro listed a' w' hl' H hJ
    have e0 : a'.tmps[0]?.getD undef = .pointer (some ⟨f.g, 0, none⟩) := H.old 0 rfl h0
    refine ⟨rfl, fun K hK => ?_⟩
    refine wp_eq (v := .pointer (some ⟨f.g, 0, none⟩)) (w' := w') ?_ (hK _ w' (fun _ _ => rfl) (fun _ _ _ _ h => h) (hJ.skip (by decide)))
    simp [go_sem, e0]
  · intro listed a' w' hl' H hJ
    have e38 : a'.tmps[38]?.getD undef = .pointer (some ⟨f.g, 0, none⟩) := (H.is 5 38 rfl rfl rfl)
    refine ⟨rfl, fun K hK => ?_⟩
    refine wp_eq (v := .pointer (some ⟨f.g, 0, none⟩)) (w' := w') ?_ (hK _ w' (fun _ _ => rfl) (fun _ _ _ _ h => h) (hJ.skip (by decide)))
    simp [go_sem, e38]
  · intro listed a' w' hl' H hJ
    have e39 : a'.tmps[39]?.getD undef = .pointer (some ⟨f.g, 0, none⟩) := (H.is 6 39 rfl rfl rfl)
    refine ⟨rfl, fun K hK => ?_⟩
    refine wp_eq (v := .pointer (some ⟨f.g, 1, none⟩)) (w' := w') ?_ (hK _ w' (fun _ _ => rfl) (fun _ _ _ _ h => h) (hJ.skip (by decide)))
    simp [go_sem, e39]
  · intro listed a' w' hl' H hJ
    have e40 : a'.tmps[40]?.getD undef = .pointer (some ⟨f.g, 1, none⟩) := (H.is 7 40 rfl rfl rfl)
    refine ⟨rfl, fun K hK => ?_⟩
    have hc := hsr w' hJ.or
    refine wp_eq (v := slV f.bS n f.cS) (w' := w') ?_ (hK _ w' (fun _ _ => rfl) (fun _ _ _ _ h => h) (hJ.skip (by decide)))
    simp [go_sem, e40, hc]
  · intro listed a' w' hl' H hJ
    have e4 : a'.tmps[4]?.getD undef = .int .i64 i := H.old 4 rfl hk
    refine ⟨rfl, fun K hK => ?_⟩
    refine wp_eq (v := .int .i64 i) (w' := w') ?_ (hK _ w' (fun _ _ => rfl) (fun _ _ _ _ h => h) (hJ.skip (by decide)))
    simp [go_sem, e4]
  · intro listed a' w' hl' H hJ
    have e41 : a'.tmps[41]?.getD undef = slV f.bS n f.cS := (H.is 8 41 rfl rfl rfl)
    have e42 : a'.tmps[42]?.getD undef = .int .i64 i := (H.is 9 42 rfl rfl rfl)
    refine ⟨rfl, fun K hK => ?_⟩
    refine wp_eq (v := .pointer (some ⟨f.bS, i, none⟩)) (w' := w') ?_ (hK _ w' (fun _ _ => rfl) (fun _ _ _ _ h => h) (hJ.skip (by decide)))
    simp [go_sem, e41, e42, slV, hi]
  · intro listed a' w' hl' H hJ
    have e43 : a'.tmps[43]?.getD undef = .pointer (some ⟨f.bS, i, none⟩) := (H.is 10 43 rfl rfl rfl)
    refine ⟨rfl, fun K hK => ?_⟩
    have hc := hl w' hJ.or
    refine wp_eq (v := v) (w' := w') ?_ (hK _ w' (fun _ _ => rfl) (fun _ _ _ _ h => h) (hJ.skip (by decide)))
    simp [go_sem, e43, hc]
  · intro listed a' w' hl' H hJ
    have e36 : a'.tmps[36]?.getD undef = slV f.bN n f.cN := (H.is 3 36 rfl rfl rfl)
    have e37 : a'.tmps[37]?.getD undef = .int .i64 i := (H.is 4 37 rfl rfl rfl)
    refine ⟨rfl, fun K hK => ?_⟩
    refine wp_eq (v := .pointer (some ⟨f.bN, i, none⟩)) (w' := w') ?_ (hK _ w' (fun _ _ => rfl) (fun _ _ _ _ h => h) (hJ.skip (by decide)))
    simp [go_sem, e36, e37, slV, hi]
  · intro listed a' w' hl' H hJ
    have e45 : a'.tmps[45]?.getD undef = .pointer (some ⟨f.bN, i, none⟩) := (H.is 12 45 rfl rfl rfl)
    have e44 : a'.tmps[44]?.getD undef = v := (H.is 11 44 rfl rfl rfl)
    refine ⟨rfl, fun K hK => ?_⟩
    have hw := hJ.no (not_yet hl')
    subst hw
    obtain ⟨uo, hc⟩ := hc
    have ew := hst
    subst ew
    unfold Oper.wp execOp
    simp only [Act.eval, Array.getD_eq_getD_getElem?, e45, e44, Sem.run_bind, Sem.run_pure, store_one hc hf hv, Result.andThen_ok]
    exact hK undef _ (fun _ h => by cases h) (fun _ _ _ _ h => h) ⟨(fun h => by rw [set_self hl'] at h; cases h), fun _ => rfl⟩
  · intro listed u w' hF hall hJ
    have h6 := hall 13 (by decide)
    have := hJ.yes h6
    subst this
    exact hend u

end Go.Proofs.Ytbcafhhheileeaa
