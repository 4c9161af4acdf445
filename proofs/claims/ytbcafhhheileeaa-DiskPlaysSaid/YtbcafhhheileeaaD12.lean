/-
  Part of the proofs of DiskOwns, DiskPlays, SlotPlays: contracts of the device and what they need.
  Conditions: those that each theorem names.
-/
import Derived.Test.YtbcafhhheileeaaD11
namespace Go.Proofs.Ytbcafhhheileeaa
open Go.RowKit
set_option maxRecDepth 100000

/-- the world in a region whose last operation is its only write -/
structure Jm (wd w5 : World) (listed : Array Bool) (w : World) : Prop where
  no : listed.getD 11 false = false → w = wd
  yes : listed.getD 11 false = true → w = w5
theorem Jm.skip {wd w5 : World} {listed : Array Bool} {w : World} {i : Nat} (h : Jm wd w5 listed w) (hi : i ≠ 11) : Jm wd w5 (listed.setIfInBounds i true) w :=
  ⟨by rw [set_ne hi]; exact h.no, by rw [set_ne hi]; exact h.yes⟩
theorem Jm.or {wd w5 : World} {listed : Array Bool} {w : World} (h : Jm wd w5 listed w) : w = wd ∨ w = w5 := by
  cases h1 : listed.getD 11 false with
  | false => exact .inl (h.no h1)
  | true => exact .inr (h.yes h1)

def opsS3 : Array Oper := #[{ dst := some 12, op := Op.move (Operand.tmp 0), type := 23, pos := "disk.go:113", after := #[], guard := none }, { dst := some 13, op := Op.nilCheck (Operand.tmp 12), type := 0, pos := "disk.go:113", after := #[{ on := 0, ground := Ground.data }], guard := none }, { dst := some 14, op := Op.fieldAddr 77 (Operand.tmp 13) 3, type := 0, pos := "disk.go:113", after := #[{ on := 1, ground := Ground.data }], guard := none }, { dst := some 15, op := Op.load 67 (Operand.tmp 14), type := 67, pos := "disk.go:113", after := #[{ on := 2, ground := Ground.data }], guard := none }, { dst := some 16, op := Op.move (Operand.tmp 2), type := 3, pos := "disk.go:113", after := #[], guard := none }, { dst := some 17, op := Op.move (Operand.tmp 0), type := 23, pos := "disk.go:113", after := #[], guard := none }, { dst := some 18, op := Op.nilCheck (Operand.tmp 17), type := 0, pos := "disk.go:113", after := #[{ on := 5, ground := Ground.data }], guard := none }, { dst := some 19, op := Op.fieldAddr 77 (Operand.tmp 18) 2, type := 0, pos := "disk.go:113", after := #[{ on := 6, ground := Ground.data }], guard := none }, { dst := some 20, op := Op.load 67 (Operand.tmp 19), type := 67, pos := "disk.go:113", after := #[{ on := 7, ground := Ground.data }], guard := none }, { dst := some 21, op := Op.move (Operand.tmp 2), type := 3, pos := "disk.go:113", after := #[], guard := none }, { dst := some 22, op := Op.lookup 67 (Operand.tmp 20) (Operand.tmp 21) false, type := 78, pos := "disk.go:113", after := #[{ on := 8, ground := Ground.data }, { on := 9, ground := Ground.data }], guard := none }, { dst := none, op := Op.mapUpdate 67 (Operand.tmp 15) (Operand.tmp 16) (Operand.tmp 22), type := 0, pos := "disk.go:113", after := #[{ on := 3, ground := Ground.data }, { on := 4, ground := Ground.data }, { on := 10, ground := Ground.data }, { on := 0, ground := Ground.phase }, { on := 1, ground := Ground.phase }, { on := 2, ground := Ground.phase }, { on := 3, ground := Ground.phase }, { on := 4, ground := Ground.phase }, { on := 5, ground := Ground.phase }, { on := 6, ground := Ground.phase }, { on := 7, ground := Ground.phase }, { on := 8, ground := Ground.phase }, { on := 9, ground := Ground.phase }, { on := 10, ground := Ground.phase }], guard := none }]
def VS3 (d bd bs : Nat) (k : Int) (v : Value) : Nat → Value → Prop
  | 0, x => x = .pointer (some ⟨d, 0, none⟩)
  | 1, x => x = .pointer (some ⟨d, 0, none⟩)
  | 2, x => x = .pointer (some ⟨d, 7, none⟩)
  | 3, x => x = .map (some bd)
  | 4, x => x = .int .i64 k
  | 5, x => x = .pointer (some ⟨d, 0, none⟩)
  | 6, x => x = .pointer (some ⟨d, 0, none⟩)
  | 7, x => x = .pointer (some ⟨d, 6, none⟩)
  | 8, x => x = .map (some bs)
  | 9, x => x = .int .i64 k
  | 10, x => x = v
  | _, _ => True
theorem regionS3 {Q : Exit → Act → World → Prop} {a : Act} {w w5 : World} (d bd bs : Nat) (k : Int) (v : Value) (hs : a.tmps.size = 27) (h0 : a.tmps.getD 0 undef = .pointer (some ⟨d, 0, none⟩)) (hk : a.tmps.getD 2 undef = .int .i64 k)
    (hd : ∀ W, W = w.drew ∨ W = w5 → W.cell? ⟨d, 7, none⟩ = some (.map (some bd))) (hsr : ∀ W, W = w.drew ∨ W = w5 → W.cell? ⟨d, 6, none⟩ = some (.map (some bs)))
    (hl : ∀ W, W = w.drew ∨ W = w5 → (Instr.lookup 67 (.map (some bs)) (.int .i64 k) false).run Try.prog W = .ok v W)
    (hu : (Instr.mapUpdate 67 (.map (some bd)) (.int .i64 k) v).run Try.prog w.drew = .ok () w5)
    (hend : ∀ (u : Nat → Value), Q .normal (putAll opsS3 u a) w5) : (Code.region 3 opsS3 true).wp Try.prog Q a w := by
  refine wp_region_rule (by kernel_rfl) (fun i x _ => VS3 d bd bs k v i x) (Jm w.drew w5) (by kernel_rfl) (by rw [hs]; kernel_rfl) ⟨fun _ => rfl, fun h => by simp [opsS3] at h⟩ (allOps ⟨?_, ?_, ?_, ?_, ?_, ?_, ?_, ?_, ?_, ?_, ?_, ?_, trivial⟩) ?_
  · intro listed a' w' hl' H hJ
    have e0 : a'.tmps[0]?.getD undef = .pointer (some ⟨d, 0, none⟩) := H.old 0 rfl h0
    refine ⟨rfl, fun K hK => ?_⟩
    refine wp_eq (v := .pointer (some ⟨d, 0, none⟩)) (w' := w') ?_ (hK _ w' (fun _ _ => rfl) (fun _ _ _ _ h => h) (hJ.skip (by decide)))
    simp [go_sem, e0]
  · intro listed a' w' hl' H hJ
    have e12 : a'.tmps[12]?.getD undef = .pointer (some ⟨d, 0, none⟩) := H.is 0 12 rfl rfl rfl
    refine ⟨rfl, fun K hK => ?_⟩
    refine wp_eq (v := .pointer (some ⟨d, 0, none⟩)) (w' := w') ?_ (hK _ w' (fun _ _ => rfl) (fun _ _ _ _ h => h) (hJ.skip (by decide)))
    simp [go_sem, e12]
  · intro listed a' w' hl' H hJ
    have e13 : a'.tmps[13]?.getD undef = .pointer (some ⟨d, 0, none⟩) := H.is 1 13 rfl rfl rfl
    refine ⟨rfl, fun K hK => ?_⟩
    refine wp_eq (v := .pointer (some ⟨d, 7, none⟩)) (w' := w') ?_ (hK _ w' (fun _ _ => rfl) (fun _ _ _ _ h => h) (hJ.skip (by decide)))
    simp [go_sem, e13]
  · intro listed a' w' hl' H hJ
    have e14 : a'.tmps[14]?.getD undef = .pointer (some ⟨d, 7, none⟩) := H.is 2 14 rfl rfl rfl
    have hc := hd w' hJ.or
    refine ⟨rfl, fun K hK => ?_⟩
    refine wp_eq (v := .map (some bd)) (w' := w') ?_ (hK _ w' (fun _ _ => rfl) (fun _ _ _ _ h => h) (hJ.skip (by decide)))
    simp [go_sem, e14, hc]
  · intro listed a' w' hl' H hJ
    have e2 : a'.tmps[2]?.getD undef = .int .i64 k := H.old 2 rfl hk
    refine ⟨rfl, fun K hK => ?_⟩
    refine wp_eq (v := .int .i64 k) (w' := w') ?_ (hK _ w' (fun _ _ => rfl) (fun _ _ _ _ h => h) (hJ.skip (by decide)))
    simp [go_sem, e2]
  · intro listed a' w' hl' H hJ
    have e0 : a'.tmps[0]?.getD undef = .pointer (some ⟨d, 0, none⟩) := H.old 0 rfl h0
    refine ⟨rfl, fun K hK => ?_⟩
    refine wp_eq (v := .pointer (some ⟨d, 0, none⟩)) (w' := w') ?_ (hK _ w' (fun _ _ => rfl) (fun _ _ _ _ h => h) (hJ.skip (by decide)))
    simp [go_sem, e0]
  · intro listed a' w' hl' H hJ
    have e17 : a'.tmps[17]?.getD undef = .pointer (some ⟨d, 0, none⟩) := H.is 5 17 rfl rfl rfl
    refine ⟨rfl, fun K hK => ?_⟩
    refine wp_eq (v := .pointer (some ⟨d, 0, none⟩)) (w' := w') ?_ (hK _ w' (fun _ _ => rfl) (fun _ _ _ _ h => h) (hJ.skip (by decide)))
    simp [go_sem, e17]
  · intro listed a' w' hl' H hJ
    have e18 : a'.tmps[18]?.getD undef = .pointer (some ⟨d, 0, none⟩) := H.is 6 18 rfl rfl rfl
    refine ⟨rfl, fun K hK => ?_⟩
    refine wp_eq (v := .pointer (some ⟨d, 6, none⟩)) (w' := w') ?_ (hK _ w' (fun _ _ => rfl) (fun _ _ _ _ h => h) (hJ.skip (by decide)))
    simp [go_sem, e18]
  · intro listed a' w' hl' H hJ
    have e19 : a'.tmps[19]?.getD undef = .pointer (some ⟨d, 6, none⟩) := H.is 7 19 rfl rfl rfl
    have hc := hsr w' hJ.or
    refine ⟨rfl, fun K hK => ?_⟩
    refine wp_eq (v := .map (some bs)) (w' := w') ?_ (hK _ w' (fun _ _ => rfl) (fun _ _ _ _ h => h) (hJ.skip (by decide)))
    simp [go_sem, e19, hc]
  · intro listed a' w' hl' H hJ
    have e2 : a'.tmps[2]?.getD undef = .int .i64 k := H.old 2 rfl hk
    refine ⟨rfl, fun K hK => ?_⟩
    refine wp_eq (v := .int .i64 k) (w' := w') ?_ (hK _ w' (fun _ _ => rfl) (fun _ _ _ _ h => h) (hJ.skip (by decide)))
    simp [go_sem, e2]
  · intro listed a' w' hl' H hJ
    have e20 : a'.eval (.tmp 20) = .map (some bs) := by
      have := H.is 8 20 rfl rfl rfl
      simpa [Act.eval, VS3] using this
    have e21 : a'.eval (.tmp 21) = .int .i64 k := by
      have := H.is 9 21 rfl rfl rfl
      simpa [Act.eval, VS3] using this
    refine ⟨rfl, fun K hK => ?_⟩
    refine wp_eq (v := v) (w' := w') ?_ (hK _ w' (fun _ _ => rfl) (fun _ _ _ _ h => h) (hJ.skip (by decide)))
    unfold execOp
    simp only [e20, e21, Sem.run_bind, Sem.run_pure, hl w' hJ.or, Result.andThen_ok]
  · intro listed a' w' hl6 H hJ
    have em : a'.eval (.tmp 15) = .map (some bd) := by
      have := H.is 3 15 rfl rfl rfl
      simpa [Act.eval, VS3] using this
    have ek : a'.eval (.tmp 16) = .int .i64 k := by
      have := H.is 4 16 rfl rfl rfl
      simpa [Act.eval, VS3] using this
    have ev : a'.eval (.tmp 22) = v := by
      have := H.is 10 22 rfl rfl rfl
      simpa [Act.eval, VS3] using this
    have hw := hJ.no (not_yet hl6)
    subst hw
    refine ⟨rfl, fun K hK => ?_⟩
    unfold Oper.wp execOp
    simp only [em, ek, ev, Sem.run_bind, Sem.run_pure, hu, Result.andThen_ok]
    exact hK undef w5 (fun _ h => by cases h) (fun _ _ _ _ h => h) ⟨(fun h => by rw [set_self hl6] at h; cases h), fun _ => rfl⟩
  · intro listed u w' hF hall hJ
    have h6 := hall 11 (by decide)
    have := hJ.yes h6
    subst this
    exact hend u

def opsC5 : Array Oper := #[{ dst := some 19, op := Op.move (Operand.tmp 0), type := 23, pos := "disk.go:161", after := #[], guard := none }, { dst := some 20, op := Op.nilCheck (Operand.tmp 19), type := 0, pos := "disk.go:161", after := #[{ on := 0, ground := Ground.data }], guard := none }, { dst := some 21, op := Op.fieldAddr 77 (Operand.tmp 20) 2, type := 0, pos := "disk.go:161", after := #[{ on := 1, ground := Ground.data }], guard := none }, { dst := some 22, op := Op.load 67 (Operand.tmp 21), type := 67, pos := "disk.go:161", after := #[{ on := 2, ground := Ground.data }], guard := none }, { dst := some 23, op := Op.move (Operand.tmp 5), type := 3, pos := "disk.go:161", after := #[], guard := none }, { dst := some 24, op := Op.move (Operand.tmp 0), type := 23, pos := "disk.go:161", after := #[], guard := none }, { dst := some 25, op := Op.nilCheck (Operand.tmp 24), type := 0, pos := "disk.go:161", after := #[{ on := 5, ground := Ground.data }], guard := none }, { dst := some 26, op := Op.fieldAddr 77 (Operand.tmp 25) 3, type := 0, pos := "disk.go:161", after := #[{ on := 6, ground := Ground.data }], guard := none }, { dst := some 27, op := Op.load 67 (Operand.tmp 26), type := 67, pos := "disk.go:161", after := #[{ on := 7, ground := Ground.data }], guard := none }, { dst := some 28, op := Op.move (Operand.tmp 5), type := 3, pos := "disk.go:161", after := #[], guard := none }, { dst := some 29, op := Op.lookup 67 (Operand.tmp 27) (Operand.tmp 28) false, type := 78, pos := "disk.go:161", after := #[{ on := 8, ground := Ground.data }, { on := 9, ground := Ground.data }], guard := none }, { dst := none, op := Op.mapUpdate 67 (Operand.tmp 22) (Operand.tmp 23) (Operand.tmp 29), type := 0, pos := "disk.go:161", after := #[{ on := 3, ground := Ground.data }, { on := 4, ground := Ground.data }, { on := 10, ground := Ground.data }, { on := 0, ground := Ground.phase }, { on := 1, ground := Ground.phase }, { on := 2, ground := Ground.phase }, { on := 3, ground := Ground.phase }, { on := 4, ground := Ground.phase }, { on := 5, ground := Ground.phase }, { on := 6, ground := Ground.phase }, { on := 7, ground := Ground.phase }, { on := 8, ground := Ground.phase }, { on := 9, ground := Ground.phase }, { on := 10, ground := Ground.phase }], guard := none }]
def VC5 (d bd bs : Nat) (k : Int) (v : Value) : Nat → Value → Prop
  | 0, x => x = .pointer (some ⟨d, 0, none⟩)
  | 1, x => x = .pointer (some ⟨d, 0, none⟩)
  | 2, x => x = .pointer (some ⟨d, 6, none⟩)
  | 3, x => x = .map (some bd)
  | 4, x => x = .int .i64 k
  | 5, x => x = .pointer (some ⟨d, 0, none⟩)
  | 6, x => x = .pointer (some ⟨d, 0, none⟩)
  | 7, x => x = .pointer (some ⟨d, 7, none⟩)
  | 8, x => x = .map (some bs)
  | 9, x => x = .int .i64 k
  | 10, x => x = v
  | _, _ => True
theorem regionC5 {Q : Exit → Act → World → Prop} {a : Act} {w w5 : World} (d bd bs : Nat) (k : Int) (v : Value) (hs : a.tmps.size = 41) (h0 : a.tmps.getD 0 undef = .pointer (some ⟨d, 0, none⟩)) (hk : a.tmps.getD 5 undef = .int .i64 k)
    (hd : ∀ W, W = w.drew ∨ W = w5 → W.cell? ⟨d, 6, none⟩ = some (.map (some bd))) (hsr : ∀ W, W = w.drew ∨ W = w5 → W.cell? ⟨d, 7, none⟩ = some (.map (some bs)))
    (hl : ∀ W, W = w.drew ∨ W = w5 → (Instr.lookup 67 (.map (some bs)) (.int .i64 k) false).run Try.prog W = .ok v W)
    (hu : (Instr.mapUpdate 67 (.map (some bd)) (.int .i64 k) v).run Try.prog w.drew = .ok () w5)
    (hend : ∀ (u : Nat → Value), Q .normal (putAll opsC5 u a) w5) : (Code.region 5 opsC5 true).wp Try.prog Q a w := by
  refine wp_region_rule (by kernel_rfl) (fun i x _ => VC5 d bd bs k v i x) (Jm w.drew w5) (by kernel_rfl) (by rw [hs]; kernel_rfl) ⟨fun _ => rfl, fun h => by simp [opsC5] at h⟩ (allOps ⟨?_, ?_, ?_, ?_, ?_, ?_, ?_, ?_, ?_, ?_, ?_, ?_, trivial⟩) ?_
  · intro listed a' w' hl' H hJ
    have e0 : a'.tmps[0]?.getD undef = .pointer (some ⟨d, 0, none⟩) := H.old 0 rfl h0
    refine ⟨rfl, fun K hK => ?_⟩
    refine wp_eq (v := .pointer (some ⟨d, 0, none⟩)) (w' := w') ?_ (hK _ w' (fun _ _ => rfl) (fun _ _ _ _ h => h) (hJ.skip (by decide)))
    simp [go_sem, e0]
  · intro listed a' w' hl' H hJ
    have e19 : a'.tmps[19]?.getD undef = .pointer (some ⟨d, 0, none⟩) := H.is 0 19 rfl rfl rfl
    refine ⟨rfl, fun K hK => ?_⟩
    refine wp_eq (v := .pointer (some ⟨d, 0, none⟩)) (w' := w') ?_ (hK _ w' (fun _ _ => rfl) (fun _ _ _ _ h => h) (hJ.skip (by decide)))
    simp [go_sem, e19]
  · intro listed a' w' hl' H hJ
    have e20 : a'.tmps[20]?.getD undef = .pointer (some ⟨d, 0, none⟩) := H.is 1 20 rfl rfl rfl
    refine ⟨rfl, fun K hK => ?_⟩
    refine wp_eq (v := .pointer (some ⟨d, 6, none⟩)) (w' := w') ?_ (hK _ w' (fun _ _ => rfl) (fun _ _ _ _ h => h) (hJ.skip (by decide)))
    simp [go_sem, e20]
  · intro listed a' w' hl' H hJ
    have e21 : a'.tmps[21]?.getD undef = .pointer (some ⟨d, 6, none⟩) := H.is 2 21 rfl rfl rfl
    have hc := hd w' hJ.or
    refine ⟨rfl, fun K hK => ?_⟩
    refine wp_eq (v := .map (some bd)) (w' := w') ?_ (hK _ w' (fun _ _ => rfl) (fun _ _ _ _ h => h) (hJ.skip (by decide)))
    simp [go_sem, e21, hc]
  · intro listed a' w' hl' H hJ
    have e5 : a'.tmps[5]?.getD undef = .int .i64 k := H.old 5 rfl hk
    refine ⟨rfl, fun K hK => ?_⟩
    refine wp_eq (v := .int .i64 k) (w' := w') ?_ (hK _ w' (fun _ _ => rfl) (fun _ _ _ _ h => h) (hJ.skip (by decide)))
    simp [go_sem, e5]
  · intro listed a' w' hl' H hJ
    have e0 : a'.tmps[0]?.getD undef = .pointer (some ⟨d, 0, none⟩) := H.old 0 rfl h0
    refine ⟨rfl, fun K hK => ?_⟩
    refine wp_eq (v := .pointer (some ⟨d, 0, none⟩)) (w' := w') ?_ (hK _ w' (fun _ _ => rfl) (fun _ _ _ _ h => h) (hJ.skip (by decide)))
    simp [go_sem, e0]
  · intro listed a' w' hl' H hJ
    have e24 : a'.tmps[24]?.getD undef = .pointer (some ⟨d, 0, none⟩) := H.is 5 24 rfl rfl rfl
    refine ⟨rfl, fun K hK => ?_⟩
    refine wp_eq (v := .pointer (some ⟨d, 0, none⟩)) (w' := w') ?_ (hK _ w' (fun _ _ => rfl) (fun _ _ _ _ h => h) (hJ.skip (by decide)))
    simp [go_sem, e24]
  · intro listed a' w' hl' H hJ
    have e25 : a'.tmps[25]?.getD undef = .pointer (some ⟨d, 0, none⟩) := H.is 6 25 rfl rfl rfl
    refine ⟨rfl, fun K hK => ?_⟩
    refine wp_eq (v := .pointer (some ⟨d, 7, none⟩)) (w' := w') ?_ (hK _ w' (fun _ _ => rfl) (fun _ _ _ _ h => h) (hJ.skip (by decide)))
    simp [go_sem, e25]
  · intro listed a' w' hl' H hJ
    have e26 : a'.tmps[26]?.getD undef = .pointer (some ⟨d, 7, none⟩) := H.is 7 26 rfl rfl rfl
    have hc := hsr w' hJ.or
    refine ⟨rfl, fun K hK => ?_⟩
    refine wp_eq (v := .map (some bs)) (w' := w') ?_ (hK _ w' (fun _ _ => rfl) (fun _ _ _ _ h => h) (hJ.skip (by decide)))
    simp [go_sem, e26, hc]
  · intro listed a' w' hl' H hJ
    have e5 : a'.tmps[5]?.getD undef = .int .i64 k := H.old 5 rfl hk
    refine ⟨rfl, fun K hK => ?_⟩
    refine wp_eq (v := .int .i64 k) (w' := w') ?_ (hK _ w' (fun _ _ => rfl) (fun _ _ _ _ h => h) (hJ.skip (by decide)))
    simp [go_sem, e5]
  · intro listed a' w' hl' H hJ
    have e27 : a'.eval (.tmp 27) = .map (some bs) := by
      have := H.is 8 27 rfl rfl rfl
      simpa [Act.eval, VC5] using this
    have e28 : a'.eval (.tmp 28) = .int .i64 k := by
      have := H.is 9 28 rfl rfl rfl
      simpa [Act.eval, VC5] using this
    refine ⟨rfl, fun K hK => ?_⟩
    refine wp_eq (v := v) (w' := w') ?_ (hK _ w' (fun _ _ => rfl) (fun _ _ _ _ h => h) (hJ.skip (by decide)))
    unfold execOp
    simp only [e27, e28, Sem.run_bind, Sem.run_pure, hl w' hJ.or, Result.andThen_ok]
  · intro listed a' w' hl6 H hJ
    have em : a'.eval (.tmp 22) = .map (some bd) := by
      have := H.is 3 22 rfl rfl rfl
      simpa [Act.eval, VC5] using this
    have ek : a'.eval (.tmp 23) = .int .i64 k := by
      have := H.is 4 23 rfl rfl rfl
      simpa [Act.eval, VC5] using this
    have ev : a'.eval (.tmp 29) = v := by
      have := H.is 10 29 rfl rfl rfl
      simpa [Act.eval, VC5] using this
    have hw := hJ.no (not_yet hl6)
    subst hw
    refine ⟨rfl, fun K hK => ?_⟩
    unfold Oper.wp execOp
    simp only [em, ek, ev, Sem.run_bind, Sem.run_pure, hu, Result.andThen_ok]
    exact hK undef w5 (fun _ h => by cases h) (fun _ _ _ _ h => h) ⟨(fun h => by rw [set_self hl6] at h; cases h), fun _ => rfl⟩
  · intro listed u w' hF hall hJ
    have h6 := hall 11 (by decide)
    have := hJ.yes h6
    subst this
    exact hend u

end Go.Proofs.Ytbcafhhheileeaa
