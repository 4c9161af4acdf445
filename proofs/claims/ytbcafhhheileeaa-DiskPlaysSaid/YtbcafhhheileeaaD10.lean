/-
  Part of the proofs of DiskOwns, DiskPlays, SlotPlays: contracts of the device and what they need.
  Conditions: those that each theorem names.
-/
import Derived.Test.YtbcafhhheileeaaD9
namespace Go.Proofs.Ytbcafhhheileeaa
open Go.RowKit
set_option maxRecDepth 100000

def V16 (d bn : Nat) (at_ : Int) (bs : List Int) : Nat → Value → Prop
  | 0, v => v = .pointer (some ⟨d, 0, none⟩)
  | 1, v => v = .pointer (some ⟨d, 0, none⟩)
  | 2, v => v = .pointer (some ⟨d, 6, none⟩)
  | 3, v => v = .map (some bn)
  | 4, v => v = .int .i64 at_
  | 5, v => v = secV bs
  | _, _ => True
structure J16 (d bn ab : Nat) (bs : List Int) (wd w5 : World) (listed : Array Bool) (w : World) : Prop where
  c6 : w.cell? ⟨d, 6, none⟩ = some (.map (some bn))
  blk : w.heap[ab]? = some (.cells (byt bs).toArray 78 (0, 0))
  no : listed.getD 6 false = false → w = wd
  yes : listed.getD 6 false = true → w = w5
theorem J16.skip {d bn ab : Nat} {bs : List Int} {wd w5 : World} {listed : Array Bool} {w : World} {i : Nat} (h : J16 d bn ab bs wd w5 listed w) (hi : i ≠ 6) : J16 d bn ab bs wd w5 (listed.setIfInBounds i true) w :=
  ⟨h.c6, h.blk, by rw [set_ne hi]; exact h.no, by rw [set_ne hi]; exact h.yes⟩
theorem region16 {Q : Exit → Act → World → Prop} {a : Act} {w w5 : World} (d bn ab : Nat) (at_ : Int) (bs : List Int) (hs : a.tmps.size = 57) (h0 : a.tmps.getD 0 undef = .pointer (some ⟨d, 0, none⟩)) (h1 : a.tmps.getD 1 undef = .int .i64 at_) (h11 : a.tmps.getD 11 undef = .pointer (some ⟨ab, 0, none⟩))
    (hl : bs.length = 512) (hc : w.cell? ⟨d, 6, none⟩ = some (.map (some bn))) (hb : w.heap[ab]? = some (.cells (byt bs).toArray 78 (0, 0)))
    (hu : (Instr.mapUpdate 67 (.map (some bn)) (.int .i64 at_) (secV bs)).run Try.prog w.drew = .ok () w5) (hc5 : w5.cell? ⟨d, 6, none⟩ = some (.map (some bn))) (hb5 : w5.heap[ab]? = some (.cells (byt bs).toArray 78 (0, 0)))
    (hend : ∀ (u : Nat → Value), Q .normal (putAll ops16 u a) w5) : (Code.region 16 ops16 true).wp Try.prog Q a w := by
  refine wp_region_rule (by kernel_rfl) (fun i v _ => V16 d bn at_ bs i v) (J16 d bn ab bs w.drew w5) (by kernel_rfl) (by rw [hs]; kernel_rfl) ⟨hc, hb, fun _ => rfl, fun h => by simp [ops16] at h⟩ (allOps ⟨?_, ?_, ?_, ?_, ?_, ?_, ?_, trivial⟩) ?_
  · intro listed a' w' hl H hJ
    have e0 : a'.tmps[0]?.getD undef = .pointer (some ⟨d, 0, none⟩) := H.old 0 rfl h0
    refine ⟨rfl, fun K hK => ?_⟩
    refine wp_eq (v := .pointer (some ⟨d, 0, none⟩)) (w' := w') ?_ (hK _ w' (fun _ _ => rfl) (fun _ _ _ _ h => h) (hJ.skip (by decide)))
    simp [go_sem, e0]
  · intro listed a' w' hl H hJ
    have e46 : a'.tmps[46]?.getD undef = .pointer (some ⟨d, 0, none⟩) := H.is 0 46 rfl rfl rfl
    refine ⟨rfl, fun K hK => ?_⟩
    refine wp_eq (v := .pointer (some ⟨d, 0, none⟩)) (w' := w') ?_ (hK _ w' (fun _ _ => rfl) (fun _ _ _ _ h => h) (hJ.skip (by decide)))
    simp [go_sem, e46]
  · intro listed a' w' hl H hJ
    have e47 : a'.tmps[47]?.getD undef = .pointer (some ⟨d, 0, none⟩) := H.is 1 47 rfl rfl rfl
    refine ⟨rfl, fun K hK => ?_⟩
    refine wp_eq (v := .pointer (some ⟨d, 6, none⟩)) (w' := w') ?_ (hK _ w' (fun _ _ => rfl) (fun _ _ _ _ h => h) (hJ.skip (by decide)))
    simp [go_sem, e47]
  · intro listed a' w' hl H hJ
    have e48 : a'.tmps[48]?.getD undef = .pointer (some ⟨d, 6, none⟩) := H.is 2 48 rfl rfl rfl
    have c6 := hJ.c6
    refine ⟨rfl, fun K hK => ?_⟩
    refine wp_eq (v := .map (some bn)) (w' := w') ?_ (hK _ w' (fun _ _ => rfl) (fun _ _ _ _ h => h) (hJ.skip (by decide)))
    simp [go_sem, e48, c6]
  · intro listed a' w' hl H hJ
    have e1 : a'.tmps[1]?.getD undef = .int .i64 at_ := H.old 1 rfl h1
    refine ⟨rfl, fun K hK => ?_⟩
    refine wp_eq (v := .int .i64 at_) (w' := w') ?_ (hK _ w' (fun _ _ => rfl) (fun _ _ _ _ h => h) (hJ.skip (by decide)))
    simp [go_sem, e1]
  · intro listed a' w' hl5 H hJ
    have e11 : a'.eval (.tmp 11) = .pointer (some ⟨ab, 0, none⟩) := by
      have := H.old 11 rfl h11
      simpa [Act.eval] using this
    refine ⟨rfl, fun K hK => ?_⟩
    refine wp_eq (v := secV bs) (w' := w') ?_ (hK _ w' (fun _ _ => rfl) (fun _ _ _ _ h => h) (hJ.skip (by decide)))
    unfold execOp
    simp only [e11, Sem.run_bind, Sem.run_pure, load_sec w' ab bs hl hJ.blk, Result.andThen_ok]
  · intro listed a' w' hl6 H hJ
    have e49 : a'.eval (.tmp 49) = .map (some bn) := by
      have := H.is 3 49 rfl rfl rfl
      simpa [Act.eval, V16] using this
    have e50 : a'.eval (.tmp 50) = .int .i64 at_ := by
      have := H.is 4 50 rfl rfl rfl
      simpa [Act.eval, V16] using this
    have e51 : a'.eval (.tmp 51) = secV bs := by
      have := H.is 5 51 rfl rfl rfl
      simpa [Act.eval, V16] using this
    have hw := hJ.no (not_yet hl6)
    subst hw
    refine ⟨rfl, fun K hK => ?_⟩
    unfold Oper.wp execOp
    simp only [e49, e50, e51, Sem.run_bind, Sem.run_pure, hu, Result.andThen_ok]
    exact hK undef w5 (fun _ h => by cases h) (fun _ _ _ _ h => h) ⟨hc5, hb5, (fun h => by rw [set_self hl6] at h; cases h), fun _ => rfl⟩
  · intro listed u w' hF hall hJ
    have h6 := hall 6 (by decide)
    have := hJ.yes h6
    subst this
    exact hend u
end Go.Proofs.Ytbcafhhheileeaa
