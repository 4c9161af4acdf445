/-
  Part of the proofs of DiskOwns, DiskPlays, SlotPlays: contracts of the device and what they need.
  Conditions: those that each theorem names.
-/
import Derived.Test.YtbcafhhheileeaaD8
import Derived.Laws.CopyOwn
import Derived.Laws.Rows
namespace Go.Proofs.Ytbcafhhheileeaa
open Go.RowKit
set_option maxRecDepth 100000

theorem load_sec (w : World) (b : Nat) (s : List Int) (hs : s.length = 512) (h : w.heap[b]? = some (.cells (byt s).toArray 78 (0, 0))) : (Instr.loadAt 78 (.pointer (some ⟨b, 0, none⟩))).run Try.prog w = .ok (secV s) w := by
  simp only [Instr.loadAt, Instr.sureAddr, Sem.run_bind, Sem.run_pure, Result.andThen]
  exact run_loadVar_row w b 78 78 (byt s).toArray (0, 0) _ h Try.underlying78 rfl (by rw [byt_size, hs]; exact sz78)
theorem sz5 : (Try.prog.info? 5).map (·.size) = some 1 := by kernel_rfl
/-- a sector's bytes go over -/
theorem copy_sec (w : World) (b : Nat) (cur : Array Value) (u : Value) (s : List Int) (hs : s.length = 512) (hc : cur.size = 512) (h : w.heap[b]? = some (.cells cur 78 (0, 0))) (hu : RdB w u s) (ty : TypeId) :
    (Builtin.copy_ #[28, 28] ty #[.slice (some ⟨b, 0, none⟩) 512 512, u]).run Try.prog w = .ok (.int .i64 512) (w.setRow b (byt s).toArray) := by
  obtain ⟨b2, o2, c2, rfl, _, _, hcell⟩ := RdB.form hu (by intro e; rw [e] at hs; cases hs)
  have hl : (byt s).length = 512 := by simp [byt, hs]
  have hr := run_copy_row (P := Try.prog) w 28 28 ty 5 b 0 512 512 ⟨b2, o2, none⟩ s.length c2 cur 78 (byt s) Try.underlying28 sz5 h (by rw [hl, hs]; rfl) (fun j v hj => by
    have hjl : j < s.length := by
      have := (List.getElem?_eq_some_iff.1 hj).1
      simpa [byt] using this
    rw [addr_add, hcell j hjl]
    simpa [byt, hjl] using hj) (by rw [hl, hc]; omega) (byt_one s)
  rw [hr]
  have e1 : cur.toList.take 0 ++ byt s ++ cur.toList.drop (0 + (byt s).length) = byt s := by
    rw [List.take_zero, List.nil_append, List.drop_eq_nil_of_le (by rw [hl, Array.length_toList, hc]; omega), List.append_nil]
  rw [e1, hl]
  rfl

def ops15 : Array Oper := #[{ dst := some 42, op := Op.slice 78 (Operand.tmp 11) none none none, type := 28, pos := "disk.go:91", after := #[], guard := none }, { dst := some 43, op := Op.move (Operand.tmp 2), type := 35, pos := "disk.go:91", after := #[], guard := none }, { dst := some 44, op := Op.call { callee := Callee.value (Operand.func 30), args := #[Operand.tmp 43], argTypes := #[35] }, type := 28, pos := "disk.go:91", after := #[{ on := 1, ground := Ground.data }], guard := none }, { dst := some 45, op := Op.call { callee := Callee.builtin Builtin.copy, args := #[Operand.tmp 42, Operand.tmp 44], argTypes := #[28, 28] }, type := 3, pos := "disk.go:91", after := #[{ on := 0, ground := Ground.data }, { on := 2, ground := Ground.data }, { on := 2, ground := Ground.chain }], guard := none }]
def ops16 : Array Oper := #[{ dst := some 46, op := Op.move (Operand.tmp 0), type := 23, pos := "disk.go:92", after := #[], guard := none }, { dst := some 47, op := Op.nilCheck (Operand.tmp 46), type := 0, pos := "disk.go:92", after := #[{ on := 0, ground := Ground.data }], guard := none }, { dst := some 48, op := Op.fieldAddr 77 (Operand.tmp 47) 2, type := 0, pos := "disk.go:92", after := #[{ on := 1, ground := Ground.data }], guard := none }, { dst := some 49, op := Op.load 67 (Operand.tmp 48), type := 67, pos := "disk.go:92", after := #[{ on := 2, ground := Ground.data }], guard := none }, { dst := some 50, op := Op.move (Operand.tmp 1), type := 3, pos := "disk.go:92", after := #[], guard := none }, { dst := some 51, op := Op.load 78 (Operand.tmp 11), type := 78, pos := "disk.go:92", after := #[], guard := none }, { dst := none, op := Op.mapUpdate 67 (Operand.tmp 49) (Operand.tmp 50) (Operand.tmp 51), type := 0, pos := "disk.go:92", after := #[{ on := 3, ground := Ground.data }, { on := 4, ground := Ground.data }, { on := 5, ground := Ground.data }, { on := 0, ground := Ground.phase }, { on := 1, ground := Ground.phase }, { on := 2, ground := Ground.phase }, { on := 3, ground := Ground.phase }, { on := 4, ground := Ground.phase }, { on := 5, ground := Ground.phase }], guard := none }]
def V15 (ab : Nat) (pv : Value) : Nat → Value → Prop
  | 0, v => v = .slice (some ⟨ab, 0, none⟩) 512 512
  | 1, v => v = pv
  | _, _ => True
def F15 (ab : Nat) (pv : Value) (bs : List Int) (i : Nat) (v : Value) (w : World) : Prop := V15 ab pv i v ∧ (i = 2 → RdB w v bs ∧ v.ownBlock ≠ some ab)
structure J15 (ab : Nat) (ps : Parts) (w0 : World) (listed : Array Bool) (w : World) : Prop where
  blk : w.heap[ab]? = some (.cells (if listed.getD 3 false then (byt (cat ps)).toArray else Try.zeroCells78) 78 (0, 0))
  bel : Below ab w0 w
theorem J15.skip {ab : Nat} {ps : Parts} {w0 : World} {listed : Array Bool} {w : World} {i : Nat} (h : J15 ab ps w0 listed w) (hi : i ≠ 3) : J15 ab ps w0 (listed.setIfInBounds i true) w :=
  ⟨by rw [set_ne hi]; exact h.blk, h.bel⟩
theorem region15 {Q : Exit → Act → World → Prop} {a : Act} {w : World} (ab : Nat) (pv : Value) (ps : Parts) (w0 : World) (hs : a.tmps.size = 57) (h2 : a.tmps.getD 2 undef = pv) (h11 : a.tmps.getD 11 undef = .pointer (some ⟨ab, 0, none⟩))
    (hl : (cat ps).length = 512) (hn : ps.length ≤ 1000000) (hb : w.heap[ab]? = some (.cells Try.zeroCells78 78 (0, 0))) (hab : ab = w0.heap.size) (hbel : Below ab w0 w) (hp : RdP w0 pv ps)
    (hend : ∀ (u : Nat → Value) w', w'.heap[ab]? = some (.cells (byt (cat ps)).toArray 78 (0, 0)) → Below ab w0 w' → Q .normal (putAll ops15 u a) w') : (Code.region 15 ops15 true).wp Try.prog Q a w := by
  refine wp_region_rule (by kernel_rfl) (F15 ab pv (cat ps)) (J15 ab ps w0) (by kernel_rfl) (by rw [hs]; kernel_rfl) ⟨hb, hbel.trans (below_drewN (Below.refl _ _) 1)⟩ (allOps ⟨?_, ?_, ?_, ?_, trivial⟩) ?_
  · intro listed a' w' hl H hJ
    have e11 : a'.tmps[11]?.getD undef = .pointer (some ⟨ab, 0, none⟩) := H.old 11 rfl h11
    refine ⟨rfl, fun K hK => ?_⟩
    refine wp_eq (v := .slice (some ⟨ab, 0, none⟩) 512 512) (w' := w') ?_ (hK _ w' (fun _ _ => ⟨rfl, fun e => by omega⟩) (fun _ _ _ _ h => h) (hJ.skip (by decide)))
    simp [go_sem, e11]
  · intro listed a' w' hl H hJ
    have e2 : a'.tmps[2]?.getD undef = pv := H.old 2 rfl h2
    refine ⟨rfl, fun K hK => ?_⟩
    refine wp_eq (v := pv) (w' := w') ?_ (hK _ w' (fun _ _ => ⟨rfl, fun e => by omega⟩) (fun _ _ _ _ h => h) (hJ.skip (by decide)))
    simp [go_sem, e2]
  · intro listed a' w' hl2 H hJ
    have e43 : a'.tmps[43]?.getD undef = pv := (H.is 1 43 rfl rfl rfl).1
    refine ⟨rfl, fun K hK => ?_⟩
    have hlt := lt_of_heap hJ.blk
    have hp' : RdP w' pv ps := hp.below (hab ▸ hJ.bel)
    refine wp_enter (f := 30) (args := #[pv]) (w' := w') (R := fun v w2 => OwnB w2 w'.heap.size v (cat ps) ∧ Below w'.heap.size w' w2) ?_ ((concat_c pv ps w' hp' (by omega) hn).mono fun e w2 h => by obtain ⟨u, rfl, h1, h2⟩ := h; exact ⟨_, rfl, h1, h2⟩) ?_
    · simp [go_sem, e43]
    · rintro v w2 ⟨h1, h2⟩
      refine hK v w2 (fun _ _ => ⟨trivial, fun _ => ⟨RdV.of_own h1, fun e => by have := (h1.lt _ e).1; omega⟩⟩) (fun j u hj _ hF => ⟨hF.1, fun e => absurd e hj⟩) ?_
      have h3 := hJ.skip (i := 2) (by decide)
      exact ⟨(h2.block _ hlt).trans h3.blk, h3.bel.trans (h2.mono (by omega))⟩
  · intro listed a' w' hl3 H hJ
    have e42 : a'.tmps[42]?.getD undef = .slice (some ⟨ab, 0, none⟩) 512 512 := (H.is 0 42 rfl rfl rfl).1
    obtain ⟨hr, hne⟩ := (H.is 2 44 rfl rfl rfl).2 rfl
    generalize e44 : a'.tmps[44]?.getD undef = v44 at hr hne
    have hb3 := hJ.blk
    rw [not_yet hl3] at hb3
    have hcp := copy_sec w' ab _ v44 (cat ps) hl zc78 hb3 hr 3
    refine ⟨rfl, fun K hK => ?_⟩
    refine wp_eq (v := .int .i64 512) (w' := w'.setRow ab (byt (cat ps)).toArray) ?_ (hK _ _ (fun _ _ => ⟨trivial, fun e => by omega⟩) (fun j u hj _ hF => ⟨hF.1, fun e => ?_⟩) ⟨?_, ?_⟩)
    · simp [go_sem, e42, e44, hcp]
    · obtain ⟨h1, h2⟩ := hF.2 e
      exact ⟨RdV.keep h1 (fun b hb _ _ => setRow_other w' ab b _ (fun e => h2 (by rw [hb, e]))) (by simp [World.setRow]), h2⟩
    · rw [set_self hl3]
      exact setRow_heap w' ab _ _ 78 _ hb3
    · exact below_setRow hJ.bel (Nat.le_refl _) _
  · intro listed u w' hF hall hJ
    have h3 := hall 3 (by decide)
    unfold Done at h3
    have hb3 := hJ.blk
    rw [h3] at hb3
    exact hend u w' hb3 hJ.bel
end Go.Proofs.Ytbcafhhheileeaa
