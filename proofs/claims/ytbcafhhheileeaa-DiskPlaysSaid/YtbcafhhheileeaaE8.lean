/-
  Part of the proofs of DiskPlays, SlotPlays: the document's device, New's regions.
  Conditions: those that each theorem names.
-/
import Derived.Test.YtbcafhhheileeaaE7
namespace Go.Proofs.Ytbcafhhheileeaa
open Go.RowKit
set_option maxRecDepth 100000

theorem store_sl {w : World} {b i : Nat} {v u : Value} (hc : w.cell? ⟨b, i, none⟩ = some u) (hf : w.frozen? ⟨b, i, none⟩ = false) (hv : ∃ A n c, v = .slice A n c) : (Instr.storeAt 35 (.pointer (some ⟨b, i, none⟩)) v).run Try.prog w = .ok () (w.setCell ⟨b, i, none⟩ v) := by
  obtain ⟨A, n, c, rfl⟩ := hv
  simp [go_sem, hc, hf]
theorem E8a {S0 : Nat} {v : Value} {w w' : World} (h : ∃ b, v = .slice (some ⟨b, 0, none⟩) 512 512 ∧ BytesAt w b zsec ∧ S0 ≤ b) (hb : Below w.heap.size w w') : ∃ b, v = .slice (some ⟨b, 0, none⟩) 512 512 ∧ BytesAt w' b zsec ∧ S0 ≤ b := by
  obtain ⟨b, h1, h2, h3⟩ := h
  exact ⟨b, h1, h2.keep (hb.block b h2.lt), h3⟩
theorem E8b {S0 : Nat} {v : Value} {w w' : World} (h : ∃ b b6, v = .slice (some ⟨b6, 0, none⟩) 1 1 ∧ S0 ≤ b6 ∧ w.cell? ⟨b6, 0, none⟩ = some (.slice (some ⟨b, 0, none⟩) 512 512) ∧ BytesAt w b zsec ∧ S0 ≤ b) (hb : Below w.heap.size w w') :
    ∃ b b6, v = .slice (some ⟨b6, 0, none⟩) 1 1 ∧ S0 ≤ b6 ∧ w'.cell? ⟨b6, 0, none⟩ = some (.slice (some ⟨b, 0, none⟩) 512 512) ∧ BytesAt w' b zsec ∧ S0 ≤ b := by
  obtain ⟨b, b6, h1, h2, h3, h4, h5⟩ := h
  exact ⟨b, b6, h1, h2, (hb.cell (World.block_lt_of_cell? _ _ h3)).trans h3, h4.keep (hb.block b h4.lt), h5⟩
theorem E8c {S0 g k B : Nat} {vN v : Value} {vs : List Value} {w w' : World} (h : ∃ b A c, v = .slice A (k + 1) c ∧ w.ownsRow B 28 1 v (k + 1) (vs ++ [.slice (some ⟨b, 0, none⟩) 512 512]) ∧ BytesAt w b zsec ∧ S0 ≤ b ∧ v.ownBlock ≠ some g ∧ (v.ownBlock = vN.ownBlock ∨ ∃ b7, v.ownBlock = some b7 ∧ S0 ≤ b7)) (hb : Below w.heap.size w w') :
    ∃ b A c, v = .slice A (k + 1) c ∧ w'.ownsRow B 28 1 v (k + 1) (vs ++ [.slice (some ⟨b, 0, none⟩) 512 512]) ∧ BytesAt w' b zsec ∧ S0 ≤ b ∧ v.ownBlock ≠ some g ∧ (v.ownBlock = vN.ownBlock ∨ ∃ b7, v.ownBlock = some b7 ∧ S0 ≤ b7) := by
  obtain ⟨b, A, c, h1, h2, h3, h4⟩ := h
  exact ⟨b, A, c, h1, own_below h2 hb (fun b' hb' => (h2.lt b' hb').2), h3.keep (hb.block b h3.lt), h4⟩

def opsRN7 : Array Oper := #[{ dst := some 19, op := Op.move (Operand.tmp 4), type := 38, pos := "ref.go:26", after := #[], guard := none }, { dst := some 20, op := Op.move (Operand.tmp 4), type := 38, pos := "ref.go:26", after := #[], guard := none }, { dst := some 21, op := Op.nilCheck (Operand.tmp 20), type := 0, pos := "ref.go:26", after := #[{ on := 1, ground := Ground.data }], guard := none }, { dst := some 22, op := Op.fieldAddr 50 (Operand.tmp 21) 0, type := 0, pos := "ref.go:26", after := #[{ on := 2, ground := Ground.data }], guard := none }, { dst := some 23, op := Op.load 35 (Operand.tmp 22), type := 35, pos := "ref.go:26", after := #[{ on := 3, ground := Ground.data }], guard := none }, { dst := some 24, op := Op.call { callee := Callee.value (Operand.func 32), args := #[], argTypes := #[] }, type := 28, pos := "ref.go:26", after := #[], guard := none }, { dst := some 25, op := Op.buildSlice 35 1 #[(0, Operand.tmp 24)], type := 35, pos := "ref.go:26", after := #[{ on := 5, ground := Ground.data }], guard := none }, { dst := some 26, op := Op.call { callee := Callee.builtin Builtin.append, args := #[Operand.tmp 23, Operand.tmp 25], argTypes := #[35, 35] }, type := 35, pos := "ref.go:26", after := #[{ on := 4, ground := Ground.data }, { on := 6, ground := Ground.data }, { on := 5, ground := Ground.chain }], guard := none }, { dst := some 27, op := Op.nilCheck (Operand.tmp 19), type := 0, pos := "ref.go:26", after := #[{ on := 0, ground := Ground.data }, { on := 0, ground := Ground.phase }, { on := 1, ground := Ground.phase }, { on := 2, ground := Ground.phase }, { on := 3, ground := Ground.phase }, { on := 4, ground := Ground.phase }, { on := 5, ground := Ground.phase }, { on := 6, ground := Ground.phase }, { on := 7, ground := Ground.phase }], guard := none }, { dst := some 28, op := Op.fieldAddr 50 (Operand.tmp 27) 0, type := 0, pos := "ref.go:26", after := #[{ on := 8, ground := Ground.data }, { on := 0, ground := Ground.phase }, { on := 1, ground := Ground.phase }, { on := 2, ground := Ground.phase }, { on := 3, ground := Ground.phase }, { on := 4, ground := Ground.phase }, { on := 5, ground := Ground.phase }, { on := 6, ground := Ground.phase }, { on := 7, ground := Ground.phase }], guard := none }, { dst := none, op := Op.store 35 (Operand.tmp 28) (Operand.tmp 26), type := 0, pos := "ref.go:26", after := #[{ on := 9, ground := Ground.data }, { on := 7, ground := Ground.data }, { on := 7, ground := Ground.chain }, { on := 0, ground := Ground.phase }, { on := 1, ground := Ground.phase }, { on := 2, ground := Ground.phase }, { on := 3, ground := Ground.phase }, { on := 4, ground := Ground.phase }, { on := 5, ground := Ground.phase }, { on := 6, ground := Ground.phase }, { on := 7, ground := Ground.phase }], guard := none }]
def VRN7 (g : Nat) (vN : Value) : Nat → Value → Prop
  | 0, y_ => y_ = .pointer (some ⟨g, 0, none⟩)
  | 1, y_ => y_ = .pointer (some ⟨g, 0, none⟩)
  | 2, y_ => y_ = .pointer (some ⟨g, 0, none⟩)
  | 3, y_ => y_ = .pointer (some ⟨g, 0, none⟩)
  | 4, y_ => y_ = vN
  | 8, y_ => y_ = .pointer (some ⟨g, 0, none⟩)
  | 9, y_ => y_ = .pointer (some ⟨g, 0, none⟩)
  | _, _ => True
def GRN7 (S0 g k : Nat) (vN : Value) (vs : List Value) (B : Nat) : Nat → Value → World → Prop
  | 5, v, w => ∃ b, v = .slice (some ⟨b, 0, none⟩) 512 512 ∧ BytesAt w b zsec ∧ S0 ≤ b
  | 6, v, w => ∃ b b6, v = .slice (some ⟨b6, 0, none⟩) 1 1 ∧ S0 ≤ b6 ∧ w.cell? ⟨b6, 0, none⟩ = some (.slice (some ⟨b, 0, none⟩) 512 512) ∧ BytesAt w b zsec ∧ S0 ≤ b
  | 7, v, w => ∃ b A c, v = .slice A (k + 1) c ∧ w.ownsRow B 28 1 v (k + 1) (vs ++ [.slice (some ⟨b, 0, none⟩) 512 512]) ∧ BytesAt w b zsec ∧ S0 ≤ b ∧ v.ownBlock ≠ some g ∧ (v.ownBlock = vN.ownBlock ∨ ∃ b7, v.ownBlock = some b7 ∧ S0 ≤ b7)
  | _, _, _ => True
theorem GRN7.mono (S0 g k : Nat) (vN : Value) (vs : List Value) (B : Nat) {j : Nat} {v : Value} {w w' : World} (h : GRN7 S0 g k vN vs B j v w) (hb : Below w.heap.size w w') : GRN7 S0 g k vN vs B j v w' := by
  unfold GRN7 at h ⊢
  split <;> first | exact trivial | exact E8a h hb | exact E8b h hb | exact E8c h hb
theorem GRN7.kp (S0 g k : Nat) (vN : Value) (vs : List Value) (B : Nat) {j : Nat} {v : Value} {w w' : World} (hj : j ≠ 7) (h : GRN7 S0 g k vN vs B j v w) (hb : Kp (fun x => x < S0) w w') : GRN7 S0 g k vN vs B j v w' := by
  unfold GRN7 at h ⊢
  split
  · obtain ⟨b, h1, h2, h3⟩ := h
    exact ⟨b, h1, h2.keep (hb.keep b h2.lt (by omega)), h3⟩
  · obtain ⟨b, b6, h1, h2, h3, h4, h5⟩ := h
    exact ⟨b, b6, h1, h2, by rw [World.cell?_of_block (hb.keep b6 (World.block_lt_of_cell? _ _ h3) (by omega))]; exact h3, h4.keep (hb.keep b h4.lt (by omega)), h5⟩
  · exact absurd rfl hj
  · trivial
theorem GRN7.set (S0 g k : Nat) (vN : Value) (vs : List Value) (B : Nat) {j i : Nat} {v y : Value} {w : World} (h : GRN7 S0 g k vN vs B j v w) (hg : g < S0) : GRN7 S0 g k vN vs B j v (w.setCell ⟨g, i, none⟩ y) := by
  have hk := kp_set w g i y
  unfold GRN7 at h ⊢
  split
  · obtain ⟨b, h1, h2, h3⟩ := h
    exact ⟨b, h1, h2.keep (hk.keep b h2.lt (by omega)), h3⟩
  · obtain ⟨b, b6, h1, h2, h3, h4, h5⟩ := h
    exact ⟨b, b6, h1, h2, by rw [World.cell?_of_block (hk.keep b6 (World.block_lt_of_cell? _ _ h3) (by omega))]; exact h3, h4.keep (hk.keep b h4.lt (by omega)), h5⟩
  · obtain ⟨b, A, c, h1, h2, h3, h4, h5, h6⟩ := h
    exact ⟨b, A, c, h1, own_kp h2 hk (fun b' hb' e => h5 (by rw [hb', e])), h3.keep (hk.keep b h3.lt (by omega)), h4, h5, h6⟩
  · trivial
set_option maxHeartbeats 4000000 in
theorem regionRN7 {Q : Exit → Act → World → Prop} {a : Act} {w : World} (S0 g k : Nat) (vN : Value) (vs : List Value) (B : Nat) (w0 : World) (hs : a.tmps.size = 49) (h4 : a.tmps.getD 4 undef = .pointer (some ⟨g, 0, none⟩))
    (hS0 : S0 = w0.heap.size) (hg : g < S0) (hB : B ≤ S0) (hb0 : Below S0 w0 w) (hc0 : w0.cell? ⟨g, 0, none⟩ = some vN) (hfz : w0.frozen? ⟨g, 0, none⟩ = false) (hown : w0.ownsRow B 28 1 vN k vs) (hgN : vN.ownBlock ≠ some g) (hk : k ≤ 5000)
    (hend : ∀ (u : Nat → Value) W0 v b A c, v = .slice A (k + 1) c → w0.grownBy W0 vN.ownBlock → W0.ownsRow B 28 1 v (k + 1) (vs ++ [.slice (some ⟨b, 0, none⟩) 512 512]) → BytesAt W0 b zsec → S0 ≤ b → v.ownBlock ≠ some g → (v.ownBlock = vN.ownBlock ∨ ∃ b7, v.ownBlock = some b7 ∧ S0 ≤ b7) → Q .normal (putAll opsRN7 u a) (W0.setCell ⟨g, 0, none⟩ v)) : (Code.region 7 opsRN7 true).wp Try.prog Q a w := by
  refine wp_region_rule (by kernel_rfl) (fun i_ v_ w_ => VRN7 g vN i_ v_ ∧ GRN7 S0 g k vN vs B i_ v_ w_) (fun listed W => (listed.getD 7 false = false → Below S0 w0 W) ∧ (Done listed 7 → listed.getD 10 false = false → w0.grownBy W vN.ownBlock) ∧ (listed.getD 10 false = true → ∃ W0 v b A c, v = .slice A (k + 1) c ∧ w0.grownBy W0 vN.ownBlock ∧ W0.ownsRow B 28 1 v (k + 1) (vs ++ [.slice (some ⟨b, 0, none⟩) 512 512]) ∧ BytesAt W0 b zsec ∧ S0 ≤ b ∧ v.ownBlock ≠ some g ∧ (v.ownBlock = vN.ownBlock ∨ ∃ b7, v.ownBlock = some b7 ∧ S0 ≤ b7) ∧ W = W0.setCell ⟨g, 0, none⟩ v)) (by kernel_rfl) (by rw [hs]; kernel_rfl) ?_ (allOps ⟨?_, ?_, ?_, ?_, ?_, ?_, ?_, ?_, ?_, ?_, ?_, trivial⟩) ?_
  · exact ⟨fun _ => hb0.trans (below_drewN (Below.refl _ _) 1), fun h => by simp [Done, opsRN7] at h, fun h => by simp [opsRN7] at h⟩
  · intro listed a' w' hl H hJ
    have e4 : a'.tmps[4]?.getD undef = .pointer (some ⟨g, 0, none⟩) := H.old 4 rfl h4
    refine ⟨rfl, fun K hK => ?_⟩
    refine wp_eq (v := .pointer (some ⟨g, 0, none⟩)) (w' := w') ?_ (hK _ w' (fun _ _ => ⟨rfl, trivial⟩) (fun _ _ _ _ h => h) ⟨by rw [set_ne (by decide)]; exact hJ.1, by unfold Done; rw [set_ne (by decide), set_ne (by decide)]; exact hJ.2.1, by rw [set_ne (by decide)]; exact hJ.2.2⟩)
    simp [go_sem, e4]
  · intro listed a' w' hl H hJ
    have e4 : a'.tmps[4]?.getD undef = .pointer (some ⟨g, 0, none⟩) := H.old 4 rfl h4
    refine ⟨rfl, fun K hK => ?_⟩
    refine wp_eq (v := .pointer (some ⟨g, 0, none⟩)) (w' := w') ?_ (hK _ w' (fun _ _ => ⟨rfl, trivial⟩) (fun _ _ _ _ h => h) ⟨by rw [set_ne (by decide)]; exact hJ.1, by unfold Done; rw [set_ne (by decide), set_ne (by decide)]; exact hJ.2.1, by rw [set_ne (by decide)]; exact hJ.2.2⟩)
    simp [go_sem, e4]
  · intro listed a' w' hl H hJ
    have e20 : a'.tmps[20]?.getD undef = .pointer (some ⟨g, 0, none⟩) := (H.is 1 20 rfl rfl rfl).1
    refine ⟨rfl, fun K hK => ?_⟩
    refine wp_eq (v := .pointer (some ⟨g, 0, none⟩)) (w' := w') ?_ (hK _ w' (fun _ _ => ⟨rfl, trivial⟩) (fun _ _ _ _ h => h) ⟨by rw [set_ne (by decide)]; exact hJ.1, by unfold Done; rw [set_ne (by decide), set_ne (by decide)]; exact hJ.2.1, by rw [set_ne (by decide)]; exact hJ.2.2⟩)
    simp [go_sem, e20]
  · intro listed a' w' hl H hJ
    have e21 : a'.tmps[21]?.getD undef = .pointer (some ⟨g, 0, none⟩) := (H.is 2 21 rfl rfl rfl).1
    refine ⟨rfl, fun K hK => ?_⟩
    refine wp_eq (v := .pointer (some ⟨g, 0, none⟩)) (w' := w') ?_ (hK _ w' (fun _ _ => ⟨rfl, trivial⟩) (fun _ _ _ _ h => h) ⟨by rw [set_ne (by decide)]; exact hJ.1, by unfold Done; rw [set_ne (by decide), set_ne (by decide)]; exact hJ.2.1, by rw [set_ne (by decide)]; exact hJ.2.2⟩)
    simp [go_sem, e21]
  · intro listed a' w' hl H hJ
    have e22 : a'.tmps[22]?.getD undef = .pointer (some ⟨g, 0, none⟩) := (H.is 3 22 rfl rfl rfl).1
    refine ⟨rfl, fun K hK => ?_⟩
    have hc := (hJ.1 (H.before hl 7 [4] (by kernel_rfl) rfl)).cell (hS0 ▸ World.block_lt_of_cell? _ _ hc0) |>.trans hc0
    refine wp_eq (v := vN) (w' := w') ?_ (hK _ w' (fun _ _ => ⟨rfl, trivial⟩) (fun _ _ _ _ h => h) ⟨by rw [set_ne (by decide)]; exact hJ.1, by unfold Done; rw [set_ne (by decide), set_ne (by decide)]; exact hJ.2.1, by rw [set_ne (by decide)]; exact hJ.2.2⟩)
    simp [go_sem, e22, hc]
  · intro listed a' w' hl H hJ
    refine ⟨rfl, fun K hK => ?_⟩
    have hn7 := H.before hl 7 [6, 5] (by kernel_rfl) rfl
    have hbl := hJ.1 hn7
    have hS := hbl.size
    refine wp_enter (f := 32) (args := #[]) (w' := w') (R := fun v w2 => (∃ b, v = .slice (some ⟨b, 0, none⟩) 512 512 ∧ BytesAt w2 b zsec ∧ S0 ≤ b) ∧ Below w'.heap.size w' w2) ?_ ((blank_c w').mono fun e w2 h => by obtain ⟨rfl, h1, h2⟩ := h; exact ⟨_, rfl, ⟨_, rfl, h1, by omega⟩, h2⟩) ?_
    · simp [go_sem]
    · rintro v w2 ⟨h1, hb⟩
      exact hK v w2 (fun _ _ => ⟨trivial, h1⟩) (fun j y _ _ hF => ⟨hF.1, GRN7.mono S0 g k vN vs B hF.2 hb⟩) ⟨fun _ => hbl.trans (hb.mono (by omega)), (fun h => by unfold Done at h; rw [set_ne (by decide)] at h; rw [hn7] at h; cases h), (fun h => by rw [set_ne (by decide)] at h; rw [H.before hl 10 [7, 6, 5] (by kernel_rfl) rfl] at h; cases h)⟩
  · intro listed a' w' hl H hJ
    have e24 := H.is 5 24 rfl rfl rfl
    refine ⟨rfl, fun K hK => ?_⟩
    have hn7 := H.before hl 7 [6] (by kernel_rfl) rfl
    have hbl := hJ.1 hn7
    have hS := hbl.size
    obtain ⟨b, hv, hby, hbS⟩ := e24.2
    have hal : Below w'.heap.size w' (w'.alloc (.cells #[.slice (some ⟨b, 0, none⟩) 512 512] 28)) := (Below.refl _ _).alloc (Nat.le_refl _) _
    have hcl := (MapKept.heap_alloc w' (.cells #[.slice (some ⟨b, 0, none⟩) 512 512] 28)).1
    refine wp_eq (v := .slice (some ⟨w'.heap.size, 0, none⟩) 1 1) (w' := w'.alloc (.cells #[.slice (some ⟨b, 0, none⟩) 512 512] 28)) ?_ (hK _ _ (fun _ _ => ⟨trivial, b, _, rfl, by omega, by rw [cell_blk hcl]; rfl, hby.keep (hal.block _ hby.lt), hbS⟩) (fun j y _ _ hF => ⟨hF.1, GRN7.mono S0 g k vN vs B hF.2 hal⟩) ⟨fun _ => hbl.trans (hal.mono (by omega)), (fun h => by unfold Done at h; rw [set_ne (by decide)] at h; rw [hn7] at h; cases h), (fun h => by rw [set_ne (by decide)] at h; rw [H.before hl 10 [7, 6] (by kernel_rfl) rfl] at h; cases h)⟩)
    simp [go_sem, hv]
  · intro listed a' w' hl H hJ
    have e23 : a'.tmps[23]?.getD undef = vN := (H.is 4 23 rfl rfl rfl).1
    have e25 := H.is 6 25 rfl rfl rfl
    refine ⟨rfl, fun K hK => ?_⟩
    have hn7 := not_yet hl
    have hbl := hJ.1 hn7
    have hS := hbl.size
    obtain ⟨b, b6, hv6, hb6, hc6, hby, hbS⟩ := e25.2
    have hownw : w'.ownsRow B 28 1 vN k vs := own_below hown hbl (fun b' hb' => hS0 ▸ (hown.lt b' hb').2)
    have hrd : RdV w' 1 (.slice (some ⟨b6, 0, none⟩) 1 1) 1 [.slice (some ⟨b, 0, none⟩) 512 512] := ⟨rfl, _, _, rfl, Nat.le_refl _, .inr ⟨b6, 0, rfl, World.block_lt_of_cell? _ _ hc6, fun j u hj => by
      cases j with
      | zero => simp at hj; subst hj; exact hc6
      | succ j => simp at hj⟩⟩
    obtain ⟨A, c, w2, hr, hown2, hg2, hbk⟩ := run_app w' E35 35 hownw hrd (fun x hx => by rw [List.mem_singleton] at hx; subst hx; rfl) (by omega) (by omega)
    have ev : a'.eval (.tmp 23) = vN := by simp only [Act.eval, Array.getD_eq_getD_getElem?]; exact e23
    have eu : a'.eval (.tmp 25) = .slice (some ⟨b6, 0, none⟩) 1 1 := by simp only [Act.eval, Array.getD_eq_getD_getElem?]; exact hv6
    have hk2 : Kp (fun x => x < S0) w' w2 := Kp.of_grown hg2 (fun x hx _ => hS0 ▸ (hown.lt x hx).2)
    have hgr : w0.grownBy w2 vN.ownBlock := ⟨hg2.os.trans hbl.os, hg2.tape.trans hbl.tape, hg2.output.trans hbl.output, Nat.le_trans hbl.size hg2.size, fun x hx hne => (hg2.block x (by omega) hne).trans (hbl.block x (by omega))⟩
    have hne : (Value.slice A (k + 1) c).ownBlock ≠ some g := fun e => by
      rcases hbk with h | ⟨x, h, hx⟩
      · exact hgN (h ▸ e)
      · rw [e] at h; injection h with h; omega
    refine wp_eq (v := .slice A (k + 1) c) (w' := w2) ?_ (hK _ w2 (fun _ _ => ⟨trivial, b, A, c, rfl, hown2, hby.keep (hk2.keep b hby.lt (by omega)), hbS, hne, hbk.imp id (fun ⟨x, h, hx⟩ => ⟨x, h, by omega⟩)⟩) (fun j y hj _ hF => ⟨hF.1, GRN7.kp S0 g k vN vs B hj hF.2 hk2⟩) ⟨(fun h => by rw [set_self hl] at h; cases h), fun _ _ => hgr, (fun h => by rw [set_ne (by decide)] at h; rw [H.before hl 10 [7] (by kernel_rfl) rfl] at h; cases h)⟩)
    unfold execOp
    simp only [resolve, invoke, builtin, Sem.run_bind, Sem.run_pure, Result.andThen_ok, List.map_toArray, List.map_cons, List.map_nil, ev, eu, hr]
  · intro listed a' w' hl H hJ
    have e19 : a'.tmps[19]?.getD undef = .pointer (some ⟨g, 0, none⟩) := (H.is 0 19 rfl rfl rfl).1
    refine ⟨rfl, fun K hK => ?_⟩
    refine wp_eq (v := .pointer (some ⟨g, 0, none⟩)) (w' := w') ?_ (hK _ w' (fun _ _ => ⟨rfl, trivial⟩) (fun _ _ _ _ h => h) ⟨by rw [set_ne (by decide)]; exact hJ.1, by unfold Done; rw [set_ne (by decide), set_ne (by decide)]; exact hJ.2.1, by rw [set_ne (by decide)]; exact hJ.2.2⟩)
    simp [go_sem, e19]
  · intro listed a' w' hl H hJ
    have e27 : a'.tmps[27]?.getD undef = .pointer (some ⟨g, 0, none⟩) := (H.is 8 27 rfl rfl rfl).1
    refine ⟨rfl, fun K hK => ?_⟩
    refine wp_eq (v := .pointer (some ⟨g, 0, none⟩)) (w' := w') ?_ (hK _ w' (fun _ _ => ⟨rfl, trivial⟩) (fun _ _ _ _ h => h) ⟨by rw [set_ne (by decide)]; exact hJ.1, by unfold Done; rw [set_ne (by decide), set_ne (by decide)]; exact hJ.2.1, by rw [set_ne (by decide)]; exact hJ.2.2⟩)
    simp [go_sem, e27]
  · intro listed a' w' hl H hJ
    have e28 : a'.tmps[28]?.getD undef = .pointer (some ⟨g, 0, none⟩) := (H.is 9 28 rfl rfl rfl).1
    have e26 := H.is 7 26 rfl rfl rfl
    refine ⟨rfl, fun K hK => ?_⟩
    have hn10 := not_yet hl
    have h7 : Done listed 7 := H.dep (by kernel_rfl)
    have hgr := hJ.2.1 h7 hn10
    obtain ⟨b, A, c, hv7, hown7, hby, hbS, hne, hor⟩ := e26.2
    have hkg : vN.ownBlock ≠ some g := hgN
    have hblk : w'.heap[g]? = w0.heap[g]? := hgr.block g (hS0 ▸ hg) (fun e => hkg e.symm)
    have hc : w'.cell? ⟨g, 0, none⟩ = some vN := by rw [World.cell?_of_block hblk]; exact hc0
    have hf : w'.frozen? ⟨g, 0, none⟩ = false := by
      have : w'.frozen? ⟨g, 0, none⟩ = w0.frozen? ⟨g, 0, none⟩ := by simp [World.frozen?, hblk]
      rw [this]; exact hfz
    have ev : a'.eval (.tmp 26) = .slice A (k + 1) c := by simp only [Act.eval, Array.getD_eq_getD_getElem?]; exact hv7
    have ep : a'.eval (.tmp 28) = .pointer (some ⟨g, 0, none⟩) := by simp only [Act.eval, Array.getD_eq_getD_getElem?]; exact e28
    rw [hv7] at hown7 hne hor
    unfold Oper.wp execOp
    simp only [ev, ep, Sem.run_bind, Sem.run_pure, store_sl hc hf ⟨_, _, _, rfl⟩, Result.andThen_ok]
    exact hK undef _ (fun _ h => by cases h) (fun j y _ _ hF => ⟨hF.1, GRN7.set S0 g k vN vs B hF.2 hg⟩) ⟨(fun h => by rw [set_ne (by decide)] at h; unfold Done at h7; rw [h7] at h; cases h), (fun _ h => by rw [set_self hl] at h; cases h), fun _ => ⟨w', _, b, A, c, rfl, hgr, hown7, hby, hbS, hne, hor, rfl⟩⟩
  · intro listed u w' hF hall hJ
    have h6 := hall 10 (by decide)
    obtain ⟨W0, v, b, A, c, h0, h1, h2, h3, h4, h5, h6, rfl⟩ := hJ.2.2 h6
    exact hend u W0 v b A c h0 h1 h2 h3 h4 h5 h6

def opsRN8 : Array Oper := #[{ dst := some 29, op := Op.move (Operand.tmp 4), type := 38, pos := "ref.go:27", after := #[], guard := none }, { dst := some 30, op := Op.move (Operand.tmp 4), type := 38, pos := "ref.go:27", after := #[], guard := none }, { dst := some 31, op := Op.nilCheck (Operand.tmp 30), type := 0, pos := "ref.go:27", after := #[{ on := 1, ground := Ground.data }], guard := none }, { dst := some 32, op := Op.fieldAddr 50 (Operand.tmp 31) 1, type := 0, pos := "ref.go:27", after := #[{ on := 2, ground := Ground.data }], guard := none }, { dst := some 33, op := Op.load 35 (Operand.tmp 32), type := 35, pos := "ref.go:27", after := #[{ on := 3, ground := Ground.data }], guard := none }, { dst := some 34, op := Op.call { callee := Callee.value (Operand.func 32), args := #[], argTypes := #[] }, type := 28, pos := "ref.go:27", after := #[], guard := none }, { dst := some 35, op := Op.buildSlice 35 1 #[(0, Operand.tmp 34)], type := 35, pos := "ref.go:27", after := #[{ on := 5, ground := Ground.data }], guard := none }, { dst := some 36, op := Op.call { callee := Callee.builtin Builtin.append, args := #[Operand.tmp 33, Operand.tmp 35], argTypes := #[35, 35] }, type := 35, pos := "ref.go:27", after := #[{ on := 4, ground := Ground.data }, { on := 6, ground := Ground.data }, { on := 5, ground := Ground.chain }], guard := none }, { dst := some 37, op := Op.nilCheck (Operand.tmp 29), type := 0, pos := "ref.go:27", after := #[{ on := 0, ground := Ground.data }, { on := 0, ground := Ground.phase }, { on := 1, ground := Ground.phase }, { on := 2, ground := Ground.phase }, { on := 3, ground := Ground.phase }, { on := 4, ground := Ground.phase }, { on := 5, ground := Ground.phase }, { on := 6, ground := Ground.phase }, { on := 7, ground := Ground.phase }], guard := none }, { dst := some 38, op := Op.fieldAddr 50 (Operand.tmp 37) 1, type := 0, pos := "ref.go:27", after := #[{ on := 8, ground := Ground.data }, { on := 0, ground := Ground.phase }, { on := 1, ground := Ground.phase }, { on := 2, ground := Ground.phase }, { on := 3, ground := Ground.phase }, { on := 4, ground := Ground.phase }, { on := 5, ground := Ground.phase }, { on := 6, ground := Ground.phase }, { on := 7, ground := Ground.phase }], guard := none }, { dst := none, op := Op.store 35 (Operand.tmp 38) (Operand.tmp 36), type := 0, pos := "ref.go:27", after := #[{ on := 9, ground := Ground.data }, { on := 7, ground := Ground.data }, { on := 7, ground := Ground.chain }, { on := 0, ground := Ground.phase }, { on := 1, ground := Ground.phase }, { on := 2, ground := Ground.phase }, { on := 3, ground := Ground.phase }, { on := 4, ground := Ground.phase }, { on := 5, ground := Ground.phase }, { on := 6, ground := Ground.phase }, { on := 7, ground := Ground.phase }], guard := none }]
def VRN8 (g : Nat) (vN : Value) : Nat → Value → Prop
  | 0, y_ => y_ = .pointer (some ⟨g, 0, none⟩)
  | 1, y_ => y_ = .pointer (some ⟨g, 0, none⟩)
  | 2, y_ => y_ = .pointer (some ⟨g, 0, none⟩)
  | 3, y_ => y_ = .pointer (some ⟨g, 1, none⟩)
  | 4, y_ => y_ = vN
  | 8, y_ => y_ = .pointer (some ⟨g, 0, none⟩)
  | 9, y_ => y_ = .pointer (some ⟨g, 1, none⟩)
  | _, _ => True
def GRN8 (S0 g k : Nat) (vN : Value) (vs : List Value) (B : Nat) : Nat → Value → World → Prop
  | 5, v, w => ∃ b, v = .slice (some ⟨b, 0, none⟩) 512 512 ∧ BytesAt w b zsec ∧ S0 ≤ b
  | 6, v, w => ∃ b b6, v = .slice (some ⟨b6, 0, none⟩) 1 1 ∧ S0 ≤ b6 ∧ w.cell? ⟨b6, 0, none⟩ = some (.slice (some ⟨b, 0, none⟩) 512 512) ∧ BytesAt w b zsec ∧ S0 ≤ b
  | 7, v, w => ∃ b A c, v = .slice A (k + 1) c ∧ w.ownsRow B 28 1 v (k + 1) (vs ++ [.slice (some ⟨b, 0, none⟩) 512 512]) ∧ BytesAt w b zsec ∧ S0 ≤ b ∧ v.ownBlock ≠ some g ∧ (v.ownBlock = vN.ownBlock ∨ ∃ b7, v.ownBlock = some b7 ∧ S0 ≤ b7)
  | _, _, _ => True
theorem GRN8.mono (S0 g k : Nat) (vN : Value) (vs : List Value) (B : Nat) {j : Nat} {v : Value} {w w' : World} (h : GRN8 S0 g k vN vs B j v w) (hb : Below w.heap.size w w') : GRN8 S0 g k vN vs B j v w' := by
  unfold GRN8 at h ⊢
  split <;> first | exact trivial | exact E8a h hb | exact E8b h hb | exact E8c h hb
theorem GRN8.kp (S0 g k : Nat) (vN : Value) (vs : List Value) (B : Nat) {j : Nat} {v : Value} {w w' : World} (hj : j ≠ 7) (h : GRN8 S0 g k vN vs B j v w) (hb : Kp (fun x => x < S0) w w') : GRN8 S0 g k vN vs B j v w' := by
  unfold GRN8 at h ⊢
  split
  · obtain ⟨b, h1, h2, h3⟩ := h
    exact ⟨b, h1, h2.keep (hb.keep b h2.lt (by omega)), h3⟩
  · obtain ⟨b, b6, h1, h2, h3, h4, h5⟩ := h
    exact ⟨b, b6, h1, h2, by rw [World.cell?_of_block (hb.keep b6 (World.block_lt_of_cell? _ _ h3) (by omega))]; exact h3, h4.keep (hb.keep b h4.lt (by omega)), h5⟩
  · exact absurd rfl hj
  · trivial
theorem GRN8.set (S0 g k : Nat) (vN : Value) (vs : List Value) (B : Nat) {j i : Nat} {v y : Value} {w : World} (h : GRN8 S0 g k vN vs B j v w) (hg : g < S0) : GRN8 S0 g k vN vs B j v (w.setCell ⟨g, i, none⟩ y) := by
  have hk := kp_set w g i y
  unfold GRN8 at h ⊢
  split
  · obtain ⟨b, h1, h2, h3⟩ := h
    exact ⟨b, h1, h2.keep (hk.keep b h2.lt (by omega)), h3⟩
  · obtain ⟨b, b6, h1, h2, h3, h4, h5⟩ := h
    exact ⟨b, b6, h1, h2, by rw [World.cell?_of_block (hk.keep b6 (World.block_lt_of_cell? _ _ h3) (by omega))]; exact h3, h4.keep (hk.keep b h4.lt (by omega)), h5⟩
  · obtain ⟨b, A, c, h1, h2, h3, h4, h5, h6⟩ := h
    exact ⟨b, A, c, h1, own_kp h2 hk (fun b' hb' e => h5 (by rw [hb', e])), h3.keep (hk.keep b h3.lt (by omega)), h4, h5, h6⟩
  · trivial
set_option maxHeartbeats 4000000 in
theorem regionRN8 {Q : Exit → Act → World → Prop} {a : Act} {w : World} (S0 g k : Nat) (vN : Value) (vs : List Value) (B : Nat) (w0 : World) (hs : a.tmps.size = 49) (h4 : a.tmps.getD 4 undef = .pointer (some ⟨g, 0, none⟩))
    (hS0 : S0 = w0.heap.size) (hg : g < S0) (hB : B ≤ S0) (hb0 : Below S0 w0 w) (hc0 : w0.cell? ⟨g, 1, none⟩ = some vN) (hfz : w0.frozen? ⟨g, 1, none⟩ = false) (hown : w0.ownsRow B 28 1 vN k vs) (hgN : vN.ownBlock ≠ some g) (hk : k ≤ 5000)
    (hend : ∀ (u : Nat → Value) W0 v b A c, v = .slice A (k + 1) c → w0.grownBy W0 vN.ownBlock → W0.ownsRow B 28 1 v (k + 1) (vs ++ [.slice (some ⟨b, 0, none⟩) 512 512]) → BytesAt W0 b zsec → S0 ≤ b → v.ownBlock ≠ some g → (v.ownBlock = vN.ownBlock ∨ ∃ b7, v.ownBlock = some b7 ∧ S0 ≤ b7) → Q .normal (putAll opsRN8 u a) (W0.setCell ⟨g, 1, none⟩ v)) : (Code.region 8 opsRN8 true).wp Try.prog Q a w := by
  refine wp_region_rule (by kernel_rfl) (fun i_ v_ w_ => VRN8 g vN i_ v_ ∧ GRN8 S0 g k vN vs B i_ v_ w_) (fun listed W => (listed.getD 7 false = false → Below S0 w0 W) ∧ (Done listed 7 → listed.getD 10 false = false → w0.grownBy W vN.ownBlock) ∧ (listed.getD 10 false = true → ∃ W0 v b A c, v = .slice A (k + 1) c ∧ w0.grownBy W0 vN.ownBlock ∧ W0.ownsRow B 28 1 v (k + 1) (vs ++ [.slice (some ⟨b, 0, none⟩) 512 512]) ∧ BytesAt W0 b zsec ∧ S0 ≤ b ∧ v.ownBlock ≠ some g ∧ (v.ownBlock = vN.ownBlock ∨ ∃ b7, v.ownBlock = some b7 ∧ S0 ≤ b7) ∧ W = W0.setCell ⟨g, 1, none⟩ v)) (by kernel_rfl) (by rw [hs]; kernel_rfl) ?_ (allOps ⟨?_, ?_, ?_, ?_, ?_, ?_, ?_, ?_, ?_, ?_, ?_, trivial⟩) ?_
  · exact ⟨fun _ => hb0.trans (below_drewN (Below.refl _ _) 1), fun h => by simp [Done, opsRN8] at h, fun h => by simp [opsRN8] at h⟩
  · intro listed a' w' hl H hJ
    have e4 : a'.tmps[4]?.getD undef = .pointer (some ⟨g, 0, none⟩) := H.old 4 rfl h4
    refine ⟨rfl, fun K hK => ?_⟩
    refine wp_eq (v := .pointer (some ⟨g, 0, none⟩)) (w' := w') ?_ (hK _ w' (fun _ _ => ⟨rfl, trivial⟩) (fun _ _ _ _ h => h) ⟨by rw [set_ne (by decide)]; exact hJ.1, by unfold Done; rw [set_ne (by decide), set_ne (by decide)]; exact hJ.2.1, by rw [set_ne (by decide)]; exact hJ.2.2⟩)
    simp [go_sem, e4]
  · intro listed a' w' hl H hJ
    have e4 : a'.tmps[4]?.getD undef = .pointer (some ⟨g, 0, none⟩) := H.old 4 rfl h4
    refine ⟨rfl, fun K hK => ?_⟩
    refine wp_eq (v := .pointer (some ⟨g, 0, none⟩)) (w' := w') ?_ (hK _ w' (fun _ _ => ⟨rfl, trivial⟩) (fun _ _ _ _ h => h) ⟨by rw [set_ne (by decide)]; exact hJ.1, by unfold Done; rw [set_ne (by decide), set_ne (by decide)]; exact hJ.2.1, by rw [set_ne (by decide)]; exact hJ.2.2⟩)
    simp [go_sem, e4]
  · intro listed a' w' hl H hJ
    have e30 : a'.tmps[30]?.getD undef = .pointer (some ⟨g, 0, none⟩) := (H.is 1 30 rfl rfl rfl).1
    refine ⟨rfl, fun K hK => ?_⟩
    refine wp_eq (v := .pointer (some ⟨g, 0, none⟩)) (w' := w') ?_ (hK _ w' (fun _ _ => ⟨rfl, trivial⟩) (fun _ _ _ _ h => h) ⟨by rw [set_ne (by decide)]; exact hJ.1, by unfold Done; rw [set_ne (by decide), set_ne (by decide)]; exact hJ.2.1, by rw [set_ne (by decide)]; exact hJ.2.2⟩)
    simp [go_sem, e30]
  · intro listed a' w' hl H hJ
    have e31 : a'.tmps[31]?.getD undef = .pointer (some ⟨g, 0, none⟩) := (H.is 2 31 rfl rfl rfl).1
    refine ⟨rfl, fun K hK => ?_⟩
    refine wp_eq (v := .pointer (some ⟨g, 1, none⟩)) (w' := w') ?_ (hK _ w' (fun _ _ => ⟨rfl, trivial⟩) (fun _ _ _ _ h => h) ⟨by rw [set_ne (by decide)]; exact hJ.1, by unfold Done; rw [set_ne (by decide), set_ne (by decide)]; exact hJ.2.1, by rw [set_ne (by decide)]; exact hJ.2.2⟩)
    simp [go_sem, e31]
  · intro listed a' w' hl H hJ
    have e32 : a'.tmps[32]?.getD undef = .pointer (some ⟨g, 1, none⟩) := (H.is 3 32 rfl rfl rfl).1
    refine ⟨rfl, fun K hK => ?_⟩
    have hc := (hJ.1 (H.before hl 7 [4] (by kernel_rfl) rfl)).cell (hS0 ▸ World.block_lt_of_cell? _ _ hc0) |>.trans hc0
    refine wp_eq (v := vN) (w' := w') ?_ (hK _ w' (fun _ _ => ⟨rfl, trivial⟩) (fun _ _ _ _ h => h) ⟨by rw [set_ne (by decide)]; exact hJ.1, by unfold Done; rw [set_ne (by decide), set_ne (by decide)]; exact hJ.2.1, by rw [set_ne (by decide)]; exact hJ.2.2⟩)
    simp [go_sem, e32, hc]
  · intro listed a' w' hl H hJ
    refine ⟨rfl, fun K hK => ?_⟩
    have hn7 := H.before hl 7 [6, 5] (by kernel_rfl) rfl
    have hbl := hJ.1 hn7
    have hS := hbl.size
    refine wp_enter (f := 32) (args := #[]) (w' := w') (R := fun v w2 => (∃ b, v = .slice (some ⟨b, 0, none⟩) 512 512 ∧ BytesAt w2 b zsec ∧ S0 ≤ b) ∧ Below w'.heap.size w' w2) ?_ ((blank_c w').mono fun e w2 h => by obtain ⟨rfl, h1, h2⟩ := h; exact ⟨_, rfl, ⟨_, rfl, h1, by omega⟩, h2⟩) ?_
    · simp [go_sem]
    · rintro v w2 ⟨h1, hb⟩
      exact hK v w2 (fun _ _ => ⟨trivial, h1⟩) (fun j y _ _ hF => ⟨hF.1, GRN8.mono S0 g k vN vs B hF.2 hb⟩) ⟨fun _ => hbl.trans (hb.mono (by omega)), (fun h => by unfold Done at h; rw [set_ne (by decide)] at h; rw [hn7] at h; cases h), (fun h => by rw [set_ne (by decide)] at h; rw [H.before hl 10 [7, 6, 5] (by kernel_rfl) rfl] at h; cases h)⟩
  · intro listed a' w' hl H hJ
    have e34 := H.is 5 34 rfl rfl rfl
    refine ⟨rfl, fun K hK => ?_⟩
    have hn7 := H.before hl 7 [6] (by kernel_rfl) rfl
    have hbl := hJ.1 hn7
    have hS := hbl.size
    obtain ⟨b, hv, hby, hbS⟩ := e34.2
    have hal : Below w'.heap.size w' (w'.alloc (.cells #[.slice (some ⟨b, 0, none⟩) 512 512] 28)) := (Below.refl _ _).alloc (Nat.le_refl _) _
    have hcl := (MapKept.heap_alloc w' (.cells #[.slice (some ⟨b, 0, none⟩) 512 512] 28)).1
    refine wp_eq (v := .slice (some ⟨w'.heap.size, 0, none⟩) 1 1) (w' := w'.alloc (.cells #[.slice (some ⟨b, 0, none⟩) 512 512] 28)) ?_ (hK _ _ (fun _ _ => ⟨trivial, b, _, rfl, by omega, by rw [cell_blk hcl]; rfl, hby.keep (hal.block _ hby.lt), hbS⟩) (fun j y _ _ hF => ⟨hF.1, GRN8.mono S0 g k vN vs B hF.2 hal⟩) ⟨fun _ => hbl.trans (hal.mono (by omega)), (fun h => by unfold Done at h; rw [set_ne (by decide)] at h; rw [hn7] at h; cases h), (fun h => by rw [set_ne (by decide)] at h; rw [H.before hl 10 [7, 6] (by kernel_rfl) rfl] at h; cases h)⟩)
    simp [go_sem, hv]
  · intro listed a' w' hl H hJ
    have e33 : a'.tmps[33]?.getD undef = vN := (H.is 4 33 rfl rfl rfl).1
    have e35 := H.is 6 35 rfl rfl rfl
    refine ⟨rfl, fun K hK => ?_⟩
    have hn7 := not_yet hl
    have hbl := hJ.1 hn7
    have hS := hbl.size
    obtain ⟨b, b6, hv6, hb6, hc6, hby, hbS⟩ := e35.2
    have hownw : w'.ownsRow B 28 1 vN k vs := own_below hown hbl (fun b' hb' => hS0 ▸ (hown.lt b' hb').2)
    have hrd : RdV w' 1 (.slice (some ⟨b6, 0, none⟩) 1 1) 1 [.slice (some ⟨b, 0, none⟩) 512 512] := ⟨rfl, _, _, rfl, Nat.le_refl _, .inr ⟨b6, 0, rfl, World.block_lt_of_cell? _ _ hc6, fun j u hj => by
      cases j with
      | zero => simp at hj; subst hj; exact hc6
      | succ j => simp at hj⟩⟩
    obtain ⟨A, c, w2, hr, hown2, hg2, hbk⟩ := run_app w' E35 35 hownw hrd (fun x hx => by rw [List.mem_singleton] at hx; subst hx; rfl) (by omega) (by omega)
    have ev : a'.eval (.tmp 33) = vN := by simp only [Act.eval, Array.getD_eq_getD_getElem?]; exact e33
    have eu : a'.eval (.tmp 35) = .slice (some ⟨b6, 0, none⟩) 1 1 := by simp only [Act.eval, Array.getD_eq_getD_getElem?]; exact hv6
    have hk2 : Kp (fun x => x < S0) w' w2 := Kp.of_grown hg2 (fun x hx _ => hS0 ▸ (hown.lt x hx).2)
    have hgr : w0.grownBy w2 vN.ownBlock := ⟨hg2.os.trans hbl.os, hg2.tape.trans hbl.tape, hg2.output.trans hbl.output, Nat.le_trans hbl.size hg2.size, fun x hx hne => (hg2.block x (by omega) hne).trans (hbl.block x (by omega))⟩
    have hne : (Value.slice A (k + 1) c).ownBlock ≠ some g := fun e => by
      rcases hbk with h | ⟨x, h, hx⟩
      · exact hgN (h ▸ e)
      · rw [e] at h; injection h with h; omega
    refine wp_eq (v := .slice A (k + 1) c) (w' := w2) ?_ (hK _ w2 (fun _ _ => ⟨trivial, b, A, c, rfl, hown2, hby.keep (hk2.keep b hby.lt (by omega)), hbS, hne, hbk.imp id (fun ⟨x, h, hx⟩ => ⟨x, h, by omega⟩)⟩) (fun j y hj _ hF => ⟨hF.1, GRN8.kp S0 g k vN vs B hj hF.2 hk2⟩) ⟨(fun h => by rw [set_self hl] at h; cases h), fun _ _ => hgr, (fun h => by rw [set_ne (by decide)] at h; rw [H.before hl 10 [7] (by kernel_rfl) rfl] at h; cases h)⟩)
    unfold execOp
    simp only [resolve, invoke, builtin, Sem.run_bind, Sem.run_pure, Result.andThen_ok, List.map_toArray, List.map_cons, List.map_nil, ev, eu, hr]
  · intro listed a' w' hl H hJ
    have e29 : a'.tmps[29]?.getD undef = .pointer (some ⟨g, 0, none⟩) := (H.is 0 29 rfl rfl rfl).1
    refine ⟨rfl, fun K hK => ?_⟩
    refine wp_eq (v := .pointer (some ⟨g, 0, none⟩)) (w' := w') ?_ (hK _ w' (fun _ _ => ⟨rfl, trivial⟩) (fun _ _ _ _ h => h) ⟨by rw [set_ne (by decide)]; exact hJ.1, by unfold Done; rw [set_ne (by decide), set_ne (by decide)]; exact hJ.2.1, by rw [set_ne (by decide)]; exact hJ.2.2⟩)
    simp [go_sem, e29]
  · intro listed a' w' hl H hJ
    have e37 : a'.tmps[37]?.getD undef = .pointer (some ⟨g, 0, none⟩) := (H.is 8 37 rfl rfl rfl).1
    refine ⟨rfl, fun K hK => ?_⟩
    refine wp_eq (v := .pointer (some ⟨g, 1, none⟩)) (w' := w') ?_ (hK _ w' (fun _ _ => ⟨rfl, trivial⟩) (fun _ _ _ _ h => h) ⟨by rw [set_ne (by decide)]; exact hJ.1, by unfold Done; rw [set_ne (by decide), set_ne (by decide)]; exact hJ.2.1, by rw [set_ne (by decide)]; exact hJ.2.2⟩)
    simp [go_sem, e37]
  · intro listed a' w' hl H hJ
    have e38 : a'.tmps[38]?.getD undef = .pointer (some ⟨g, 1, none⟩) := (H.is 9 38 rfl rfl rfl).1
    have e36 := H.is 7 36 rfl rfl rfl
    refine ⟨rfl, fun K hK => ?_⟩
    have hn10 := not_yet hl
    have h7 : Done listed 7 := H.dep (by kernel_rfl)
    have hgr := hJ.2.1 h7 hn10
    obtain ⟨b, A, c, hv7, hown7, hby, hbS, hne, hor⟩ := e36.2
    have hkg : vN.ownBlock ≠ some g := hgN
    have hblk : w'.heap[g]? = w0.heap[g]? := hgr.block g (hS0 ▸ hg) (fun e => hkg e.symm)
    have hc : w'.cell? ⟨g, 1, none⟩ = some vN := by rw [World.cell?_of_block hblk]; exact hc0
    have hf : w'.frozen? ⟨g, 1, none⟩ = false := by
      have : w'.frozen? ⟨g, 1, none⟩ = w0.frozen? ⟨g, 1, none⟩ := by simp [World.frozen?, hblk]
      rw [this]; exact hfz
    have ev : a'.eval (.tmp 36) = .slice A (k + 1) c := by simp only [Act.eval, Array.getD_eq_getD_getElem?]; exact hv7
    have ep : a'.eval (.tmp 38) = .pointer (some ⟨g, 1, none⟩) := by simp only [Act.eval, Array.getD_eq_getD_getElem?]; exact e38
    rw [hv7] at hown7 hne hor
    unfold Oper.wp execOp
    simp only [ev, ep, Sem.run_bind, Sem.run_pure, store_sl hc hf ⟨_, _, _, rfl⟩, Result.andThen_ok]
    exact hK undef _ (fun _ h => by cases h) (fun j y _ _ hF => ⟨hF.1, GRN8.set S0 g k vN vs B hF.2 hg⟩) ⟨(fun h => by rw [set_ne (by decide)] at h; unfold Done at h7; rw [h7] at h; cases h), (fun _ h => by rw [set_self hl] at h; cases h), fun _ => ⟨w', _, b, A, c, rfl, hgr, hown7, hby, hbS, hne, hor, rfl⟩⟩
  · intro listed u w' hF hall hJ
    have h6 := hall 10 (by decide)
    obtain ⟨W0, v, b, A, c, h0, h1, h2, h3, h4, h5, h6, rfl⟩ := hJ.2.2 h6
    exact hend u W0 v b A c h0 h1 h2 h3 h4 h5 h6

end Go.Proofs.Ytbcafhhheileeaa
