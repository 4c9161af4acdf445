/-
  Part of the proofs of DiskPlays, SlotPlays: the document's device, Write's region.
  Conditions: those that each theorem names.
-/
import Derived.Test.YtbcafhhheileeaaE5
namespace Go.Proofs.Ytbcafhhheileeaa
open Go.RowKit
set_option maxRecDepth 100000

/-- append onto a slice without room: a new block -/
theorem app_fresh {P : Program} (w : World) {t e : TypeId} {bytes : Nat} (E : ElemOk P t e 1 bytes) (a0 : Addr) {v : Value} {m : Nat} {news : List Value} (hrd : RdV w 1 v m news) (hm : 0 < m) (hb : m * bytes ≤ 140737488355328) :
    ∃ c w', (∀ ty, (Builtin.append_ #[t, t] ty #[.slice (some a0) 0 0, v]).run P w = .ok (.slice (some ⟨w.heap.size, 0, none⟩) m c) w') ∧ w'.ownsRow w.heap.size e 1 (.slice (some ⟨w.heap.size, 0, none⟩) m c) m news ∧ Below w.heap.size w w' := by
  obtain ⟨z, hi, hzs⟩ := E.info
  obtain ⟨i, hi, hz0, hz1, hz2⟩ := info_parts hi
  have h63 : m ≤ maxLen := by
    have := Nat.le_mul_of_pos_right m E.bpos
    simp only [maxLen]; omega
  obtain ⟨hl, A, c, rfl, _, hA⟩ := hrd
  rcases hA with hA | ⟨b, o, rfl, _, hc⟩
  · omega
  have hr := fun ty => run_append_grow (P := P) w t ty e i z E.under hi hz0 a0 0 0 [] (by simp) (fun j u hj => by simp at hj) ⟨b, o, none⟩ m c news (by rw [hl, hz1]) (fun j u hj => by rw [addr_add]; exact hc j u hj) (by omega) (by simp only [maxLen] at h63; omega) (growslice_fits (by omega) (by rw [hz2]; simpa using hb))
  simp only [Nat.zero_add] at hr
  have hge := grownCap_ge w m 0 e
  refine ⟨_, _, hr, ⟨hl, .inr ⟨w.heap.size, _, _, rfl, Nat.le_refl _, heap_alloc_new w.drew _, hge, grownCap_le_maxLen w m 0 e h63, ?_, ?_⟩⟩, (below_drewN (Below.refl _ w) 1).alloc (Nat.le_refl _) _⟩
  · simp [hzs, hl, size_zeroCells]; omega
  · simp [hl]
theorem own_below {w w' : World} {B B' : Nat} {e : TypeId} {sz n : Nat} {v : Value} {xs : List Value} (h : w.ownsRow B e sz v n xs) (hb : Below B' w w') (hv : ∀ b, v.ownBlock = some b → b < B') : w'.ownsRow B e sz v n xs := by
  refine ⟨h.1, ?_⟩
  rcases h.2 with h2 | ⟨g, cap, cur, rfl, h3, h4, h5⟩
  · exact .inl h2
  · exact .inr ⟨g, cap, cur, rfl, h3, (hb.block g (hv g rfl)).trans h4, h5⟩

def opsRW7 : Array Oper := #[{ dst := some 19, op := Op.move (Operand.tmp 0), type := 38, pos := "ref.go:70", after := #[], guard := none }, { dst := some 20, op := Op.nilCheck (Operand.tmp 19), type := 0, pos := "ref.go:70", after := #[{ on := 0, ground := Ground.data }], guard := none }, { dst := some 21, op := Op.fieldAddr 50 (Operand.tmp 20) 0, type := 0, pos := "ref.go:70", after := #[{ on := 1, ground := Ground.data }], guard := none }, { dst := some 22, op := Op.load 35 (Operand.tmp 21), type := 35, pos := "ref.go:70", after := #[{ on := 2, ground := Ground.data }], guard := none }, { dst := some 23, op := Op.move (Operand.tmp 1), type := 3, pos := "ref.go:70", after := #[], guard := none }, { dst := some 24, op := Op.buildSlice 28 0 #[], type := 28, pos := "ref.go:70", after := #[], guard := none }, { dst := some 25, op := Op.move (Operand.tmp 2), type := 28, pos := "ref.go:70", after := #[], guard := none }, { dst := some 26, op := Op.call { callee := Callee.builtin Builtin.append, args := #[Operand.tmp 24, Operand.tmp 25], argTypes := #[28, 28] }, type := 28, pos := "ref.go:70", after := #[{ on := 5, ground := Ground.data }, { on := 6, ground := Ground.data }], guard := none }, { dst := some 27, op := Op.indexAddr 35 (Operand.tmp 22) (Operand.tmp 23), type := 0, pos := "ref.go:70", after := #[{ on := 3, ground := Ground.data }, { on := 4, ground := Ground.data }, { on := 0, ground := Ground.phase }, { on := 1, ground := Ground.phase }, { on := 2, ground := Ground.phase }, { on := 3, ground := Ground.phase }, { on := 4, ground := Ground.phase }, { on := 5, ground := Ground.phase }, { on := 6, ground := Ground.phase }, { on := 7, ground := Ground.phase }], guard := none }, { dst := none, op := Op.store 28 (Operand.tmp 27) (Operand.tmp 26), type := 0, pos := "ref.go:70", after := #[{ on := 8, ground := Ground.data }, { on := 7, ground := Ground.data }, { on := 7, ground := Ground.chain }, { on := 0, ground := Ground.phase }, { on := 1, ground := Ground.phase }, { on := 2, ground := Ground.phase }, { on := 3, ground := Ground.phase }, { on := 4, ground := Ground.phase }, { on := 5, ground := Ground.phase }, { on := 6, ground := Ground.phase }, { on := 7, ground := Ground.phase }], guard := none }]
def VRW7 (f : Foot) (n i : Nat) (u : Value) : Nat → Value → Prop
  | 0, y_ => y_ = .pointer (some ⟨f.g, 0, none⟩)
  | 1, y_ => y_ = .pointer (some ⟨f.g, 0, none⟩)
  | 2, y_ => y_ = .pointer (some ⟨f.g, 0, none⟩)
  | 3, y_ => y_ = slV f.bN n f.cN
  | 4, y_ => y_ = .int .i64 i
  | 6, y_ => y_ = u
  | 8, y_ => y_ = .pointer (some ⟨f.bN, i, none⟩)
  | _, _ => True
def GRW7 (xs : List Int) (S0 : Nat) : Nat → Value → World → Prop
  | 5, v, _ => ∃ b, v = .slice (some ⟨b, 0, none⟩) 0 0
  | 7, v, w => w.ownsRow S0 5 1 v xs.length (byt xs)
  | _, _, _ => True
theorem GRW7.mono (xs : List Int) (S0 : Nat) {j : Nat} {v : Value} {w w' : World} (h : GRW7 xs S0 j v w) (hb : Below w.heap.size w w') : GRW7 xs S0 j v w' := by
  unfold GRW7 at h ⊢
  split <;> first | exact trivial | exact h | exact own_below h hb (fun b hb' => (h.lt b hb').2)
theorem GRW7.set (xs : List Int) (S0 : Nat) {j : Nat} {v y : Value} {w : World} {b i : Nat} (h : GRW7 xs S0 j v w) (hb : b < S0) : GRW7 xs S0 j v (w.setCell ⟨b, i, none⟩ y) := by
  unfold GRW7 at h ⊢
  split
  · exact h
  · exact own_kp h (kp_set w b i y) (fun b' hb' e => by have := (h.lt b' hb').1; omega)
  · trivial
set_option maxHeartbeats 4000000 in
theorem regionRW7 {Q : Exit → Act → World → Prop} {a : Act} {w : World} (f : Foot) (n i : Nat) (u : Value) (xs : List Int) (S0 : Nat) (w0 : World) (hs : a.tmps.size = 35) (h0 : a.tmps.getD 0 undef = .pointer (some ⟨f.g, 0, none⟩)) (hk : a.tmps.getD 1 undef = .int .i64 i) (hu2 : a.tmps.getD 2 undef = u)
    (hi : i < n) (hx : xs.length = 512) (hS0 : S0 = w0.heap.size) (hb0 : Below S0 w0 w) (hc0 : w0.cell? ⟨f.g, 0, none⟩ = some (slV f.bN n f.cN)) (hcN : ∃ uo, w0.cell? ⟨f.bN, i, none⟩ = some uo) (hfN : w0.frozen? ⟨f.bN, i, none⟩ = false) (hlN : f.bN < w0.heap.size) (hu : RdB w0 u xs)
    (hend : ∀ (u : Nat → Value) W0 y, Below S0 w0 W0 → W0.ownsRow S0 5 1 y xs.length (byt xs) → Q .normal (putAll opsRW7 u a) (W0.setCell ⟨f.bN, i, none⟩ y)) : (Code.region 7 opsRW7 true).wp Try.prog Q a w := by
  refine wp_region_rule (by kernel_rfl) (fun i_ v_ w_ => VRW7 f n i u i_ v_ ∧ GRW7 xs S0 i_ v_ w_) (fun listed W => (listed.getD 9 false = false → Below S0 w0 W) ∧ (listed.getD 9 false = true → ∃ W0 y, Below S0 w0 W0 ∧ W0.ownsRow S0 5 1 y xs.length (byt xs) ∧ W = W0.setCell ⟨f.bN, i, none⟩ y)) (by kernel_rfl) (by rw [hs]; kernel_rfl) ?_ (allOps ⟨?_, ?_, ?_, ?_, ?_, ?_, ?_, ?_, ?_, ?_, trivial⟩) ?_
  · exact ⟨fun _ => hb0.trans (below_drewN (Below.refl _ _) 1), fun h => by simp [opsRW7] at h⟩
  · intro listed a' w' hl H hJ
    have e0 : a'.tmps[0]?.getD undef = .pointer (some ⟨f.g, 0, none⟩) := H.old 0 rfl h0
    refine ⟨rfl, fun K hK => ?_⟩
    refine wp_eq (v := .pointer (some ⟨f.g, 0, none⟩)) (w' := w') ?_ (hK _ w' (fun _ _ => ⟨rfl, trivial⟩) (fun _ _ _ _ h => h) ⟨by rw [set_ne (by decide)]; exact hJ.1, by rw [set_ne (by decide)]; exact hJ.2⟩)
    simp [go_sem, e0]
  · intro listed a' w' hl H hJ
    have e19 : a'.tmps[19]?.getD undef = .pointer (some ⟨f.g, 0, none⟩) := (H.is 0 19 rfl rfl rfl).1
    refine ⟨rfl, fun K hK => ?_⟩
    refine wp_eq (v := .pointer (some ⟨f.g, 0, none⟩)) (w' := w') ?_ (hK _ w' (fun _ _ => ⟨rfl, trivial⟩) (fun _ _ _ _ h => h) ⟨by rw [set_ne (by decide)]; exact hJ.1, by rw [set_ne (by decide)]; exact hJ.2⟩)
    simp [go_sem, e19]
  · intro listed a' w' hl H hJ
    have e20 : a'.tmps[20]?.getD undef = .pointer (some ⟨f.g, 0, none⟩) := (H.is 1 20 rfl rfl rfl).1
    refine ⟨rfl, fun K hK => ?_⟩
    refine wp_eq (v := .pointer (some ⟨f.g, 0, none⟩)) (w' := w') ?_ (hK _ w' (fun _ _ => ⟨rfl, trivial⟩) (fun _ _ _ _ h => h) ⟨by rw [set_ne (by decide)]; exact hJ.1, by rw [set_ne (by decide)]; exact hJ.2⟩)
    simp [go_sem, e20]
  · intro listed a' w' hl H hJ
    have e21 : a'.tmps[21]?.getD undef = .pointer (some ⟨f.g, 0, none⟩) := (H.is 2 21 rfl rfl rfl).1
    refine ⟨rfl, fun K hK => ?_⟩
    have hc := (hJ.1 (H.before hl 9 [8, 3] (by kernel_rfl) rfl)).cell (hS0 ▸ World.block_lt_of_cell? _ _ hc0) |>.trans hc0
    refine wp_eq (v := slV f.bN n f.cN) (w' := w') ?_ (hK _ w' (fun _ _ => ⟨rfl, trivial⟩) (fun _ _ _ _ h => h) ⟨by rw [set_ne (by decide)]; exact hJ.1, by rw [set_ne (by decide)]; exact hJ.2⟩)
    simp [go_sem, e21, hc]
  · intro listed a' w' hl H hJ
    have e1 : a'.tmps[1]?.getD undef = .int .i64 i := H.old 1 rfl hk
    refine ⟨rfl, fun K hK => ?_⟩
    refine wp_eq (v := .int .i64 i) (w' := w') ?_ (hK _ w' (fun _ _ => ⟨rfl, trivial⟩) (fun _ _ _ _ h => h) ⟨by rw [set_ne (by decide)]; exact hJ.1, by rw [set_ne (by decide)]; exact hJ.2⟩)
    simp [go_sem, e1]
  · intro listed a' w' hl H hJ
    refine ⟨rfl, fun K hK => ?_⟩
    have hn9 := H.before hl 9 [7, 5] (by kernel_rfl) rfl
    have hbl := hJ.1 hn9
    have hS := hbl.size
    have hal : Below w'.heap.size w' (w'.alloc (.cells #[] 5)) := (Below.refl _ _).alloc (Nat.le_refl _) _
    refine wp_eq (v := .slice (some ⟨w'.heap.size, 0, none⟩) 0 0) (w' := w'.alloc (.cells #[] 5)) ?_ (hK _ _ (fun _ _ => ⟨trivial, _, rfl⟩) (fun j y _ _ hF => ⟨hF.1, GRW7.mono xs S0 hF.2 hal⟩) ⟨fun _ => hbl.trans (hal.mono (by omega)), fun h9 => by rw [set_ne (by decide)] at h9; rw [hn9] at h9; cases h9⟩)
    simp [go_sem]
  · intro listed a' w' hl H hJ
    have e2 : a'.tmps[2]?.getD undef = u := H.old 2 rfl hu2
    refine ⟨rfl, fun K hK => ?_⟩
    refine wp_eq (v := u) (w' := w') ?_ (hK _ w' (fun _ _ => ⟨rfl, trivial⟩) (fun _ _ _ _ h => h) ⟨by rw [set_ne (by decide)]; exact hJ.1, by rw [set_ne (by decide)]; exact hJ.2⟩)
    simp [go_sem, e2]
  · intro listed a' w' hl H hJ
    have e24 := H.is 5 24 rfl rfl rfl
    have e25 : a'.tmps[25]?.getD undef = u := (H.is 6 25 rfl rfl rfl).1
    refine ⟨rfl, fun K hK => ?_⟩
    have hn9 := H.before hl 9 [7] (by kernel_rfl) rfl
    have hbl := hJ.1 hn9
    have hS := hbl.size
    obtain ⟨b, hb⟩ := e24.2
    have hrd : RdB w' u xs := RdV.below hu (hS0 ▸ hbl)
    obtain ⟨c, w2, hr, hown, hb2⟩ := app_fresh w' E28 ⟨b, 0, none⟩ hrd (by omega) (by omega)
    refine wp_eq (v := .slice (some ⟨w'.heap.size, 0, none⟩) xs.length c) (w' := w2) ?_ (hK _ _ (fun _ _ => ⟨trivial, hown.mono (by omega)⟩) (fun j y _ _ hF => ⟨hF.1, GRW7.mono xs S0 hF.2 hb2⟩) ⟨fun _ => hbl.trans (hb2.mono (by omega)), fun h9 => by rw [set_ne (by decide)] at h9; rw [hn9] at h9; cases h9⟩)
    have ev : a'.eval (.tmp 24) = .slice (some ⟨b, 0, none⟩) 0 0 := by simp only [Act.eval, Array.getD_eq_getD_getElem?]; exact hb
    have eu : a'.eval (.tmp 25) = u := by simp only [Act.eval, Array.getD_eq_getD_getElem?]; exact e25
    unfold execOp
    simp only [resolve, invoke, builtin, Sem.run_bind, Sem.run_pure, Result.andThen_ok, List.map_toArray, List.map_cons, List.map_nil, ev, eu, hr]
  · intro listed a' w' hl H hJ
    have e22 : a'.tmps[22]?.getD undef = slV f.bN n f.cN := (H.is 3 22 rfl rfl rfl).1
    have e23 : a'.tmps[23]?.getD undef = .int .i64 i := (H.is 4 23 rfl rfl rfl).1
    refine ⟨rfl, fun K hK => ?_⟩
    refine wp_eq (v := .pointer (some ⟨f.bN, i, none⟩)) (w' := w') ?_ (hK _ w' (fun _ _ => ⟨rfl, trivial⟩) (fun _ _ _ _ h => h) ⟨by rw [set_ne (by decide)]; exact hJ.1, by rw [set_ne (by decide)]; exact hJ.2⟩)
    simp [go_sem, e22, e23, slV, hi]
  · intro listed a' w' hl H hJ
    have e27 : a'.tmps[27]?.getD undef = .pointer (some ⟨f.bN, i, none⟩) := (H.is 8 27 rfl rfl rfl).1
    have e26 := H.is 7 26 rfl rfl rfl
    refine ⟨rfl, fun K hK => ?_⟩
    have hn9 := not_yet hl
    have hbl := hJ.1 hn9
    have hS := hbl.size
    have hg := e26.2
    have hc : ∃ uo, w'.cell? ⟨f.bN, i, none⟩ = some uo := by
      obtain ⟨uo, h1⟩ := hcN
      exact ⟨uo, (hbl.cell (hS0 ▸ hlN)).trans h1⟩
    have hf : w'.frozen? ⟨f.bN, i, none⟩ = false := (hbl.frozen (hS0 ▸ hlN)).trans hfN
    obtain ⟨uo, hc⟩ := hc
    obtain ⟨A, cc, hform⟩ := own_form hg
    have ev : a'.eval (.tmp 26) = .slice A xs.length cc := by simp only [Act.eval, Array.getD_eq_getD_getElem?]; exact hform
    have ep : a'.eval (.tmp 27) = .pointer (some ⟨f.bN, i, none⟩) := by simp only [Act.eval, Array.getD_eq_getD_getElem?]; exact e27
    rw [hform] at hg
    unfold Oper.wp execOp
    simp only [ev, ep, Sem.run_bind, Sem.run_pure, store_one hc hf ⟨_, _, _, rfl⟩, Result.andThen_ok]
    exact hK undef _ (fun _ h => by cases h) (fun j y _ _ hF => ⟨hF.1, GRW7.set xs S0 hF.2 (hS0 ▸ hlN)⟩) ⟨(fun h => by rw [set_self hl] at h; cases h), fun _ => ⟨w', _, hbl, hg, rfl⟩⟩
  · intro listed u w' hF hall hJ
    have h6 := hall 9 (by decide)
    obtain ⟨W0, y, h1, h2, rfl⟩ := hJ.2 h6
    exact hend u W0 y h1 h2

end Go.Proofs.Ytbcafhhheileeaa
