/-
  Part of the proofs of DiskOwns, DiskPlays, SlotPlays: contracts of the device and what they need.
  Conditions: those that each theorem names.
-/
import Derived.Test.YtbcafhhheileeaaD19
namespace Go.Proofs.Ytbcafhhheileeaa
open Go.RowKit
set_option maxRecDepth 100000

/-! ### appends: in place, or into a new block -/
theorem run_app_two {P : Program} (w : World) {t e : TypeId} {sz bytes : Nat} (E : ElemOk P t e sz bytes) (ty : TypeId) {base : Nat} {g cap n : Nat} {xs : List Value} (hown : w.ownsRow base e sz (.slice (some ⟨g, 0, none⟩) n cap) n xs)
    {a : Addr} {m c : Nat} {news : List Value} (hl : news.length = m * sz) (hcells : ∀ j x, news[j]? = some x → w.cell? (a.add j) = some x) (h1 : ∀ x ∈ news, x.oneCell' = true) (hb : (n + m) * bytes ≤ 140737488355328) (hbase : base ≤ w.heap.size) :
    ∃ A c' w', (Builtin.append_ #[t, t] ty #[.slice (some ⟨g, 0, none⟩) n cap, .slice (some a) m c]).run P w = .ok (.slice A (n + m) c') w' ∧ w'.ownsRow base e sz (.slice A (n + m) c') (n + m) (xs ++ news) ∧
      ((A = some ⟨g, 0, none⟩ ∧ c' = cap ∧ w.grownBy w' (some g)) ∨ (A = some ⟨w.heap.size, 0, none⟩ ∧ Below w.heap.size w w')) := by
  obtain ⟨z, hi, hzs⟩ := E.info
  obtain ⟨i, hi, hz0, hz1, hz2⟩ := info_parts hi
  have h63 : n + m ≤ maxLen := by
    have := Nat.le_mul_of_pos_right (n + m) E.bpos
    simp only [maxLen]; omega
  have hm63 : n + m ≤ 9223372036854775807 := by simp only [maxLen] at h63; omega
  obtain ⟨v', w', hr, h2, h3, _, h5⟩ := run_append_own_at (P := P) w base t ty e i z sz bytes E.under hi hz0 hz1 hz2 hzs E.pos _ n xs hown a m c news hl hcells h1 h63 hb hbase
  rcases hown.2 with ⟨hx, _⟩ | ⟨g', cap', cur, he, hbg, hg, hnc, hcm, hcs, htake⟩
  · cases hx
  injection he with he1 _ he3
  injection he1 with he1
  injection he1 with he1
  subst he1 he3
  by_cases hroom : n + m ≤ cap
  · have hfit : n * i.size + news.length ≤ cur.size := by rw [hl, hcs, hz1, ← Nat.add_mul]; exact Nat.mul_le_mul_right _ hroom
    have hr2 := run_append_room (P := P) w t ty e i E.under hi g n cap cur hg a m c news (by rw [hl, hz1]) hcells h1 hroom hfit
    rw [hr] at hr2
    injection hr2 with e1 e2
    subst e1 e2
    exact ⟨_, _, _, hr, h2, .inl ⟨rfl, rfl, h3⟩⟩
  · have holds : ∀ j u, xs[j]? = some u → w.cell? ((⟨g, 0, none⟩ : Addr).add j) = some u := hown.cells (g := g) rfl
    have hr2 := run_append_grow (P := P) w t ty e i z E.under hi hz0 ⟨g, 0, none⟩ n cap xs (by rw [hown.1, hz1]) holds a m c news (by rw [hl, hz1]) hcells (by omega) (by omega) (growslice_fits (by omega) (by rw [hz2]; exact hb))
    rw [hr] at hr2
    injection hr2 with e1 e2
    subst e1 e2
    exact ⟨_, _, _, hr, h2, .inr ⟨rfl, (below_drewN (Below.refl _ w) 1).alloc (Nat.le_refl _) _⟩⟩
theorem wpList_app1_two {P : Program} (w : World) {ops : Array Oper} {rest : List Oper} {o : Oper} {a : Act} {Q : Exit → Act → World → Prop} (hgd : o.guard = none) (s x : Operand) (t : TypeId) (ho : o.op = .call { callee := .builtin .append, args := #[s, x], argTypes := #[t, t] })
    {e : TypeId} {bytes : Nat} (E : ElemOk P t e 1 bytes) {base g cap n : Nat} {xs : List Value} (hs : a.eval s = .slice (some ⟨g, 0, none⟩) n cap) (hown : w.ownsRow base e 1 (.slice (some ⟨g, 0, none⟩) n cap) n xs)
    {y : Value} (hx : a.eval x = .slice (some ⟨w.heap.size, 0, none⟩) 1 1) (h1 : y.oneCell' = true) (hb : (n + 1) * bytes ≤ 140737488355328) (hbase : base ≤ w.heap.size)
    (h : ∀ A c' w', w'.ownsRow base e 1 (.slice (some ⟨A, 0, none⟩) (n + 1) c') (n + 1) (xs ++ [y]) → ((A = g ∧ c' = cap ∧ w.grownBy w' (some g)) ∨ (w.heap.size ≤ A ∧ Below w.heap.size w w')) → wpList P ops Q rest (a.put o.dst (.slice (some ⟨A, 0, none⟩) (n + 1) c')) w') : wpList P ops Q (o :: rest) a (w.alloc (.cells #[y] e)) := by
  refine wpList_plain hgd fun K hK => ?_
  obtain ⟨A, c', w', hr, h2, h3⟩ := run_app_two (P := P) (w.alloc (.cells #[y] e)) E o.type (hown.alloc _) (a := ⟨w.heap.size, 0, none⟩) (m := 1) (c := 1) (news := [y]) rfl (cell_one_new w y e) (by simpa using h1) hb (by simp; omega)
  unfold Oper.wp execOp
  simp only [ho, resolve, invoke, builtin, Sem.run_bind, Sem.run_pure, Result.andThen_ok, List.map_toArray, List.map_cons, List.map_nil, hs, hx, hr]
  have hal : Below w.heap.size w (w.alloc (.cells #[y] e)) := (Below.refl _ _).alloc (Nat.le_refl _) _
  rcases h3 with ⟨rfl, rfl, hg⟩ | ⟨rfl, hg⟩
  · exact hK _ _ (h g _ w' h2 (.inl ⟨rfl, rfl, ⟨hg.os, hg.tape, hg.output, Nat.le_trans hal.size hg.size, fun k hk hne => (hg.block k (by simp; omega) hne).trans (hal.block k hk)⟩⟩))
  · exact hK _ _ (h _ _ w' h2 (.inr ⟨by simp, hal.trans (hg.mono hal.size)⟩))
theorem own_prefix {w : World} {B : Nat} {e : TypeId} {g cap n m : Nat} {xs : List Value} (h : w.ownsRow B e 1 (.slice (some ⟨g, 0, none⟩) n cap) n xs) (hm : m ≤ n) : w.ownsRow B e 1 (.slice (some ⟨g, 0, none⟩) m cap) m (xs.take m) := by
  have hl := h.1
  rcases h.2 with ⟨h2, _⟩ | ⟨g', cap', cur, he, h3, h4, h5, h6, h7, h8⟩
  · cases h2
  · injection he with he1 _ he3
    injection he1 with he1
    injection he1 with he1
    subst he1 he3
    refine ⟨by simp; omega, .inr ⟨g, cap, cur, rfl, h3, h4, by omega, h6, h7, ?_⟩⟩
    rw [← h8, List.take_take]
    congr 1
    omega

theorem E35 : ElemOk Try.prog 35 28 1 24 := ⟨Try.underlying35, ⟨.slice none 0 0, by kernel_rfl, rfl⟩, by omega, by omega⟩
def mk (k j : Nat) : Int := b8 (31 * k + 7 * j + 1)
def marks (k m : Nat) : List Int := (List.range m).map (mk k)
theorem marks_len (k m : Nat) : (marks k m).length = m := by simp [marks]
theorem marks_succ (k m : Nat) : marks k (m + 1) = marks k m ++ [mk k m] := by simp [marks, List.range_succ]
theorem marks_get (k m j : Nat) (h : j < m) : (marks k m)[j]'(by rw [marks_len]; exact h) = mk k j := by simp [marks]
theorem marks_take (k m n : Nat) (h : n ≤ m) : (marks k m).take n = marks k n := by
  unfold marks
  rw [← List.map_take, List.take_range, Nat.min_eq_left h]

/-- a row of 512 bytes of its own, in block g with room c -/
def Row1 (B : Nat) (w : World) (g c : Nat) (m : Nat) (xs : List Int) : Prop := w.ownsRow B 5 1 (.slice (some ⟨g, 0, none⟩) m c) m (byt xs)
theorem Row1.kp {X : Nat → Prop} {B g c m : Nat} {w w' : World} {xs : List Int} (h : Row1 B w g c m xs) (hk : Kp X w w') (hx : ¬ X g) : Row1 B w' g c m xs :=
  own_kp h hk fun b hb => by injection hb with hb; subst hb; exact hx
theorem Row1.len {B g c m : Nat} {w : World} {xs : List Int} (h : Row1 B w g c m xs) : xs.length = m := by have := h.1; simpa [byt] using this
theorem Row1.cell {B g c m : Nat} {w : World} {xs : List Int} (h : Row1 B w g c m xs) (j : Nat) (hj : j < m) : w.cell? ⟨g, j, none⟩ = some (.int .u8 (xs[j]'(by rw [h.len]; exact hj))) := by
  have := h.cellAt j (by omega)
  rw [this]
  have hl := h.len
  simp [byt, show j < xs.length by omega]
theorem Row1.cellE {B g c m : Nat} {w : World} {xs : List Int} (h : Row1 B w g c m xs) (j : Nat) (hj : j < m) : ∃ y, w.cell? ⟨g, j, none⟩ = some (.int .u8 y) := ⟨_, h.cell j hj⟩
theorem Row1.fz {B g c m : Nat} {w : World} {xs : List Int} (h : Row1 B w g c m xs) (j : Nat) : w.frozen? ⟨g, j, none⟩ = false := h.frozenAt j
theorem Row1.set {B g c m : Nat} {w : World} {xs : List Int} (h : Row1 B w g c m xs) (j : Nat) (y : Int) : Row1 B (w.setCell ⟨g, j, none⟩ (.int .u8 y)) g c m (xs.set j y) := own_set h j y
theorem Row1.lt {B g c m : Nat} {w : World} {xs : List Int} (h : Row1 B w g c m xs) : g < w.heap.size ∧ B ≤ g := by
  rcases h.2 with ⟨h2, _⟩ | ⟨g', cap', cur, he, h3, h4, _⟩
  · cases h2
  · injection he with he1 _ _
    injection he1 with he1
    injection he1 with he1
    subst he1
    exact ⟨lt_of_heap h4, h3⟩
theorem Row1.le {B g c m : Nat} {w : World} {xs : List Int} (h : Row1 B w g c m xs) : m ≤ c := by
  rcases h.2 with ⟨h2, _⟩ | ⟨g', cap', cur, he, h3, h4, h5, _⟩
  · cases h2
  · injection he with _ _ he3
    omega

theorem Row1.ne {B B' g c m k : Nat} {w : World} {xs : List Int} {G : Value} {ys : List Value} (h : Row1 B w g c m xs) (hG : w.ownsRow B' 28 1 G k ys) : G.ownBlock ≠ some g := by
  intro e
  rcases h.2 with ⟨h2, _⟩ | ⟨g', cap', cur, he, h3, h4, _⟩
  · cases h2
  injection he with he1 _ _
  injection he1 with he1
  injection he1 with he1
  subst he1
  rcases hG.2 with ⟨rfl, _⟩ | ⟨g2, cap2, cur2, rfl, h5, h6, _⟩
  · cases e
  · injection e with e
    subst e
    rw [h4] at h6
    cases h6

/-- some rows: block and room of each -/
abbrev Spots := List (Nat × Nat)
def rowV (m : Nat) (s : Nat × Nat) : Value := .slice (some ⟨s.1, 0, none⟩) m s.2
def isRow (S : Spots) (b : Nat) : Prop := ∃ s ∈ S, s.1 = b
end Go.Proofs.Ytbcafhhheileeaa
