/-
  Proved here: LockPlays ('Rows.LockPlaysSaid'): whatever slice of steps comes in, LockPlays returns true and the slice reads as it did. No conditions beyond the statement's own.
-/
import Derived.Test.YtejpjibhpjgcjaaRows
import Derived.Test.YtejpjibhpjgcjaaL6
import Derived.ProofKit
import Derived.Carry
import Derived.Deep.Slices
namespace Go.Proofs.Ytejpjibhpjgcjaa
open Go.ChangeShapes Go.WideShapes Go.ChangeAt Go.RowKit Go.Deep

theorem Try.own : ownKnob Try.prog.godebug = none := by kernel_rfl
theorem Try.laidOut : laidOutB Try.prog = true := by kernel_rfl
theorem Try.cells31 : Try.prog.cellsOf 31 = 4 := by kernel_rfl
theorem Try.cells3 : Try.prog.cellsOf 3 = 1 := by kernel_rfl
instance : Inhabited St := ⟨⟨0, 0, 0, 0⟩⟩

/-- a slice of steps that came in, as a script -/
theorem open_script {H : Type} {enc : TypeId × Value → H} {W : World} {fuel : Nat} {v : Value} {x : DataW H × List MemPlace} (h : DataW.trod enc Try.prog W 0 (fun _ => true) true fuel 22 [v] = some x) :
    ∃ xs : List St, Script W v xs ∧ ∀ s ∈ xs, (Lit.int .i64 s.txn).wf = true := by
  rcases open_slice Try.underlying22 h with ⟨hcs, hx⟩ | ⟨a, len, cap, m, n, D, Pl, hcs, hb, hl, hm, hmm, hx, hel⟩
  · injection hcs with hcs
    subst hcs
    exact ⟨[], ⟨⟨none, 0, rfl⟩, fun h => absurd rfl h⟩, by simp⟩
  · injection hcs with hcs
    subst hcs
    simp only [if_true] at hmm
    subst hmm
    have each : ∀ i, i < len → ∃ s : St, W.cell? (a.add (i * 4)) = some (.int .i64 s.kind) ∧ W.cell? (a.add (i * 4 + 1)) = some (.int .i64 s.txn) ∧ W.cell? (a.add (i * 4 + 2)) = some (.int .i64 s.page) ∧ W.cell? (a.add (i * 4 + 3)) = some (.int .i64 s.mode) ∧ (Lit.int .i64 s.txn).wf = true := by
      intro i hi
      obtain ⟨cs', h1, h2⟩ := hel i (by omega)
      rw [Try.cells31] at h1
      obtain ⟨_, hlen, hcell⟩ := World.cells?_some h1
      obtain ⟨xs, k, hk, hxy, _, hxl, hf⟩ := DataW.trod_struct Try.underlying31 h2
      match xs, hxl, cs', hlen with
      | [y0, y1, y2, y3], _, [v0, v1, v2, v3], _ =>
        have g0 := hf 0 _ rfl
        have g1 := hf 1 _ rfl
        have g2 := hf 2 _ rfl
        have g3 := hf 3 _ rfl
        simp [Try.cells3] at g0 g1 g2 g3
        obtain ⟨n0, e0, _, _⟩ := DataW.trod_int Try.underlying3 g0
        obtain ⟨n1, e1, _, w1⟩ := DataW.trod_int Try.underlying3 g1
        obtain ⟨n2, e2, _, _⟩ := DataW.trod_int Try.underlying3 g2
        obtain ⟨n3, e3, _, _⟩ := DataW.trod_int Try.underlying3 g3
        simp at e0 e1 e2 e3
        subst e0 e1 e2 e3
        have c0 := hcell 0 (by omega)
        have c1 := hcell 1 (by omega)
        have c2 := hcell 2 (by omega)
        have c3 := hcell 3 (by omega)
        rw [add_add] at c0 c1 c2 c3
        exact ⟨⟨n0, n1, n2, n3⟩, by simpa using c0, by simpa using c1, by simpa using c2, by simpa using c3, w1⟩
    obtain ⟨q, hq⟩ := choose_lt each
    refine ⟨(List.range len).map q, ⟨⟨some a, m, by simp⟩, fun hne => ?_⟩, fun s hs => ?_⟩
    · have hlen0 : 0 < len := by
        cases len with
        | zero => exact absurd rfl hne
        | succ n => omega
      obtain ⟨b, off, spot⟩ := a
      have hspot : spot = none := by simpa [Addr.add] using World.cell?_spot ((hq 0 hlen0).1)
      subst hspot
      refine ⟨b, off, m, by simp, ?_, fun k hk => ?_⟩
      · have := (hq 0 hlen0).1
        rw [add_plain] at this
        exact World.block_lt_of_cell? _ _ this
      · have hk' : k < len := by simpa using hk
        obtain ⟨c0, c1, c2, c3, _⟩ := hq k hk'
        rw [add_plain] at c0 c1 c2 c3
        have e : ((List.range len).map q)[k] = q k := by simp
        rw [e]
        exact ⟨c0, c1, c2, c3⟩
    · obtain ⟨i, hi, rfl⟩ := List.mem_map.1 hs
      exact (hq i (List.mem_range.1 hi)).2.2.2.2

set_option maxRecDepth 100000 in
theorem lockPlays_lifted (os : Os) (started : os.Started) (H : Type) (enc : TypeId × Value → H) :
    ReturnsInHanded {} Try.checked os 3 .any (Rows.lockPlaysSpec.pre6 enc Try.prog Try.f3 Rows.lockPlaysRow.domain false) (Rows.lockPlaysSpec.post enc Try.prog Try.f3 false true false false) := by
  refine returnsInHanded_of_change (C := Try.checked) Try.own started (by kernel_rfl) Try.func3
    (ChangeSpec.witness6 (enc := enc) (C := Try.checked) false ⟨#[], #[.slice none 0 0], []⟩ 8 (by kernel_rfl) (by kernel_rfl) (by kernel_rfl) (by kernel_rfl)) ?_
  intro W base args ds gs before hval0 hW hcnd _
  have hval : ∀ (j : Nat) t v, Try.f3.params[j]? = some t → args[j]? = some v → Value.okWide Try.prog W .any base t v := hval0
  have hW' := hW
  obtain ⟨p, q, hA0, hV, rfl, _, _⟩ := hW
  have hA : DataW.TrodAll enc Try.prog W 0 (fun _ => true) true Try.f3.params.toList args.toList ds p := hA0
  rw [Try.params3] at hA hval
  obtain ⟨v0, d0, rfl, rfl, h0⟩ := trodAll_one hA
  obtain ⟨rfl, rfl⟩ := trodVars_none hV
  have h0k := h0
  obtain ⟨fuel, hf⟩ := h0
  obtain ⟨a0, len, cap, rfl⟩ := okWide_slice Try.underlying22 (hval 0 22 v0 rfl rfl)
  clear hA0 hval0
  simp only [List.append_nil] at hW'
  have hlt : ∀ x ∈ p, x.block < W.heap.size := fun x hx => by simpa using hW'.lt x hx
  have hargs : ∀ (W' : World), Below W.heap.size W W' → DataW.Trod enc Try.prog W' 0 (fun b => decide (b < W.heap.size)) true 22 (.slice a0 len cap) d0 p :=
    fun W' hn => Below.trod Try.laidOut (by kernel_rfl) (of_decide_eq_true (by kernel_rfl)) h0k hn hlt
  obtain ⟨xs, hs, hwf⟩ := open_script (v := .slice a0 len cap) hf
  refine (plays_c _ xs W hs hwf).mono fun e W' ⟨he, hnx⟩ => ?_
  subst he
  exact ⟨_, rfl, _, _, _, [], _, [], hW', trodAll_mk1 (shut_bool Try.underlying4 true), trodAll_mk1 (hargs _ hnx), rfl, hnx.frame _, fun h => by cases h⟩

theorem lockPlays_holds : Rows.LockPlaysSaid :=
  OpenClaim.holds_of_wide 3 Try.f3 rfl rfl rfl rfl rfl rfl rfl ⟨rfl, rfl, rfl, rfl, rfl⟩ rfl rfl rfl rfl rfl (by kernel_rfl) Try.func3 (by kernel_rfl)
    (of_decide_eq_true (by kernel_rfl)) (by unfold Func.isWrapper; first | (rw [if_pos (by decide +kernel)]; kernel_rfl) | (rw [if_neg (by decide +kernel)]; exact ⟨rfl, rfl⟩))
    (fun os started H enc _ => lockPlays_lifted os started H enc)

#print axioms lockPlays_holds
end Go.Proofs.Ytejpjibhpjgcjaa
