/-
  Proved here: DiskPlays ('Rows.DiskPlaysSaid'): whatever size and script come in, DiskPlays returns true and the script reads as it did. No conditions beyond the statement's own.
-/
import Derived.Test.YtbcafhhheileeaaRows
import Derived.Test.YtbcafhhheileeaaE20
import Derived.ProofKit
import Derived.OpenShut
import Derived.Carry
import Derived.Deep.Slices
namespace Go.Proofs.Ytbcafhhheileeaa
open Go.ChangeShapes Go.WideShapes Go.ChangeAt Go.RowKit Go.Deep

theorem Try.own : ownKnob Try.prog.godebug = none := by kernel_rfl
theorem Try.laidOut : laidOutB Try.prog = true := by kernel_rfl
theorem Try.cells45 : Try.prog.cellsOf 45 = 5 := by kernel_rfl
theorem Try.cells3 : Try.prog.cellsOf 3 = 1 := by kernel_rfl
theorem Try.cells5 : Try.prog.cellsOf 5 = 1 := by kernel_rfl
theorem Try.cells28 : Try.prog.cellsOf 28 = 1 := by kernel_rfl
theorem Try.cells43 : Try.prog.cellsOf 43 = 1 := by kernel_rfl
instance : Inhabited OpS := ⟨⟨0, 0, 0, .nilIface, [], .nilIface, []⟩⟩

/-- a slice of small numbers that came in -/
theorem open_nums {H : Type} {enc : TypeId × Value → H} {W : World} {fuel : Nat} {v : Value} {x : DataW H × List MemPlace} {t e : TypeId} {kd : IntKind} (ht : Try.prog.underlying t = some (.slice e)) (he : Try.prog.underlying e = some (.int kd)) (hc : Try.prog.cellsOf e = 1)
    (h : DataW.trod enc Try.prog W 0 (fun _ => true) true fuel t [v] = some x) :
    ∃ xs : List Int, RdV W 1 v xs.length (xs.map (Value.int kd)) ∧ xs.length ≤ 9223372036854775807 := by
  rcases open_slice ht h with ⟨hcs, hx⟩ | ⟨a, len, cap, m, n, D, Pl, hcs, hb, hl, hm, hmm, hx, hel⟩
  · injection hcs with hcs
    subst hcs
    exact ⟨[], RdV.nil _ _, by simp⟩
  · injection hcs with hcs
    subst hcs
    simp only [if_true] at hmm
    subst hmm
    have each : ∀ i, i < len → ∃ s : Int, W.cell? (a.add i) = some (.int kd s) := by
      intro i hi
      obtain ⟨cs', h1, h2⟩ := hel i (by omega)
      rw [hc] at h1
      obtain ⟨_, hlen, hcell⟩ := World.cells?_some h1
      obtain ⟨s, rfl, _, _⟩ := DataW.trod_int he h2
      have c0 := hcell 0 (by omega)
      rw [add_add] at c0
      exact ⟨s, by simpa using c0⟩
    obtain ⟨q, hq⟩ := choose_lt each
    have hlm : len ≤ 9223372036854775807 := by simp only [maxLen] at hm; omega
    refine ⟨(List.range len).map q, ?_, by simpa using hlm⟩
    by_cases h0 : len = 0
    · subst h0
      exact ⟨by simp, some a, m, by simp, by simp, .inl (by simp)⟩
    · obtain ⟨b, off, spot⟩ := a
      have hspot : spot = none := by simpa [Addr.add] using World.cell?_spot (hq 0 (by omega))
      subst hspot
      refine ⟨by simp, some ⟨b, off, none⟩, m, by simp, by simpa using hl, .inr ⟨b, off, rfl, ?_, fun j u hj => ?_⟩⟩
      · have := hq 0 (by omega)
        rw [add_plain] at this
        exact World.block_lt_of_cell? _ _ this
      · have hjl : j < len := by
          have := (List.getElem?_eq_some_iff.1 hj).1
          simpa using this
        have := hq j hjl
        rw [add_plain] at this
        rw [this]
        simpa [hjl] using hj
set_option maxRecDepth 100000 in
/-- a slice of calls that came in, as a script -/
theorem open_script {H : Type} {enc : TypeId × Value → H} {W : World} {fuel : Nat} {v : Value} {x : DataW H × List MemPlace} (h : DataW.trod enc Try.prog W 0 (fun _ => true) true fuel 37 [v] = some x) :
    ∃ xs : List OpS, ScrD W v xs := by
  rcases open_slice Try.underlying37 h with ⟨hcs, hx⟩ | ⟨a, len, cap, m, n, D, Pl, hcs, hb, hl, hm, hmm, hx, hel⟩
  · injection hcs with hcs
    subst hcs
    exact ⟨[], ⟨none, 0, rfl⟩, fun k hk => by simp at hk, by simp⟩
  · injection hcs with hcs
    subst hcs
    simp only [if_true] at hmm
    subst hmm
    have each : ∀ i, i < len → ∃ s : OpS, W.cell? (a.add (i * 5)) = some (.int .i64 s.kind) ∧ W.cell? (a.add (i * 5 + 1)) = some (.int .i64 s.at_) ∧ W.cell? (a.add (i * 5 + 2)) = some (.int .i64 s.n) ∧ W.cell? (a.add (i * 5 + 3)) = some s.bv ∧ W.cell? (a.add (i * 5 + 4)) = some s.kv ∧
        (RdB W s.bv s.bytes ∧ RdI W s.kv s.keep ∧ s.bytes.length ≤ 9223372036854775807 ∧ s.keep.length ≤ 9223372036854775807 ∧ s.n ≤ 9223372036854775807) := by
      intro i hi
      obtain ⟨cs', h1, h2⟩ := hel i (by omega)
      rw [Try.cells45] at h1
      obtain ⟨_, hlen, hcell⟩ := World.cells?_some h1
      obtain ⟨xs, k, hk, hxy, _, hxl, hf⟩ := DataW.trod_struct Try.underlying45 h2
      match xs, hxl, cs', hlen with
      | [y0, y1, y2, y3, y4], _, [v0, v1, v2, v3, v4], _ =>
        have g0 := hf 0 _ rfl
        have g1 := hf 1 _ rfl
        have g2 := hf 2 _ rfl
        have g3 := hf 3 _ rfl
        have g4 := hf 4 _ rfl
        simp [Try.cells3] at g0 g1 g2
        simp [Try.cells28] at g3
        simp [Try.cells43] at g4
        obtain ⟨n0, e0, _, _⟩ := DataW.trod_int Try.underlying3 g0
        obtain ⟨n1, e1, _, _⟩ := DataW.trod_int Try.underlying3 g1
        obtain ⟨n2, e2, _, w2⟩ := DataW.trod_int Try.underlying3 g2
        simp at e0 e1 e2
        subst e0 e1 e2
        obtain ⟨bs, hbs, hbl⟩ := open_nums Try.underlying28 Try.underlying5 Try.cells5 g3
        obtain ⟨ks, hks, hkl⟩ := open_nums Try.underlying43 Try.underlying3 Try.cells3 g4
        have c0 := hcell 0 (by omega)
        have c1 := hcell 1 (by omega)
        have c2 := hcell 2 (by omega)
        have c3 := hcell 3 (by omega)
        have c4 := hcell 4 (by omega)
        rw [add_add] at c0 c1 c2 c3 c4
        refine ⟨⟨n0, n1, n2, v3, bs, v4, ks⟩, by simpa using c0, by simpa using c1, by simpa using c2, by simpa using c3, by simpa using c4, hbs, hks, hbl, hkl, ?_⟩
        simp [Lit.wf] at w2
        exact w2.2
    obtain ⟨q, hq⟩ := choose_lt each
    refine ⟨(List.range len).map q, ⟨some a, m, by simp⟩, fun k hk => ?_, fun s hs => ?_⟩
    · have hk' : k < len := by simpa using hk
      obtain ⟨c0, c1, c2, c3, c4, _⟩ := hq k hk'
      obtain ⟨b, off, spot⟩ := a
      have hspot : spot = none := by simpa [Addr.add] using World.cell?_spot ((hq 0 (by omega)).1)
      subst hspot
      rw [add_plain] at c0 c1 c2 c3 c4
      have e : ((List.range len).map q)[k] = q k := by simp
      rw [e]
      exact ⟨b, off, m, by simp, c0, c1, c2, c3, c4⟩
    · obtain ⟨i, hi, rfl⟩ := List.mem_map.1 hs
      exact (hq i (List.mem_range.1 hi)).2.2.2.2.2

set_option maxRecDepth 100000 in
theorem diskPlays_lifted (os : Os) (started : os.Started) (H : Type) (enc : TypeId × Value → H) :
    ReturnsInHanded {} Try.checked os 4 .any (Rows.diskPlaysSpec.pre6 enc Try.prog Try.f4 Rows.diskPlaysRow.domain false) (Rows.diskPlaysSpec.post enc Try.prog Try.f4 false true false false) := by
  refine returnsInHanded_of_change (C := Try.checked) Try.own started (by kernel_rfl) Try.func4
    (ChangeSpec.witness6 (enc := enc) (C := Try.checked) false ⟨#[], #[.int .i64 0, .slice none 0 0], []⟩ 8 (by kernel_rfl) (by kernel_rfl) (by kernel_rfl) (by kernel_rfl)) ?_
  intro W base args ds gs before hval0 hW hcnd _
  have hval : ∀ (j : Nat) t v, Try.f4.params[j]? = some t → args[j]? = some v → Value.okWide Try.prog W .any base t v := hval0
  have hW' := hW
  obtain ⟨p, q, hA0, hV, rfl, _, _⟩ := hW
  have hA : DataW.TrodAll enc Try.prog W 0 (fun _ => true) true Try.f4.params.toList args.toList ds p := hA0
  rw [Try.params4] at hA hval
  obtain ⟨v0, vs0, d0, ds0, p0, q0, hargs, rfl, rfl, h0, r0⟩ := trodAll_cons hA
  obtain ⟨v1, vs1, d1, ds1, p1, q1, hargs1, rfl, rfl, h1, r1⟩ := trodAll_cons r0
  obtain ⟨rfl, rfl, rfl⟩ := trodAll_nil r1
  obtain rfl : args = #[v0, v1] := by cases args; simp_all
  obtain ⟨rfl, rfl⟩ := trodVars_none hV
  obtain ⟨a0, rfl, rfl, rfl, w0⟩ := open_int Try.underlying3 (hval 0 3 v0 rfl rfl) h0
  have h1k := h1
  obtain ⟨fuel, hf⟩ := h1
  obtain ⟨aa, len, cap, rfl⟩ := okWide_slice Try.underlying37 (hval 1 37 v1 rfl rfl)
  clear hA0 hval0
  simp only [List.append_nil, List.nil_append] at hW' ⊢
  have hlt : ∀ x ∈ p1, x.block < W.heap.size := fun x hx => by simpa using hW'.lt x (by simpa using hx)
  have hargs2 : ∀ (W' : World), Below W.heap.size W W' → DataW.Trod enc Try.prog W' 0 (fun b => decide (b < W.heap.size)) true 37 (.slice aa len cap) d1 p1 :=
    fun W' hn => Below.trod Try.laidOut (by kernel_rfl) (of_decide_eq_true (by kernel_rfl)) h1k hn hlt
  obtain ⟨xs, hs⟩ := open_script (v := .slice aa len cap) hf
  refine (plays_c a0 _ xs W hs).mono fun e W' ⟨he, hnx⟩ => ?_
  subst he
  exact ⟨_, rfl, _, _, _, [], _, [], hW', trodAll_mk1 (shut_bool Try.underlying4 true), trodAll_cons_mk (shut_int Try.underlying3 w0) (trodAll_mk1 (hargs2 _ hnx)), rfl, hnx.frame _, fun h => by cases h⟩

theorem diskPlays_holds : Rows.DiskPlaysSaid :=
  OpenClaim.holds_of_wide 4 Try.f4 rfl rfl rfl rfl rfl rfl rfl ⟨rfl, rfl, rfl, rfl, rfl⟩ rfl rfl rfl rfl rfl (by kernel_rfl) Try.func4 (by kernel_rfl)
    (of_decide_eq_true (by kernel_rfl)) (by unfold Func.isWrapper; first | (rw [if_pos (by decide +kernel)]; kernel_rfl) | (rw [if_neg (by decide +kernel)]; exact ⟨rfl, rfl⟩))
    (fun os started H enc _ => diskPlays_lifted os started H enc)

#print axioms diskPlays_holds
end Go.Proofs.Ytbcafhhheileeaa
