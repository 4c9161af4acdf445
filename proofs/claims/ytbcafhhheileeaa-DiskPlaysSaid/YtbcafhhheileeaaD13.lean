/-
  Part of the proofs of DiskOwns, DiskPlays, SlotPlays: contracts of the device and what they need.
  Conditions: those that each theorem names.
-/
import Derived.Test.YtbcafhhheileeaaD12
namespace Go.Proofs.Ytbcafhhheileeaa
open Go.RowKit
set_option maxRecDepth 100000

theorem Fr.step {B : Nat} {S : Obj → Bool} {a w w' : World} {row : Option Nat} (h : Fr B S a w) (hg : w.grownBy w' row) (hr : ∀ k, row = some k → a.heap.size ≤ k ∨ (B ≤ k ∧ ∀ o, a.heap[k]? = some o → S o = true)) : Fr B S a w' := by
  refine ⟨hg.os.trans h.os, hg.tape.trans h.tape, hg.output.trans h.output, Nat.le_trans h.size hg.size, fun k o hk hs => ?_⟩
  have h1 := h.keep k o hk hs
  refine (hg.block k (lt_of_heap h1) (fun e => ?_)).trans h1
  rcases hr k e.symm with h2 | ⟨h2, h3⟩
  · have := lt_of_heap hk; omega
  · have := h3 o hk
    rcases hs with hs | hs
    · omega
    · rw [hs] at this; cases this

section
variable {P : Program} {w w' : World} {ops : Array Oper} {rest : List Oper} {o : Oper} {a : Act} {Q : Exit → Act → World → Prop}
theorem wpList_clr (hg : o.guard = none) (m : Operand) (t : TypeId) (hop : o.op = Op.call { callee := Callee.builtin Builtin.clear, args := #[m], argTypes := #[t] }) {mv : Value}
    (hm : a.eval m = mv) (hrun : ∀ ty, (Builtin.clear_ #[t] ty #[mv]).run P w = .ok (.tuple #[]) w') (h : wpList P ops Q rest (a.put o.dst (.tuple #[])) w') : wpList P ops Q (o :: rest) a w := by
  refine wpList_plain hg fun K' hK' => ?_
  unfold Oper.wp
  simp [execOp, hop, resolve, invoke, builtin, hm, hrun, Result.andThen]
  exact hK' _ _ h
end

def dsettle (D : Dev) : Dev := { D with synced := D.now, chg := fun _ => false }
def dsync (D : Dev) : Int × Dev :=
  if (dstep D).1 ≠ 0 then dstep D else (0, dsettle { (dstep D).2 with syncs := D.syncs + 1 })
def mix (D : Dev) (kc : List Int) (rest : List (Int × Value)) (k : Int) : List Int := if k ∈ kc ∧ k ∉ rest.map Prod.fst then D.now k else D.synced k

theorem ones_keys (kc : List Int) : (ones kc).map Prod.fst = kc := by
  unfold ones
  rw [List.map_map]
  conv => rhs; rw [← List.map_id kc]
  rfl
theorem mem_del_keys {rest : List (Int × Value)} {k j : Int} : j ∈ (del rest k).map Prod.fst ↔ j ≠ k ∧ j ∈ rest.map Prod.fst := by
  simp only [del, List.mem_map, List.mem_filter]
  constructor
  · rintro ⟨x, ⟨h1, h2⟩, rfl⟩
    exact ⟨by simpa using h2, x, h1, rfl⟩
  · rintro ⟨h1, x, h2, rfl⟩
    exact ⟨x, ⟨h2, by simpa using h1⟩, rfl⟩
theorem mix_start (D : Dev) (kc : List Int) : mix D kc (ones kc) = D.synced := by
  funext k
  unfold mix
  rw [ones_keys, if_neg (fun h => h.2 h.1)]
theorem mix_step {D : Dev} {kc : List Int} {rest : List (Int × Value)} {k : Int} (hk : k ∈ kc) : put (mix D kc rest) k (D.now k) = mix D kc (del rest k) := by
  funext j
  unfold put mix
  by_cases hj : j = k
  · subst hj
    rw [if_pos rfl, if_pos ⟨hk, fun h => (mem_del_keys.1 h).1 rfl⟩]
  · rw [if_neg hj]
    by_cases h : j ∈ kc ∧ j ∉ rest.map Prod.fst
    · rw [if_pos h, if_pos ⟨h.1, fun h2 => h.2 (mem_del_keys.1 h2).2⟩]
    · rw [if_neg h, if_neg (fun h2 => h ⟨h2.1, fun h3 => h2.2 (mem_del_keys.2 ⟨hj, h3⟩)⟩)]
theorem mix_end {D : Dev} {N : Int} (hok : DOk N D) {kc : List Int} (hc : ∀ k, k ∈ kc ↔ D.chg k = true) : mix D kc [] = D.now := by
  funext k
  unfold mix
  by_cases h : k ∈ kc
  · rw [if_pos ⟨h, by simp⟩]
  · rw [if_neg (fun h2 => h h2.1)]
    exact (hok.same k (by cases hx : D.chg k with
      | true => exact absurd ((hc k).2 hx) h
      | false => rfl)).symm

section
variable {B d bn bs bc : Nat} {w w' : World} {kn ks : List (Int × List Int)} {kc : List Int} {lf : Int} {D : Dev}
theorem DAt.lookN (h : DAt B w d bn bs bc kn ks kc lf D) (k : Int) : (Instr.lookup 67 (.map (some bn)) (.int .i64 k) false).run Try.prog w = .ok (secV (D.now k)) w := by
  have r1 := run_lookup_im (P := Try.prog) Try.underlying67 Try.underlying3 (z78 w) h.now k
  have hv : (assoc (sv kn) k).getD (secV zsec) = secV (D.now k) := by
    rw [← h.vnow k, assoc_sv]
    cases assoc kn k <;> rfl
  rw [hv] at r1
  exact r1
theorem DAt.lookS (h : DAt B w d bn bs bc kn ks kc lf D) (k : Int) : (Instr.lookup 67 (.map (some bs)) (.int .i64 k) false).run Try.prog w = .ok (secV (D.synced k)) w := by
  have r1 := run_lookup_im (P := Try.prog) Try.underlying67 Try.underlying3 (z78 w) h.syn k
  have hv : (assoc (sv ks) k).getD (secV zsec) = secV (D.synced k) := by
    rw [← h.vsyn k, assoc_sv]
    cases assoc ks k <;> rfl
  rw [hv] at r1
  exact r1
theorem DAt.drew (h : DAt B w d bn bs bc kn ks kc lf D) : DAt B w.drew d bn bs bc kn ks kc lf D := h.keep (w' := w.drew) fun _ _ h _ => h
/-- a sector of synced is set -/
theorem DAt.putS (h : DAt B w d bn bs bc kn ks kc lf D) (k : Int) (s : List Int) :
    ∃ w5, (Instr.mapUpdate 67 (.map (some bs)) (.int .i64 k) (secV s)).run Try.prog w = .ok () w5 ∧ DAt B w5 d bn bs bc kn (upd ks k s) kc lf { D with synced := put D.synced k s } ∧ w.grownBy w5 (some bs) := by
  obtain ⟨w5, hu, him, hg, _⟩ := run_update_im (P := Try.prog) Try.underlying67 Try.underlying3 h.syn k (secV s)
  refine ⟨w5, hu, ?_, hg⟩
  obtain ⟨n1, n2, n3⟩ := h.ne
  rw [sv_upd] at him
  refine ⟨h.b0, (hg.block d (lt_of_heap h.blk) (fun e => im_ne_blk h.blk h.syn (by injection e))).trans h.blk, h.left, h.bb, h.ne, h.now.grown hg (fun e => n1 (by injection e)), him, h.chg.grown hg (fun e => n3 (by injection e with e; exact e.symm)), h.vnow, fun j => ?_, h.vchg⟩
  rw [assoc_upd]
  show _ = put D.synced k s j
  unfold put
  split
  · rfl
  · exact h.vsyn j
theorem DAt.putN (h : DAt B w d bn bs bc kn ks kc lf D) (k : Int) (s : List Int) :
    ∃ w5, (Instr.mapUpdate 67 (.map (some bn)) (.int .i64 k) (secV s)).run Try.prog w = .ok () w5 ∧ DAt B w5 d bn bs bc (upd kn k s) ks kc lf { D with now := put D.now k s } ∧ w.grownBy w5 (some bn) := by
  obtain ⟨w5, hu, him, hg, _⟩ := run_update_im (P := Try.prog) Try.underlying67 Try.underlying3 h.now k (secV s)
  refine ⟨w5, hu, ?_, hg⟩
  obtain ⟨n1, n2, n3⟩ := h.ne
  rw [sv_upd] at him
  refine ⟨h.b0, (hg.block d (lt_of_heap h.blk) (fun e => im_ne_blk h.blk h.now (by injection e))).trans h.blk, h.left, h.bb, h.ne, him, h.syn.grown hg (fun e => n1 (by injection e with e; exact e.symm)), h.chg.grown hg (fun e => n2 (by injection e with e; exact e.symm)), fun j => ?_, h.vsyn, h.vchg⟩
  rw [assoc_upd]
  show _ = put D.now k s j
  unfold put
  split
  · rfl
  · exact h.vnow j
theorem DAt.iter (h : DAt B w d bn bs bc kn ks kc lf D) {r : Nat} {rest kv : List (Int × Value)} {b : Nat} (hit : IT w r b kv rest) (hg : w.grownBy w' (some r)) : DAt B w' d bn bs bc kn ks kc lf D := by
  refine h.keep fun k o ho ht => (hg.block k (lt_of_heap ho) (fun e => ?_)).trans ho
  injection e with e
  subst e
  obtain ⟨_, es, c, s, sn, c0, _, _, _, hr, _⟩ := hit
  rw [hr] at ho
  cases ho
  cases ht
end

def SRel (B : Nat) (w : World) (d bn bs bc r : Nat) (kn : List (Int × List Int)) (kc : List Int) (lf : Int) (D : Dev) (_ : Value) (wr : World) : Prop :=
  ∃ rest ks', IT wr r bc (ones kc) rest ∧ DAt B wr d bn bs bc kn ks' kc lf { D with synced := mix D kc rest } ∧ (∀ x ∈ rest, x.1 ∈ kc) ∧ Fr B tagD w wr

set_option maxHeartbeats 2000000 in
theorem settle_c (B d : Nat) (D : Dev) (N : Int) (w : World) (hok : DOk N D) (h : DRep B w d D) :
    Calls Try.prog 53 #[.pointer (some ⟨d, 0, none⟩)] w fun e w' => e = .returned (.tuple #[]) ∧ DRep B w' d (dsettle D) ∧ Fr B tagD w w' := by
  obtain ⟨bn, bs, bc, kn, ks, kc, lf, h⟩ := h
  have c8 := h.c8
  obtain ⟨w2, hr2, hit2, hg2, hsz2⟩ := run_range_im (P := Try.prog) Try.underlying68 h.chg
  have hA2 : DAt B w2 d bn bs bc kn ks kc lf { D with synced := mix D kc (ones kc) } := by
    rw [mix_start]
    exact h.keep fun k o ho _ => (hg2.block k (lt_of_heap ho) (by simp)).trans ho
  have hfr2 : Fr B tagD w w2 := (Fr.refl _ _ _).step hg2 (by simp)
  have hrw : Hid (w.heap.size ≤ w.heap.size) := Nat.le_refl _
  have h0 : Hid (SRel B w d bn bs bc w.heap.size kn kc lf D undef w2) := ⟨ones kc, ks, hit2, hA2, fun x hx => by
    have := List.mem_map_of_mem (f := Prod.fst) hx
    rwa [ones_keys] at this, hfr2⟩
  have hvc := Lib.hid h.vchg
  generalize hr : w.heap.size = r at *
  clear h hit2 hA2 hfr2 hg2 hsz2
  go_enter Try.func53, Try.ntmps53
  go_wp2
  go_loopw [2] (SRel B w d bn bs bc r kn kc lf D) (fun _ wr => restCount wr r bc)
  case atStart => exact h0.out
  case round =>
    obtain ⟨rest, ks', hit, hA, hsub, hfr⟩ := hrel
    have hcount := Lib.hid hit.count
    have hAh := Lib.hid hA
    have c6 := hA.c6
    have c7 := hA.c7
    have c8r := hA.c8
    rcases run_next_im (P := Try.prog) hit 0 with ⟨h0, hrun⟩ | ⟨k, v, w3, hkm, hrun, hit3, hg3, hsz3, hen⟩
    · have hrun' : ∀ ty, (Instr.next (.pointer (some ⟨r, 0, none⟩)) false ty).run Try.prog wr = .ok (.tuple #[.bool false]) wr := fun _ => hrun
      subst h0
      have hclr : ∀ ty, ∃ w', (Builtin.clear_ #[68] ty #[.map (some bc)]).run Try.prog wr = .ok (.tuple #[]) w' ∧ IM w' bc [] ∧ wr.grownBy w' (some bc) ∧ w'.heap.size = wr.heap.size := fun ty => run_clear_im Try.underlying68 hA.chg ty
      obtain ⟨w4, hc4, him4, hg4, hsz4⟩ := hclr 0
      have hc4' : ∀ ty, (Builtin.clear_ #[68] ty #[.map (some bc)]).run Try.prog wr = .ok (.tuple #[]) w4 := fun _ => hc4
      have hfr4 : Fr B tagD w w4 := hfr.stepIM (fun _ _ => rfl) hA.chg hA.bb.2.2 hg4
      have hA4 : DAt B w4 d bn bs bc kn ks' [] lf (dsettle D) := by
        obtain ⟨n1, n2, n3⟩ := hA.ne
        refine ⟨hA.b0, (hg4.block d (lt_of_heap hA.blk) (fun e => im_ne_blk hA.blk hA.chg (by injection e))).trans hA.blk, hA.left, hA.bb, hA.ne, hA.now.grown hg4 (fun e => n2 (by injection e)), hA.syn.grown hg4 (fun e => n3 (by injection e)), him4, hA.vnow, fun j => ?_, fun j => by simp [dsettle]⟩
        rw [hA.vsyn j]
        show mix D kc [] j = D.now j
        rw [mix_end hok hvc.out]
      have hA4' := Lib.hid hA4
      clear hA hit hrun hsub hfr hclr hc4 him4 hg4 hsz4 hA4
      go_wp2_with (refine wpList_clr rfl _ _ rfl rfl hc4' ?_)
      refine Go.Great.bodyPost_end0 rfl rfl ?_
      exact ⟨rfl, ⟨_, _, _, _, _, _, _, hA4'.out⟩, hfr4⟩
    · have hrun' : ∀ ty, (Instr.next (.pointer (some ⟨r, 0, none⟩)) false ty).run Try.prog wr = .ok (.tuple #[.bool true, .int .i64 k, v]) w3 := fun _ => hrun
      have hkc : k ∈ kc := hsub _ hkm
      have hA3 := hA.iter hit hg3
      have hfr3 : Fr B tagD w w3 := hfr.step hg3 (fun j hj => by injection hj with hj; subst hj; exact .inl (by omega))
      obtain ⟨w5, hu5, hA5, hg5⟩ := hA3.drew.putS k (D.now k)
      have hfr5 : Fr B tagD w w5 := hfr3.drew.stepIM (w := w3.drew) (fun _ _ => rfl) hA3.drew.syn hA3.bb.2.1 hg5
      have hst : put (mix D kc rest) k (D.now k) = mix D kc (del rest k) := mix_step hkc
      dsimp only at hA5
      rw [hst] at hA5
      have hrne : r ≠ bs := by
        rintro rfl
        obtain ⟨_, es, c, s, sn, c0, _, _, _, hr', _⟩ := hit
        obtain ⟨es2, c2, hb2, _⟩ := hA.syn
        rw [hr'] at hb2; cases hb2
      have hit5 : IT w5 r bc (ones kc) (del rest k) := (hit3.drew).grown hg5 (fun e => hA.ne.2.2 (by injection e with e; exact e.symm)) (fun e => hrne (by injection e))
      have hcnt5 := Lib.hid hit5.count
      have hlt5 : (del rest k).length < rest.length := List.length_filter_lt_length_iff_exists.2 ⟨_, hkm, by simp⟩
      have hd3 : ∀ W, W = w3.drew ∨ W = w5 → W.cell? ⟨d, 7, none⟩ = some (.map (some bs)) := fun W hW => by
        rcases hW with rfl | rfl
        · exact hA3.drew.c7
        · exact hA5.c7
      have hs3 : ∀ W, W = w3.drew ∨ W = w5 → W.cell? ⟨d, 6, none⟩ = some (.map (some bn)) := fun W hW => by
        rcases hW with rfl | rfl
        · exact hA3.drew.c6
        · exact hA5.c6
      have hl3 : ∀ W, W = w3.drew ∨ W = w5 → (Instr.lookup 67 (.map (some bn)) (.int .i64 k) false).run Try.prog W = .ok (secV (D.now k)) W := fun W hW => by
        rcases hW with rfl | rfl
        · exact hA3.drew.lookN k
        · exact hA5.lookN k
      have hd3 := Lib.hid hd3
      have hs3 := Lib.hid hs3
      have hl3 := Lib.hid hl3
      have hu5 := Lib.hid hu5
      have hend : Hid (SRel B w d bn bs bc r kn kc lf D (.int .i64 k) w5) := ⟨_, _, hit5, hA5, fun x hx => hsub x (List.mem_filter.1 hx).1, hfr5⟩
      clear hA hit hrun hfr hit3 hg3 hsz3 hA3 hfr3 hA5 hg5 hfr5 hst hrne hit5 hkm hsub c6 c7 c8r
      go_wp2
      refine regionS3 d bs bn k (secV (D.now k)) rfl rfl rfl hd3.out hs3.out hl3.out hu5.out ?_
      intro u
      simp only [putAll, putOne, opsS3, List.foldl, Act.put]
      go_frame
      go_roundw
      case rel => (repeat apply Exists.intro); exact ⟨hend.out, rfl⟩
      case measure => rw [hcnt5.out, hcount.out]; exact hlt5
end Go.Proofs.Ytbcafhhheileeaa
