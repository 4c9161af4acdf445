/-
  Whom a transaction waits for: the program's Waits.
  Conditions: those that each theorem names.
-/
import Derived.Test.YtejpjibhpjgcjaaT2
import Derived.Test.YtejpjibhpjgcjaaM3
namespace Go.Proofs.Ytejpjibhpjgcjaa
open Go.RowKit Go.Sort

theorem forW_some {m : Tab} (v : Valid m) {txn p md : Int} (h : (⟨txn, p, md⟩ : Lk) ∈ m.waits) : forW m txn = against m.locks ⟨txn, p, md⟩ := by
  have : m.waits.find? (fun l => l.txn == txn) = some ⟨txn, p, md⟩ := by
    have hn := v.wnodup
    generalize m.waits = W at *
    induction W with
    | nil => simp at h
    | cons l L ih =>
      obtain ⟨h1, h2⟩ := List.pairwise_cons.1 hn
      rw [List.find?_cons]
      rcases List.mem_cons.1 h with rfl | h
      · simp
      · have : (l.txn == txn) = false := by
          have := h1 _ h
          simpa using this
        rw [this]; exact ih h h2
  simp only [forW, this]
theorem forW_none {m : Tab} {txn : Int} (h : ∀ p md, (⟨txn, p, md⟩ : Lk) ∉ m.waits) : forW m txn = [] := by
  have : m.waits.find? (fun l => l.txn == txn) = none := by
    rw [List.find?_eq_none]
    rintro ⟨a, b, c⟩ hl
    simp only [beq_iff_eq]
    rintro rfl
    exact h b c hl
  simp only [forW, this]

set_option maxHeartbeats 2000000 in
theorem waits_c (B t : Nat) (m : Tab) (w : World) (vd : Valid m) (h : TRep B w t m) (txn : Int) :
    Calls Try.prog 17 #[.pointer (some ⟨t, 0, none⟩), .int .i64 txn] w fun e w' => ∃ v, e = .returned v ∧ RdI w' v (forW m txn) ∧ Below w.heap.size w w' := by
  have hrep := h
  obtain ⟨bp, bw, pg, wt, h⟩ := h
  have hc : w.cell? ⟨t, 1, none⟩ = some (.map (some bw)) := by rw [cell_blk h.blk]; rfl
  have r1 := run_lookup_im_ok Try.underlying46 Try.underlying3 (z55 w) h.waits txn
  have hwv : assoc (wv wt) txn = (assoc wt txn).map (fun x => Value.agg #[.int .i64 x.1, .int .i64 x.2]) := assoc_map (fun x : Int × Int => Value.agg #[.int .i64 x.1, .int .i64 x.2]) wt txn
  rw [hwv] at r1
  cases ha : assoc wt txn with
  | none =>
    have hfin := forW_none (m := m) (txn := txn) (fun p md hm => assoc_none ha _ ((h.wait _ _ _).2 hm))
    have hfin' := Lib.hid hfin
    rw [ha] at r1
    simp only [Option.map_none, Option.getD_none, Option.isSome_none] at r1
    clear h hrep hwv ha hfin
    go_enter Try.func17, Try.ntmps17
    go_wp2
    go_ret
    rw [hfin'.out]
    exact ⟨_, rfl, RdV.nil _ _, (Below.refl _ w).alloc (Nat.le_refl _) _⟩
  | some x =>
    obtain ⟨p, md⟩ := x
    have hfin := forW_some vd ((h.wait _ _ _).1 (assoc_mem ha))
    have hfin' := Lib.hid hfin
    rw [ha] at r1
    simp only [Option.map_some, Option.getD_some, Option.isSome_some] at r1
    have HA := Lib.hid (fun W (hr : TRep B W t m) => against_c B t m W vd hr txn p md)
    clear h hwv ha hfin
    go_enter Try.func17, Try.ntmps17
    go_wp2_with (go_at_call 21; refine (HA.out _ (hrep.below ((Below.refl _ _).alloc (Nat.le_refl _) _))).mono ?_; rintro e w2 ⟨v2, rfl, hrd2, hbel2⟩)
    go_ret
    rw [hfin'.out]
    exact ⟨_, rfl, hrd2, ((Below.refl _ w).alloc (Nat.le_refl _) _).trans (hbel2.mono (by simp))⟩
end Go.Proofs.Ytejpjibhpjgcjaa
