/-
  The program's Take of a new lock.
  Conditions: those that each theorem names.
-/
import Derived.Test.YtejpjibhpjgcjaaT11
namespace Go.Proofs.Ytejpjibhpjgcjaa
open Go.RowKit Go.Sort
set_option maxRecDepth 100000

/-- the last steps, from the world w2 where the page has a map -/
theorem put_facts {B t bp bw b : Nat} {pg : Pages} {wt : List (Int × Int × Int)} {m : Tab} {l : List (Int × Int)} {txn page md : Int} {w w2 : World} (hT2 : TAt B w2 t bp bw pg wt m) (hk : (page, b, l) ∈ pg) (hF : Fr B tagT w w2)
    (hput : IsPut m.locks (m.locks ++ [⟨txn, page, md⟩]) ⟨txn, page, md⟩) :
    ∃ w5, (Instr.mapUpdate 49 (.map (some b)) (.int .i64 txn) (.int .i64 md)).run Try.prog (w2.setCell ⟨t, 2, none⟩ (.int .i64 ((m.locks.length : Int) + 1))).drew = .ok () w5 ∧
      (Instr.lookup 45 (.map (some bp)) (.int .i64 page) false).run Try.prog (w2.setCell ⟨t, 2, none⟩ (.int .i64 ((m.locks.length : Int) + 1))).drew = .ok (.map (some b)) (w2.setCell ⟨t, 2, none⟩ (.int .i64 ((m.locks.length : Int) + 1))).drew ∧
      (w2.setCell ⟨t, 2, none⟩ (.int .i64 ((m.locks.length : Int) + 1))).drew.cell? ⟨t, 0, none⟩ = some (.map (some bp)) ∧
      Fr B tagT w w5 ∧ TRep B w5 t ⟨m.locks ++ [⟨txn, page, md⟩], m.waits⟩ := by
  generalize hw4 : w2.setCell ⟨t, 2, none⟩ (.int .i64 ((m.locks.length : Int) + 1)) = w4
  have hblk4 : w4.heap[t]? = some (.cells #[.map (some bp), .map (some bw), .int .i64 (m.locks ++ [⟨txn, page, md⟩] : List Lk).length] 48 (0, 0)) := by
    rw [← hw4, heap_set_same (i := 2) hT2.blk]
    simp
  have hkeep4 : ∀ b' kv, IM w2 b' kv → IM w4 b' kv := fun b' kv hb => by
    rw [← hw4]
    exact hb.keep (Below.heap_setCell _ _ _ _ (fun e => im_ne_blk hT2.blk hb e.symm))
  obtain ⟨a1, a2, a3, a4⟩ := hT2.inner _ hk
  dsimp only at a1 a2 a3 a4
  have a4' := hkeep4 _ _ a4
  obtain ⟨w5, hu5, him5, hg5, _⟩ := run_update_im (P := Try.prog) Try.underlying49 Try.underlying3 (w := w4.drew) a4' txn (.int .i64 md)
  rw [hv_upd] at him5
  have r22 := run_lookup_im (P := Try.prog) Try.underlying45 Try.underlying3 (z49 w4.drew) (w := w4.drew) (hkeep4 _ _ hT2.pages) page
  have ha : assoc (pv pg) page = some (.map (some b)) := assoc_of_mem hT2.pages.nodup (List.mem_map.2 ⟨_, hk, rfl⟩)
  rw [ha] at r22
  have hF4 : Fr B tagT w w4 := by
    rw [← hw4]
    exact hF.setCell (p := ⟨t, 2, none⟩) (.inr ⟨hT2.b0, fun o ho => by
        cases hso : tagT o with
        | true => rfl
        | false =>
          have h1 := hF.keep t o ho (.inr hso)
          rw [hT2.blk] at h1; cases h1
          cases hso⟩) _
  refine ⟨w5, hu5, r22, by rw [cell_blk (w := w4.drew) hblk4]; rfl, hF4.drew.stepIM (w := w4.drew) a4' a1 hg5, bp, bw, _, wt, TAt.put hT2 hk ((hg5.block t (lt_of_heap hblk4) (fun e => im_ne_blk (w := w4) hblk4 a4' (by injection e))).trans hblk4) (fun b' kv hb h => (hkeep4 _ _ h).grown (w := w4.drew) hg5 (fun e => hb (by injection e))) him5 hput⟩
/-! walks -/
set_option maxHeartbeats 4000000 in
theorem take_present (B t : Nat) (m : Tab) (w : World) (vd : Valid m) (txn page mode : Int) (hm1 : 1 ≤ mode) (hm2 : mode ≤ 3)
    (ho : against m.locks ⟨txn, page, mode⟩ = []) (hz : holds m.locks txn page = 0) (hfull : m.locks.length < 256) (bp bw : Nat) (pg : Pages) (wt : List (Int × Int × Int)) (w1 : World) (hc1 : w.cell? ⟨t, 1, none⟩ = some (.map (some bw))) (hd1 : ∀ ty, (Builtin.delete_ #[46, 3] ty #[.map (some bw), .int .i64 txn]).run Try.prog w = .ok (.tuple #[]) w1) (hT : TAt B w1 t bp bw pg wt ⟨m.locks, forget m.waits txn⟩) (hfr : Fr B tagT w w1)
    (hpr : assoc (pv pg) page ≠ none) :
    Calls Try.prog 9 #[.pointer (some ⟨t, 0, none⟩), .int .i64 txn, .int .i64 page, .int .i64 mode] w fun e w' => e = .returned .nilIface ∧ Fr B tagT w w' ∧ TRep B w' t ⟨m.locks ++ [⟨txn, page, mode⟩], forget m.waits txn⟩ := by
  have vd1 := valid_forget vd txn
  obtain ⟨mv, r1, r2, hor⟩ := has_run hT vd1 txn page
  rcases hor with ⟨_, h0, _⟩ | ⟨b, l, rfl, hk, ha, hi, hln, hl⟩
  · exact absurd h0 hpr
  have hk' := Lib.hid hk
  have ha' := Lib.hid ha
  have hput := Lib.hid (isPut_new (md := mode) vd hz)
  clear hk ha hi hln hl hpr
  have hc0 : w1.cell? ⟨t, 0, none⟩ = some (.map (some bp)) := by rw [cell_blk hT.blk]; rfl
  have HJ := Lib.hid (fun W => join_c 0 mode W)
  have hj : join 0 mode = mode := by simp [join]
  dsimp only at r2
  rw [hj] at HJ
  have hTA := hT.below ((Below.refl w1.heap.size w1).alloc (Nat.le_refl _) (.cells #[.int .i64 page, .int .i64 mode] 55))
  have hrepA : Hid (TRep B (w1.alloc (.cells #[.int .i64 page, .int .i64 mode] 55)) t ⟨m.locks, forget m.waits txn⟩) := ⟨_, _, _, _, hTA⟩
  have HA := Lib.hid (fun W (hr : TRep B W t ⟨m.locks, forget m.waits txn⟩) => against_c B t _ W vd1 hr txn page mode)
  dsimp only at HA
  rw [ho] at HA
  rw [hz] at r2
  have hne' : (mode == 0) = false := by simp; omega
  have hTA' := Lib.hid hTA
  have hs1 := hfr.size
  have hsz := vd.size
  clear hj hT ho hTA
  go_enter Try.func9, Try.ntmps9
  go_wp2_with (first
    | (at_delete; refine wpList_del rfl _ _ _ _ rfl rfl rfl hd1 ?_)
    | (go_at_call 20; refine (HJ.out _).mono ?_; rintro e w2 ⟨rfl, rfl⟩)
    | (go_at_call 21; go_loud (refine (HA.out _ hrepA.out).mono ?_; rintro e w2 ⟨v2, rfl, hrd2, hbel2⟩; obtain ⟨A2, c2, rfl⟩ := rd_empty hrd2; clear hrd2; have hT2 := Lib.hid (hTA'.out.below hbel2); have hF2 := Lib.hid ((hfr.alloc _).trans (Fr.of_below hbel2)); have hw2 := Lib.hid ((hbel2.block _ (by simp)).trans (MapKept.heap_alloc w1 (.cells #[.int .i64 page, .int .i64 mode] 55)).1); have hc22 : w2.cell? ⟨t, 2, none⟩ = some (.int .i64 m.locks.length) := (by rw [cell_blk hT2.out.blk]; rfl); have r18 := run_lookup_im (P := Try.prog) Try.underlying45 Try.underlying3 (z49 w2) hT2.out.pages page; rw [ha'.out] at r18; simp only [Option.getD_some] at r18; have hc2 : w2.cell? ⟨t, 0, none⟩ = some (.map (some bp)) := by rw [cell_blk hT2.out.blk]; rfl)))
  obtain ⟨w5, hu5, r22, hd1', hF5, hT5⟩ := put_facts hT2.out hk'.out hF2.out hput.out
  have hF5' := Lib.hid hF5
  have hT5' := Lib.hid hT5
  have hcf : w2.frozen? ⟨t, 2, none⟩ = false := by simp [World.frozen?, hT2.out.blk]
  have hne1 : w1.heap.size ≠ t := by rintro rfl; have h1 := hT2.out.blk; rw [hw2.out] at h1; cases h1
  have hd3' : (w2.setCell ⟨t, 2, none⟩ (.int .i64 ((m.locks.length : Int) + 1))).drew.cell? ⟨w1.heap.size, 1, none⟩ = some (.int .i64 mode) := by
    rw [cell_blk (w := (w2.setCell ⟨t, 2, none⟩ (.int .i64 ((m.locks.length : Int) + 1))).drew) ((Below.heap_setCell w2 _ _ _ (fun e => hne1 e)).trans hw2.out)]
    rfl
  clear hF5 hT5 hne1
  simp only [show (binOp .eql 49 (.map (some b)) (.map none)).run Try.prog w2 = .ok (.bool false) w2 from by kernel_rfl]
  go_wp2
  go_region
  go_wp2
  go_ret
  exact ⟨rfl, hF5'.out, hT5'.out⟩
set_option maxHeartbeats 4000000 in
theorem take_absent (B t : Nat) (m : Tab) (w : World) (vd : Valid m) (txn page mode : Int) (hm1 : 1 ≤ mode) (hm2 : mode ≤ 3)
    (ho : against m.locks ⟨txn, page, mode⟩ = []) (hz : holds m.locks txn page = 0) (hfull : m.locks.length < 256) (hB : B ≤ w.heap.size) (bp bw : Nat) (pg : Pages) (wt : List (Int × Int × Int)) (w1 : World) (hc1 : w.cell? ⟨t, 1, none⟩ = some (.map (some bw))) (hd1 : ∀ ty, (Builtin.delete_ #[46, 3] ty #[.map (some bw), .int .i64 txn]).run Try.prog w = .ok (.tuple #[]) w1) (hT : TAt B w1 t bp bw pg wt ⟨m.locks, forget m.waits txn⟩) (hfr : Fr B tagT w w1)
    (hpr : assoc (pv pg) page = none) :
    Calls Try.prog 9 #[.pointer (some ⟨t, 0, none⟩), .int .i64 txn, .int .i64 page, .int .i64 mode] w fun e w' => e = .returned .nilIface ∧ Fr B tagT w w' ∧ TRep B w' t ⟨m.locks ++ [⟨txn, page, mode⟩], forget m.waits txn⟩ := by
  have vd1 := valid_forget vd txn
  obtain ⟨mv, r1, r2, hor⟩ := has_run hT vd1 txn page
  have hmm := @run_makeMap Try.prog
  rcases hor with ⟨rfl, ha, hno⟩ | ⟨b, l, rfl, hk, ha, hi, hln, hl⟩
  rotate_left
  · rw [hpr] at ha
    cases ha
  have ha' := Lib.hid ha
  have hput := Lib.hid (isPut_new (md := mode) vd hz)
  clear ha hno hpr
  have hc0 : w1.cell? ⟨t, 0, none⟩ = some (.map (some bp)) := by rw [cell_blk hT.blk]; rfl
  have HJ := Lib.hid (fun W => join_c 0 mode W)
  have hj : join 0 mode = mode := by simp [join]
  dsimp only at r2
  rw [hj] at HJ
  have hTA := hT.below ((Below.refl w1.heap.size w1).alloc (Nat.le_refl _) (.cells #[.int .i64 page, .int .i64 mode] 55))
  have hrepA : Hid (TRep B (w1.alloc (.cells #[.int .i64 page, .int .i64 mode] 55)) t ⟨m.locks, forget m.waits txn⟩) := ⟨_, _, _, _, hTA⟩
  have HA := Lib.hid (fun W (hr : TRep B W t ⟨m.locks, forget m.waits txn⟩) => against_c B t _ W vd1 hr txn page mode)
  dsimp only at HA
  rw [ho] at HA
  rw [hz] at r2
  have hne' : (mode == 0) = false := by simp; omega
  have hTA' := Lib.hid hTA
  have hs1 := hfr.size
  have hsz := vd.size
  clear hj hT ho hTA
  go_enter Try.func9, Try.ntmps9
  go_wp2_with (first
    | (at_delete; refine wpList_del rfl _ _ _ _ rfl rfl rfl hd1 ?_)
    | (go_at_call 20; refine (HJ.out _).mono ?_; rintro e w2 ⟨rfl, rfl⟩)
    | (go_at_call 21; go_loud (refine (HA.out _ hrepA.out).mono ?_; rintro e w2 ⟨v2, rfl, hrd2, hbel2⟩; obtain ⟨A2, c2, rfl⟩ := rd_empty hrd2; clear hrd2; have hT2 := Lib.hid (hTA'.out.below hbel2); have hF2 := Lib.hid ((hfr.alloc _).trans (Fr.of_below hbel2)); have hw2 := Lib.hid ((hbel2.block _ (by simp)).trans (MapKept.heap_alloc w1 (.cells #[.int .i64 page, .int .i64 mode] 55)).1); have hc22 : w2.cell? ⟨t, 2, none⟩ = some (.int .i64 m.locks.length) := (by rw [cell_blk hT2.out.blk]; rfl); have r18 := run_lookup_im (P := Try.prog) Try.underlying45 Try.underlying3 (z49 w2) hT2.out.pages page; rw [ha'.out] at r18; simp only [Option.getD_none] at r18; have hc2 : w2.cell? ⟨t, 0, none⟩ = some (.map (some bp)) := by rw [cell_blk hT2.out.blk]; rfl)))
  have hc2 : w2.cell? ⟨t, 0, none⟩ = some (.map (some bp)) := by rw [cell_blk hT2.out.blk]; rfl
  have hB2 : B ≤ w2.heap.size := Nat.le_trans hB hF2.out.size
  have hTa := hT2.out.below ((Below.refl w2.heap.size w2).alloc (Nat.le_refl _) (.map #[] 0))
  have hca : (w2.alloc (.map #[] 0)).cell? ⟨t, 0, none⟩ = some (.map (some bp)) := by rw [cell_blk hTa.blk]; rfl
  obtain ⟨w3, hu3, him3, hg3, hs3⟩ := run_update_im (P := Try.prog) Try.underlying45 Try.underlying3 hTa.pages page (.map (some w2.heap.size))
  have hT3 := hT2.out.newpage hB2 ha'.out hg3 him3
  have hF3 := (hF2.out.alloc (.map #[] 0)).stepIM hTa.pages hTa.b1 hg3
  have hw3 : w3.heap[w1.heap.size]? = some (.cells #[.int .i64 page, .int .i64 mode] 55 (0, 0)) := by
    have h1 := (MapKept.heap_alloc w2 (.map #[] 0)).2 w1.heap.size (lt_of_heap hw2.out)
    have h2 := h1.trans hw2.out
    exact (hg3.block w1.heap.size (lt_of_heap h2) (fun e => im_ne_blk h2 hTa.pages (by injection e))).trans h2
  have hT3' := Lib.hid hT3
  have hc32 : w3.cell? ⟨t, 2, none⟩ = some (.int .i64 m.locks.length) := by rw [cell_blk hT3.blk]; rfl
  obtain ⟨w5, hu5, r22, hd1', hF5, hT5⟩ := put_facts hT3 (List.mem_append.2 (.inr (List.mem_singleton.2 rfl))) hF3 hput.out
  have hF5' := Lib.hid hF5
  have hT5' := Lib.hid hT5
  have hcf : w3.frozen? ⟨t, 2, none⟩ = false := by simp [World.frozen?, hT3.blk]
  have hne1 : w1.heap.size ≠ t := by rintro rfl; have h1 := hT3.blk; rw [hw3] at h1; cases h1
  have hd3' : (w3.setCell ⟨t, 2, none⟩ (.int .i64 ((m.locks.length : Int) + 1))).drew.cell? ⟨w1.heap.size, 1, none⟩ = some (.int .i64 mode) := by
    rw [cell_blk (w := (w3.setCell ⟨t, 2, none⟩ (.int .i64 ((m.locks.length : Int) + 1))).drew) ((Below.heap_setCell w3 _ _ _ (fun e => hne1 e)).trans hw3)]
    rfl
  clear hF5 hT5 hne1 hT3 hF3 hg3 him3 hTa hw3
  simp only [show (binOp .eql 49 (.map none) (.map none)).run Try.prog w2 = .ok (.bool true) w2 from by kernel_rfl]
  go_wp2
  go_region
  go_wp2
  go_ret
  exact ⟨rfl, hF5'.out, hT5'.out⟩
end Go.Proofs.Ytejpjibhpjgcjaa
