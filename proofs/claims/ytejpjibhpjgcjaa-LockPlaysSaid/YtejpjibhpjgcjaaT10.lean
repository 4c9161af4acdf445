/-
  The program's Take where a held lock grows.
  Conditions: those that each theorem names.
-/
import Derived.Test.YtejpjibhpjgcjaaT9
namespace Go.Proofs.Ytejpjibhpjgcjaa
open Go.RowKit Go.Sort
set_option maxRecDepth 100000

theorem rd_empty {w : World} {v : Value} (h : RdI w v []) : ∃ A c, v = .slice A 0 c := RdI.empty h

set_option maxHeartbeats 4000000 in
theorem take_set (B t : Nat) (m : Tab) (w : World) (vd : Valid m) (h : TRep B w t m) (txn page mode md : Int) (hm1 : 1 ≤ mode) (hm2 : mode ≤ 3)
    (hj : join (holds m.locks txn page) mode = md) (hne : md ≠ holds m.locks txn page) (ho : against m.locks ⟨txn, page, md⟩ = []) (hz : holds m.locks txn page ≠ 0) :
    Calls Try.prog 9 #[.pointer (some ⟨t, 0, none⟩), .int .i64 txn, .int .i64 page, .int .i64 mode] w fun e w' => e = .returned .nilIface ∧ Fr B tagT w w' ∧
      TRep B w' t ⟨m.locks.map (fun l => if l.txn == txn && l.page == page then ⟨txn, page, md⟩ else l), forget m.waits txn⟩ := by
  obtain ⟨bp, bw, pg, wt, w1, hc1, hd1, hT, hfr⟩ := take_pre h txn
  have vd1 := valid_forget vd txn
  obtain ⟨mv, r1, r2, hor⟩ := has_run hT vd1 txn page
  rcases hor with ⟨_, _, hno⟩ | ⟨b, l, rfl, hk, ha, hi, hln, hl⟩
  · exact absurd (holds_none (fun md => hno txn md)) hz
  have hput := Lib.hid (isPut_set (md := md) hz)
  have hlen : (m.locks.map (fun l => if l.txn == txn && l.page == page then (⟨txn, page, md⟩ : Lk) else l)).length = m.locks.length := by simp
  generalize m.locks.map (fun l => if l.txn == txn && l.page == page then (⟨txn, page, md⟩ : Lk) else l) = L' at *
  have hc0 : w1.cell? ⟨t, 0, none⟩ = some (.map (some bp)) := by rw [cell_blk hT.blk]; rfl
  have HJ := Lib.hid (fun W => join_c (holds m.locks txn page) mode W)
  dsimp only at r2
  rw [hj] at HJ
  have hTA := hT.below ((Below.refl w1.heap.size w1).alloc (Nat.le_refl _) (.cells #[.int .i64 page, .int .i64 md] 55))
  have hrepA : Hid (TRep B (w1.alloc (.cells #[.int .i64 page, .int .i64 md] 55)) t ⟨m.locks, forget m.waits txn⟩) := ⟨_, _, _, _, hTA⟩
  have HA := Lib.hid (fun W (hr : TRep B W t ⟨m.locks, forget m.waits txn⟩) => against_c B t _ W vd1 hr txn page md)
  dsimp only at HA
  rw [ho] at HA
  generalize holds m.locks txn page = hs at *
  have hne' : (md == hs) = false := by simpa using hne
  have hz' : (hs == 0) = false := by simpa using hz
  have hTA' := Lib.hid hTA
  have hk' := Lib.hid hk
  have ha' := Lib.hid ha
  have hs1 := hfr.size
  clear hj h hT ho hne hTA hi hln hl hk ha
  go_enter Try.func9, Try.ntmps9
  go_wp2_with (first
    | (at_delete; refine wpList_del rfl _ _ _ _ rfl rfl rfl hd1 ?_)
    | (go_at_call 20; refine (HJ.out _).mono ?_; rintro e w2 ⟨rfl, rfl⟩)
    | (go_at_call 21; go_loud (refine (HA.out _ hrepA.out).mono ?_; rintro e w2 ⟨v2, rfl, hrd2, hbel2⟩; obtain ⟨A2, c2, rfl⟩ := rd_empty hrd2; clear hrd2; have hT2 := Lib.hid (hTA'.out.below hbel2); have hF2 := Lib.hid ((hfr.alloc _).trans (Fr.of_below hbel2)); have hw2 := Lib.hid ((hbel2.block _ (by simp)).trans (MapKept.heap_alloc w1 (.cells #[.int .i64 page, .int .i64 md] 55)).1); have r18 := run_lookup_im (P := Try.prog) Try.underlying45 Try.underlying3 (z49 w2) hT2.out.pages page; rw [ha'.out] at r18; simp only [Option.getD_some] at r18; have hc2 : w2.cell? ⟨t, 0, none⟩ = some (.map (some bp)) := by rw [cell_blk hT2.out.blk]; rfl)))
  obtain ⟨l0, hk0, hi0⟩ : ∃ l0, (page, b, l0) ∈ pg ∧ IM w2 b (hv l0) := ⟨l, hk'.out, (hT2.out.inner _ hk'.out).2.2.2⟩
  obtain ⟨w5, hu5, him5, hg5, _⟩ := run_update_im (P := Try.prog) Try.underlying49 Try.underlying3 (w := w2.drew) hi0 txn (.int .i64 md)
  rw [hv_upd] at him5
  have hT5 := Lib.hid (TAt.put (L' := L') hT2.out.drew hk0 ((hg5.block t (lt_of_heap hT2.out.blk) (fun e => im_ne_blk hT2.out.blk hi0 (by injection e))).trans (by rw [hlen]; exact hT2.out.blk)) (fun b' kv hb h => h.grown hg5 (fun e => hb (by injection e))) him5 hput.out)
  have hF5 := Lib.hid (hF2.out.drew.stepIM (w := w2.drew) hi0 (hT2.out.inner _ hk0).1 hg5)
  have hd1' : w2.drew.cell? ⟨t, 0, none⟩ = some (.map (some bp)) := by rw [cell_blk hT2.out.drew.blk]; rfl
  have hd3' : w2.drew.cell? ⟨w1.heap.size, 1, none⟩ = some (.int .i64 md) := by rw [cell_blk (w := w2.drew) hw2.out]; rfl
  have r22 := run_lookup_im (P := Try.prog) Try.underlying45 Try.underlying3 (z49 w2.drew) hT2.out.drew.pages page
  rw [ha'.out] at r22
  simp only [Option.getD_some] at r22
  clear him5 hg5 hk0 hi0
  simp only [show (binOp .eql 49 (.map (some b)) (.map none)).run Try.prog w2 = .ok (.bool false) w2 from by kernel_rfl]
  go_wp2
  go_region
  go_wp2
  go_ret
  exact ⟨rfl, hF5.out, _, _, _, _, hT5.out⟩
end Go.Proofs.Ytejpjibhpjgcjaa
