/-
  The program's Take where the table is full.
  Conditions: those that each theorem names.
-/
import Derived.Test.YtejpjibhpjgcjaaT10
namespace Go.Proofs.Ytejpjibhpjgcjaa
open Go.RowKit Go.Sort
set_option maxRecDepth 100000

set_option maxHeartbeats 4000000 in
theorem take_full (B t : Nat) (m : Tab) (w : World) (vd : Valid m) (h : TRep B w t m) (txn page mode : Int) (hm1 : 1 ≤ mode) (hm2 : mode ≤ 3)
    (ho : against m.locks ⟨txn, page, mode⟩ = []) (hz : holds m.locks txn page = 0) (hfull : 256 ≤ m.locks.length) :
    Calls Try.prog 9 #[.pointer (some ⟨t, 0, none⟩), .int .i64 txn, .int .i64 page, .int .i64 mode] w fun e w' => e = .returned (.iface 44 (.int .i64 15)) ∧ Fr B tagT w w' ∧ TRep B w' t ⟨m.locks, forget m.waits txn⟩ := by
  obtain ⟨bp, bw, pg, wt, w1, hc1, hd1, hT, hfr⟩ := take_pre h txn
  have vd1 := valid_forget vd txn
  obtain ⟨mv, r1, r2, hor⟩ := has_run hT vd1 txn page
  have hc0 : w1.cell? ⟨t, 0, none⟩ = some (.map (some bp)) := by rw [cell_blk hT.blk]; rfl
  have HJ := Lib.hid (fun W => join_c 0 mode W)
  have hj : join 0 mode = mode := by simp [join]
  dsimp only at r2
  rw [hj] at HJ
  have hTA := hT.below ((Below.refl w1.heap.size w1).alloc (Nat.le_refl _) (.cells #[.int .i64 page, .int .i64 mode] 55))
  have hrepA : Hid (TRep B (w1.alloc (.cells #[.int .i64 page, .int .i64 mode] 55)) t ⟨m.locks, forget m.waits txn⟩) := ⟨_, _, _, _, hTA⟩
  have HA := Lib.hid (fun W (hr : TRep B W t ⟨m.locks, forget m.waits txn⟩) => against_c B t _ W vd1 hr txn page mode)
  dsimp only at HA
  rw [ho] at HA
  rw [hz] at r2
  have hne' : (mode == 0) = false := by simp; omega
  have hTA' := Lib.hid hTA
  have hs1 := hfr.size
  have hsz := vd.size
  clear hj h hT ho hTA
  go_enter Try.func9, Try.ntmps9
  go_wp2_with (first
    | (at_delete; refine wpList_del rfl _ _ _ _ rfl rfl rfl hd1 ?_)
    | (go_at_call 20; refine (HJ.out _).mono ?_; rintro e w2 ⟨rfl, rfl⟩)
    | (go_at_call 21; go_loud (refine (HA.out _ hrepA.out).mono ?_; rintro e w2 ⟨v2, rfl, hrd2, hbel2⟩; obtain ⟨A2, c2, rfl⟩ := rd_empty hrd2; clear hrd2; have hT2 := Lib.hid (hTA'.out.below hbel2); have hF2 := Lib.hid ((hfr.alloc _).trans (Fr.of_below hbel2)); have hw2 := Lib.hid ((hbel2.block _ (by simp)).trans (MapKept.heap_alloc w1 (.cells #[.int .i64 page, .int .i64 mode] 55)).1); have hc22 : w2.cell? ⟨t, 2, none⟩ = some (.int .i64 m.locks.length) := (by rw [cell_blk hT2.out.blk]; rfl))))
  go_ret
  exact ⟨rfl, hF2.out, _, _, _, _, hT2.out⟩
end Go.Proofs.Ytejpjibhpjgcjaa
