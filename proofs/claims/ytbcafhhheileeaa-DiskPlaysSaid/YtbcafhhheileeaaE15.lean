/-
  Part of the proofs of DiskPlays, SlotPlays: play, call by call.
  Conditions: those that each theorem names.
-/
import Derived.Test.YtbcafhhheileeaaE14
namespace Go.Proofs.Ytbcafhhheileeaa
open Go.RowKit
set_option maxRecDepth 100000

def dplay (D : Dev) (o : OpS) : Dev :=
  if o.kind = 0 then (dwrite D o.at_ o.bytes).2 else if o.kind = 1 then (dwrite D o.at_ (fl o.n)).2 else if o.kind = 2 then D else if o.kind = 3 then (dsync D).2 else
  if o.kind = 4 then (darm D o.n).2 else dcrash D o.keep
structure PlayIn (B d : Nat) (f : Foot) (D : Dev) (M : Int) (o : OpS) (w : World) : Prop where
  dr : DRep B w d D
  ra : RAt B w f D
  ok : DOk M D
  lo : LOk M D
  m : M ≤ 900000000
  base : B ≤ w.heap.size
  bv : RdB w o.bv o.bytes
  kv : RdI w o.kv o.keep
  bvb : ∀ b, o.bv.ownBlock = some b → o.bytes.length ≠ 0 → b < B
  kvb : ∀ b, o.kv.ownBlock = some b → o.keep.length ≠ 0 → b < B
  bl : o.bytes.length ≤ 65536
  kl : o.keep.length ≤ 6415
  nx : f.x = none
def PlayPost (B d : Nat) (f : Foot) (D' : Dev) (w : World) (e : Ending) (w' : World) : Prop := e = .returned (.bool true) ∧ DRep B w' d D' ∧ RAt B w' f D' ∧ Below B w w'
theorem opV_eq (o : OpS) : opVals o = #[.int .i64 o.kind, .int .i64 o.at_, .int .i64 o.n, o.bv, o.kv] := rfl

/-- the start: the call lies in a block of its own -/
theorem PlayIn.boxed {B d : Nat} {f : Foot} {D : Dev} {M : Int} {o : OpS} {w : World} (h : PlayIn B d f D M o w) :
    JP false B (w.heap.size + 1) d w.heap.size f 0 0 [] o.kind o.at_ o.n o.bv o.kv D D w (w.alloc (.cells #[.int .i64 o.kind, .int .i64 o.at_, .int .i64 o.n, o.bv, o.kv] 45)) := by
  have hal : Below w.heap.size w (w.alloc (.cells #[.int .i64 o.kind, .int .i64 o.at_, .int .i64 o.n, o.bv, o.kv] 45)) := (Below.refl _ _).alloc (Nat.le_refl _) _
  exact ⟨h.dr.below hal, h.ra.below hal, (MapKept.heap_alloc w _).1, (fun e => by cases e), hal.mono h.base, h.base, Nat.le_trans h.base hal.size, by simp, (fun b hb => by have := h.ra.lt b hb; omega), fun y hy => by rw [h.nx] at hy; cases hy⟩
theorem JP.c0 {hr : Bool} {B S0 d ob : Nat} {f : Foot} {cg cc : Nat} {xs : List Int} {kd at_ n : Int} {bv kv : Value} {Dd Dm : Dev} {wI w : World} (h : JP hr B S0 d ob f cg cc xs kd at_ n bv kv Dd Dm wI w) :
    w.cell? ⟨ob, 0, none⟩ = some (.int .i64 kd) ∧ w.cell? ⟨ob, 1, none⟩ = some (.int .i64 at_) ∧ w.cell? ⟨ob, 2, none⟩ = some (.int .i64 n) ∧ w.cell? ⟨ob, 3, none⟩ = some bv ∧ w.cell? ⟨ob, 4, none⟩ = some kv := by
  refine ⟨?_, ?_, ?_, ?_, ?_⟩ <;> rw [cell_blk h.ob] <;> rfl

theorem play1 (B d : Nat) (f : Foot) (D : Dev) (M : Int) (o : OpS) (w : World) (h : PlayIn B d f D M o w) (hk : o.kind = 1) :
    Calls Try.prog 16 #[.pointer (some ⟨d, 0, none⟩), .pointer (some ⟨f.g, 0, none⟩), .agg (opVals o)] w (PlayPost B d f (dwrite D o.at_ (fl o.n)).2 w) := by
  rw [opV_eq]
  have hJ := Lib.hid h.boxed
  have hH := Lib.hid h
  obtain ⟨A1, c1, hv1⟩ := RdB.any h.bv
  obtain ⟨A2, c2, hv2, -⟩ := RdI.form h.kv
  rw [hv1, hv2, hk] at hJ
  rw [hv1, hv2, hk]
  clear h hv1 hv2
  generalize o.at_ = at_ at *
  generalize o.n = n at *
  generalize o.bytes.length = L1 at *
  generalize o.keep.length = L2 at *
  go_enter Try.func16, Try.ntmps16
  go_wp2
  refine regionP9 d w.heap.size (w.heap.size + 1) f at_ n D B 1 (.slice A1 L1 c1) (.slice A2 L2 c2) M w rfl rfl rfl rfl hH.out.m hH.out.ok hH.out.lo hJ.out ?_
  intro u w2 hu hJ2
  have hJ2H := Lib.hid hJ2
  clear hJ2
  simp only [putAll, putOne, opsP9, List.foldl, Act.put, hu]
  go_frame
  go_wp2
  go_ret
  exact ⟨rfl, hJ2H.out.dr, hJ2H.out.ra, hJ2H.out.bel⟩
theorem play3 (B d : Nat) (f : Foot) (D : Dev) (M : Int) (o : OpS) (w : World) (h : PlayIn B d f D M o w) (hk : o.kind = 3) :
    Calls Try.prog 16 #[.pointer (some ⟨d, 0, none⟩), .pointer (some ⟨f.g, 0, none⟩), .agg (opVals o)] w (PlayPost B d f (dsync D).2 w) := by
  rw [opV_eq]
  have hJ := Lib.hid h.boxed
  have hH := Lib.hid h
  obtain ⟨A1, c1, hv1⟩ := RdB.any h.bv
  obtain ⟨A2, c2, hv2, -⟩ := RdI.form h.kv
  have hm := h.m
  rw [hv1, hv2, hk] at hJ
  rw [hv1, hv2, hk]
  clear h hv1 hv2
  go_enter Try.func16, Try.ntmps16
  go_wp2_with (first
    | (go_at_call 27; refine (sync_c B d D M _ hH.out.ok (by omega) hJ.out.dr).mono ?_; rintro e w2 ⟨rfl, hd2, hf2⟩; have hJ2 := Lib.hid (hJ.out.stepD hd2 hf2); clear hd2 hf2 hJ)
    | (go_at_call 14; refine (num_c _ _).mono ?_; rintro e w3 ⟨rfl, rfl⟩)
    | (go_at_call 37; refine (rsync_c B f D M _ hH.out.ok hH.out.lo (by omega) hJ2.out.ra).mono ?_; rintro e w4 ⟨rfl, hr4, hk4⟩; have hJ4 := Lib.hid (hJ2.out.stepM hr4 hk4); clear hr4 hk4 hJ2))
  go_ret
  exact ⟨rfl, hJ4.out.dr, hJ4.out.ra, hJ4.out.bel⟩
theorem play4 (B d : Nat) (f : Foot) (D : Dev) (M : Int) (o : OpS) (w : World) (h : PlayIn B d f D M o w) (hk : o.kind = 4) :
    Calls Try.prog 16 #[.pointer (some ⟨d, 0, none⟩), .pointer (some ⟨f.g, 0, none⟩), .agg (opVals o)] w (PlayPost B d f (darm D o.n).2 w) := by
  rw [opV_eq]
  have hJ := Lib.hid h.boxed
  have hH := Lib.hid h
  obtain ⟨A1, c1, hv1⟩ := RdB.any h.bv
  obtain ⟨A2, c2, hv2, -⟩ := RdI.form h.kv
  rw [hv1, hv2, hk] at hJ
  rw [hv1, hv2, hk]
  clear h hv1 hv2
  generalize o.n = n at *
  by_cases hn : n < 0
  · have hd : Hid (darm D n = (1, D)) := by show _ = _; unfold darm; rw [if_pos hn]
    go_enter Try.func16, Try.ntmps16
    go_wp2_with (first
      | (go_at_call 38; refine (arm_c B d D _ hJ.out.dr n).mono ?_; rintro e w2 ⟨rfl, hd2, hf2⟩; rw [hd.out] at hd2; rw [hd.out]; have hJ2 := Lib.hid (hJ.out.stepD hd2 hf2); clear hd2 hf2 hJ)
      | (go_at_call 14; refine (num_c _ _).mono ?_; rintro e w3 ⟨rfl, rfl⟩))
    go_ret
    rw [hd.out]
    exact ⟨rfl, hJ2.out.dr, hJ2.out.ra, hJ2.out.bel⟩
  · have hd : Hid (darm D n = (0, { D with armed := true, left := n })) := by show _ = _; unfold darm; rw [if_neg hn]
    go_enter Try.func16, Try.ntmps16
    go_wp2
    refine regionP22 w.heap.size f n B 4 o.at_ (.slice A1 o.bytes.length c1) (.slice A2 o.keep.length c2) D rfl rfl rfl hJ.out.ra hJ.out.ob ?_
    intro u w2 hr2 hob2 hk2
    have hJ2 := Lib.hid (hJ.out.stepM hr2 hk2)
    have e2 := hJ2.out.c0.2.2.1
    clear hr2 hob2 hk2 hJ
    simp only [putAll, putOne, opsP22, List.foldl, Act.put]
    go_frame
    go_wp2_with (first
      | (go_at_call 38; refine (arm_c B d D _ hJ2.out.dr n).mono ?_; rintro e w3 ⟨rfl, hd3, hf3⟩; rw [hd.out] at hd3; rw [hd.out]; have hJ3 := Lib.hid (hJ2.out.stepD hd3 hf3); clear hd3 hf3 hJ2)
      | (go_at_call 14; refine (num_c _ _).mono ?_; rintro e w4 ⟨rfl, rfl⟩))
    go_ret
    rw [hd.out]
    exact ⟨rfl, hJ3.out.dr, hJ3.out.ra, hJ3.out.bel⟩
end Go.Proofs.Ytbcafhhheileeaa
