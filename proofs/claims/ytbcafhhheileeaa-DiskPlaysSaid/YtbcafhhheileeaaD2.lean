/-
  Part of the proofs of DiskOwns, DiskPlays, SlotPlays: contracts of the device and what they need.
  Conditions: those that each theorem names.
-/
import Derived.Test.YtbcafhhheileeaaD1
namespace Go.Proofs.Ytbcafhhheileeaa
open Go.RowKit

theorem heap_set_same {w : World} {g i : Nat} {cs : Array Value} {e : TypeId} {z : Nat × Nat} (h : w.heap[g]? = some (.cells cs e z)) (u : Value) : (w.setCell ⟨g, i, none⟩ u).heap[g]? = some (.cells (cs.setIfInBounds i u) e z) := by
  simp [World.setCell, Array.getElem?_modify, h]
theorem im_ne_blk {w : World} {g b : Nat} {cs : Array Value} {e : TypeId} {z : Nat × Nat} {kv : List (Int × Value)} (h1 : w.heap[g]? = some (.cells cs e z)) (h2 : IM w b kv) : g ≠ b := by
  rintro rfl
  obtain ⟨es, c, hb, _⟩ := h2
  rw [h1] at hb; cases hb
theorem im_set {w : World} {g i b : Nat} {cs : Array Value} {e : TypeId} {z : Nat × Nat} {kv : List (Int × Value)} (h1 : w.heap[g]? = some (.cells cs e z)) (h2 : IM w b kv) (u : Value) : IM (w.setCell ⟨g, i, none⟩ u) b kv :=
  h2.keep (Below.heap_setCell _ _ _ _ (fun e => im_ne_blk h1 h2 e.symm))
def errV (n : Int) : Value := if n = 0 then .nilIface else .iface 66 (.int .i64 n)
def dstep (D : Dev) : Int × Dev :=
  if ((D.armed && decide (D.left < 1)) || D.down) = true then (3, { D with down := true }) else (0, { D with left := D.left - 1, steps := D.steps + 1 })

section
variable {B d bn bs bc : Nat} {w w' : World} {kn ks : List (Int × List Int)} {kc : List Int} {lf : Int} {D : Dev}
/-- a cell of the device is set -/
theorem DAt.set (h : DAt B w d bn bs bc kn ks kc lf D) (i : Nat) (u : Value) (lf' steps syncs left : Int) (armed down : Bool)
    (hc : (#[.int .i64 D.steps, .int .i64 D.syncs, .int .i64 lf, .bool D.armed, .bool D.down, .int .i64 D.size, .map (some bn), .map (some bs), .map (some bc)] : Array Value).setIfInBounds i u =
      #[.int .i64 steps, .int .i64 syncs, .int .i64 lf', .bool armed, .bool down, .int .i64 D.size, .map (some bn), .map (some bs), .map (some bc)])
    (hl : armed = true → lf' = left) : DAt B (w.setCell ⟨d, i, none⟩ u) d bn bs bc kn ks kc lf' { D with steps := steps, syncs := syncs, left := left, armed := armed, down := down } :=
  ⟨h.b0, by rw [heap_set_same h.blk, hc], hl, h.bb, h.ne, im_set h.blk h.now u, im_set h.blk h.syn u, im_set h.blk h.chg u, h.vnow, h.vsyn, h.vchg⟩
theorem DAt.frSet {a : World} (h : DAt B w d bn bs bc kn ks kc lf D) (hF : Fr B tagD a w) (i : Nat) (u : Value) : Fr B tagD a (w.setCell ⟨d, i, none⟩ u) :=
  hF.setCell (p := ⟨d, i, none⟩) (.inr ⟨h.b0, fun o ho => by
    cases hso : tagD o with
    | true => rfl
    | false =>
      have h1 := hF.keep d o ho (.inr hso)
      rw [h.blk] at h1; cases h1
      cases hso⟩) u
end

theorem step_c (B d : Nat) (D : Dev) (N : Int) (w : World) (hok : DOk N D) (hN : N ≤ 1000000000) (h : DRep B w d D) :
    Calls Try.prog 29 #[.pointer (some ⟨d, 0, none⟩)] w fun e w' => e = .returned (errV (dstep D).1) ∧ DRep B w' d (dstep D).2 ∧ Fr B tagD w w' := by
  obtain ⟨bn, bs, bc, kn, ks, kc, lf, h⟩ := h
  have hst := hok.steps
  have hle := hok.left
  have hlf := h.left
  have c0 := h.c0
  have c2 := h.c2
  have c3 := h.c3
  have c4 := h.c4
  have f2 := h.fz 2
  have f4 := h.fz 4
  have hh := Lib.hid h
  clear h
  by_cases hA : D.armed = true ∧ D.left = 0
  · obtain ⟨hA1, hA2⟩ := hA
    have hlf0 : lf = 0 := (hlf hA1).trans hA2
    have h1 := Lib.hid (hh.out.set 4 (.bool true) lf D.steps D.syncs D.left D.armed true rfl hlf)
    have hF := Lib.hid (hh.out.frSet (Fr.refl _ _ _) 4 (.bool true))
    have c4' : (w.setCell ⟨d, 4, none⟩ (.bool true)).cell? ⟨d, 4, none⟩ = some (.bool true) := h1.out.c4
    rw [hA1] at c3
    subst hlf0
    have hsp : dstep D = (3, { D with down := true }) := by simp [dstep, hA1, hA2]
    rw [hsp]
    clear hlf hle hok hsp
    go_enter Try.func29, Try.ntmps29
    go_wp2
    go_ret
    exact ⟨rfl, ⟨_, _, _, _, _, _, _, h1.out⟩, hF.out⟩
  · by_cases hD : D.down = true
    · have hsp : dstep D = (3, { D with down := true }) := by simp [dstep, hD]
      have hD' : ({ D with down := true } : Dev) = D := by cases D; simp_all
      rw [hsp, hD']
      rw [hD] at c4
      cases ha : D.armed with
      | false =>
        rw [ha] at c3
        clear hlf hle hok hsp hD'
        go_enter Try.func29, Try.ntmps29
        go_wp2
        go_ret
        exact ⟨rfl, ⟨_, _, _, _, _, _, _, hh.out⟩, Fr.refl _ _ _⟩
      | true =>
        rw [ha] at c3
        have hl0 : (lf == 0) = false := by rw [beq_eq_false_iff_ne, hlf ha]; exact fun e => hA ⟨ha, e⟩
        clear hlf hle hok hsp hD'
        go_enter Try.func29, Try.ntmps29
        go_wp2
        go_ret
        exact ⟨rfl, ⟨_, _, _, _, _, _, _, hh.out⟩, Fr.refl _ _ _⟩
    · have hD0 : D.down = false := by simpa using hD
      rw [hD0] at c4
      cases ha : D.armed with
      | false =>
        have hsp : dstep D = (0, { D with left := D.left - 1, steps := D.steps + 1 }) := by simp [dstep, ha, hD0]
        rw [hsp]
        rw [ha] at c3
        have h1 := Lib.hid (hh.out.set 0 (.int .i64 (D.steps + 1)) lf (D.steps + 1) D.syncs (D.left - 1) D.armed D.down rfl (fun e => by rw [ha] at e; cases e))
        have hF := Lib.hid (hh.out.frSet (Fr.refl _ _ _) 0 (.int .i64 (D.steps + 1)))
        have HA := Lib.hid (add_c d 0 D.steps w c0 (hh.out.fz 0) (by omega))
        clear hlf hle hok hsp
        go_enter Try.func29, Try.ntmps29
        go_wp2_with (go_at_call 52; refine HA.out.mono ?_; rintro e w2 ⟨rfl, rfl⟩)
        go_ret
        exact ⟨rfl, ⟨_, _, _, _, _, _, _, h1.out⟩, hF.out⟩
      | true =>
        have hl0 : (lf == 0) = false := by rw [beq_eq_false_iff_ne, hlf ha]; exact fun e => hA ⟨ha, e⟩
        have hlt : ¬ D.left < 1 := by have := (hle ha).1; have : D.left ≠ 0 := fun e => hA ⟨ha, e⟩; omega
        have hsp : dstep D = (0, { D with left := D.left - 1, steps := D.steps + 1 }) := by simp [dstep, hD0, hlt]
        rw [hsp]
        rw [ha] at c3
        have hlf' := hlf ha
        subst hlf'
        have hb := hle ha
        have hw : wrap64 (D.left - 1) = D.left - 1 := by rw [← IntWalk.i64_left]; exact IntWalk.i64_in _ (by omega)
        have h0 := hh.out.set 2 (.int .i64 (D.left - 1)) (D.left - 1) D.steps D.syncs (D.left - 1) D.armed D.down rfl (fun _ => rfl)
        have hF0 := hh.out.frSet (Fr.refl _ _ _) 2 (.int .i64 (D.left - 1))
        have h1 := Lib.hid (h0.set 0 (.int .i64 (D.steps + 1)) (D.left - 1) (D.steps + 1) D.syncs (D.left - 1) D.armed D.down rfl (fun _ => rfl))
        have hF := Lib.hid (h0.frSet hF0 0 (.int .i64 (D.steps + 1)))
        have HA := Lib.hid (add_c d 0 D.steps _ h0.c0 (h0.fz 0) (by omega))
        clear hlf hle hok hsp h0 hF0
        go_enter Try.func29, Try.ntmps29
        go_wp2_with (go_at_call 52; refine HA.out.mono ?_; rintro e w2 ⟨rfl, rfl⟩)
        go_ret
        exact ⟨rfl, ⟨_, _, _, _, _, _, _, h1.out⟩, hF.out⟩
end Go.Proofs.Ytbcafhhheileeaa
