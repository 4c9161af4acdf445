/-
  Part of the proofs of DiskPlays, SlotPlays: the document's device, its calls.
  Conditions: those that each theorem names.
-/
import Derived.Test.YtbcafhhheileeaaE1
namespace Go.Proofs.Ytbcafhhheileeaa
open Go.RowKit
set_option maxRecDepth 100000

theorem rstep_c (B : Nat) (f : Foot) (D : Dev) (N : Int) (w : World) (hok : DOk N D) (hl : LOk N D) (hN : N ≤ 1000000000) (h : RAt B w f D) :
    Calls Try.prog 57 #[.pointer (some ⟨f.g, 0, none⟩)] w fun e w' => e = .returned (.int .i64 (dstep D).1) ∧ RAt B w' f (dstep D).2 ∧ Kp f.has w w' := by
  obtain ⟨_, _, _, c3, _, c5, c6, c7⟩ := h.cell
  have f3 := h.fz 3
  have f6 := h.fz 6
  have f7 := h.fz 7
  have hst := hok.steps
  have hlo := hl.lo
  have hhi := hl.hi
  have hh := Lib.hid h
  clear h hok hl
  by_cases hA : D.armed = true ∧ D.left < 1
  · obtain ⟨hA1, hA2⟩ := hA
    have hsp : dstep D = (3, { D with down := true }) := by simp [dstep, hA1, hA2]
    rw [hsp]
    have h1 := Lib.hid (hh.out.set 7 (.bool true) D.steps D.syncs D.left D.armed true rfl)
    have hk := Lib.hid (foot_set f w 7 (.bool true))
    rw [hA1] at c5
    clear hsp
    go_enter Try.func57, Try.ntmps57
    go_wp2
    go_ret
    exact ⟨rfl, h1.out, hk.out⟩
  · by_cases hD : D.down = true
    · have hsp : dstep D = (3, { D with down := true }) := by simp [dstep, hD]
      have hD' : ({ D with down := true } : Dev) = D := by cases D; simp_all
      rw [hsp, hD']
      rw [hD] at c7
      clear hsp hD'
      cases ha : D.armed with
      | false =>
        rw [ha] at c5
        go_enter Try.func57, Try.ntmps57
        go_wp2
        go_ret
        exact ⟨rfl, hh.out, Kp.refl _ _⟩
      | true =>
        rw [ha] at c5
        have hl1 : ¬ D.left < 1 := fun hlt => hA ⟨ha, hlt⟩
        go_enter Try.func57, Try.ntmps57
        go_wp2
        go_ret
        exact ⟨rfl, hh.out, Kp.refl _ _⟩
    · have hD0 : D.down = false := by simpa using hD
      have hsp : dstep D = (0, { D with left := D.left - 1, steps := D.steps + 1 }) := by
        unfold dstep
        rw [if_neg]
        rw [hD0]
        simp only [Bool.or_false, Bool.and_eq_true, decide_eq_true_eq]
        exact hA
      rw [hsp]
      rw [hD0] at c7
      have h0 := hh.out.set 6 (.int .i64 (D.left - 1)) D.steps D.syncs (D.left - 1) D.armed D.down rfl
      have h1 := Lib.hid (h0.set 3 (.int .i64 (D.steps + 1)) (D.steps + 1) D.syncs (D.left - 1) D.armed D.down rfl)
      have hk := Lib.hid ((foot_set f w 6 (.int .i64 (D.left - 1))).trans (foot_set f _ 3 (.int .i64 (D.steps + 1))))
      clear h0 hsp
      rcases Bool.eq_false_or_eq_true D.armed with ha | ha
      rotate_left
      · rw [ha] at c5
        clear ha hD0 hD hA
        go_enter Try.func57, Try.ntmps57
        go_wp2
        go_ret
        exact ⟨rfl, h1.out, hk.out⟩
      · rw [ha] at c5
        have hl1 : ¬ D.left < 1 := fun hlt => hA ⟨ha, hlt⟩
        clear ha hD0 hD hA
        go_enter Try.func57, Try.ntmps57
        go_wp2
        go_ret
        exact ⟨rfl, h1.out, hk.out⟩

/-- Read: what is there, not a copy -/
theorem rread_c (B : Nat) (f : Foot) (D : Dev) (w : World) (h : RAt B w f D) (hs : 1 ≤ D.size ∧ D.size ≤ 4096) (at_ : Int) :
    Calls Try.prog 36 #[.pointer (some ⟨f.g, 0, none⟩), .int .i64 at_] w fun e w' => w = w' ∧ ∃ u,
      e = .returned (.tuple #[u, .int .i64 (if at_ < 0 ∨ D.size ≤ at_ then 1 else if D.down = true then 3 else 0)]) ∧ OwnB w B u (if at_ < 0 ∨ D.size ≤ at_ then [] else if D.down = true then [] else D.now at_) := by
  by_cases hb : at_ < 0 ∨ D.size ≤ at_
  · rw [if_pos hb, if_pos hb]
    have hI := Lib.hid (rin_c B f D w h hs at_ false (by simp; omega))
    have hnil := World.ownsRow_nil w B 5 1
    clear h
    go_enter Try.func36, Try.ntmps36
    go_wp2_with (go_at_call 56; refine hI.out.mono ?_; rintro e w2 ⟨rfl, rfl⟩)
    go_ret2
    exact ⟨rfl, _, rfl, hnil⟩
  · rw [if_neg hb, if_neg hb]
    have hI := Lib.hid (rin_c B f D w h hs at_ true (by simp; omega))
    obtain ⟨c0, _, _, _, _, _, _, c7⟩ := h.cell
    by_cases hD : D.down = true
    · rw [if_pos hD, if_pos hD]
      rw [hD] at c7
      have hnil := World.ownsRow_nil w B 5 1
      clear h c0 hD
      go_enter Try.func36, Try.ntmps36
      go_wp2_with (go_at_call 56; refine hI.out.mono ?_; rintro e w2 ⟨rfl, rfl⟩)
      go_ret2
      exact ⟨rfl, _, rfl, hnil⟩
    · rw [if_neg hD, if_neg hD]
      have hD0 : D.down = false := by simpa using hD
      rw [hD0] at c7
      obtain ⟨i, rfl⟩ : ∃ i : Nat, at_ = i := ⟨at_.toNat, by omega⟩
      have hi : i < D.size.toNat := by omega
      obtain ⟨v, hv, ho, -⟩ := h.now.cell i hi
      have ho' := Lib.hid ho
      unfold slV at c0
      clear h ho hD hD0 hb
      generalize D.size.toNat = n at *
      go_enter Try.func36, Try.ntmps36
      go_wp2_with (go_at_call 56; refine hI.out.mono ?_; rintro e w2 ⟨rfl, rfl⟩)
      go_ret2
      exact ⟨rfl, _, rfl, ho'.out⟩
end Go.Proofs.Ytbcafhhheileeaa
