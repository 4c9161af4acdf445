/-
  Part of the proofs of DiskOwns, DiskPlays, SlotPlays: contracts of the device and what they need.
  Conditions: those that each theorem names.
-/
import Derived.Test.YtbcafhhheileeaaD14
namespace Go.Proofs.Ytbcafhhheileeaa
open Go.RowKit
set_option maxRecDepth 100000

theorem write_c (B d : Nat) (D : Dev) (N : Int) (w : World) (hok : DOk N D) (hN : N ≤ 1000000000) (h : DRep B w d D) (hB : B ≤ w.heap.size) (at_ : Int) (v : Value) (ps : Parts)
    (hp : ∀ w', Fr B tagD w w' → RdP w' v ps) (hl : (cat ps).length ≤ 1000000000) (hn : ps.length ≤ 1000000) :
    Calls Try.prog 9 #[.pointer (some ⟨d, 0, none⟩), .int .i64 at_, v] w fun e w' => e = .returned (errV (dwrite D at_ (cat ps)).1) ∧ DRep B w' d (dwrite D at_ (cat ps)).2 ∧ Fr B tagD w w' := by
  by_cases hb : at_ < 0 ∨ D.size ≤ at_
  · refine (write_bad B d D w h at_ v hb).mono ?_
    rintro e w' ⟨rfl, rfl⟩
    have : dwrite D at_ (cat ps) = (1, D) := by unfold dwrite; rw [if_pos hb]
    rw [this]
    exact ⟨rfl, h, Fr.refl _ _ _⟩
  · exact write_loop B d D N w hok hN h hB at_ (by omega) (by omega) v ps hp hl hn

def darm (D : Dev) (n : Int) : Int × Dev := if n < 0 then (1, D) else (0, { D with armed := true, left := n })
theorem arm_c (B d : Nat) (D : Dev) (w : World) (h : DRep B w d D) (n : Int) :
    Calls Try.prog 38 #[.pointer (some ⟨d, 0, none⟩), .int .i64 n] w fun e w' => e = .returned (errV (darm D n).1) ∧ DRep B w' d (darm D n).2 ∧ Fr B tagD w w' := by
  by_cases hn : n < 0
  · have hd : darm D n = (1, D) := by unfold darm; rw [if_pos hn]
    rw [hd]
    have h' := Lib.hid h
    clear h hd
    go_enter Try.func38, Try.ntmps38
    go_wp2
    go_ret
    exact ⟨rfl, h'.out, Fr.refl _ _ _⟩
  · have hd : darm D n = (0, { D with armed := true, left := n }) := by unfold darm; rw [if_neg hn]
    rw [hd]
    obtain ⟨bn, bs, bc, kn, ks, kc, lf, h⟩ := h
    have h1 := h.set 3 (.bool true) lf D.steps D.syncs lf true D.down rfl (fun _ => rfl)
    have hF1 := h.frSet (Fr.refl _ _ _) 3 (.bool true)
    have h2 := Lib.hid (h1.set 2 (.int .i64 n) n D.steps D.syncs n true D.down rfl (fun _ => rfl))
    have hF2 := Lib.hid (h1.frSet hF1 2 (.int .i64 n))
    have c3 := h.c3
    have c2 := h.c2
    have f3 := h.fz 3
    have f2 := h.fz 2
    clear h h1 hF1 hd
    go_enter Try.func38, Try.ntmps38
    go_wp2
    go_ret
    exact ⟨rfl, ⟨_, _, _, _, _, _, _, h2.out⟩, hF2.out⟩

theorem contains_c (v : Value) (xs : List Int) (x : Int) (w : World) (h : RdI w v xs) (hl : xs.length ≤ 1000000000) :
    Calls Try.prog 54 #[v, .int .i64 x] w fun e w' => e = .returned (.bool (xs.contains x)) ∧ w = w' := by
  obtain ⟨_, A, c, rfl, hc, h3⟩ := h
  by_cases h0 : xs.length = 0
  · have hx : xs = [] := List.eq_nil_of_length_eq_zero h0
    subst hx
    refine (Try.slices_Contains_int_empty A c x w).mono ?_
    rintro e w' ⟨rfl, rfl⟩
    exact ⟨rfl, rfl⟩
  · rcases h3 with h3 | ⟨b, o, rfl, hb, h4⟩
    · exact absurd h3 h0
    · refine (Try.slices_Contains_int b o xs.length c xs x w (Nat.le_refl _) (by omega) (fun j hj => h4 j _ ?_)).mono ?_
      · rw [List.getElem?_map, List.getElem?_eq_getElem hj]
        simp [List.getD_eq_getElem?_getD, hj]
      · rintro e w' ⟨rfl, rfl⟩
        rw [List.take_length]
        exact ⟨rfl, rfl⟩

theorem ok_step {N : Int} {D : Dev} (h : DOk N D) : DOk (N + 1) (dstep D).2 := by
  unfold dstep
  have h1 := h.steps
  have h2 := h.syncs
  split
  · exact { h with steps := by dsimp only; omega, syncs := by dsimp only; omega }
  · rename_i hn
    refine { h with steps := by dsimp only; omega, syncs := by dsimp only; omega, left := fun ha => ?_ }
    have ha' : D.armed = true := ha
    have hl := h.left ha'
    have : ¬ D.left < 1 := fun hlt => hn (by simp [ha', hlt])
    dsimp only
    omega
theorem ok_settle {N : Int} {D : Dev} (h : DOk N D) : DOk N (dsettle D) :=
  { h with lsyn := h.lnow, chg := fun _ hk => by simp [dsettle] at hk, same := fun _ _ => rfl }
theorem step_facts (D : Dev) : (dstep D).2.size = D.size ∧ (dstep D).2.now = D.now ∧ (dstep D).2.synced = D.synced ∧ (dstep D).2.chg = D.chg ∧ (dstep D).2.syncs = D.syncs ∧ (dstep D).2.armed = D.armed := by
  unfold dstep
  split <;> exact ⟨rfl, rfl, rfl, rfl, rfl, rfl⟩
theorem ok_sync {N : Int} {D : Dev} (h : DOk N D) : DOk (N + 1) (dsync D).2 := by
  have h1 := ok_step h
  have h2 := h.syncs
  unfold dsync
  split
  · exact h1
  · exact ok_settle { h1 with syncs := by dsimp only; omega }
theorem ok_write {N : Int} {D : Dev} (h : DOk N D) (at_ : Int) (bs : List Int) : DOk (N + 1) (dwrite D at_ bs).2 := by
  have h1 := h.steps
  have h2 := h.syncs
  have h0 : DOk (N + 1) D := { h with steps := by omega, syncs := by omega }
  have hs := ok_step h
  obtain ⟨f1, f2, f3, f4, f5, f6⟩ := step_facts D
  unfold dwrite
  split
  · exact h0
  · rename_i hr
    split
    · exact h0
    · rename_i hl
      split
      · exact hs
      · refine { hs with lnow := fun k => ?_, chg := fun k hk => ?_, same := fun k hk => ?_ }
        · show (put D.now at_ bs k).length = 512
          unfold put; split
          · simpa using hl
          · exact h.lnow k
        · have hk' : putB D.chg at_ k = true := hk
          unfold putB at hk'
          show 0 ≤ k ∧ k < (dstep D).2.size
          rw [f1]
          by_cases hka : k = at_
          · subst hka; omega
          · rw [if_neg hka] at hk'
            exact h.chg k hk'
        · have hk' : putB D.chg at_ k = false := hk
          show put D.now at_ bs k = (dstep D).2.synced k
          rw [f3]
          unfold putB at hk'
          by_cases hka : k = at_
          · rw [if_pos hka] at hk'; cases hk'
          · rw [if_neg hka] at hk'
            unfold put
            rw [if_neg hka]
            exact h.same k hk'
theorem ok_arm {N : Int} {D : Dev} (h : DOk N D) (n : Int) (hn : n ≤ 9223372036854775807) : DOk N (darm D n).2 := by
  unfold darm
  split
  · exact h
  · exact { h with left := fun _ => by dsimp only; omega }

theorem sync_c (B d : Nat) (D : Dev) (N : Int) (w : World) (hok : DOk N D) (hN : N < 1000000000) (h : DRep B w d D) :
    Calls Try.prog 27 #[.pointer (some ⟨d, 0, none⟩)] w fun e w' => e = .returned (errV (dsync D).1) ∧ DRep B w' d (dsync D).2 ∧ Fr B tagD w w' := by
  have HS := Lib.hid (step_c B d D N w hok (by omega) h)
  by_cases hst : (dstep D).1 = 0
  · have hd : Hid (dsync D = (0, dsettle { (dstep D).2 with syncs := D.syncs + 1 })) := by
      show _ = _
      unfold dsync
      rw [if_neg (by omega)]
    have hok1 := ok_step hok
    have hsy := hok.syncs
    obtain ⟨_, _, _, _, f5, f6⟩ := step_facts D
    have hok2 : Hid (DOk (N + 1) { (dstep D).2 with syncs := D.syncs + 1 }) := { hok1 with syncs := by dsimp only; omega }
    rw [hst] at HS
    have f5' := Lib.hid f5
    clear hst hok hok1 f5 f6 h
    go_enter Try.func27, Try.ntmps27
    go_wp2_with (first
      | (go_at_call 29; refine HS.out.mono ?_; rintro e w2 ⟨rfl, hr2, hfr2⟩; simp only [errV, if_true]; obtain ⟨bn, bs, bc, kn, ks, kc, lf, hA⟩ := hr2)
      | (go_at_call 52; refine (add_c d 1 D.syncs w2 (f5'.out ▸ hA.c1) (hA.fz 1) (by omega)).mono ?_; rintro e w3 ⟨rfl, rfl⟩)
      | (go_at_call 53; refine (settle_c B d { (dstep D).2 with syncs := D.syncs + 1 } (N + 1) _ hok2.out ⟨_, _, _, _, _, _, _, hA.set 1 (.int .i64 (D.syncs + 1)) lf (dstep D).2.steps (D.syncs + 1) (dstep D).2.left (dstep D).2.armed (dstep D).2.down rfl hA.left⟩).mono ?_; rintro e w4 ⟨rfl, hr4, hfr4⟩))
    go_ret
    rw [hd.out]
    exact ⟨rfl, hr4, (hA.frSet hfr2 1 _).trans hfr4⟩
  · have hd : Hid (dsync D = dstep D) := by
      show _ = _
      unfold dsync
      rw [if_pos hst]
    have he3 : errV (dstep D).1 = .iface 66 (.int .i64 (dstep D).1) := by simp [errV, hst]
    have he3' := Lib.hid he3
    rw [he3] at HS
    clear hst he3 hok h
    go_enter Try.func27, Try.ntmps27
    go_wp2_with (go_at_call 29; refine HS.out.mono ?_; rintro e w2 ⟨rfl, hr2, hfr2⟩)
    go_ret
    rw [hd.out]
    exact ⟨congrArg Ending.returned he3'.out.symm, hr2, hfr2⟩
end Go.Proofs.Ytbcafhhheileeaa
