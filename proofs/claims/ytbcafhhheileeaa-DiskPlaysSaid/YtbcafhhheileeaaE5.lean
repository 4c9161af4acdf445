/-
  Part of the proofs of DiskPlays, SlotPlays: the document's device, Sync, Crash, Unsynced.
  Conditions: those that each theorem names.
-/
import Derived.Test.YtbcafhhheileeaaE4
namespace Go.Proofs.Ytbcafhhheileeaa
open Go.RowKit
set_option maxRecDepth 100000

theorem rsync_c (B : Nat) (f : Foot) (D : Dev) (N : Int) (w : World) (hok : DOk N D) (hl : LOk N D) (hN : N < 1000000000) (h : RAt B w f D) :
    Calls Try.prog 37 #[.pointer (some ⟨f.g, 0, none⟩)] w fun e w' => e = .returned (.int .i64 (dsync D).1) ∧ RAt B w' f (dsync D).2 ∧ Kp f.has w w' := by
  have HS := Lib.hid (rstep_c B f D N w hok hl (by omega) h)
  by_cases hst : (dstep D).1 = 0
  · have hd : Hid (dsync D = (0, dsettle { (dstep D).2 with syncs := D.syncs + 1 })) := by
      show _ = _
      unfold dsync
      rw [if_neg (by omega)]
    have hok1 := ok_step hok
    have hsy := hok.syncs
    obtain ⟨_, _, _, _, f5, _⟩ := step_facts D
    have hok2 : Hid (DOk (N + 1) { (dstep D).2 with syncs := D.syncs + 1 }) := { hok1 with syncs := by dsimp only; omega }
    rw [hst] at HS
    have f5' := Lib.hid f5
    clear hst hok hok1 f5 h
    go_enter Try.func37, Try.ntmps37
    go_wp2_with (go_at_call 57; refine HS.out.mono ?_; rintro e w2 ⟨rfl, hr2, hk2⟩; have c4 := hr2.cell.2.2.2.2.1; rw [f5'.out] at c4; have f4 := hr2.fz 4; have hr2' := Lib.hid hr2; have hk2' := Lib.hid hk2; clear hr2 hk2)
    have hr3 := Lib.hid (hr2'.out.set 4 (.int .i64 (D.syncs + 1)) (dstep D).2.steps (D.syncs + 1) (dstep D).2.left (dstep D).2.armed (dstep D).2.down rfl)
    have hk3 := Lib.hid (foot_set f w2 4 (.int .i64 (D.syncs + 1)))
    go_wp2_with (go_at_call 58; refine (rsettle_c B f { (dstep D).2 with syncs := D.syncs + 1 } (N + 1) _ hok2.out hr3.out).mono ?_; rintro e w4 ⟨rfl, hr4, hk4⟩)
    go_ret
    rw [hd.out]
    exact ⟨rfl, hr4, (hk2'.out.trans hk3.out).trans hk4⟩
  · have hd : Hid (dsync D = dstep D) := by
      show _ = _
      unfold dsync
      rw [if_pos hst]
    have hne : ((dstep D).1 == 0) = false := by simpa using hst
    clear hst hok hl h
    generalize hx : (dstep D).1 = x at *
    have hx' := Lib.hid hx
    clear hx
    go_enter Try.func37, Try.ntmps37
    go_wp2_with (go_at_call 57; refine HS.out.mono ?_; rintro e w2 ⟨rfl, hr2, hfr2⟩)
    go_ret
    rw [hd.out, hx'.out]
    exact ⟨rfl, hr2, hfr2⟩

/-! ### Crash -/
def rmix (D : Dev) (keep : List Int) (k : Nat) (j : Int) : List Int := if (0 ≤ j ∧ j < k) ∧ j ∉ keep then D.synced j else D.now j
theorem rmix_zero (D : Dev) (keep : List Int) : rmix D keep 0 = D.now := by
  funext j; unfold rmix; rw [if_neg (by omega)]
theorem rmix_succ {D : Dev} {keep : List Int} {k : Nat} (hk : (k : Int) ∉ keep) : put (rmix D keep k) k (D.synced k) = rmix D keep (k + 1) := by
  funext j; unfold put rmix
  by_cases h : j = k
  · subst h; rw [if_pos rfl, if_pos ⟨by omega, hk⟩]
  · rw [if_neg h]
    by_cases h2 : (0 ≤ j ∧ j < k) ∧ j ∉ keep
    · rw [if_pos h2, if_pos ⟨by omega, h2.2⟩]
    · rw [if_neg h2, if_neg (fun h3 => h2 ⟨by omega, h3.2⟩)]
theorem rmix_keep {D : Dev} {keep : List Int} {k : Nat} (hk : (k : Int) ∈ keep) : rmix D keep k = rmix D keep (k + 1) := by
  funext j; unfold rmix
  by_cases h : j = k
  · subst h; rw [if_neg (fun h3 => h3.2 hk), if_neg (fun h3 => h3.2 hk)]
  · by_cases h2 : (0 ≤ j ∧ j < k) ∧ j ∉ keep
    · rw [if_pos h2, if_pos ⟨by omega, h2.2⟩]
    · rw [if_neg h2, if_neg (fun h3 => h2 ⟨by omega, h3.2⟩)]
theorem rmix_end {N : Int} {D : Dev} (h : DOk N D) (keep : List Int) : rmix D keep D.size.toNat = cmix D keep (uns D) := by
  funext j; unfold rmix cmix
  cases hc : D.chg j with
  | false =>
    have hs := h.same j hc
    have : j ∉ uns D := fun hm => by rw [(uns_mem h j).1 hm] at hc; cases hc
    by_cases h2 : (0 ≤ j ∧ j < (D.size.toNat : Nat)) ∧ j ∉ keep
    · rw [if_pos h2, if_neg (fun h3 => this h3.1)]
      exact hs.symm
    · rw [if_neg h2, if_neg (fun h3 => this h3.1)]
  | true =>
    have hr := h.chg j hc
    have hm : j ∈ uns D := (uns_mem h j).2 hc
    by_cases hk : j ∈ keep
    · rw [if_neg (fun h2 => h2.2 hk), if_neg (fun h2 => h2.2 hk)]
    · rw [if_pos ⟨by omega, hk⟩, if_pos ⟨hm, hk⟩]
def RcRel (B : Nat) (f : Foot) (D : Dev) (keep : List Int) (w : World) (i : Value) (wr : World) : Prop :=
  ∃ k : Nat, k ≤ D.size.toNat ∧ i = .int .i64 k ∧ RAt B wr f { D with now := rmix D keep k } ∧ Kp f.has w wr
def RcIn (w0 : World) (keep : List Int) (x : Int) (kept i : Value) (wr : World) : Prop :=
  ∃ k : Nat, k ≤ keep.length ∧ i = .int .i64 k ∧ kept = .bool ((keep.take k).contains x) ∧ w0 = wr

set_option maxHeartbeats 4000000 in
theorem rcrash_c (B : Nat) (f : Foot) (D : Dev) (N : Int) (w : World) (hok : DOk N D) (h : RAt B w f D) (kv : Value) (keep : List Int) (hkv : RdI w kv keep) (hkb : ∀ b, kv.ownBlock = some b → keep.length ≠ 0 → ¬ f.has b) (hkl : keep.length ≤ 1000000000) :
    Calls Try.prog 39 #[.pointer (some ⟨f.g, 0, none⟩), kv] w fun e w' => e = .returned (.tuple #[]) ∧ RAt B w' f (dcrash D keep) ∧ Kp f.has w w' := by
  have hsz : D.size.toNat ≤ 4096 := by have := hok.size; omega
  have hokm := Lib.hid (ok_mixed hok keep (uns D))
  have hfin : Hid (rmix D keep D.size.toNat = cmix D keep (uns D)) := rmix_end hok keep
  have h0 : Hid (RcRel B f D keep w (.int .i64 0) w) := ⟨0, Nat.zero_le _, rfl, by rw [rmix_zero]; exact h, Kp.refl _ _⟩
  have hkr : Hid (∀ W, Kp f.has w W → RdI W kv keep) := fun W hW => RdV.kp hkv hW hkb
  obtain ⟨A, kc, rfl, -⟩ := RdI.form hkv
  obtain ⟨n, hn⟩ : ∃ n, D.size.toNat = n := ⟨_, rfl⟩
  have hn' := Lib.hid hn
  rw [hn] at hsz
  clear h hok hn hkv hkb
  go_enter Try.func39, Try.ntmps39
  go_wp2
  go_loopw [4] (RcRel B f D keep w) (fun i _ => n - (intOf i).toNat)
  case atStart => exact h0.out
  case round =>
    obtain ⟨k, hk, rfl, hr, hkp⟩ := hrel
    obtain ⟨c0, c1, -⟩ := hr.cell
    unfold slV at c0 c1
    dsimp only at c0 c1
    rw [hn'.out] at c0 c1 hk
    have hkx := Lib.hid (hkr.out wr hkp)
    have hrH := Lib.hid hr
    have hkpH := Lib.hid hkp
    clear hr hkp
    by_cases hlt : k < n
    · have hkn : Hid (k < D.size.toNat) := by show _; rw [hn'.out]; exact hlt
      obtain ⟨wo, rfl⟩ : ∃ wo : World, wo = wr := ⟨_, rfl⟩
      go_wp2
      go_loopw [5, 6] (RcIn wo keep k) (fun _ i _ => keep.length - (intOf i).toNat)
      case atStart => exact ⟨0, Nat.zero_le _, rfl, by simp, rfl⟩
      case round =>
        obtain ⟨j, hj, rfl, rfl, rfl⟩ := hrel
        by_cases hjl : j < keep.length
        · obtain ⟨A', kc', he, hcell⟩ := RdI.form hkx.out
          obtain ⟨b, o, hA', hc⟩ := hcell j hjl
          injection he with e1 _ e3
          subst e1 e3 hA'
          have htk : keep.take (j + 1) = keep.take j ++ [keep[j]] := List.take_succ_eq_append_getElem hjl
          have hend : Hid (∀ bb, ((keep.take j).contains (k : Int) || (keep[j] == (k : Int))) = bb → RcIn wo keep k (.bool bb) (.int .i64 ((j : Int) + 1)) wo) := fun bb hb => by
            refine ⟨j + 1, hjl, by go_num, ?_, rfl⟩
            rw [htk, ← hb]
            congr 1
            rw [List.contains_eq_any_beq, List.contains_eq_any_beq, List.any_append]
            simp [Bool.beq_comm]
          clear htk hcell
          generalize (keep.take j).contains (k : Int) = bk at *
          generalize keep[j] = x at *
          cases bk with
          | true =>
            have hend2 := Lib.hid (hend.out true (by simp))
            go_wp2
            exact ⟨hend2.out, by simp [intOf]; omega⟩
          | false =>
            by_cases hx : x = (k : Int)
            · subst hx
              have hend2 := Lib.hid (hend.out true (by simp))
              go_wp2
              exact ⟨hend2.out, by simp [intOf]; omega⟩
            · have hxb : (x == (k : Int)) = false := by simpa using hx
              have hend2 := Lib.hid (hend.out false (by rw [hxb]; rfl))
              clear hx
              go_wp2
              exact ⟨hend2.out, by simp [intOf]; omega⟩
        · obtain rfl : j = keep.length := by omega
          rw [List.take_length]
          by_cases hmem : (k : Int) ∈ keep
          · have hct : keep.contains (k : Int) = true := by simpa using hmem
            rw [hct]
            have hend : Hid (RcRel B f D keep w (.int .i64 ((k : Int) + 1)) wo) := ⟨k + 1, hkn.out, by go_num, by rw [← rmix_keep hmem]; exact hrH.out, hkpH.out⟩
            clear hct hmem
            go_wp2
            exact ⟨hend.out, by simp [intOf]; omega⟩
          · have hct : keep.contains (k : Int) = false := by simpa using hmem
            rw [hct]
            have hr := hrH.out
            obtain ⟨v, hv, ho, hnx⟩ := hr.syn.cell k hkn.out
            have hr1 := hr.drew.putN k hkn.out v (D.synced k) (show OwnB wo.drew B v (D.synced k) from ho) hnx
            dsimp only at hr1
            rw [rmix_succ hmem] at hr1
            obtain ⟨e0, e1, -⟩ := hr1.cell
            have hv1 : (wo.drew.setCell ⟨f.bN, k, none⟩ v).cell? ⟨f.bS, k, none⟩ = some v := by
              rw [World.cell?_of_block (Below.heap_setCell _ _ _ _ (fun e => hr.ne e.symm))]
              exact hv
            have hkp2 : Kp f.has w (wo.drew.setCell ⟨f.bN, k, none⟩ v) := hkpH.out.drew.setCell (p := ⟨f.bN, k, none⟩) (.inr (.inr (.inl rfl))) v
            have hd : Hid (∀ W, W = wo.drew ∨ W = wo.drew.setCell ⟨f.bN, k, none⟩ v → W.cell? ⟨f.g, 0, none⟩ = some (slV f.bN n f.cN)) := fun W hW => by
              rcases hW with rfl | rfl
              · exact c0
              · have := e0; dsimp only at this; rw [hn'.out] at this; exact this
            have hs : Hid (∀ W, W = wo.drew ∨ W = wo.drew.setCell ⟨f.bN, k, none⟩ v → W.cell? ⟨f.g, 1, none⟩ = some (slV f.bS n f.cS)) := fun W hW => by
              rcases hW with rfl | rfl
              · exact c1
              · have := e1; dsimp only at this; rw [hn'.out] at this; exact this
            have hl : Hid (∀ W, W = wo.drew ∨ W = wo.drew.setCell ⟨f.bN, k, none⟩ v → W.cell? ⟨f.bS, k, none⟩ = some v) := fun W hW => by
              rcases hW with rfl | rfl
              · exact hv
              · exact hv1
            have hcN : Hid (∃ u, wo.drew.cell? ⟨f.bN, k, none⟩ = some u) := by
              obtain ⟨u, hu, _⟩ := hr.now.cell k hkn.out
              exact ⟨u, hu⟩
            have hfz := Lib.hid (hr.drew.fzN k)
            have hsl := Lib.hid (ownB_slice ho)
            have hend : Hid (RcRel B f D keep w (.int .i64 ((k : Int) + 1)) (wo.drew.setCell ⟨f.bN, k, none⟩ v)) := ⟨k + 1, hkn.out, by go_num, hr1, hkp2⟩
            clear hr hr1 hkp2 ho hv hv1 e0 e1 hct hmem
            generalize hw5 : wo.drew.setCell ⟨f.bN, k, none⟩ v = w5 at *
            have hw5' := Lib.hid hw5
            clear hw5
            go_wp2
            refine regionRC9 f n k v w5 rfl rfl rfl hlt hd.out hs.out hl.out hw5'.out.symm hcN.out hfz.out hsl.out ?_
            intro u
            simp only [putAll, putOne, opsRC9, List.foldl, Act.put]
            go_frame
            go_wp2
            exact ⟨hend.out, by simp [intOf]; omega⟩
    · obtain rfl : n = k := by omega
      have hr2 := hrH.out
      rw [← hn'.out, hfin.out] at hr2
      have hS := Lib.hid (rsettle_c B f { D with now := cmix D keep (uns D) } N wr hokm.out hr2)
      clear hr2
      go_wp2_with (go_at_call 58; refine hS.out.mono ?_; rintro e w4 ⟨rfl, hr4, hk4⟩; have c5 := hr4.cell.2.2.2.2.2.1; have c7 := hr4.cell.2.2.2.2.2.2.2; have f5 := hr4.fz 5; have f7 := hr4.fz 7; have hr4' := Lib.hid hr4; have hk4' := Lib.hid hk4; clear hr4 hk4)
      have h1 := hr4'.out.set 5 (.bool false) (dsettle { D with now := cmix D keep (uns D) }).steps (dsettle { D with now := cmix D keep (uns D) }).syncs (dsettle { D with now := cmix D keep (uns D) }).left false (dsettle { D with now := cmix D keep (uns D) }).down rfl
      have h2 := Lib.hid (h1.set 7 (.bool false) (dsettle { D with now := cmix D keep (uns D) }).steps (dsettle { D with now := cmix D keep (uns D) }).syncs (dsettle { D with now := cmix D keep (uns D) }).left false false rfl)
      have hF := Lib.hid (((hkpH.out.trans hk4'.out).trans (foot_set f w4 5 (.bool false))).trans (foot_set f _ 7 (.bool false)))
      clear h1
      refine Go.Great.bodyPost_end0 rfl rfl ?_
      exact ⟨rfl, h2.out, hF.out⟩
end Go.Proofs.Ytbcafhhheileeaa
