/-
  Part of the proofs of DiskOwns, DiskPlays, SlotPlays: contracts of the device and what they need.
  Conditions: those that each theorem names.
-/
import Derived.Test.YtbcafhhheileeaaD15
namespace Go.Proofs.Ytbcafhhheileeaa
open Go.RowKit
set_option maxRecDepth 100000

def cmix (D : Dev) (keep : List Int) (done : List Int) (j : Int) : List Int := if j ∈ done ∧ j ∉ keep then D.synced j else D.now j
def dcrash (D : Dev) (keep : List Int) : Dev :=
  { D with now := cmix D keep (uns D), synced := cmix D keep (uns D), chg := fun _ => false, armed := false, down := false }
theorem cmix_start (D : Dev) (keep : List Int) : cmix D keep [] = D.now := by
  funext j
  unfold cmix
  rw [if_neg (fun h => by simp at h)]
theorem cmix_keep {D : Dev} {keep done : List Int} {k : Int} (hk : k ∈ keep) : cmix D keep (done ++ [k]) = cmix D keep done := by
  funext j
  unfold cmix
  by_cases hj : j ∈ done ∧ j ∉ keep
  · rw [if_pos hj, if_pos ⟨List.mem_append.2 (.inl hj.1), hj.2⟩]
  · rw [if_neg hj, if_neg (fun h => by
      rcases List.mem_append.1 h.1 with h1 | h1
      · exact hj ⟨h1, h.2⟩
      · rw [List.mem_singleton] at h1
        subst h1
        exact h.2 hk)]
theorem cmix_put {D : Dev} {keep done : List Int} {k : Int} (hk : k ∉ keep) : put (cmix D keep done) k (D.synced k) = cmix D keep (done ++ [k]) := by
  funext j
  unfold put cmix
  by_cases hj : j = k
  · subst hj
    rw [if_pos rfl, if_pos ⟨by simp, hk⟩]
  · rw [if_neg hj]
    by_cases h : j ∈ done ∧ j ∉ keep
    · rw [if_pos h, if_pos ⟨List.mem_append.2 (.inl h.1), h.2⟩]
    · rw [if_neg h, if_neg (fun h2 => by
        rcases List.mem_append.1 h2.1 with h1 | h1
        · exact h ⟨h1, h2.2⟩
        · exact hj (List.mem_singleton.1 h1))]

theorem ok_mixed {N : Int} {D : Dev} (h : DOk N D) (keep done : List Int) : DOk N { D with now := cmix D keep done } :=
  { h with
    lnow := fun k => by
      show (cmix D keep done k).length = 512
      unfold cmix
      split
      · exact h.lsyn k
      · exact h.lnow k
    same := fun k hk => by
      show cmix D keep done k = D.synced k
      have hk' : D.chg k = false := hk
      unfold cmix
      split
      · rfl
      · exact h.same k hk' }
theorem ok_crash {N : Int} {D : Dev} (h : DOk N D) (keep : List Int) : DOk N (dcrash D keep) := by
  have h1 := ok_settle (ok_mixed h keep (uns D))
  exact { h1 with left := fun hk => by cases (show false = true from hk) }

/-- a row of ints stays where a map turns -/
theorem RdI.im {w w' : World} {v : Value} {xs : List Int} {b : Nat} {kv : List (Int × Value)} (h : RdI w v xs) (him : IM w b kv) (hg : w.grownBy w' (some b)) : RdI w' v xs := by
  refine RdV.keep h (fun c hc hn hlt => hg.block c hlt (fun e => ?_)) hg.size
  injection e with e
  subst e
  obtain ⟨_, A, cc, rfl, _, h3⟩ := h
  rcases h3 with h3 | ⟨b, o, rfl, _, h4⟩
  · exact hn h3
  · have hx : 0 < xs.length := Nat.pos_of_ne_zero hn
    have h5 := h4 0 (.int .i64 xs[0]) (by rw [List.getElem?_map, List.getElem?_eq_getElem hx]; rfl)
    simp [Value.ownBlock] at hc
    subst hc
    obtain ⟨es, c, hb, _⟩ := him
    simp [World.cell?, hb] at h5
theorem RdI.drew {w : World} {v : Value} {xs : List Int} (h : RdI w v xs) : RdI w.drew v xs := RdV.keep h (fun _ _ _ _ => rfl) (Nat.le_refl _)
theorem RdI.form {w : World} {v : Value} {xs : List Int} (h : RdI w v xs) : ∃ A c, v = .slice A xs.length c ∧ ∀ (k : Nat) (hk : k < xs.length), ∃ b o, A = some ⟨b, o, none⟩ ∧ w.cell? ⟨b, o + k, none⟩ = some (.int .i64 xs[k]) := by
  obtain ⟨_, A, c, rfl, _, h3⟩ := h
  refine ⟨A, c, rfl, fun k hk => ?_⟩
  rcases h3 with h3 | ⟨b, o, rfl, _, h4⟩
  · omega
  · exact ⟨b, o, rfl, h4 k _ (by rw [List.getElem?_map, List.getElem?_eq_getElem hk]; rfl)⟩

def CrRel (B : Nat) (w : World) (d : Nat) (D : Dev) (kv u : Value) (keep : List Int) (i : Value) (wr : World) : Prop :=
  ∃ k : Nat, k ≤ (uns D).length ∧ i = .int .i64 k ∧ DRep B wr d { D with now := cmix D keep ((uns D).take k) } ∧ RdI wr kv keep ∧ RdI wr u (uns D) ∧ Fr B tagD w wr

set_option maxHeartbeats 4000000 in
theorem crash_c (B d : Nat) (D : Dev) (N : Int) (w : World) (hok : DOk N D) (h : DRep B w d D) (kv : Value) (keep : List Int) (hk : RdI w kv keep) (hkl : keep.length ≤ 1000000000) :
    Calls Try.prog 28 #[.pointer (some ⟨d, 0, none⟩), kv] w fun e w' => e = .returned (.tuple #[]) ∧ DRep B w' d (dcrash D keep) ∧ Fr B tagD w w' := by
  have hlen := uns_len D hok.size.2
  have hU := Lib.hid (unsynced_c B d D N w hok h)
  have h' := Lib.hid h
  have hk' := Lib.hid hk
  have hok' := Lib.hid hok
  clear h hk hok
  go_enter Try.func28, Try.ntmps28
  go_wp2_with (go_at_call 21; refine hU.out.mono ?_; rintro e w1 ⟨u, rfl, hu, hb1⟩; obtain ⟨A, c, rfl, _⟩ := RdI.form hu)
  have h0 : Hid (CrRel B w d D kv (.slice A (uns D).length c) keep (.int .i64 0) w1) := by
    refine ⟨0, Nat.zero_le _, rfl, ?_, RdV.below hk'.out hb1, hu, Fr.of_below hb1⟩
    obtain ⟨bn, bs, bc, kn, ks, kc, lf, hA⟩ := h'.out
    rw [List.take_zero, cmix_start]
    exact ⟨_, _, _, _, _, _, _, hA.below hb1⟩
  clear hu hb1
  go_loopw [11] (CrRel B w d D kv (.slice A (uns D).length c) keep) (fun i _ => (uns D).length - (intOf i).toNat)
  case atStart => exact h0.out
  case round =>
    obtain ⟨k, hk, rfl, hr, hkr, hur, hfr⟩ := hrel
    have hr' := Lib.hid hr
    have hkr' := Lib.hid hkr
    have hur' := Lib.hid hur
    have hfr' := Lib.hid hfr
    by_cases hlt : k < (uns D).length
    · obtain ⟨A', c', he, hcell⟩ := hur.form
      obtain ⟨b, o, hA', hc⟩ := hcell k hlt
      injection he with e1 _ e3
      subst e1
      subst e3
      subst hA'
      have htk : (uns D).take (k + 1) = (uns D).take k ++ [(uns D)[k]] := List.take_succ_eq_append_getElem hlt
      have hat : Hid ((uns D)[k] ∈ uns D) := List.getElem_mem hlt
      have htk' := Lib.hid htk
      clear htk hcell hr hkr hur hfr
      generalize (uns D)[k] = x at *
      by_cases hx : x ∈ keep
      · have hcx : keep.contains x = true := by simpa using hx
        have hC := contains_c kv keep x wr hkr'.out hkl
        rw [hcx] at hC
        have hC' := Lib.hid hC
        have hend : Hid (CrRel B w d D kv (.slice (some ⟨b, o, none⟩) (uns D).length c) keep (.int .i64 ((k : Int) + 1)) wr) :=
          ⟨k + 1, hlt, rfl, by rw [htk'.out, cmix_keep hx]; exact hr'.out, hkr'.out, hur'.out, hfr'.out⟩
        clear hcx hx hC
        go_wp2_with (go_at_call 54; refine hC'.out.mono ?_; rintro e w2 ⟨rfl, rfl⟩)
        exact ⟨hend.out, by simp [intOf]; omega⟩
      · have hcx : keep.contains x = false := by simpa using hx
        have hC := contains_c kv keep x wr hkr'.out hkl
        rw [hcx] at hC
        have hC' := Lib.hid hC
        obtain ⟨bn, bs, bc, kn, ks, kc, lf, hA⟩ := hr'.out
        obtain ⟨w5, hu5, hA5, hg5⟩ := hA.drew.putN x (D.synced x)
        have hfr5 : Fr B tagD w w5 := hfr'.out.drew.stepIM (w := wr.drew) (fun _ _ => rfl) hA.drew.now hA.bb.1 hg5
        dsimp only at hA5
        rw [cmix_put hx, ← htk'.out] at hA5
        have hkr5 := RdI.im (RdI.drew hkr'.out) hA.drew.now hg5
        have hur5 := RdI.im (RdI.drew hur'.out) hA.drew.now hg5
        have hd3 : ∀ W, W = wr.drew ∨ W = w5 → W.cell? ⟨d, 6, none⟩ = some (.map (some bn)) := fun W hW => by
          rcases hW with rfl | rfl
          · exact hA.drew.c6
          · exact hA5.c6
        have hs3 : ∀ W, W = wr.drew ∨ W = w5 → W.cell? ⟨d, 7, none⟩ = some (.map (some bs)) := fun W hW => by
          rcases hW with rfl | rfl
          · exact hA.drew.c7
          · exact hA5.c7
        have hl3 : ∀ W, W = wr.drew ∨ W = w5 → (Instr.lookup 67 (.map (some bs)) (.int .i64 x) false).run Try.prog W = .ok (secV (D.synced x)) W := fun W hW => by
          rcases hW with rfl | rfl
          · exact hA.drew.lookS x
          · exact hA5.lookS x
        have hd3 := Lib.hid hd3
        have hs3 := Lib.hid hs3
        have hl3 := Lib.hid hl3
        have hu5 := Lib.hid hu5
        have hend : Hid (CrRel B w d D kv (.slice (some ⟨b, o, none⟩) (uns D).length c) keep (.int .i64 ((k : Int) + 1)) w5) :=
          ⟨k + 1, hlt, rfl, ⟨_, _, _, _, _, _, _, hA5⟩, hkr5, hur5, hfr5⟩
        clear hcx hx hC hA hA5 hg5 hfr5 hkr5 hur5
        go_wp2_with (go_at_call 54; refine hC'.out.mono ?_; rintro e w2 ⟨rfl, rfl⟩)
        refine regionC5 d bn bs x (secV (D.synced x)) rfl rfl rfl hd3.out hs3.out hl3.out hu5.out ?_
        intro u
        simp only [putAll, putOne, opsC5, List.foldl, Act.put]
        go_frame
        go_wp2
        exact ⟨hend.out, by simp [intOf]; omega⟩
    · have hk2 : k = (uns D).length := by omega
      subst hk2
      rw [List.take_length] at hr'
      have hokm := ok_mixed hok'.out keep (uns D)
      have hS := Lib.hid (settle_c B d { D with now := cmix D keep (uns D) } N wr hokm hr'.out)
      clear hokm hr hkr hur hfr
      go_wp2_with (go_at_call 53; refine hS.out.mono ?_; rintro e w4 ⟨rfl, hr4, hfr4⟩; obtain ⟨bn, bs, bc, kn, ks, kc, lf, hA0⟩ := hr4; have c3 := hA0.c3; have c4 := hA0.c4; have f3 := hA0.fz 3; have f4 := hA0.fz 4; have hA' := Lib.hid hA0; clear hA0)
      have hA := hA'.out
      have h1 := hA.set 3 (.bool false) lf (dsettle { D with now := cmix D keep (uns D) }).steps (dsettle { D with now := cmix D keep (uns D) }).syncs (dsettle { D with now := cmix D keep (uns D) }).left false (dsettle { D with now := cmix D keep (uns D) }).down rfl (fun e => by cases e)
      have h2 := Lib.hid (h1.set 4 (.bool false) lf (dsettle { D with now := cmix D keep (uns D) }).steps (dsettle { D with now := cmix D keep (uns D) }).syncs (dsettle { D with now := cmix D keep (uns D) }).left false false rfl (fun e => by cases e))
      have hF := Lib.hid (h1.frSet (hA.frSet (hfr'.out.trans hfr4) 3 (.bool false)) 4 (.bool false))
      clear hA h1 hfr4
      refine Go.Great.bodyPost_end0 rfl rfl ?_
      exact ⟨rfl, ⟨_, _, _, _, _, _, _, h2.out⟩, hF.out⟩
end Go.Proofs.Ytbcafhhheileeaa
