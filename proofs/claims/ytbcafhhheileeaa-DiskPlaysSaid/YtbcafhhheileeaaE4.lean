/-
  Part of the proofs of DiskPlays, SlotPlays: the document's device, settle, Sync, Crash, Unsynced.
  Conditions: those that each theorem names.
-/
import Derived.Test.YtbcafhhheileeaaE3
namespace Go.Proofs.Ytbcafhhheileeaa
open Go.RowKit
set_option maxRecDepth 100000

def putBB (f : Int → Bool) (k : Int) (b : Bool) : Int → Bool := fun j => if j = k then b else f j
section
variable {B : Nat} {w w' : World} {f : Foot} {D : Dev}
theorem RAt.neg (h : RAt B w f D) : f.g ≠ f.bN ∧ f.g ≠ f.bS ∧ f.g ≠ f.bC ∧ f.bN ≠ f.bC ∧ f.bS ≠ f.bC := by
  have h0 := h.blk
  obtain ⟨c1, e1, _⟩ := h.now.blk
  obtain ⟨c2, e2, _⟩ := h.syn.blk
  obtain ⟨c3, e3, _⟩ := own_blk h.chg
  refine ⟨fun e => ?_, fun e => ?_, fun e => ?_, fun e => ?_, fun e => ?_⟩
  · rw [← e, h0] at e1; cases e1
  · rw [← e, h0] at e2; cases e2
  · rw [← e, h0] at e3; cases e3
  · rw [← e, e1] at e3; cases e3
  · rw [← e, e2] at e3; cases e3
theorem RAt.n5 (h : RAt B w f D) {b : Nat} (hb : f.has b) : notTy w (fun k => k = b) 5 := fun b' cur z hb' hc => by
  subst hb'
  exact h.not5 b' cur z hb hc
theorem RAt.putN (h : RAt B w f D) (i : Nat) (hi : i < D.size.toNat) (v : Value) (xs : List Int) (hv : OwnB w B v xs) (hnx : notX f.x v) : RAt B (w.setCell ⟨f.bN, i, none⟩ v) f { D with now := put D.now i xs } := by
  have hk := kp_set w f.bN i v
  have h5 := h.n5 (.inr (.inl rfl))
  obtain ⟨n1, n2, n3, n4, n5⟩ := h.neg
  exact ⟨h.b0, (hk.keep _ (h.lt _ (.inl rfl)) n1).trans h.blk, h.now.put i hi v xs hv hnx, h.syn.kp hk h5 (fun e => h.ne e.symm), own_kp h.chg hk (fun b hb e => by injection hb with hb; exact n4 (e.symm.trans hb.symm)), h.ne⟩
theorem RAt.putS (h : RAt B w f D) (i : Nat) (hi : i < D.size.toNat) (v : Value) (xs : List Int) (hv : OwnB w B v xs) (hnx : notX f.x v) : RAt B (w.setCell ⟨f.bS, i, none⟩ v) f { D with synced := put D.synced i xs } := by
  have hk := kp_set w f.bS i v
  have h5 := h.n5 (.inr (.inr (.inl rfl)))
  obtain ⟨n1, n2, n3, n4, n5⟩ := h.neg
  exact ⟨h.b0, (hk.keep _ (h.lt _ (.inl rfl)) n2).trans h.blk, h.now.kp hk h5 h.ne, h.syn.put i hi v xs hv hnx, own_kp h.chg hk (fun b hb e => by injection hb with hb; exact n5 (e.symm.trans hb.symm)), h.ne⟩
theorem RAt.putC (h : RAt B w f D) (i : Nat) (b : Bool) : RAt B (w.setCell ⟨f.bC, i, none⟩ (.bool b)) f { D with chg := putBB D.chg i b } := by
  have hk := kp_set w f.bC i (.bool b)
  have h5 := h.n5 (.inr (.inr (.inr rfl)))
  obtain ⟨n1, n2, n3, n4, n5⟩ := h.neg
  refine ⟨h.b0, (hk.keep _ (h.lt _ (.inl rfl)) n3).trans h.blk, h.now.kp hk h5 n4, h.syn.kp hk h5 n5, ?_, h.ne⟩
  have := (h.chg.stored i (.bool b)).1
  have e : ((List.range D.size.toNat).map fun i : Nat => Value.bool (D.chg i)).set i (.bool b) = (List.range D.size.toNat).map fun j : Nat => Value.bool (putBB D.chg i b j) := by
    apply List.ext_getElem
    · simp
    · intro j h1 h2
      rw [List.getElem_set]
      simp only [List.getElem_map, List.getElem_range]
      unfold putBB
      by_cases hij : i = j
      · subst hij; rw [if_pos rfl, if_pos rfl]
      · rw [if_neg hij, if_neg (by omega)]
  rw [e] at this
  exact this
theorem RAt.cellN (h : RAt B w f D) (i : Nat) (hi : i < D.size.toNat) : ∃ v, w.cell? ⟨f.bN, i, none⟩ = some v ∧ OwnB w B v (D.now i) ∧ notX f.x v := h.now.cell i hi
theorem RAt.cellC (h : RAt B w f D) (i : Nat) (hi : i < D.size.toNat) : w.cell? ⟨f.bC, i, none⟩ = some (.bool (D.chg i)) := by
  have := h.chg.cellAt i (by omega)
  rw [this]
  simp [hi]
theorem RAt.fzN (h : RAt B w f D) (i : Nat) : w.frozen? ⟨f.bN, i, none⟩ = false := h.now.fz i
theorem RAt.fzS (h : RAt B w f D) (i : Nat) : w.frozen? ⟨f.bS, i, none⟩ = false := h.syn.fz i
theorem RAt.fzC (h : RAt B w f D) (i : Nat) : w.frozen? ⟨f.bC, i, none⟩ = false := h.chg.frozenAt i
theorem ownB_slice {v : Value} {xs : List Int} (h : OwnB w B v xs) : ∃ A n c, v = .slice A n c := by
  obtain ⟨A, c, rfl⟩ := own_form h
  exact ⟨_, _, _, rfl⟩
end

/-! ### settle -/
def smix (D : Dev) (k : Nat) (j : Int) : List Int := if 0 ≤ j ∧ j < k then D.now j else D.synced j
def bmix (D : Dev) (k : Nat) (j : Int) : Bool := if 0 ≤ j ∧ j < k then false else D.chg j
theorem smix_zero (D : Dev) : smix D 0 = D.synced := by
  funext j; unfold smix; rw [if_neg (by omega)]
theorem bmix_zero (D : Dev) : bmix D 0 = D.chg := by
  funext j; unfold bmix; rw [if_neg (by omega)]
theorem smix_succ (D : Dev) (k : Nat) : put (smix D k) k (D.now k) = smix D (k + 1) := by
  funext j; unfold put smix
  by_cases h : j = k
  · subst h; rw [if_pos rfl, if_pos (by omega)]
  · rw [if_neg h]
    by_cases h2 : 0 ≤ j ∧ j < k
    · rw [if_pos h2, if_pos (by omega)]
    · rw [if_neg h2, if_neg (by omega)]
theorem bmix_succ (D : Dev) (k : Nat) : putBB (bmix D k) k false = bmix D (k + 1) := by
  funext j; unfold putBB bmix
  by_cases h : j = k
  · subst h; rw [if_pos rfl, if_pos (by omega)]
  · rw [if_neg h]
    by_cases h2 : 0 ≤ j ∧ j < k
    · rw [if_pos h2, if_pos (by omega)]
    · rw [if_neg h2, if_neg (by omega)]
theorem smix_end {N : Int} {D : Dev} (h : DOk N D) : smix D D.size.toNat = D.now := by
  funext j; unfold smix
  by_cases h2 : 0 ≤ j ∧ j < (D.size.toNat : Nat)
  · rw [if_pos h2]
  · rw [if_neg h2]
    refine (h.same j ?_).symm
    cases hc : D.chg j with
    | false => rfl
    | true => have := h.chg j hc; omega
theorem bmix_end {N : Int} {D : Dev} (h : DOk N D) : bmix D D.size.toNat = fun _ => false := by
  funext j; unfold bmix
  by_cases h2 : 0 ≤ j ∧ j < (D.size.toNat : Nat)
  · rw [if_pos h2]
  · rw [if_neg h2]
    cases hc : D.chg j with
    | false => rfl
    | true => have := h.chg j hc; omega
def RsRel (B : Nat) (f : Foot) (D : Dev) (w : World) (i : Value) (wr : World) : Prop :=
  ∃ k : Nat, k ≤ D.size.toNat ∧ i = .int .i64 k ∧ RAt B wr f { D with synced := smix D k, chg := bmix D k } ∧ Kp f.has w wr

set_option maxHeartbeats 2000000 in
theorem rsettle_c (B : Nat) (f : Foot) (D : Dev) (N : Int) (w : World) (hok : DOk N D) (h : RAt B w f D) :
    Calls Try.prog 58 #[.pointer (some ⟨f.g, 0, none⟩)] w fun e w' => e = .returned (.tuple #[]) ∧ RAt B w' f (dsettle D) ∧ Kp f.has w w' := by
  have hsz : D.size.toNat ≤ 4096 := by have := hok.size; omega
  have hfin : Hid (({ D with synced := smix D D.size.toNat, chg := bmix D D.size.toNat } : Dev) = dsettle D) := by
    show _ = _
    rw [smix_end hok, bmix_end hok]
    rfl
  have h0 : Hid (RsRel B f D w (.int .i64 0) w) := ⟨0, Nat.zero_le _, rfl, by rw [smix_zero, bmix_zero]; exact h, Kp.refl _ _⟩
  obtain ⟨n, hn⟩ : ∃ n, D.size.toNat = n := ⟨_, rfl⟩
  have hn' := Lib.hid hn
  rw [hn] at hsz
  clear h hok hn
  go_enter Try.func58, Try.ntmps58
  go_wp2
  go_loopw [2] (RsRel B f D w) (fun i _ => n - (intOf i).toNat)
  case atStart => exact h0.out
  case round =>
    obtain ⟨k, hk, rfl, hr, hkp⟩ := hrel
    obtain ⟨c0, c1, c2, -⟩ := hr.cell
    unfold slV at c0 c1 c2
    dsimp only at c0 c1 c2
    rw [hn'.out] at c0 c1 c2 hk
    by_cases hlt : k < n
    · have hkn : k < D.size.toNat := by rw [hn'.out]; exact hlt
      obtain ⟨v, hv, ho, hnx⟩ := hr.cellN k hkn
      have hr1 := hr.drew.putS k hkn v (D.now k) (show OwnB wr.drew B v (D.now k) from ho) hnx
      dsimp only at hr1
      rw [smix_succ] at hr1
      obtain ⟨e0, e1, -⟩ := hr1.cell
      have hv1 : (wr.drew.setCell ⟨f.bS, k, none⟩ v).cell? ⟨f.bN, k, none⟩ = some v := by
        rw [World.cell?_of_block (Below.heap_setCell _ _ _ _ hr.ne)]
        exact hv
      have hr2 := hr1.putC k false
      dsimp only at hr2
      rw [bmix_succ] at hr2
      have hcS : ∃ u, wr.drew.cell? ⟨f.bS, k, none⟩ = some u := by
        obtain ⟨u, hu, _⟩ := hr.syn.cell k hkn
        exact ⟨u, hu⟩
      have hkp2 : Kp f.has w ((wr.drew.setCell ⟨f.bS, k, none⟩ v).setCell ⟨f.bC, k, none⟩ (.bool false)) :=
        (hkp.drew.setCell (p := ⟨f.bS, k, none⟩) (.inr (.inr (.inr (.inl rfl)))) v).setCell (p := ⟨f.bC, k, none⟩) (.inr (.inr (.inr (.inr rfl)))) _
      have hd : Hid (∀ W, W = wr.drew ∨ W = wr.drew.setCell ⟨f.bS, k, none⟩ v → W.cell? ⟨f.g, 1, none⟩ = some (slV f.bS n f.cS)) := fun W hW => by
        rcases hW with rfl | rfl
        · exact c1
        · have := e1; dsimp only at this; rw [hn'.out] at this; exact this
      have hs : Hid (∀ W, W = wr.drew ∨ W = wr.drew.setCell ⟨f.bS, k, none⟩ v → W.cell? ⟨f.g, 0, none⟩ = some (slV f.bN n f.cN)) := fun W hW => by
        rcases hW with rfl | rfl
        · exact c0
        · have := e0; dsimp only at this; rw [hn'.out] at this; exact this
      have hl : Hid (∀ W, W = wr.drew ∨ W = wr.drew.setCell ⟨f.bS, k, none⟩ v → W.cell? ⟨f.bN, k, none⟩ = some v) := fun W hW => by
        rcases hW with rfl | rfl
        · exact hv
        · exact hv1
      have hcS' := Lib.hid hcS
      have hfz := Lib.hid (hr.drew.fzS k)
      have hsl := Lib.hid (ownB_slice ho)
      have hcC1 := hr1.cellC k hkn
      have hfC1 := hr1.fzC k
      have e2 := hr1.cell.2.2.1
      unfold slV at e2
      dsimp only at e2
      rw [hn'.out] at e2
      have hend : Hid (RsRel B f D w (.int .i64 ((k : Int) + 1)) ((wr.drew.setCell ⟨f.bS, k, none⟩ v).setCell ⟨f.bC, k, none⟩ (.bool false))) := ⟨k + 1, hkn, by go_num, hr2, hkp2⟩
      clear hr hkp hr1 hr2 hkp2 ho hv hv1 hcS e0 e1 c1 c2
      generalize hw5 : wr.drew.setCell ⟨f.bS, k, none⟩ v = w5 at *
      have hw5' := Lib.hid hw5
      clear hw5
      go_wp2
      refine regionRS3 f n k v w5 rfl rfl rfl hlt hd.out hs.out hl.out hw5'.out.symm hcS'.out hfz.out hsl.out ?_
      intro u
      simp only [putAll, putOne, opsRS3, List.foldl, Act.put]
      go_frame
      go_wp2
      exact ⟨hend.out, by simp [intOf]; omega⟩
    · obtain rfl : k = n := by omega
      have hkp' := Lib.hid hkp
      have hr' : Hid (RAt B wr f (dsettle D)) := by
        have h2 := hr
        rw [← hn'.out, hfin.out] at h2
        exact h2
      clear hr hkp c1 c2
      go_wp2
      refine Go.Great.bodyPost_end0 rfl rfl ?_
      exact ⟨rfl, hr'.out, hkp'.out⟩
end Go.Proofs.Ytbcafhhheileeaa
