/-
  Part of the proofs of DiskPlays, SlotPlays: play, the calls that read and crash.
  Conditions: those that each theorem names.
-/
import Derived.Test.YtbcafhhheileeaaE16
namespace Go.Proofs.Ytbcafhhheileeaa
open Go.RowKit
set_option maxRecDepth 100000

def dread (D : Dev) (at_ : Int) : Int × List Int := if at_ < 0 ∨ D.size ≤ at_ then (1, []) else if D.down = true then (3, []) else (0, D.now at_)
theorem read_c (B d : Nat) (D : Dev) (N : Int) (w : World) (hok : DOk N D) (h : DRep B w d D) (at_ : Int) :
    Calls Try.prog 11 #[.pointer (some ⟨d, 0, none⟩), .int .i64 at_] w fun e w' => ∃ u, e = .returned (.tuple #[u, errV (dread D at_).1]) ∧ OwnB w' w.heap.size u (dread D at_).2 ∧ Below w.heap.size w w' := by
  by_cases hb : at_ < 0 ∨ D.size ≤ at_
  · have e1 : dread D at_ = (1, []) := by unfold dread; rw [if_pos hb]
    rw [e1]
    refine (read_bad B d D w h at_ hb).mono ?_
    rintro e w' ⟨rfl, rfl⟩
    exact ⟨_, rfl, World.ownsRow_nil _ _ _ _, Below.refl _ _⟩
  · by_cases hd : D.down = true
    · have e1 : dread D at_ = (3, []) := by unfold dread; rw [if_neg hb, if_pos hd]
      rw [e1]
      refine (read_down B d D w h at_ (by omega) (by omega) hd).mono ?_
      rintro e w' ⟨rfl, rfl⟩
      exact ⟨_, rfl, World.ownsRow_nil _ _ _ _, Below.refl _ _⟩
    · have e1 : dread D at_ = (0, D.now at_) := by unfold dread; rw [if_neg hb, if_neg hd]
      rw [e1]
      refine (read_ok B d D N w hok h at_ (by omega) (by omega) (by simpa using hd)).mono ?_
      rintro e w' ⟨u, rfl, h1, h2⟩
      exact ⟨u, rfl, h1, h2⟩
theorem rread_d (B : Nat) (f : Foot) (D : Dev) (w : World) (h : RAt B w f D) (hs : 1 ≤ D.size ∧ D.size ≤ 4096) (at_ : Int) :
    Calls Try.prog 36 #[.pointer (some ⟨f.g, 0, none⟩), .int .i64 at_] w fun e w' => w = w' ∧ ∃ u, e = .returned (.tuple #[u, .int .i64 (dread D at_).1]) ∧ OwnB w B u (dread D at_).2 := by
  refine (rread_c B f D w h hs at_).mono ?_
  rintro e w' ⟨h1, u, h2, h3⟩
  have e1 : (if at_ < 0 ∨ D.size ≤ at_ then 1 else if D.down = true then 3 else 0) = (dread D at_).1 := by
    unfold dread; split; rfl; split <;> rfl
  have e2 : (if at_ < 0 ∨ D.size ≤ at_ then [] else if D.down = true then [] else D.now at_) = (dread D at_).2 := by
    unfold dread; split; rfl; split <;> rfl
  rw [e1] at h2
  rw [e2] at h3
  exact ⟨h1, u, h2, h3⟩
/-- what was made since W0 is written over: both devices stay -/
theorem over_new {B d : Nat} {f : Foot} {D D' : Dev} {W0 w w' : World} {u : Value} {m : Nat} {xs : List Value} (hr : RAt B W0 f D') (hx : f.x = none) (hd : DRep B w d D) (hb : Below W0.heap.size W0 w) (hu : w.ownsRow W0.heap.size 5 1 u m xs) (hg : w.grownBy w' u.ownBlock) :
    DRep B w' d D ∧ RAt B w' f D' ∧ Below W0.heap.size W0 w' := by
  have hk : Kp (fun b => u.ownBlock = some b) w w' := Kp.of_grown hg (fun b hb _ => hb)
  have h5 : ∀ b, u.ownBlock = some b → ∃ cur, w.heap[b]? = some (.cells cur 5 (0, 0)) := fun b hb => own_ty hu hb
  refine ⟨hd.kp hk fun b o hb ho => ?_, ?_, hb.trans (hk.below (fun b hb' => (hu.lt b hb').1) hb.size)⟩
  · obtain ⟨cur, hc⟩ := h5 b hb
    rw [ho] at hc
    injection hc with hc
    subst hc
    rfl
  · cases hub : u.ownBlock with
    | none => exact (hr.below hb).kp (X := fun _ => False) (hk.mono (fun b _ h => by rw [hub] at h; cases h)) (fun _ _ _ h => h.elim) (fun _ _ h => h)
    | some g =>
      have hgS := (hu.lt g hub).1
      have h1 := (hr.reX g hgS).below hb
      have h2 := h1.turn (y := g) rfl (fun hf => by
        obtain ⟨cur, hc⟩ := h5 g hub
        exact h1.not5 g cur _ hf hc) (hk.mono (fun b _ h => by rw [hub] at h; injection h with h; exact h.symm))
      have h3 := h2.noX
      have hff : ({ f with x := none } : Foot) = f := by cases f; cases hx; rfl
      rw [hff] at h3
      exact h3

theorem play2 (B d : Nat) (f : Foot) (D : Dev) (M : Int) (o : OpS) (w : World) (h : PlayIn B d f D M o w) (hk : o.kind = 2) :
    Calls Try.prog 16 #[.pointer (some ⟨d, 0, none⟩), .pointer (some ⟨f.g, 0, none⟩), .agg (opVals o)] w (PlayPost B d f D w) := by
  rw [opV_eq]
  have hJ := Lib.hid h.boxed
  have hH := Lib.hid h
  obtain ⟨A1, c1, hv1⟩ := RdB.any h.bv
  obtain ⟨A2, c2, hv2, -⟩ := RdI.form h.kv
  rw [hv1, hv2, hk] at hJ
  rw [hv1, hv2, hk]
  clear h hv1 hv2
  have hL : Hid ((dread D o.at_).2.length ≤ 1000000000) := by
    show _ ≤ _
    unfold dread
    split
    · simp
    · split
      · simp
      · have := hH.out.ok.lnow o.at_
        show (D.now o.at_).length ≤ _
        omega
  have hR := Lib.hid (read_c B d D M _ hH.out.ok hJ.out.dr o.at_)
  have hsz := hH.out.ok.size
  generalize hxs : (dread D o.at_).2 = xs at *
  generalize hrn : (dread D o.at_).1 = rn at *
  have hxsH := Lib.hid hxs
  have hrnH := Lib.hid hrn
  clear hxs hrn
  generalize o.at_ = at_ at *
  generalize o.n = n at *
  generalize o.bytes.length = L1 at *
  generalize o.keep.length = L2 at *
  go_enter Try.func16, Try.ntmps16
  go_wp2_with (first
    | (go_at_call 11; refine hR.out.mono ?_; rintro e w1 ⟨u, rfl, hu, hb1⟩; obtain ⟨Au, cu, rfl⟩ := own_form hu; have huH := Lib.hid hu; have hb1H := Lib.hid hb1; have hJ1 := Lib.hid (hJ.out.below hb1); have q1 := hJ1.out.c0.2.1; have cb1 := conv_b (RdV.of_own hu); clear hu hb1)
    | (go_at_call 36; refine (rread_d B f D w1 hJ1.out.ra hsz at_).mono ?_; rintro e w2 ⟨rfl, v, rfl, hv⟩; rw [hxsH.out] at hv; rw [hrnH.out]; obtain ⟨Av, cv, rfl⟩ := own_form hv; have cb2 := conv_b (RdV.of_own hv); clear hv)
    | (go_at_call 14; refine (num_c _ _).mono ?_; rintro e w3 ⟨rfl, rfl⟩)
    | (go_at_call 10; refine (over_c _ _ xs w1 huH.out hL.out).mono ?_; rintro e w4 ⟨rfl, -, hg4⟩; have hg4H := Lib.hid hg4; clear hg4 cb1 cb2))
  go_ret
  obtain ⟨h1, h2, h3⟩ := over_new hJ.out.ra hH.out.nx hJ1.out.dr hb1H.out huH.out hg4H.out
  exact ⟨rfl, h1, h2, hJ.out.bel.trans (h3.mono (hJ.out.base))⟩
end Go.Proofs.Ytbcafhhheileeaa
