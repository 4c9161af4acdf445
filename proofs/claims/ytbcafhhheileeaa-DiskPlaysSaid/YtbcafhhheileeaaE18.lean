/-
  Part of the proofs of DiskPlays, SlotPlays: play, whole.
  Conditions: those that each theorem names.
-/
import Derived.Test.YtbcafhhheileeaaE17
namespace Go.Proofs.Ytbcafhhheileeaa
open Go.RowKit
set_option maxRecDepth 100000

theorem own_fr {w w' : World} {B S e : Nat} {v : Value} {n : Nat} {xs : List Value} (h : w.ownsRow S e 1 v n xs) (hf : Fr B tagD w w') (he : e ≠ 77) : w'.ownsRow S e 1 v n xs := by
  refine ⟨h.1, ?_⟩
  rcases h.2 with h2 | ⟨g, cap, cur, rfl, h3, h4, h5⟩
  · exact .inl h2
  · exact .inr ⟨g, cap, cur, rfl, h3, hf.keep _ _ h4 (.inr (by simp [tagD]; exact he)), h5⟩
theorem own_foot3 {B S : Nat} {w w' : World} {f : Foot} {D : Dev} {v : Value} {n : Nat} {xs : List Value} (hr : RAt B w f D) (h : w.ownsRow S 3 1 v n xs) (hk : Kp f.has w w') : w'.ownsRow S 3 1 v n xs :=
  own_kp h hk fun b hb hf => by
    obtain ⟨cur, hc⟩ := own_ty h hb
    obtain ⟨_, cur2, e, hc2, he⟩ := hr.foot b hf
    rw [hc] at hc2
    injection hc2 with hc2
    injection hc2 with _ hc2 _
    subst hc2
    rcases he with he | he | he <;> cases he
theorem rd_ints {w : World} {S : Nat} {v : Value} {xs : List Int} (h : w.ownsRow S 3 1 v xs.length (ints xs)) : RdI w v xs := RdV.of_own h

set_option maxHeartbeats 1000000 in
theorem play5 (B d : Nat) (f : Foot) (D : Dev) (M : Int) (o : OpS) (w : World) (h : PlayIn B d f D M o w) (hk : o.kind ≠ 0 ∧ o.kind ≠ 1 ∧ o.kind ≠ 2 ∧ o.kind ≠ 3 ∧ o.kind ≠ 4) :
    Calls Try.prog 16 #[.pointer (some ⟨d, 0, none⟩), .pointer (some ⟨f.g, 0, none⟩), .agg (opVals o)] w (PlayPost B d f (dcrash D o.keep) w) := by
  rw [opV_eq]
  have hJ := Lib.hid h.boxed
  have hok := Lib.hid h.ok
  obtain ⟨k0, k1, k2, k3, k4⟩ := hk
  have b0 : (o.kind == 0) = false := by simpa using k0
  have b1 : (o.kind == 1) = false := by simpa using k1
  have b2 : (o.kind == 2) = false := by simpa using k2
  have b3 : (o.kind == 3) = false := by simpa using k3
  have b4 : (o.kind == 4) = false := by simpa using k4
  obtain ⟨A1, c1, hv1⟩ := RdB.any h.bv
  obtain ⟨A2, c2, hv2, -⟩ := RdI.form h.kv
  have hkv := h.kv
  have hkvb := h.kvb
  have hkl := h.kl
  have hal : Below w.heap.size w (w.alloc (.cells #[.int .i64 o.kind, .int .i64 o.at_, .int .i64 o.n, o.bv, o.kv] 45)) := (Below.refl _ _).alloc (Nat.le_refl _) _
  have hkv0 := Lib.hid (RdV.below hkv hal)
  have hkvB : Hid (∀ W, Below B w W → RdI W o.kv o.keep) := fun W hW => RdV.keep hkv (fun b hb hn _ => hW.block b (hkvb b hb hn)) hW.size
  have hkvbH := Lib.hid hkvb
  rw [hv2] at hkv0 hkvB hkvbH
  rw [hv1, hv2] at hJ
  rw [hv1] at hkv0
  rw [hv1, hv2]
  clear h hv1 hv2 hkv hkvb hal k0 k1 k2 k3 k4
  generalize hks : o.keep = ks at *
  have hksH := Lib.hid hks
  clear hks
  generalize o.kind = kd at *
  generalize o.at_ = at_ at *
  generalize o.n = n at *
  generalize o.bytes.length = L1 at *
  generalize hW0 : w.alloc (.cells #[.int .i64 kd, .int .i64 at_, .int .i64 n, .slice A1 L1 c1, .slice A2 ks.length c2] 45) = W0 at *
  have hw1 : Below W0.heap.size W0 (W0.alloc (.cells #[] 3)) := (Below.refl _ _).alloc (Nat.le_refl _) _
  have hkv1 := Lib.hid (RdV.below hkv0.out hw1)
  have heS : W0.heap.size = w.heap.size + 1 := by rw [← hW0]; simp
  have hown00 : (W0.alloc (.cells #[] 3)).ownsRow W0.heap.size 3 1 (.slice (some ⟨W0.heap.size, 0, none⟩) 0 0) 0 [] := World.ownsRow_made W0 #[] 0 (Nat.le_refl _) (Nat.zero_le _) rfl
  have hwB : Hid (Below W0.heap.size W0 (W0.alloc (.cells #[] 3))) := hw1
  rw [heS] at hown00 hw1
  have hown0 := Lib.hid hown00
  clear hown00
  have heSH := Lib.hid heS
  clear heS
  have hw1H := Lib.hid hw1
  have hone : Hid (∀ y ∈ ints ks, y.oneCell' = true) := fun y hy => by
    obtain ⟨x, _, rfl⟩ := List.mem_map.1 hy
    rfl
  have hsz1 : Hid (w.heap.size + 1 ≤ (W0.alloc (.cells #[] 3)).heap.size) := by have := hwB.out.size; rw [heSH.out] at this; exact this
  have hl0 : Hid ((0 + ks.length) * 8 ≤ 140737488355328) := by show _ ≤ _; omega
  clear hw1
  subst hW0
  go_enter Try.func16, Try.ntmps16
  go_wp2_with (first
    | (at_builtin; refine wpList_app _ rfl _ _ _ rfl E43 rfl hown0.out rfl hkv1.out hone.out hl0.out hsz1.out ?_; intro A3 c3 w3 hown3 hg3; rw [Nat.zero_add] at hown3 ⊢; rw [List.nil_append] at hown3; have hb3 := Lib.hid (hwB.out.grown hg3 hwB.out.size (fun b hb => heSH.out ▸ (hown0.out.lt b hb).1)); have hown3H := Lib.hid hown3; have hJ3 := Lib.hid (hJ.out.below hb3.out); clear hown3 hg3)
    | (go_at_call 28; refine (crash_c B d D M w3 hok.out hJ3.out.dr _ ks (rd_ints hown3H.out) (by omega)).mono ?_; rintro e w4 ⟨rfl, hd4, hf4⟩; have hJ4 := Lib.hid (hJ3.out.stepD hd4 hf4); have hown4 := Lib.hid (own_fr hown3H.out hf4 (by decide)); have q4 := hJ4.out.c0.2.2.2.2; clear hd4 hf4)
    | (go_at_call 39; refine (rcrash_c B f D M w4 hok.out hJ4.out.ra _ ks (hkvB.out w4 hJ4.out.bel) (fun b hb hn hf => by have h1 := hkvbH.out b hb hn; have h2 := (hJ4.out.ra.foot b hf).1; omega) (by omega)).mono ?_; rintro e w5 ⟨rfl, hr5, hk5⟩; have hJ5 := Lib.hid (hJ4.out.stepM hr5 hk5); have hown5 := Lib.hid (own_foot3 hJ4.out.ra hown4.out hk5); have q5 := hJ5.out.c0.2.2.2.2; clear hr5 hk5)
    | (go_at_call 20; refine (ints_c _ _ ks w5 (by omega) (rd_ints hown5.out) (hkvB.out w5 hJ5.out.bel)).mono ?_; rintro e w6 ⟨rfl, hk6⟩; have hk6H := Lib.hid hk6; clear hk6))
  go_ret
  have hb6 : Below w5.heap.size w5 w6 := hk6H.out.below (fun _ h => h.elim) (Nat.le_refl _)
  have hJ6 := hJ5.out.below hb6
  rw [← hksH.out]
  rw [← hksH.out] at hJ6
  exact ⟨rfl, hJ6.dr, hJ6.ra, hJ6.bel⟩

theorem play_c (B d : Nat) (f : Foot) (D : Dev) (M : Int) (o : OpS) (w : World) (h : PlayIn B d f D M o w) :
    Calls Try.prog 16 #[.pointer (some ⟨d, 0, none⟩), .pointer (some ⟨f.g, 0, none⟩), .agg (opVals o)] w (PlayPost B d f (dplay D o) w) := by
  unfold dplay
  by_cases h0 : o.kind = 0
  · rw [if_pos h0]; exact play0 B d f D M o w h h0
  rw [if_neg h0]
  by_cases h1 : o.kind = 1
  · rw [if_pos h1]; exact play1 B d f D M o w h h1
  rw [if_neg h1]
  by_cases h2 : o.kind = 2
  · rw [if_pos h2]; exact play2 B d f D M o w h h2
  rw [if_neg h2]
  by_cases h3 : o.kind = 3
  · rw [if_pos h3]; exact play3 B d f D M o w h h3
  rw [if_neg h3]
  by_cases h4 : o.kind = 4
  · rw [if_pos h4]; exact play4 B d f D M o w h h4
  rw [if_neg h4]
  exact play5 B d f D M o w h ⟨h0, h1, h2, h3, h4⟩
theorem lo_step {M : Int} {D : Dev} (h : LOk M D) : LOk (M + 1) (dstep D).2 := by
  have h1 := h.lo
  have h2 := h.hi
  unfold dstep
  split
  · exact ⟨by dsimp only; omega, h2⟩
  · exact ⟨by dsimp only; omega, by dsimp only; omega⟩
theorem lo_mono {M M' : Int} {D : Dev} (h : LOk M D) (hm : M ≤ M') : LOk M' D := ⟨by have := h.lo; omega, h.hi⟩
theorem ok_mono {M M' : Int} {D : Dev} (h : DOk M D) (hm : M ≤ M') : DOk M' D := { h with steps := by have := h.steps; omega, syncs := by have := h.syncs; omega }
theorem ok_play {M : Int} {D : Dev} (h : DOk M D) (o : OpS) (hn : o.n ≤ 9223372036854775807) : DOk (M + 1) (dplay D o) := by
  unfold dplay
  split
  · exact ok_write h _ _
  split
  · exact ok_write h _ _
  split
  · exact ok_mono h (by omega)
  split
  · exact ok_sync h
  split
  · exact ok_mono (ok_arm h _ hn) (by omega)
  · exact ok_mono (ok_crash h _) (by omega)
theorem lo_write {M : Int} {D : Dev} (h : LOk M D) (a : Int) (b : List Int) : LOk (M + 1) (dwrite D a b).2 := by
  unfold dwrite
  split
  · exact lo_mono h (by omega)
  split
  · exact lo_mono h (by omega)
  split
  · exact lo_step h
  · exact ⟨(lo_step h).lo, (lo_step h).hi⟩
theorem lo_play {M : Int} {D : Dev} (h : LOk M D) (hM : 0 ≤ M) (o : OpS) (hn : o.n ≤ 9223372036854775807) : LOk (M + 1) (dplay D o) := by
  unfold dplay
  split
  · exact lo_write h _ _
  split
  · exact lo_write h _ _
  split
  · exact lo_mono h (by omega)
  split
  · unfold dsync
    split
    · exact lo_step h
    · exact ⟨(lo_step h).lo, (lo_step h).hi⟩
  split
  · unfold darm
    split
    · exact lo_mono h (by omega)
    · exact ⟨by dsimp only; omega, hn⟩
  · exact ⟨by have := h.lo; show -(M + 1) ≤ D.left; omega, h.hi⟩
end Go.Proofs.Ytbcafhhheileeaa
