/-
  Part of the proofs of DiskOwns, DiskPlays, SlotPlays: contracts of the device and what they need.
  Conditions: those that each theorem names.
-/
import Derived.Test.YtbcafhhheileeaaD17
namespace Go.Proofs.Ytbcafhhheileeaa
open Go.RowKit
set_option maxRecDepth 100000

def fl (n : Int) : List Int := List.replicate 512 (b8 n)
theorem fl_len (n : Int) : (fl n).length = 512 := List.length_replicate
theorem dstep_up {D : Dev} (h1 : D.armed = false) (h2 : D.down = false) : dstep D = (0, { D with left := D.left - 1, steps := D.steps + 1 }) := by
  unfold dstep
  rw [h1, h2]
  rfl
theorem dwrite_up {D : Dev} {at_ : Int} {bs : List Int} (h1 : D.armed = false) (h2 : D.down = false) (h3 : 0 ≤ at_) (h4 : at_ < D.size) (h5 : bs.length = 512) :
    dwrite D at_ bs = (0, { D with left := D.left - 1, steps := D.steps + 1, now := put D.now at_ bs, chg := putB D.chg at_ }) := by
  unfold dwrite
  rw [if_neg (by omega), if_neg (by omega), dstep_up h1 h2, if_neg (by simp)]
theorem dsync_up {D : Dev} (h1 : D.armed = false) (h2 : D.down = false) :
    dsync D = (0, dsettle { D with left := D.left - 1, steps := D.steps + 1, syncs := D.syncs + 1 }) := by
  unfold dsync
  rw [dstep_up h1 h2, if_neg (by simp)]
def a0 : Dev := dev0 4
def a1 : Dev := { a0 with left := -1, steps := 1, now := put a0.now 1 (fl 1), chg := putB a0.chg 1 }
def a2 : Dev := dsettle { a1 with left := -2, steps := 2, syncs := 1 }
def a3 : Dev := { a2 with left := -3, steps := 3, now := put a2.now 1 (fl 2), chg := putB a2.chg 1 }
def a4 : Dev := { a3 with left := -4, steps := 4, now := put a3.now 2 (fl 3), chg := putB a3.chg 2 }
def a5 : Dev := dcrash a4 [2]
theorem s1 : dwrite a0 1 (fl 1) = (0, a1) := dwrite_up rfl rfl (by decide) (by decide) (fl_len 1)
theorem s2 : dsync a1 = (0, a2) := dsync_up rfl rfl
theorem s3 : dwrite a2 1 (fl 2) = (0, a3) := dwrite_up rfl rfl (by decide) (by decide) (fl_len 2)
theorem s4 : dwrite a3 2 (fl 3) = (0, a4) := dwrite_up rfl rfl (by decide) (by decide) (fl_len 3)
theorem o0 : DOk 0 a0 := ok_dev0 4 (by omega)
theorem o1 : DOk 1 a1 := by have := ok_write o0 1 (fl 1); rw [s1] at this; exact this
theorem o2 : DOk 2 a2 := by have := ok_sync o1; rw [s2] at this; exact this
theorem o3 : DOk 3 a3 := by have := ok_write o2 1 (fl 2); rw [s3] at this; exact this
theorem o4 : DOk 4 a4 := by have := ok_write o3 2 (fl 3); rw [s4] at this; exact this
theorem o5 : DOk 4 a5 := ok_crash o4 [2]
theorem n1 : a5.now 1 = fl 1 := by
  show cmix a4 [2] (uns a4) 1 = fl 1
  unfold cmix
  rw [if_pos ⟨(uns_mem o4 1).2 rfl, by decide⟩]
  rfl
theorem n2 : a5.now 2 = fl 3 := by
  show cmix a4 [2] (uns a4) 2 = fl 3
  unfold cmix
  rw [if_neg (fun h => h.2 (by decide))]
  rfl

/-- one row, in a slice just made -/
theorem parts1 (W : World) (b : Nat) (xs : List Int) (hb : BytesAt W b xs) (B : Nat) (w' : World) (hf : Fr B tagD (W.alloc (.cells #[.slice (some ⟨b, 0, none⟩) xs.length xs.length] 28)) w') :
    RdP w' (.slice (some ⟨W.heap.size, 0, none⟩) 1 1) [(.slice (some ⟨b, 0, none⟩) xs.length xs.length, xs)] := by
  have h1 := (MapKept.heap_alloc W (.cells #[.slice (some ⟨b, 0, none⟩) xs.length xs.length] 28)).1
  have h2 : BytesAt (W.alloc (.cells #[.slice (some ⟨b, 0, none⟩) xs.length xs.length] 28)) b xs := hb.keep (Below.heap_alloc W _ b hb.lt)
  have g1 := hf.keep _ _ h1 (.inr rfl)
  have g2 : BytesAt w' b xs := hf.keep _ _ h2 (.inr rfl)
  refine ⟨⟨rfl, _, _, rfl, Nat.le_refl _, .inr ⟨_, 0, rfl, lt_of_heap g1, fun j u hj => ?_⟩⟩, fun p hp => ?_⟩
  · rw [cell_blk g1, Nat.zero_add]
    simpa using hj
  · rw [List.mem_singleton] at hp
    subst hp
    exact g2.rd
theorem cat1 (v : Value) (xs : List Int) : cat [(v, xs)] = xs := by simp [cat]

theorem alive_walk (w : World) (R : Nat → Nat → World → Prop) (F : Nat → Nat → Nat → World → Prop) (Q1 : Nat → Value → World → Prop) (Q2 : Nat → Value → Value → World → Prop)
    (C0 : Calls Try.prog 7 #[.int .i64 4] w fun e w' => ∃ d, e = .returned (.tuple #[.pointer (some ⟨d, 0, none⟩), .nilIface]) ∧ R 0 d w')
    (Cf1 : ∀ d W, R 0 d W → Calls Try.prog 8 #[.int .i64 1] W fun e w' => ∃ b, e = .returned (.slice (some ⟨b, 0, none⟩) 512 512) ∧ F 0 d b w')
    (Cw1 : ∀ d b W, F 0 d b W → Calls Try.prog 9 #[.pointer (some ⟨d, 0, none⟩), .int .i64 1, .slice (some ⟨W.heap.size, 0, none⟩) 1 1] (W.alloc (.cells #[.slice (some ⟨b, 0, none⟩) 512 512] 28)) fun e w' => e = .returned .nilIface ∧ R 1 d w')
    (Cs : ∀ d W, R 1 d W → Calls Try.prog 27 #[.pointer (some ⟨d, 0, none⟩)] W fun e w' => e = .returned .nilIface ∧ R 2 d w')
    (Cf2 : ∀ d W, R 2 d W → Calls Try.prog 8 #[.int .i64 2] W fun e w' => ∃ b, e = .returned (.slice (some ⟨b, 0, none⟩) 512 512) ∧ F 2 d b w')
    (Cw2 : ∀ d b W, F 2 d b W → Calls Try.prog 9 #[.pointer (some ⟨d, 0, none⟩), .int .i64 1, .slice (some ⟨W.heap.size, 0, none⟩) 1 1] (W.alloc (.cells #[.slice (some ⟨b, 0, none⟩) 512 512] 28)) fun e w' => e = .returned .nilIface ∧ R 3 d w')
    (Cf3 : ∀ d W, R 3 d W → Calls Try.prog 8 #[.int .i64 3] W fun e w' => ∃ b, e = .returned (.slice (some ⟨b, 0, none⟩) 512 512) ∧ F 3 d b w')
    (Cw3 : ∀ d b W, F 3 d b W → Calls Try.prog 9 #[.pointer (some ⟨d, 0, none⟩), .int .i64 2, .slice (some ⟨W.heap.size, 0, none⟩) 1 1] (W.alloc (.cells #[.slice (some ⟨b, 0, none⟩) 512 512] 28)) fun e w' => e = .returned .nilIface ∧ R 4 d w')
    (Cc : ∀ d W, R 4 d W → Calls Try.prog 28 #[.pointer (some ⟨d, 0, none⟩), .slice (some ⟨W.heap.size, 0, none⟩) 1 1] (W.alloc (.cells #[.int .i64 2] 3)) fun e w' => e = .returned (.tuple #[]) ∧ R 5 d w')
    (Cr1 : ∀ d W, R 5 d W → Calls Try.prog 11 #[.pointer (some ⟨d, 0, none⟩), .int .i64 1] W fun e w' => ∃ u, e = .returned (.tuple #[u, .nilIface]) ∧ Q1 d u w')
    (Cr2 : ∀ d u W, Q1 d u W → Calls Try.prog 11 #[.pointer (some ⟨d, 0, none⟩), .int .i64 2] W fun e w' => ∃ v, e = .returned (.tuple #[v, .nilIface]) ∧ Q2 d u v w')
    (HR : ∀ d va vb W, Q2 d va vb W → ∀ (a : Act) (Q : Exit → Act → World → Prop), a.tmps.size = 85 → a.tmps.getD 1 undef = .pointer (some ⟨d, 0, none⟩) → a.tmps.getD 2 undef = .nilIface → a.tmps.getD 3 undef = va → a.tmps.getD 4 undef = vb → a.tmps.getD 5 undef = .nilIface →
      (∀ (u : Nat → Value) w', u 0 = .bool true → Q2 d va vb w' → Q .normal (putAll opsA7 u a) w') → (Code.region 7 opsA7 true).wp Try.prog Q a W) :
    Calls Try.prog 6 #[] w fun e w' => ∃ d va vb, e = .returned (.bool true) ∧ Q2 d va vb w' := by
  have C0 := Lib.hid C0
  have Cf1 := Lib.hid Cf1
  have Cw1 := Lib.hid Cw1
  have Cs := Lib.hid Cs
  have Cf2 := Lib.hid Cf2
  have Cw2 := Lib.hid Cw2
  have Cf3 := Lib.hid Cf3
  have Cw3 := Lib.hid Cw3
  have Cc := Lib.hid Cc
  have Cr1 := Lib.hid Cr1
  have Cr2 := Lib.hid Cr2
  have HR := Lib.hid HR
  go_enter Try.func6, Try.ntmps6
  go_wp2_with (first
    | (go_at_call 7; refine C0.out.mono ?_; rintro e w0 ⟨d, rfl, h0⟩; clear C0)
    | (go_at_call 8; refine (Cf1.out _ _ h0).mono ?_; rintro e w1 ⟨b1, rfl, h1⟩; clear Cf1 h0)
    | (go_at_call 9; refine (Cw1.out _ _ _ h1).mono ?_; rintro e w2 ⟨rfl, h2⟩; clear Cw1 h1)
    | (go_at_call 27; refine (Cs.out _ _ h2).mono ?_; rintro e w3 ⟨rfl, h3⟩; clear Cs h2)
    | (go_at_call 8; refine (Cf2.out _ _ h3).mono ?_; rintro e w4 ⟨b2, rfl, h4⟩; clear Cf2 h3)
    | (go_at_call 9; refine (Cw2.out _ _ _ h4).mono ?_; rintro e w5 ⟨rfl, h5⟩; clear Cw2 h4)
    | (go_at_call 8; refine (Cf3.out _ _ h5).mono ?_; rintro e w6 ⟨b3, rfl, h6⟩; clear Cf3 h5)
    | (go_at_call 9; refine (Cw3.out _ _ _ h6).mono ?_; rintro e w7 ⟨rfl, h7⟩; clear Cw3 h6)
    | (go_at_call 28; refine (Cc.out _ _ h7).mono ?_; rintro e w8 ⟨rfl, h8⟩; clear Cc h7)
    | (go_at_call 11; refine (Cr1.out _ _ h8).mono ?_; rintro e w9 ⟨va, rfl, h9⟩; clear Cr1 h8)
    | (go_at_call 11; refine (Cr2.out _ _ _ h9).mono ?_; rintro e w10 ⟨vb, rfl, h10⟩; clear Cr2 h9))
  refine HR.out _ _ _ _ h10 _ _ rfl rfl rfl rfl rfl rfl ?_
  intro u w11 hu h11
  simp only [putAll, putOne, opsA7, List.foldl, Act.put, hu]
  go_frame
  go_wp2
  go_ret
  exact ⟨_, _, _, rfl, h11⟩
end Go.Proofs.Ytbcafhhheileeaa
