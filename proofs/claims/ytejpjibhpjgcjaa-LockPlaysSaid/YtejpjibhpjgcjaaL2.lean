/-
  The law's first test, walked.
  Conditions: those that each theorem names.
-/
import Derived.Test.YtejpjibhpjgcjaaL1
namespace Go.Proofs.Ytejpjibhpjgcjaa
open Go.RowKit

def m1 : Tab := ⟨[⟨1, 5, 1⟩], []⟩
def m2 : Tab := ⟨[⟨1, 5, 1⟩, ⟨2, 5, 1⟩], []⟩
def m3 : Tab := ⟨[⟨1, 5, 1⟩, ⟨2, 5, 1⟩], [⟨1, 5, 3⟩]⟩
def m4 : Tab := ⟨[⟨1, 5, 1⟩], [⟨1, 5, 3⟩]⟩
def m5 : Tab := ⟨[⟨1, 5, 3⟩], []⟩
theorem t1 : take ⟨[], []⟩ 1 5 1 = (0, m1) := by
  unfold take
  rw [if_neg (by decide)]
  simp [holds, against, forget, m1]
theorem t2 : take m1 2 5 1 = (0, m2) := by
  unfold take
  rw [if_neg (by decide)]
  have h1 : holds m1.locks 2 5 = 0 := by decide
  have h2 : against m1.locks ⟨2, 5, 1⟩ = [] := by decide
  simp [h1, h2]
  simp [m1, m2, forget]
theorem noReach : ¬ Reach ⟨m2.locks, []⟩ [2] 1 := by
  have : ∀ x, Reach ⟨m2.locks, []⟩ [2] x → x = 2 := by
    intro x h
    induction h with
    | base h => simpa using h
    | step _ h2 _ => simp [forW] at h2
  intro h
  have := this 1 h
  omega
theorem t3 : take m2 1 5 3 = (17, m3) := by
  unfold take
  rw [if_neg (by decide)]
  have h1 : holds m2.locks 1 5 = 1 := by decide
  have h2 : against m2.locks ⟨1, 5, 3⟩ = [2] := by decide
  have h3 : forget m2.waits 1 = [] := rfl
  simp [h1, h2, h3, noReach]
  rfl
theorem yesReach : Reach ⟨m3.locks, m3.waits⟩ [1] 2 := .step (x := 1) (.base (by simp)) (by decide)
theorem t4 : take m3 2 5 3 = (18, m3) := by
  unfold take
  rw [if_neg (by decide)]
  have h1 : holds m3.locks 2 5 = 1 := by decide
  have h2 : against m3.locks ⟨2, 5, 3⟩ = [1] := by decide
  have h3 : forget m3.waits 2 = m3.waits := rfl
  simp [h1, h2, h3, yesReach]
theorem t5 : release m3 2 = (1, m4) := rfl
theorem t6 : take m4 1 5 3 = (0, m5) := by
  unfold take
  rw [if_neg (by decide)]
  have h1 : holds m4.locks 1 5 = 1 := by decide
  have h2 : against m4.locks ⟨1, 5, 3⟩ = [] := by decide
  simp [h1, h2]
  simp [m4, m5, forget]
theorem t7 : holds m5.locks 1 5 = 3 := by decide

theorem valid_of {m m' : Tab} {txn page mode n : Int} (ht : take m txn page mode = (n, m')) (vd : Valid m) (hn : m.waits.length < 100000) (hwf : (Lit.int .i64 txn).wf = true) : Valid m' := by
  have := (valid_take (page := page) (mode := mode) vd hn hwf).1
  rw [ht] at this
  exact this
theorem v1 : Valid m1 := valid_of t1 valid_nil (by simp) (by decide)
theorem v2 : Valid m2 := valid_of t2 v1 (by simp [m1]) (by decide)
theorem v3 : Valid m3 := valid_of t3 v2 (by simp [m2]) (by decide)
theorem v4 : Valid m4 := (valid_release v3 2).1
theorem v5 : Valid m5 := valid_of t6 v4 (by simp [m4]) (by decide)

theorem take_at {B t : Nat} {m m' : Tab} {txn page mode n : Int} (vd : Valid m) (ht : take m txn page mode = (n, m')) (w : World) (h : TRep B w t m) (hB : B ≤ w.heap.size) :
    Calls Try.prog 9 #[.pointer (some ⟨t, 0, none⟩), .int .i64 txn, .int .i64 page, .int .i64 mode] w fun e w' => e = .returned (errV n) ∧ TRep B w' t m' ∧ Fr B tagT w w' ∧ B ≤ w'.heap.size := by
  refine (take_c B t m w vd h hB txn page mode).mono ?_
  rintro e w' ⟨h1, h2, h3⟩
  rw [ht] at h1 h2
  exact ⟨h1, h2, h3, Nat.le_trans hB h3.size⟩
theorem release_at {B t : Nat} {m m' : Tab} {txn n : Int} (vd : Valid m) (ht : release m txn = (n, m')) (w : World) (h : TRep B w t m) (hB : B ≤ w.heap.size) :
    Calls Try.prog 6 #[.pointer (some ⟨t, 0, none⟩), .int .i64 txn] w fun e w' => e = .returned (.int .i64 n) ∧ TRep B w' t m' ∧ Fr B tagT w w' ∧ B ≤ w'.heap.size := by
  refine (release_c B t m w vd h txn).mono ?_
  rintro e w' ⟨h1, h2, h3⟩
  rw [ht] at h1 h2
  exact ⟨h1, h2, h3, Nat.le_trans hB h3.size⟩

theorem alive_walk (w : World) (R : Nat → Nat → World → Prop)
    (C0 : Calls Try.prog 5 #[] w fun e w' => ∃ t, e = .returned (.pointer (some ⟨t, 0, none⟩)) ∧ R t 0 w')
    (C1 : ∀ t W, R t 0 W → Calls Try.prog 9 #[.pointer (some ⟨t, 0, none⟩), .int .i64 1, .int .i64 5, .int .i64 1] W fun e w' => e = .returned .nilIface ∧ R t 1 w')
    (C2 : ∀ t W, R t 1 W → Calls Try.prog 9 #[.pointer (some ⟨t, 0, none⟩), .int .i64 2, .int .i64 5, .int .i64 1] W fun e w' => e = .returned .nilIface ∧ R t 2 w')
    (C3 : ∀ t W, R t 2 W → Calls Try.prog 9 #[.pointer (some ⟨t, 0, none⟩), .int .i64 1, .int .i64 5, .int .i64 3] W fun e w' => e = .returned (.iface 44 (.int .i64 17)) ∧ R t 3 w')
    (C4 : ∀ t W, R t 3 W → Calls Try.prog 9 #[.pointer (some ⟨t, 0, none⟩), .int .i64 2, .int .i64 5, .int .i64 3] W fun e w' => e = .returned (.iface 44 (.int .i64 18)) ∧ R t 4 w')
    (C5 : ∀ t W, R t 4 W → Calls Try.prog 6 #[.pointer (some ⟨t, 0, none⟩), .int .i64 2] W fun e w' => e = .returned (.int .i64 1) ∧ R t 5 w')
    (C6 : ∀ t W, R t 5 W → Calls Try.prog 9 #[.pointer (some ⟨t, 0, none⟩), .int .i64 1, .int .i64 5, .int .i64 3] W fun e w' => e = .returned .nilIface ∧ R t 6 w')
    (C7 : ∀ t W, R t 6 W → Calls Try.prog 12 #[.pointer (some ⟨t, 0, none⟩), .int .i64 1, .int .i64 5] W fun e w' => e = .returned (.int .i64 3) ∧ R t 7 w') :
    Calls Try.prog 4 #[] w fun e w' => ∃ t, e = .returned (.bool true) ∧ R t 7 w' := by
  have C0 := Lib.hid C0
  have C1 := Lib.hid C1
  have C2 := Lib.hid C2
  have C3 := Lib.hid C3
  have C4 := Lib.hid C4
  have C5 := Lib.hid C5
  have C6 := Lib.hid C6
  have C7 := Lib.hid C7
  go_enter Try.func4, Try.ntmps4
  go_wp2_with (first
    | (go_at_call 5; refine C0.out.mono ?_; rintro e w1 ⟨t, rfl, hr⟩; clear C0)
    | (go_at_call 9; refine (C1.out _ _ hr).mono ?_; rintro e w2 ⟨rfl, hr2⟩; clear C1 hr)
    | (go_at_call 9; refine (C2.out _ _ hr2).mono ?_; rintro e w3 ⟨rfl, hr3⟩; clear C2 hr2)
    | (go_at_call 9; refine (C3.out _ _ hr3).mono ?_; rintro e w4 ⟨rfl, hr4⟩; clear C3 hr3)
    | (go_at_call 9; refine (C4.out _ _ hr4).mono ?_; rintro e w5 ⟨rfl, hr5⟩; clear C4 hr4)
    | (go_at_call 6; refine (C5.out _ _ hr5).mono ?_; rintro e w6 ⟨rfl, hr6⟩; clear C5 hr5)
    | (go_at_call 9; refine (C6.out _ _ hr6).mono ?_; rintro e w7 ⟨rfl, hr7⟩; clear C6 hr6)
    | (go_at_call 12; refine (C7.out _ _ hr7).mono ?_; rintro e w8 ⟨rfl, hr8⟩; clear C7 hr7))
  simp only [show ∀ W, (binOp .eql 35 (.iface 44 (.int .i64 17)) (.iface 44 (.int .i64 17))).run Try.prog W = .ok (.bool true) W from fun W => by kernel_rfl]
  go_wp2
  simp only [show ∀ W, (binOp .eql 35 (.iface 44 (.int .i64 18)) (.iface 44 (.int .i64 18))).run Try.prog W = .ok (.bool true) W from fun W => by kernel_rfl]
  go_wp2_with (first
    | (go_at_call 9; refine (C6.out _ _ hr6).mono ?_; rintro e w7 ⟨rfl, hr7⟩; clear C6 hr6)
    | (go_at_call 12; refine (C7.out _ _ hr7).mono ?_; rintro e w8 ⟨rfl, hr8⟩; clear C7 hr7))
  go_ret
  exact ⟨_, rfl, hr8⟩

def aTab : Nat → Tab
  | 0 => ⟨[], []⟩
  | 1 => m1
  | 2 => m2
  | 3 => m3
  | 4 => m3
  | 5 => m4
  | _ => m5
theorem alive_c (w : World) : Calls Try.prog 4 #[] w fun e w' => e = .returned (.bool true) ∧ Below w.heap.size w w' := by
  have key : ∀ {t i W}, (TRep w.heap.size W t (aTab i) ∧ Fr w.heap.size tagT w W) → w.heap.size ≤ W.heap.size := fun h => h.2.size
  refine (alive_walk w (fun t i W => TRep w.heap.size W t (aTab i) ∧ Fr w.heap.size tagT w W) ?_ ?_ ?_ ?_ ?_ ?_ ?_ ?_).mono ?_
  · refine (new_c w w.heap.size (Nat.le_refl _)).mono ?_
    rintro e w1 ⟨t, rfl, hr, hb1⟩
    exact ⟨t, rfl, hr, Fr.of_below hb1⟩
  · intro t W h
    refine (take_at valid_nil t1 W h.1 (key h)).mono ?_
    rintro e w' ⟨rfl, h1, h2, _⟩
    exact ⟨rfl, h1, h.2.trans h2⟩
  · intro t W h
    refine (take_at v1 t2 W h.1 (key h)).mono ?_
    rintro e w' ⟨rfl, h1, h2, _⟩
    exact ⟨rfl, h1, h.2.trans h2⟩
  · intro t W h
    refine (take_at v2 t3 W h.1 (key h)).mono ?_
    rintro e w' ⟨rfl, h1, h2, _⟩
    exact ⟨rfl, h1, h.2.trans h2⟩
  · intro t W h
    refine (take_at v3 t4 W h.1 (key h)).mono ?_
    rintro e w' ⟨rfl, h1, h2, _⟩
    exact ⟨rfl, h1, h.2.trans h2⟩
  · intro t W h
    refine (release_at v3 t5 W h.1 (key h)).mono ?_
    rintro e w' ⟨rfl, h1, h2, _⟩
    exact ⟨rfl, h1, h.2.trans h2⟩
  · intro t W h
    refine (take_at v4 t6 W h.1 (key h)).mono ?_
    rintro e w' ⟨rfl, h1, h2, _⟩
    exact ⟨rfl, h1, h.2.trans h2⟩
  · intro t W h
    refine (holds_c _ _ _ _ v5 h.1 1 5).mono ?_
    rintro e w' ⟨rfl, rfl⟩
    exact ⟨by rw [t7], h⟩
  · rintro e w' ⟨t, rfl, h⟩
    exact ⟨rfl, h.2.below (Nat.le_refl _)⟩
end Go.Proofs.Ytejpjibhpjgcjaa
