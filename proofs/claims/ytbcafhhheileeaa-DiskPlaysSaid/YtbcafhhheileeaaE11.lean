/-
  Part of the proofs of DiskPlays, SlotPlays: Num, Ints, Copy, Kept.
  Conditions: those that each theorem names.
-/
import Derived.Test.YtbcafhhheileeaaE10
import Derived.Lib.JoinLaws
namespace Go.Proofs.Ytbcafhhheileeaa
open Go.RowKit
set_option maxRecDepth 100000

theorem num_c (n : Int) (w : World) : Calls Try.prog 14 #[errV n] w fun e w' => e = .returned (.int .i64 n) ∧ w = w' := by
  unfold errV
  by_cases h : n = 0
  · subst h
    rw [if_pos rfl]
    go_enter Try.func14, Try.ntmps14
    go_wp2
    go_ret
    exact ⟨rfl, rfl⟩
  · rw [if_neg h]
    have h0 : (n == 0) = false := by simpa using h
    go_enter Try.func14, Try.ntmps14
    have hta : (Instr.typeAssert (.iface 66 (.int .i64 n)) 25 66 true).run Try.prog w = .ok (.tuple #[.int .i64 n, .bool true]) w := by kernel_rfl
    go_wp2
    go_ret
    exact ⟨rfl, rfl⟩

def IntsRel (w : World) (n : Nat) (i : Value) (wr : World) : Prop := ∃ k : Nat, k ≤ n ∧ i = .int .i64 k ∧ Kp (fun _ => False) w wr
theorem ints_c (v u : Value) (xs : List Int) (w : World) (hl : xs.length ≤ 1000000) (h1 : RdI w v xs) (h2 : RdI w u xs) :
    Calls Try.prog 20 #[v, u] w fun e w' => e = .returned (.bool true) ∧ Kp (fun _ => False) w w' := by
  obtain ⟨A, c, rfl, hc1⟩ := RdI.form h1
  obtain ⟨A', c', rfl, hc2⟩ := RdI.form h2
  have hc1H := Lib.hid hc1
  have hc2H := Lib.hid hc2
  clear hc1 hc2 h1 h2
  go_enter Try.func20, Try.ntmps20
  go_wp2
  go_loopw [13] (IntsRel w xs.length) (fun i _ => xs.length - (intOf i).toNat)
  case atStart => exact ⟨0, Nat.zero_le _, rfl, Kp.refl _ _⟩
  case round =>
    obtain ⟨k, hk, rfl, hkp⟩ := hrel
    have hkpH := Lib.hid hkp
    clear hkp
    by_cases hlt : k < xs.length
    · obtain ⟨b, o, rfl, d1⟩ := hc1H.out k hlt
      obtain ⟨b', o', rfl, d2⟩ := hc2H.out k hlt
      have d1 := kp0 hkpH.out.drew d1
      have d2 := kp0 hkpH.out.drew d2
      generalize xs[k] = x at *
      go_wp2
      go_region
      go_wp2
      go_roundw
      case rel => exact ⟨k + 1, hlt, by go_num, hkpH.out.drew⟩
      case measure => simp [intOf]; omega
    · obtain rfl : k = xs.length := by omega
      clear hlt
      go_wp2
      go_ret
      exact ⟨rfl, hkpH.out⟩

/-! ### a copy with two marks behind it -/
theorem own_at {w : World} {B e n : Nat} {v : Value} {xs : List Value} (h : w.ownsRow B e 1 v n xs) (hn : 0 < n) : ∃ g c, v = .slice (some ⟨g, 0, none⟩) n c ∧ B ≤ g := by
  rcases h.2 with ⟨_, h0⟩ | ⟨g, c, cur, rfl, h1, _⟩
  · omega
  · exact ⟨g, c, rfl, h1⟩
def marked (xs : List Int) : List Int := xs ++ [165, 90]
theorem marked_len (xs : List Int) : (marked xs).length = xs.length + 2 := by simp [marked]
theorem own_le {w : World} {B e n g c : Nat} {xs : List Value} (h : w.ownsRow B e 1 (.slice (some ⟨g, 0, none⟩) n c) n xs) : n ≤ c := by
  rcases h.2 with ⟨h0, _⟩ | ⟨g', c', cur, he, _, _, h3, _⟩
  · cases h0
  · injection he with _ _ he3
    omega
theorem copy_c (v : Value) (xs : List Int) (w : World) (h : RdB w v xs) (hl : xs.length ≤ 1000000000) :
    Calls Try.prog 33 #[v] w fun e w' => ∃ g c, e = .returned (.slice (some ⟨g, 0, none⟩) xs.length c) ∧ Row1 w.heap.size w' g c (xs.length + 2) (marked xs) ∧ Below w.heap.size w w' := by
  obtain ⟨A, c, rfl⟩ := RdB.any h
  have hmk : (Instr.makeSlice 28 (.int .i64 0) (.int .i64 ((xs.length : Int) + 2))).run Try.prog w = .ok (.slice (some ⟨w.heap.size, 0, none⟩) 0 (xs.length + 2)) (w.alloc (.cells (madeCells #[.int .u8 0] (xs.length + 2)) 5)) := by
    have := run_make_room (P := Try.prog) 28 5 (.int .u8 0) 1 Try.underlying28 (by kernel_rfl) rfl .i64 .i64 (xs.length + 2) (by omega) (by omega) w
    rw [show ((xs.length + 2 : Nat) : Int) = (xs.length : Int) + 2 by omega] at this
    exact this
  have hal : Below w.heap.size w (w.alloc (.cells (madeCells #[.int .u8 0] (xs.length + 2)) 5)) := (Below.refl _ _).alloc (Nat.le_refl _) _
  have hown : Hid ((w.alloc (.cells (madeCells #[.int .u8 0] (xs.length + 2)) 5)).ownsRow w.heap.size 5 1 (.slice (some ⟨w.heap.size, 0, none⟩) 0 (xs.length + 2)) 0 []) :=
    ⟨rfl, .inr ⟨w.heap.size, xs.length + 2, _, rfl, Nat.le_refl _, (MapKept.heap_alloc w _).1, Nat.zero_le _, by simp only [maxLen]; omega, by rw [madeBytes]; simp [byt], by simp⟩⟩
  have hsz : Hid (w.heap.size ≤ (w.alloc (.cells (madeCells #[.int .u8 0] (xs.length + 2)) 5)).heap.size) := hal.size
  have hrd := Lib.hid (RdV.below h hal)
  have halH := Lib.hid hal
  clear h hal
  generalize w.alloc (.cells (madeCells #[.int .u8 0] (xs.length + 2)) 5) = wm at *
  go_enter Try.func33, Try.ntmps33
  go_wp2_with (first
    | (at_builtin; refine wpList_app wm rfl _ _ _ rfl E28 rfl hown.out rfl hrd.out (byt_one xs) (by omega) hsz.out ?_; intro A1 c1 w1 hown1 hg1; rw [Nat.zero_add] at hown1 ⊢; rw [List.nil_append] at hown1; have hown1H := Lib.hid hown1; have hb1 : Hid (Below w.heap.size w w1) := (Lib.hid (halH.out.grown hg1 hsz.out (fun b hb => (hown.out.lt b hb).1))); clear hown1 hg1 hown)
    | (at_builtin; refine wpList_app (w1.alloc (.cells #[.int .u8 165, .int .u8 90] 5)) rfl _ _ _ rfl E28 rfl (hown1H.out.alloc _) rfl (RdV.lit w1 #[.int .u8 165, .int .u8 90] 5 1 2 rfl) (by simp; exact ⟨rfl, rfl⟩) (by omega) (Nat.le_trans hb1.out.size (by simp)) ?_; intro A2 c2 w2 hown2 hg2; obtain ⟨g2, c3, hv2, hg2b⟩ := own_at hown2 (by omega); injection hv2 with hA2 _ hc2; subst hA2 hc2; have hcle := own_le hown2; have hcl2 : xs.length ≤ c2 := (by omega); have hown2H := Lib.hid hown2; have hb2 : Hid (Below w.heap.size w w2) := (Lib.hid ((hb1.out.alloc hb1.out.size _).grown hg2 (Nat.le_trans hb1.out.size (by simp)) (fun b hb => (hown1H.out.lt b hb).1))); clear hown2 hg2))
  go_ret
  refine ⟨g2, c2, rfl, ?_, hb2.out⟩
  have h3 := hown2H.out
  unfold Row1 marked byt
  rw [List.map_append]
  exact h3
end Go.Proofs.Ytbcafhhheileeaa
