/-
  Part of the proofs of DiskOwns, DiskPlays, SlotPlays: contracts of the device and what they need.
  Conditions: those that each theorem names.
-/
import Derived.Test.YtbcafhhheileeaaD4
namespace Go.Proofs.Ytbcafhhheileeaa
open Go.RowKit

def dev0 (n : Int) : Dev := ⟨n, fun _ => zsec, fun _ => zsec, fun _ => false, 0, 0, 0, false, false⟩
theorem zsec_len : zsec.length = 512 := List.length_replicate
theorem ok_dev0 (n : Int) (h : 1 ≤ n ∧ n ≤ 4096) : DOk 0 (dev0 n) where
  size := h
  lnow := fun _ => zsec_len
  lsyn := fun _ => zsec_len
  chg := fun _ hk => by cases (show false = true from hk)
  same := fun _ _ => rfl
  left := fun hk => by cases (show false = true from hk)
  steps := ⟨Int.le_refl _, Int.le_refl _⟩
  syncs := ⟨Int.le_refl _, Int.le_refl _⟩

theorem new_bad (n : Int) (w : World) (h : n < 1 ∨ 4096 < n) :
    Calls Try.prog 7 #[.int .i64 n] w fun e w' => e = .returned (.tuple #[.pointer none, errV 1]) ∧ w = w' := by
  by_cases h1 : n < 1
  · go_enter Try.func7, Try.ntmps7
    go_wp2
    go_ret2
    exact ⟨rfl, rfl⟩
  · have h2 : 4096 < n := by omega
    go_enter Try.func7, Try.ntmps7
    go_wp2
    go_ret2
    exact ⟨rfl, rfl⟩
theorem new_c (n : Int) (w : World) (B : Nat) (hB : B ≤ w.heap.size) (h : 1 ≤ n ∧ n ≤ 4096) :
    Calls Try.prog 7 #[.int .i64 n] w fun e w' => ∃ d, e = .returned (.tuple #[.pointer (some ⟨d, 0, none⟩), .nilIface]) ∧ DRep B w' d (dev0 n) ∧ Below w.heap.size w w' := by
  have h1 : ¬ n < 1 := by omega
  have h2 : ¬ 4096 < n := by omega
  have hmm := @run_makeMap Try.prog
  go_enter Try.func7, Try.ntmps7
  go_wp2
  go_ret2
  refine ⟨_, rfl, ⟨w.heap.size, w.heap.size + 1, w.heap.size + 1 + 1, [], [], [], 0, ?_⟩, ((((Below.refl _ _).alloc (Nat.le_refl _) _).alloc (by simp) _).alloc (by simp; omega) _).alloc (by simp; omega) _⟩
  have e1 := IM.made w
  have e2 := IM.made (w.alloc (.map #[] 0))
  have e3 := IM.made ((w.alloc (.map #[] 0)).alloc (.map #[] 0))
  refine ⟨by omega, ?_, fun _ => rfl, by omega, by omega, ?_, ?_, ?_, fun _ => rfl, fun _ => rfl, fun k => by simp [dev0]⟩
  · have := (MapKept.heap_alloc (((w.alloc (.map #[] 0)).alloc (.map #[] 0)).alloc (.map #[] 0)) (.cells #[.int .i64 0, .int .i64 0, .int .i64 0, .bool false, .bool false, .int .i64 n, .map (some w.heap.size), .map (some (w.heap.size + 1)), .map (some (w.heap.size + 1 + 1))] 77)).1
    have e : (((w.alloc (.map #[] 0)).alloc (.map #[] 0)).alloc (.map #[] 0)).heap.size = w.heap.size + 1 + 1 + 1 := by simp
    rw [e] at this
    exact this
  · exact ((e1.alloc _).alloc _).alloc _
  · have e : (w.alloc (.map #[] 0)).heap.size = w.heap.size + 1 := by simp
    have := (e2.alloc (.map #[] 0)).alloc (.cells #[.int .i64 0, .int .i64 0, .int .i64 0, .bool false, .bool false, .int .i64 n, .map (some w.heap.size), .map (some (w.heap.size + 1)), .map (some (w.heap.size + 1 + 1))] 77)
    rw [e] at this
    exact this
  · have e : ((w.alloc (.map #[] 0)).alloc (.map #[] 0)).heap.size = w.heap.size + 1 + 1 := by simp
    have := e3.alloc (.cells #[.int .i64 0, .int .i64 0, .int .i64 0, .bool false, .bool false, .int .i64 n, .map (some w.heap.size), .map (some (w.heap.size + 1)), .map (some (w.heap.size + 1 + 1))] 77)
    rw [e] at this
    exact this
end Go.Proofs.Ytbcafhhheileeaa
