/-
  The document's table: Take, its first walks.
  Conditions: those that each theorem names.
-/
import Derived.Test.YtejpjibhpjgcjaaM4
namespace Go.Proofs.Ytejpjibhpjgcjaa
open Go.RowKit

set_option maxRecDepth 100000

/-- the beginning of Take: no mode -/
theorem rtake_bad (g : Nat) (txn page mode : Int) (w : World) (h : mode < 1 ∨ mode > 3) :
    Calls Try.prog 10 #[.pointer (some ⟨g, 0, none⟩), .int .i64 txn, .int .i64 page, .int .i64 mode] w fun e w' => e = .returned (.int .i64 2) ∧ w = w' := by
  rcases h with h | h
  · go_enter Try.func10, Try.ntmps10
    go_wp2
    go_ret
    exact ⟨rfl, rfl⟩
  · have h2 : ¬ mode < 1 := by omega
    have h3 : (3 : Int) < mode := h
    go_enter Try.func10, Try.ntmps10
    go_wp2
    go_ret
    exact ⟨rfl, rfl⟩

set_option maxHeartbeats 1000000 in
/-- it holds that already -/
theorem rtake_has (B g : Nat) (m : Tab) (w : World) (vd : Valid m) (h : MRep B w g m) (hB : B ≤ w.heap.size) (txn page mode : Int) (hm1 : 1 ≤ mode) (hm2 : mode ≤ 3)
    (hh : holds m.locks txn page ≠ 0) (hc : holds m.locks txn page = mode ∨ holds m.locks txn page = 3) :
    Calls Try.prog 10 #[.pointer (some ⟨g, 0, none⟩), .int .i64 txn, .int .i64 page, .int .i64 mode] w fun e w' => e = .returned (.int .i64 0) ∧ MRep B w' g ⟨m.locks, forget m.waits txn⟩ ∧ Fr B tagM w w' := by
  have HF := Lib.hid (rforget_c B g m w vd h txn hB)
  have vd1 := valid_forget vd txn
  have HH := fun W (hr : MRep B W g ⟨m.locks, forget m.waits txn⟩) => rholds_c B g _ W vd1 hr txn page
  dsimp only at HH
  generalize holds m.locks txn page = hs at *
  have HH' := Lib.hid HH
  clear HH
  by_cases h1 : hs = mode
  · subst h1
    clear hc
    go_enter Try.func10, Try.ntmps10
    go_wp2_with (first
      | (go_at_call 19; refine (HF.out).mono ?_; rintro e w1 ⟨rfl, hrep, hfr⟩)
      | (go_at_call 13; refine (HH'.out _ hrep).mono ?_; rintro e w2 ⟨rfl, rfl⟩))
    go_ret
    exact ⟨rfl, hrep.below ((Below.refl _ _).alloc (Nat.le_refl _) _), hfr.alloc _⟩
  · obtain rfl : hs = 3 := by rcases hc with hc | hc <;> omega
    have h4 : ¬ (3 : Int) = mode := h1
    clear hc
    go_enter Try.func10, Try.ntmps10
    go_wp2_with (first
      | (go_at_call 19; refine (HF.out).mono ?_; rintro e w1 ⟨rfl, hrep, hfr⟩)
      | (go_at_call 13; refine (HH'.out _ hrep).mono ?_; rintro e w2 ⟨rfl, rfl⟩))
    go_ret
    exact ⟨rfl, hrep.below ((Below.refl _ _).alloc (Nat.le_refl _) _), hfr.alloc _⟩
end Go.Proofs.Ytejpjibhpjgcjaa
