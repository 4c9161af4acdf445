/-
  The document's Take, whole.
  Conditions: those that each theorem names.
-/
import Derived.Test.YtejpjibhpjgcjaaM6a
import Derived.Test.YtejpjibhpjgcjaaM6b
import Derived.Test.YtejpjibhpjgcjaaM7
namespace Go.Proofs.Ytejpjibhpjgcjaa
open Go.RowKit

theorem rtake_c (B g : Nat) (m : Tab) (w : World) (vd : Valid m) (h : MRep B w g m) (hB : B ≤ w.heap.size) (txn page mode : Int) :
    Calls Try.prog 10 #[.pointer (some ⟨g, 0, none⟩), .int .i64 txn, .int .i64 page, .int .i64 mode] w fun e w' =>
      e = .returned (.int .i64 (take m txn page mode).1) ∧ MRep B w' g (take m txn page mode).2 ∧ Fr B tagM w w' := by
  by_cases hbad : mode < 1 ∨ mode > 3
  · refine (rtake_bad g txn page mode w hbad).mono ?_
    rintro e w' ⟨rfl, rfl⟩
    have : take m txn page mode = (2, m) := by unfold take; rw [if_pos hbad]
    rw [this]
    exact ⟨rfl, h, Fr.refl _ _ _⟩
  · have hm1 : 1 ≤ mode := by omega
    have hm2 : mode ≤ 3 := by omega
    by_cases h0 : holds m.locks txn page = 0
    · have hne : ¬ holds m.locks txn page = mode := by omega
      by_cases ho : against m.locks ⟨txn, page, mode⟩ = []
      · refine (rtake_new B g m w vd h hB txn page mode hm1 hm2 h0 ho).mono ?_
        rintro e w' ⟨hfr, hpost⟩
        have ht : take m txn page mode = if m.locks.length ≥ 256 then (15, ⟨m.locks, forget m.waits txn⟩) else (0, ⟨m.locks ++ [⟨txn, page, mode⟩], forget m.waits txn⟩) := by
          unfold take
          rw [if_neg hbad]
          simp [h0, ho]
          intro e; omega
        rcases hpost with ⟨hl, rfl, hr⟩ | ⟨hl, rfl, hr⟩
        · rw [ht, if_pos hl]; exact ⟨rfl, hr, hfr⟩
        · rw [ht, if_neg (by omega)]; exact ⟨rfl, hr, hfr⟩
      · refine (rtake_wait0 B g m w vd h hB txn page mode mode hm1 hm2 ⟨h0, rfl⟩ ho).mono ?_
        rintro e w' ⟨hfr, hpost⟩
        have ht : ∀ (p : Prop) [Decidable p], (p ↔ Reach ⟨m.locks, forget m.waits txn⟩ (against m.locks ⟨txn, page, mode⟩) txn) → take m txn page mode = if p then (18, ⟨m.locks, forget m.waits txn⟩) else (17, ⟨m.locks, forget m.waits txn ++ [⟨txn, page, mode⟩]⟩) := by
          intro p _ hp
          have hmd : (if holds m.locks txn page ≠ 0 ∧ holds m.locks txn page ≠ mode then (3 : Int) else mode) = mode := by simp [h0]
          unfold take
          rw [if_neg hbad]
          dsimp only
          rw [hmd, if_neg hne, if_pos ho]
          by_cases hp' : p
          · rw [if_pos (hp.1 hp'), if_pos hp']
          · rw [if_neg (fun h => hp' (hp.2 h)), if_neg hp']
        rcases hpost with ⟨hl, rfl, hr⟩ | ⟨hl, rfl, hr⟩
        · rw [ht True (by simp [hl]), if_pos trivial]; exact ⟨rfl, hr, hfr⟩
        · rw [ht False (by simp [hl]), if_neg (by simp)]; exact ⟨rfl, hr, hfr⟩
    · by_cases hc : holds m.locks txn page = mode ∨ holds m.locks txn page = 3
      · refine (rtake_has B g m w vd h hB txn page mode hm1 hm2 h0 hc).mono ?_
        rintro e w' ⟨rfl, hr, hfr⟩
        have ht : take m txn page mode = (0, ⟨m.locks, forget m.waits txn⟩) := by
          unfold take
          rw [if_neg hbad]
          by_cases e : holds m.locks txn page = mode
          · simp [e]
          · have e3 : holds m.locks txn page = 3 := hc.resolve_left e
            have e4 : ¬ (3 : Int) = mode := by rw [← e3]; exact e
            simp [e3, e4]
        rw [ht]
        exact ⟨rfl, hr, hfr⟩
      · have hc1 : holds m.locks txn page ≠ mode := fun e => hc (.inl e)
        have hc3 : holds m.locks txn page ≠ 3 := fun e => hc (.inr e)
        by_cases ho : against m.locks ⟨txn, page, 3⟩ = []
        · refine (rtake_set B g m w vd h hB txn page mode hm1 hm2 ⟨h0, hc1, hc3⟩ ho).mono ?_
          rintro e w' ⟨rfl, hfr, hr⟩
          have ht : take m txn page mode = (0, ⟨m.locks.map (fun l => if l.txn == txn && l.page == page then ⟨txn, page, 3⟩ else l), forget m.waits txn⟩) := by
            unfold take
            rw [if_neg hbad]
            simp [h0, hc1, hc3, ho]
          rw [ht]
          exact ⟨rfl, hr, hfr⟩
        · refine (rtake_wait3 B g m w vd h hB txn page mode 3 hm1 hm2 ⟨h0, hc1, hc3, rfl⟩ ho).mono ?_
          rintro e w' ⟨hfr, hpost⟩
          have ht : ∀ (p : Prop) [Decidable p], (p ↔ Reach ⟨m.locks, forget m.waits txn⟩ (against m.locks ⟨txn, page, 3⟩) txn) → take m txn page mode = if p then (18, ⟨m.locks, forget m.waits txn⟩) else (17, ⟨m.locks, forget m.waits txn ++ [⟨txn, page, 3⟩]⟩) := by
            intro p _ hp
            have hmd : (if holds m.locks txn page ≠ 0 ∧ holds m.locks txn page ≠ mode then (3 : Int) else mode) = 3 := by simp [h0, hc1]
            unfold take
            rw [if_neg hbad]
            dsimp only
            rw [hmd, if_neg hc3, if_pos ho]
            by_cases hp' : p
            · rw [if_pos (hp.1 hp'), if_pos hp']
            · rw [if_neg (fun h => hp' (hp.2 h)), if_neg hp']
          rcases hpost with ⟨hl, rfl, hr⟩ | ⟨hl, rfl, hr⟩
          · rw [ht True (by simp [hl]), if_pos trivial]; exact ⟨rfl, hr, hfr⟩
          · rw [ht False (by simp [hl]), if_neg (by simp)]; exact ⟨rfl, hr, hfr⟩
end Go.Proofs.Ytejpjibhpjgcjaa
