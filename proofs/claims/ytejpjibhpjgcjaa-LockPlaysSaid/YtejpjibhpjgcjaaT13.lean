/-
  The program's Take, whole; what stays true of the table.
  Conditions: those that each theorem names.
-/
import Derived.Test.YtejpjibhpjgcjaaT12
namespace Go.Proofs.Ytejpjibhpjgcjaa
open Go.RowKit

theorem join_ne {a b : Int} (h : a ≠ b) (h0 : a ≠ 0) : join a b = 3 := by simp [join, h, h0]
theorem join_zero (b : Int) : join 0 b = b := by simp [join]

theorem take_c (B t : Nat) (m : Tab) (w : World) (vd : Valid m) (h : TRep B w t m) (hB : B ≤ w.heap.size) (txn page mode : Int) :
    Calls Try.prog 9 #[.pointer (some ⟨t, 0, none⟩), .int .i64 txn, .int .i64 page, .int .i64 mode] w fun e w' =>
      e = .returned (errV (take m txn page mode).1) ∧ TRep B w' t (take m txn page mode).2 ∧ Fr B tagT w w' := by
  by_cases hbad : mode < 1 ∨ mode > 3
  · refine (take_bad t txn page mode w hbad).mono ?_
    rintro e w' ⟨rfl, rfl⟩
    have : take m txn page mode = (2, m) := by unfold take; rw [if_pos hbad]
    rw [this]
    exact ⟨rfl, h, Fr.refl _ _ _⟩
  · have hm1 : 1 ≤ mode := by omega
    have hm2 : mode ≤ 3 := by omega
    by_cases h0 : holds m.locks txn page = 0
    · have hne : ¬ holds m.locks txn page = mode := by omega
      have hne' : mode ≠ holds m.locks txn page := fun e => hne e.symm
      have hj : join (holds m.locks txn page) mode = mode := by rw [h0]; exact join_zero mode
      by_cases ho : against m.locks ⟨txn, page, mode⟩ = []
      · have ht : take m txn page mode = if m.locks.length ≥ 256 then (15, ⟨m.locks, forget m.waits txn⟩) else (0, ⟨m.locks ++ [⟨txn, page, mode⟩], forget m.waits txn⟩) := by
          unfold take
          rw [if_neg hbad]
          simp [h0, ho]
          intro e; omega
        by_cases hl : 256 ≤ m.locks.length
        · refine (take_full B t m w vd h txn page mode hm1 hm2 ho h0 hl).mono ?_
          rintro e w' ⟨rfl, hfr, hr⟩
          rw [ht, if_pos hl]; exact ⟨rfl, hr, hfr⟩
        · rw [ht, if_neg (by omega)]
          obtain ⟨bp, bw, pg, wt, w1, hc1, hd1, hT, hfr⟩ := take_pre h txn
          by_cases hp : assoc (pv pg) page = none
          · refine (take_absent B t m w vd txn page mode hm1 hm2 ho h0 (by omega) hB bp bw pg wt w1 hc1 hd1 hT hfr hp).mono ?_
            rintro e w' ⟨rfl, hfr, hr⟩
            exact ⟨rfl, hr, hfr⟩
          · refine (take_present B t m w vd txn page mode hm1 hm2 ho h0 (by omega) bp bw pg wt w1 hc1 hd1 hT hfr hp).mono ?_
            rintro e w' ⟨rfl, hfr, hr⟩
            exact ⟨rfl, hr, hfr⟩
      · refine (take_wait B t m w vd h txn page mode mode hm1 hm2 hj hne' ho).mono ?_
        rintro e w' ⟨hfr, hpost⟩
        have ht : ∀ (p : Prop) [Decidable p], (p ↔ Reach ⟨m.locks, forget m.waits txn⟩ (against m.locks ⟨txn, page, mode⟩) txn) → take m txn page mode = if p then (18, ⟨m.locks, forget m.waits txn⟩) else (17, ⟨m.locks, forget m.waits txn ++ [⟨txn, page, mode⟩]⟩) := by
          intro p _ hp
          have hmd : (if holds m.locks txn page ≠ 0 ∧ holds m.locks txn page ≠ mode then (3 : Int) else mode) = mode := by simp [h0]
          unfold take
          rw [if_neg hbad]
          dsimp only
          rw [hmd, if_neg hne, if_pos ho]
          by_cases hp' : p
          · rw [if_pos (hp.1 hp'), if_pos hp']
          · rw [if_neg (fun h => hp' (hp.2 h)), if_neg hp']
        rcases hpost with ⟨hl, rfl, hr⟩ | ⟨hl, rfl, hr⟩
        · rw [ht True (by simp [hl]), if_pos trivial]; exact ⟨rfl, hr, hfr⟩
        · rw [ht False (by simp [hl]), if_neg (by simp)]; exact ⟨rfl, hr, hfr⟩
    · by_cases hc : holds m.locks txn page = mode ∨ holds m.locks txn page = 3
      · refine (take_has B t m w vd h txn page mode hm1 hm2 hc).mono ?_
        rintro e w' ⟨rfl, hr, hfr⟩
        have ht : take m txn page mode = (0, ⟨m.locks, forget m.waits txn⟩) := by
          unfold take
          rw [if_neg hbad]
          by_cases e : holds m.locks txn page = mode
          · simp [e]
          · have e3 : holds m.locks txn page = 3 := hc.resolve_left e
            have e4 : ¬ (3 : Int) = mode := by rw [← e3]; exact e
            simp [e3, e4]
        rw [ht]
        exact ⟨rfl, hr, hfr⟩
      · have hc1 : holds m.locks txn page ≠ mode := fun e => hc (.inl e)
        have hc3 : holds m.locks txn page ≠ 3 := fun e => hc (.inr e)
        have hc3' : (3 : Int) ≠ holds m.locks txn page := fun e => hc3 e.symm
        have hj := join_ne hc1 h0
        by_cases ho : against m.locks ⟨txn, page, 3⟩ = []
        · refine (take_set B t m w vd h txn page mode 3 hm1 hm2 hj hc3' ho h0).mono ?_
          rintro e w' ⟨rfl, hfr, hr⟩
          have ht : take m txn page mode = (0, ⟨m.locks.map (fun l => if l.txn == txn && l.page == page then ⟨txn, page, 3⟩ else l), forget m.waits txn⟩) := by
            unfold take
            rw [if_neg hbad]
            simp [h0, hc1, hc3, ho]
          rw [ht]
          exact ⟨rfl, hr, hfr⟩
        · refine (take_wait B t m w vd h txn page mode 3 hm1 hm2 hj hc3' ho).mono ?_
          rintro e w' ⟨hfr, hpost⟩
          have ht : ∀ (p : Prop) [Decidable p], (p ↔ Reach ⟨m.locks, forget m.waits txn⟩ (against m.locks ⟨txn, page, 3⟩) txn) → take m txn page mode = if p then (18, ⟨m.locks, forget m.waits txn⟩) else (17, ⟨m.locks, forget m.waits txn ++ [⟨txn, page, 3⟩]⟩) := by
            intro p _ hp
            have hmd : (if holds m.locks txn page ≠ 0 ∧ holds m.locks txn page ≠ mode then (3 : Int) else mode) = 3 := by simp [h0, hc1]
            unfold take
            rw [if_neg hbad]
            dsimp only
            rw [hmd, if_neg hc3, if_pos ho]
            by_cases hp' : p
            · rw [if_pos (hp.1 hp'), if_pos hp']
            · rw [if_neg (fun h => hp' (hp.2 h)), if_neg hp']
          rcases hpost with ⟨hl, rfl, hr⟩ | ⟨hl, rfl, hr⟩
          · rw [ht True (by simp [hl]), if_pos trivial]; exact ⟨rfl, hr, hfr⟩
          · rw [ht False (by simp [hl]), if_neg (by simp)]; exact ⟨rfl, hr, hfr⟩

/-! ### what stays true of the table -/
theorem take_holds_mem {L : List Lk} {txn page : Int} {x : Lk} (hx : x ∈ L.map (fun l => if l.txn == txn && l.page == page then (⟨txn, page, 3⟩ : Lk) else l)) : ∃ l ∈ L, l.txn = x.txn ∧ l.page = x.page ∧ (x.mode = 3 ∨ x.mode = l.mode) := by
  obtain ⟨l, hl, rfl⟩ := List.mem_map.1 hx
  by_cases h : (l.txn == txn && l.page == page) = true
  · rw [if_pos h]
    simp only [Bool.and_eq_true, beq_iff_eq] at h
    exact ⟨l, hl, h.1, h.2, .inl rfl⟩
  · rw [if_neg h]; exact ⟨l, hl, rfl, rfl, .inr rfl⟩

theorem valid_put {m : Tab} (vd : Valid m) {txn page mode : Int} (hm1 : 1 ≤ mode) (hm2 : mode ≤ 3) (hn : m.waits.length < 100000) (hno : ∀ l ∈ m.waits, l.txn ≠ txn) : Valid ⟨m.locks, m.waits ++ [⟨txn, page, mode⟩]⟩ :=
  ⟨vd.nodup, vd.modes, by
    rw [List.pairwise_append]
    refine ⟨vd.wnodup, by simp, ?_⟩
    intro a ha b hb
    rw [List.mem_singleton.1 hb]
    exact hno a ha, fun l hl => by
      rcases List.mem_append.1 hl with hl | hl
      · exact vd.wmodes l hl
      · rw [List.mem_singleton.1 hl]; exact ⟨hm1, hm2⟩, vd.size, by simp; omega, vd.lwf⟩

theorem valid_take {m : Tab} (vd : Valid m) {txn page mode : Int} (hn : m.waits.length < 100000) (hwf : (Lit.int .i64 txn).wf = true) :
    Valid (take m txn page mode).2 ∧ (take m txn page mode).2.waits.length ≤ m.waits.length + 1 := by
  have hno : ∀ l ∈ forget m.waits txn, l.txn ≠ txn := fun l hl => by simpa [forget] using (List.mem_filter.1 hl).2
  have hfl : (forget m.waits txn).length ≤ m.waits.length := List.length_filter_le _ _
  have vd1 := valid_forget vd txn
  unfold take
  by_cases hbad : mode < 1 ∨ mode > 3
  · rw [if_pos hbad]; exact ⟨vd, Nat.le_succ _⟩
  rw [if_neg hbad]
  dsimp only
  generalize hmd : (if holds m.locks txn page ≠ 0 ∧ holds m.locks txn page ≠ mode then (3 : Int) else mode) = md
  have hmd1 : 1 ≤ md ∧ md ≤ 3 := by rw [← hmd]; split <;> omega
  split
  · exact ⟨vd1, by dsimp only; omega⟩
  split
  · split
    · exact ⟨vd1, by dsimp only; omega⟩
    · refine ⟨valid_put vd1 hmd1.1 hmd1.2 (by dsimp only; omega) hno, ?_⟩
      dsimp only
      rw [List.length_append]
      simp; omega
  split
  · rename_i h0
    have hmd3 : md = md := rfl
    refine ⟨⟨?_, ?_, vd1.wnodup, vd1.wmodes, by simpa using vd.size, vd1.wsize, ?_⟩, by dsimp only; omega⟩
    · dsimp only
      rw [List.pairwise_map]
      refine vd.nodup.imp ?_
      intro a b hab
      have key : ∀ c : Lk, (if (c.txn == txn && c.page == page) = true then (⟨txn, page, md⟩ : Lk) else c).txn = c.txn ∧ (if (c.txn == txn && c.page == page) = true then (⟨txn, page, md⟩ : Lk) else c).page = c.page := by
        intro c
        by_cases h : (c.txn == txn && c.page == page) = true
        · rw [if_pos h]; simp only [Bool.and_eq_true, beq_iff_eq] at h; exact ⟨h.1.symm, h.2.symm⟩
        · rw [if_neg h]; exact ⟨rfl, rfl⟩
      rw [(key a).1, (key b).1, (key a).2, (key b).2]
      exact hab
    · intro l hl
      obtain ⟨c, hc, rfl⟩ := List.mem_map.1 hl
      by_cases h : (c.txn == txn && c.page == page) = true
      · rw [if_pos h]; exact hmd1
      · rw [if_neg h]; exact vd.modes c hc
    · intro l hl
      obtain ⟨c, hc, rfl⟩ := List.mem_map.1 hl
      by_cases h : (c.txn == txn && c.page == page) = true
      · rw [if_pos h]; exact hwf
      · rw [if_neg h]; exact vd.lwf c hc
  · rename_i h0
    have h0' : holds m.locks txn page = 0 := by simpa using h0
    split
    · exact ⟨vd1, by dsimp only; omega⟩
    · rename_i hsz
      refine ⟨⟨?_, ?_, vd1.wnodup, vd1.wmodes, by dsimp only; rw [List.length_append]; simp; omega, vd1.wsize, ?_⟩, by dsimp only; omega⟩
      · dsimp only
        rw [List.pairwise_append]
        refine ⟨vd.nodup, by simp, ?_⟩
        intro a ha b hb
        rw [List.mem_singleton.1 hb]
        rintro ⟨h1, h2⟩
        obtain ⟨a1, a2, a3⟩ := a
        dsimp only at h1 h2
        subst h1 h2
        rw [holds_some vd.nodup ha] at h0'
        have := (vd.modes _ ha).1
        dsimp only at this
        omega
      · intro l hl
        rcases List.mem_append.1 hl with hl | hl
        · exact vd.modes l hl
        · rw [List.mem_singleton.1 hl]; exact hmd1
      · intro l hl
        rcases List.mem_append.1 hl with hl | hl
        · exact vd.lwf l hl
        · rw [List.mem_singleton.1 hl]; exact hwf
theorem valid_release {m : Tab} (vd : Valid m) (txn : Int) : Valid (release m txn).2 ∧ (release m txn).2.waits.length ≤ m.waits.length := by
  have vd1 := valid_forget vd txn
  refine ⟨⟨vd.nodup.filter _, fun l hl => vd.modes l (List.mem_filter.1 hl).1, vd1.wnodup, vd1.wmodes, Nat.le_trans (List.length_filter_le _ _) vd.size, vd1.wsize, fun l hl => vd.lwf l (List.mem_filter.1 hl).1⟩, List.length_filter_le _ _⟩
theorem valid_nil : Valid ⟨[], []⟩ := ⟨.nil, by simp, .nil, by simp, by simp, by simp, by simp⟩
end Go.Proofs.Ytejpjibhpjgcjaa
