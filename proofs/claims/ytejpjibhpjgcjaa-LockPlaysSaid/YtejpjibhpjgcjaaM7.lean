/-
  The document's table: Take of a new lock and of a lock that grows.
  Conditions: those that each theorem names.
-/
import Derived.Test.YtejpjibhpjgcjaaM5
namespace Go.Proofs.Ytejpjibhpjgcjaa
open Go.RowKit
set_option maxRecDepth 100000

theorem rowL_set : ∀ (L : List Lk) (k : Nat) (md : Int) (hk : k < L.length), rowL (L.set k ⟨L[k].txn, L[k].page, md⟩) = (rowL L).set (k * 3 + 2) (.int .i64 md)
  | [], k, md, hk => by simp at hk
  | l :: L, 0, md, _ => by simp [rowL, cellsOf]
  | l :: L, k + 1, md, hk => by
    have ih := rowL_set L k md (by simpa using hk)
    simp only [rowL, List.set_cons_succ, List.flatMap_cons, List.getElem_cons_succ] at ih ⊢
    rw [ih]
    have e : (k + 1) * 3 + 2 = (cellsOf l).length + (k * 3 + 2) := by simp [cellsOf]; omega
    rw [e, List.set_append_right _ _ (by omega)]
    simp
theorem map_set {L : List Lk} {txn page md : Int} (hn : L.Pairwise (fun a b => ¬ (a.txn = b.txn ∧ a.page = b.page))) : ∀ {k : Nat} (hk : k < L.length), L[k].txn = txn → L[k].page = page →
    L.map (fun l => if l.txn == txn && l.page == page then (⟨txn, page, md⟩ : Lk) else l) = L.set k ⟨txn, page, md⟩ := by
  induction L with
  | nil => intro k hk; simp at hk
  | cons l L ih =>
    obtain ⟨h1, h2⟩ := List.pairwise_cons.1 hn
    intro k hk ht hp
    cases k with
    | zero =>
      simp only [List.getElem_cons_zero] at ht hp
      simp only [List.map_cons, List.set_cons_zero, ht, hp, beq_self_eq_true, Bool.and_self, if_true, List.cons.injEq, true_and]
      conv => rhs; rw [← List.map_id L]
      refine List.map_congr_left fun x hx => ?_
      have := h1 x hx
      rw [ht, hp] at this
      rw [if_neg]
      · rfl
      · simp only [Bool.and_eq_true, beq_iff_eq]; rintro ⟨a, b⟩; exact this ⟨a.symm, b.symm⟩
    | succ k =>
      simp only [List.getElem_cons_succ] at ht hp
      have hne : (l.txn == txn && l.page == page) = false := by
        have hk' : k < L.length := by simpa using hk
        have := h1 L[k] (List.getElem_mem hk')
        rw [ht, hp] at this
        simpa using this
      simp only [List.map_cons, List.set_cons_succ, hne, List.cons.injEq]
      exact ⟨by simp, ih h2 (by simpa using hk) ht hp⟩

set_option maxHeartbeats 4000000 in
/-- nobody stands against it, and it holds the page in another mode -/
theorem rtake_set (B g : Nat) (m : Tab) (w : World) (vd : Valid m) (h : MRep B w g m) (hB : B ≤ w.heap.size) (txn page mode : Int) (hm1 : 1 ≤ mode) (hm2 : mode ≤ 3)
    (hc : holds m.locks txn page ≠ 0 ∧ holds m.locks txn page ≠ mode ∧ holds m.locks txn page ≠ 3) (ho : against m.locks ⟨txn, page, 3⟩ = []) :
    Calls Try.prog 10 #[.pointer (some ⟨g, 0, none⟩), .int .i64 txn, .int .i64 page, .int .i64 mode] w fun e w' =>
      e = .returned (.int .i64 0) ∧ Fr B tagM w w' ∧ MRep B w' g ⟨m.locks.map (fun l => if l.txn == txn && l.page == page then ⟨txn, page, 3⟩ else l), forget m.waits txn⟩ := by
  have HF := Lib.hid (rforget_c B g m w vd h txn hB)
  have vd1 := valid_forget vd txn
  have HH := fun W (hr : MRep B W g ⟨m.locks, forget m.waits txn⟩) => rholds_c B g _ W vd1 hr txn page
  have HA := Lib.hid (fun W (hr : MRep B W g ⟨m.locks, forget m.waits txn⟩) => ragainst_c B g _ W vd1 hr ⟨txn, page, 3⟩)
  dsimp only at HH
  have hsz := vd.size
  obtain ⟨hc1, hc2, hc3⟩ := hc
  have hmem := holds_mem hc1
  have hne : m.locks ≠ [] := by intro e; rw [e] at hmem; simp at hmem
  generalize hhs : holds m.locks txn page = hs at *
  have HH' := Lib.hid HH
  have HO := Lib.hid ho
  clear HH ho hhs
  have hc2' : ¬ hs = mode := hc2
  have hc3' : ¬ hs = 3 := hc3
  have hn1 : (hs != 0) = true := by rw [bne_iff_ne]; exact hc1
  have hn2 : (hs != mode) = true := by rw [bne_iff_ne]; exact hc2
  have hn3 : (hs == 3) = false := by simpa using hc3
  go_enter Try.func10, Try.ntmps10
  go_wp2_with (first
    | (go_at_call 19; refine (HF.out).mono ?_; rintro e w1 ⟨rfl, hrep, hfr⟩)
    | (go_at_call 13; refine (HH'.out _ hrep).mono ?_; rintro e w2 ⟨rfl, rfl⟩)
    | (go_at_call 24; refine (HA.out _ (hrep.below ((Below.refl _ _).alloc (Nat.le_refl _) _))).mono ?_; rintro e w3 ⟨v3, rfl, hrd3, hbel3⟩; rw [HO.out] at hrd3; obtain ⟨A3, c3, rfl⟩ := RdI.empty hrd3))
  have hs1 := hfr.size
  have hs3 := hbel3.size
  simp only [World.size_alloc] at hs3
  have hrep3 := (hrep.below ((Below.refl w1.heap.size w1).alloc (Nat.le_refl _) (.cells #[.int .i64 txn, .int .i64 page, .int .i64 3] 52))).below hbel3
  have hA3 := Lib.hid (((Below.refl w1.heap.size w1).alloc (Nat.le_refl _) _).trans (hbel3.mono (by simp)))
  have l2 : w3.cell? ⟨w1.heap.size, 2, none⟩ = some (.int .i64 3) := by rw [hbel3.cell (by simp)]; simp
  obtain ⟨vL, vW, hM⟩ := hrep3
  obtain ⟨b, c, rfl, hlc, hBb, hb, hcell, hfz⟩ := own_cells hM.locks hne
  have e0 : w3.cell? ⟨g, 0, none⟩ = some (.slice (some ⟨b, 0, none⟩) m.locks.length c) := by rw [cell_blkM hM.blk]; rfl
  dsimp only at hcell hlc
  have HM := Lib.hid hM
  clear hM hrep hrd3 hne
  go_loop [19] (fun i => ∃ k : Nat, k ≤ m.locks.length ∧ i = .int .i64 k ∧ ∀ l ∈ m.locks.take k, ¬ (l.txn = txn ∧ l.page = page)) (fun i => m.locks.length - (intOf i).toNat)
  case atStart => exact ⟨0, Nat.zero_le _, rfl, by simp⟩
  case round =>
    obtain ⟨k, hk, rfl, hno⟩ := hrel
    by_cases hlt : k < m.locks.length
    · obtain ⟨c1, c2, c3⟩ := hcell k hlt
      by_cases h1 : m.locks[k].txn = txn
      · by_cases h2 : m.locks[k].page = page
        · have hfin := Lib.hid (map_set (md := 3) vd.nodup hlt h1 h2)
          have hrow := Lib.hid (rowL_set m.locks k 3 hlt)
          have hf2 := hfz (k * 3 + 2)
          rw [h1, h2] at hrow
          rw [h1] at c1
          rw [h2] at c2
          generalize m.locks[k].mode = md at *
          clear hno h1 h2 hcell hfz
          go_wp2
          go_region
          all_goals
            go_wp2
            go_ret
            have hput := MAt.putL (L := m.locks.set k ⟨txn, page, 3⟩) HM.out (by simp) hrow.out
            rw [hfin.out]
            exact ⟨rfl, (hfr.trans (Fr.of_below hA3.out)).trans hput.2.drew, ⟨_, _, hput.1.drew⟩⟩
        · have hn' := Lib.hid (take_no (p := fun l : Lk => l.txn = txn ∧ l.page = page) hlt hno (fun h => h2 h.2))
          rw [h1] at c1
          generalize m.locks[k].page = pg at *
          clear hno h1 hcell
          go_wp2
          go_round
          case rel => exact ⟨k + 1, hlt, by go_num, hn'.out⟩
          case measure => simp [intOf]; omega
      · have hn' := Lib.hid (take_no (p := fun l : Lk => l.txn = txn ∧ l.page = page) hlt hno (fun h => h1 h.1))
        generalize m.locks[k].txn = tx at *
        clear hno hcell
        go_wp2
        go_round
        case rel => exact ⟨k + 1, hlt, by go_num, hn'.out⟩
        case measure => simp [intOf]; omega
    · obtain rfl : k = m.locks.length := by omega
      exact absurd hmem (fun hm => hno _ (by rw [List.take_length]; exact hm) ⟨rfl, rfl⟩)

def NewPost (B g : Nat) (m : Tab) (txn page mode : Int) (w : World) (e : Ending) (w' : World) : Prop := Fr B tagM w w' ∧
  ((m.locks.length ≥ 256 ∧ e = .returned (.int .i64 15) ∧ MRep B w' g ⟨m.locks, forget m.waits txn⟩) ∨ (m.locks.length < 256 ∧ e = .returned (.int .i64 0) ∧ MRep B w' g ⟨m.locks ++ [⟨txn, page, mode⟩], forget m.waits txn⟩))
set_option maxHeartbeats 4000000 in
/-- nobody stands against it, and it holds none of the page -/
theorem rtake_new (B g : Nat) (m : Tab) (w : World) (vd : Valid m) (h : MRep B w g m) (hB : B ≤ w.heap.size) (txn page mode : Int) (hm1 : 1 ≤ mode) (hm2 : mode ≤ 3)
    (hc : holds m.locks txn page = 0) (ho : against m.locks ⟨txn, page, mode⟩ = []) :
    Calls Try.prog 10 #[.pointer (some ⟨g, 0, none⟩), .int .i64 txn, .int .i64 page, .int .i64 mode] w (NewPost B g m txn page mode w) := by
  have HF := Lib.hid (rforget_c B g m w vd h txn hB)
  have vd1 := valid_forget vd txn
  have HH := fun W (hr : MRep B W g ⟨m.locks, forget m.waits txn⟩) => rholds_c B g _ W vd1 hr txn page
  have HA := Lib.hid (fun W (hr : MRep B W g ⟨m.locks, forget m.waits txn⟩) => ragainst_c B g _ W vd1 hr ⟨txn, page, mode⟩)
  dsimp only at HH
  have hsz := vd.size
  have hall : ∀ l ∈ m.locks, ¬ (l.txn = txn ∧ l.page = page) := by
    rintro ⟨a, b, md⟩ hl ⟨rfl, rfl⟩
    have h1 := holds_some vd.nodup hl
    have h2 := vd.modes _ hl
    dsimp only at h1 h2
    rw [hc] at h1; omega
  have hall' := Lib.hid hall
  rw [hc] at HH
  have HH' := Lib.hid HH
  have HO := Lib.hid ho
  clear HH ho hc hall
  have hx : ¬ (0 : Int) = mode := by omega
  go_enter Try.func10, Try.ntmps10
  go_wp2_with (first
    | (go_at_call 19; refine (HF.out).mono ?_; rintro e w1 ⟨rfl, hrep, hfr⟩)
    | (go_at_call 13; refine (HH'.out _ hrep).mono ?_; rintro e w2 ⟨rfl, rfl⟩)
    | (go_at_call 24; refine (HA.out _ (hrep.below ((Below.refl _ _).alloc (Nat.le_refl _) _))).mono ?_; rintro e w3 ⟨v3, rfl, hrd3, hbel3⟩; rw [HO.out] at hrd3; obtain ⟨A3, c3, rfl⟩ := RdI.empty hrd3))
  have hs1 := hfr.size
  have hs3 := hbel3.size
  simp only [World.size_alloc] at hs3
  have hrep3 := (hrep.below ((Below.refl w1.heap.size w1).alloc (Nat.le_refl _) (.cells #[.int .i64 txn, .int .i64 page, .int .i64 mode] 52))).below hbel3
  have hA3 := Lib.hid (((Below.refl w1.heap.size w1).alloc (Nat.le_refl _) _).trans (hbel3.mono (by simp)))
  have l0 : w3.cell? ⟨w1.heap.size, 0, none⟩ = some (.int .i64 txn) := by rw [hbel3.cell (by simp)]; simp
  have l1 : w3.cell? ⟨w1.heap.size, 1, none⟩ = some (.int .i64 page) := by rw [hbel3.cell (by simp)]; simp
  have l2 : w3.cell? ⟨w1.heap.size, 2, none⟩ = some (.int .i64 mode) := by rw [hbel3.cell (by simp)]; simp
  obtain ⟨vL, vW, hM⟩ := hrep3
  obtain ⟨AL, cL, rfl⟩ := hM.lform
  have e0 : w3.cell? ⟨g, 0, none⟩ = some (.slice AL m.locks.length cL) := by rw [cell_blkM hM.blk]; rfl
  have ef : w3.frozen? ⟨g, 0, none⟩ = false := by simp [World.frozen?, hM.blk]
  have hgb := lt_of_heap hM.blk
  have hcell : ∀ k (hk : k < m.locks.length), ∃ b c, AL = some ⟨b, 0, none⟩ ∧ w3.cell? ⟨b, k * 3, none⟩ = some (.int .i64 m.locks[k].txn) ∧ w3.cell? ⟨b, k * 3 + 1, none⟩ = some (.int .i64 m.locks[k].page) ∧ m.locks.length ≤ c ∧ cL = c := by
    intro k hk
    have hM' := hM.locks
    dsimp only at hM'
    obtain ⟨b, c, hv, hlc, _, _, hcell, _⟩ := own_cells hM' (by intro e; rw [e] at hk; simp at hk)
    injection hv with hv _ hc
    exact ⟨b, c, hv, (hcell k hk).1, (hcell k hk).2.1, hlc, hc⟩
  have HM := Lib.hid hM
  clear hM hrep hrd3
  go_loop [19] (fun i => ∃ k : Nat, k ≤ m.locks.length ∧ i = .int .i64 k) (fun i => m.locks.length - (intOf i).toNat)
  case atStart => exact ⟨0, Nat.zero_le _, rfl⟩
  case round =>
    obtain ⟨k, hk, rfl⟩ := hrel
    by_cases hlt : k < m.locks.length
    · obtain ⟨b, c, rfl, c1, c2, hlc, rfl⟩ := hcell k hlt
      have hn := hall'.out _ (List.getElem_mem hlt)
      generalize m.locks[k].txn = tx at *
      generalize m.locks[k].page = pg at *
      clear hcell
      by_cases h1 : tx = txn
      · have h2 : ¬ pg = page := fun h => hn ⟨h1, h⟩
        clear hn
        subst h1
        go_wp2
        go_round
        case rel => exact ⟨k + 1, hlt, by go_num⟩
        case measure => simp [intOf]; omega
      · clear hn
        go_wp2
        go_round
        case rel => exact ⟨k + 1, hlt, by go_num⟩
        case measure => simp [intOf]; omega
    · obtain rfl : k = m.locks.length := by omega
      clear hcell
      by_cases hfull : m.locks.length < 256
      · have hfr3 := Lib.hid (hfr.trans (Fr.of_below hA3.out))
        have hown := HM.out.locks
        dsimp only at hown
        go_wp2_with fail
        have hown' : w3.drew.ownsRow B 52 3 (.slice AL m.locks.length cL) m.locks.length (rowL m.locks) := hown
        have hBw : B ≤ w3.drew.heap.size := by simp; omega
        have hgne := own_ne hown HM.out.blk (by decide)
        have hgbd : g < w3.drew.heap.size := hgb
        go_region_law (refine step_app1 w3.drew rfl (.tmp 162) (.tmp 164) 27 rfl E27 rfl hown' rfl rfl (by simp [Value.oneCell']) (by omega) hBw ?_; intro A6 c6 w6 hown6 hg6 hat6; have e6 : w6.cell? ⟨g, 0, none⟩ = some (.slice AL m.locks.length cL) := hg6.cell (w := w3.drew) e0 hgne; have f6 : w6.frozen? ⟨g, 0, none⟩ = false := by (rw [grown_frozen hg6 hgbd hgne]; exact ef))
        all_goals
          go_wp2_with fail
          go_ret
          have hown7 : OwnL w6 B (.slice A6 (m.locks ++ ([⟨txn, page, mode⟩] : List Lk)).length c6) (m.locks ++ ([⟨txn, page, mode⟩] : List Lk)) := by
            unfold OwnL
            rw [rowL_snoc, List.length_append]
            exact hown6
          have hpush := MAt.pushL (L := m.locks ++ ([⟨txn, page, mode⟩] : List Lk)) HM.out.drew hg6 hown7 ⟨_, _, rfl⟩ (by rw [List.length_append]; exact hat6)
          rw [List.length_append] at hpush
          exact ⟨hfr3.out.trans ((Fr.drew (Fr.refl _ _ _)).trans hpush.2), .inr ⟨hfull, rfl, ⟨_, _, hpush.1⟩⟩⟩
      · have hfull' : 256 ≤ m.locks.length := by omega
        go_wp2_with fail
        go_ret
        exact ⟨hfr.trans (Fr.of_below hA3.out), .inl ⟨hfull', rfl, ⟨_, _, HM.out⟩⟩⟩
end Go.Proofs.Ytejpjibhpjgcjaa
