/-
  The document's table: along, and plain laws of lists.
  Conditions: those that each theorem names.
-/
import Derived.Test.YtejpjibhpjgcjaaM
namespace Go.Proofs.Ytejpjibhpjgcjaa
open Go.RowKit

theorem ralong_c (a b : Int) (w : World) :
    Calls Try.prog 30 #[.int .i64 a, .int .i64 b] w fun e w' => e = .returned (.bool (Along a b)) ∧ w = w' := by
  by_cases h1 : a = 1
  · subst h1
    by_cases h2 : b = 1
    · subst h2
      go_enter Try.func30, Try.ntmps30
      go_wp2
      go_ret
      exact ⟨rfl, rfl⟩
    · go_enter Try.func30, Try.ntmps30
      go_wp2
      go_ret
      simp [Along]
  · by_cases h3 : a = 2
    · subst h3
      by_cases h2 : b = 2
      · subst h2
        go_enter Try.func30, Try.ntmps30
        go_wp2
        go_ret
        exact ⟨rfl, rfl⟩
      · go_enter Try.func30, Try.ntmps30
        go_wp2
        go_ret
        simp [Along]
    · go_enter Try.func30, Try.ntmps30
      go_wp2
      go_ret
      simp [Along, h1, h3]

theorem ins_len (xs : List Int) (n : Int) : (ins xs n).length ≤ xs.length + 1 := by
  unfold ins
  have h := insSt_len xs n xs.length (Nat.le_refl _)
  split
  · omega
  · split
    · rename_i hd; rw [hd] at h; simp at h; omega
    · rename_i hd; simp [hd] at h; simp; omega
theorem foldl_ins_len {α : Type} (p : α → Bool) (f : α → Int) : ∀ (L : List α) (xs : List Int), (L.foldl (fun out l => if p l then ins out (f l) else out) xs).length ≤ xs.length + L.length
  | [], xs => by simp
  | l :: L, xs => by
    simp only [List.foldl_cons, List.length_cons]
    have := foldl_ins_len p f L (if p l = true then ins xs (f l) else xs)
    have h2 : (if p l = true then ins xs (f l) else xs).length ≤ xs.length + 1 := by
      split
      · exact ins_len _ _
      · omega
    omega
theorem against_len (L : List Lk) (w : Lk) : (against L w).length ≤ L.length := by
  have := foldl_ins_len (againstP w) Lk.txn L []
  simpa [against] using this
theorem holdersOf_len (L : List Lk) (page : Int) : (holdersOf L page).length ≤ L.length := by
  have := foldl_ins_len (fun l : Lk => l.page == page) Lk.txn L []
  simpa [holdersOf] using this
theorem against_succ {L : List Lk} {w : Lk} {k : Nat} (h : k < L.length) : against (L.take (k + 1)) w = if againstP w L[k] then ins (against (L.take k) w) L[k].txn else against (L.take k) w := by
  unfold against
  rw [List.take_succ_eq_append_getElem h, List.foldl_append]
  rfl
theorem holdersOf_succ {L : List Lk} {page : Int} {k : Nat} (h : k < L.length) : holdersOf (L.take (k + 1)) page = if L[k].page == page then ins (holdersOf (L.take k) page) L[k].txn else holdersOf (L.take k) page := by
  unfold holdersOf
  rw [List.take_succ_eq_append_getElem h, List.foldl_append]
  rfl
theorem take_len_le {α : Type} (L : List α) (k : Nat) : (L.take k).length ≤ L.length := by
  rw [List.length_take]; omega

def AgRel (w1 : World) (L : List Lk) (W : Lk) (v i : Value) (wr : World) : Prop :=
  ∃ k : Nat, k ≤ L.length ∧ i = .int .i64 k ∧ RdI wr v (against (L.take k) W) ∧ Below w1.heap.size w1 wr

theorem cell_alloc_old {w : World} {o : Obj} {p : Addr} (h : p.block < w.heap.size) : (w.alloc o).cell? p = w.cell? p :=
  World.cell?_of_block (w := w) (Below.heap_alloc w o p.block h)

set_option maxHeartbeats 1000000 in
theorem ragainst_c (B g : Nat) (m : Tab) (w : World) (vd : Valid m) (h : MRep B w g m) (W : Lk) :
    Calls Try.prog 24 #[.pointer (some ⟨g, 0, none⟩), .agg #[.int .i64 W.txn, .int .i64 W.page, .int .i64 W.mode]] w fun e w' => ∃ v, e = .returned v ∧ RdI w' v (against m.locks W) ∧ Below w.heap.size w w' := by
  obtain ⟨tx, pg, md⟩ := W
  obtain ⟨vL, vW, h⟩ := h
  have hg := lt_of_heap h.blk
  have hL0 : w.cell? ⟨g, 0, none⟩ = some vL := by rw [cell_blkM h.blk]; rfl
  have hsz := vd.size
  by_cases hne : m.locks = []
  · obtain ⟨A, c, rfl⟩ := h.lform
    rw [hne] at hL0 ⊢
    simp only [List.length_nil] at hL0
    have hL1 : (w.alloc (.cells #[.int .i64 tx, .int .i64 pg, .int .i64 md] 52)).cell? ⟨g, 0, none⟩ = some (.slice A 0 c) := by rw [cell_alloc_old hg]; exact hL0
    clear h hL0
    go_enter Try.func24, Try.ntmps24
    go_wp2
    refine wp_loop_rounds 1 ?_
    rw [rounds_succ]
    go_wp2
    go_ret
    exact ⟨_, rfl, RdV.nil _ _, (Below.refl _ _).alloc (Nat.le_refl _) _⟩
  · obtain ⟨b, c, rfl, hlc, hBb, hb, hcell, _⟩ := own_cells h.locks hne
    clear h hne
    go_enter Try.func24, Try.ntmps24
    go_wp2
    go_loopw [5, 6] (AgRel (w.alloc (.cells #[.int .i64 tx, .int .i64 pg, .int .i64 md] 52)) m.locks ⟨tx, pg, md⟩) (fun _ i _ => m.locks.length - (intOf i).toNat)
    case atStart => exact ⟨0, Nat.zero_le _, rfl, RdV.nil _ _, Below.refl _ _⟩
    case round =>
      obtain ⟨k, hk, rfl, hrd, hbel⟩ := hrel
      have hbs := hbel.size
      simp only [World.size_alloc] at hbs
      have hbs1 : w.heap.size < wr.heap.size := by omega
      have hbg1 : g < wr.heap.size := by omega
      have hbb1 : b < wr.heap.size := by omega
      have hr0 : wr.cell? ⟨g, 0, none⟩ = some (.slice (some ⟨b, 0, none⟩) m.locks.length c) := by rw [hbel.cell (by simp; omega), cell_alloc_old hg]; exact hL0
      have hb0 : wr.cell? ⟨w.heap.size, 0, none⟩ = some (.int .i64 tx) := by rw [hbel.cell (by simp)]; simp
      have hb1 : wr.cell? ⟨w.heap.size, 1, none⟩ = some (.int .i64 pg) := by rw [hbel.cell (by simp)]; simp
      have hb2 : wr.cell? ⟨w.heap.size, 2, none⟩ = some (.int .i64 md) := by rw [hbel.cell (by simp)]; simp
      have hal := against_len (m.locks.take k) ⟨tx, pg, md⟩
      have htl := take_len_le m.locks k
      by_cases hlt : k < m.locks.length
      · obtain ⟨c1, c2, c3⟩ := hcell k hlt
        have d1 : wr.cell? ⟨b, k * 3, none⟩ = some (.int .i64 m.locks[k].txn) := by rw [hbel.cell (by simp; omega), cell_alloc_old hb]; exact c1
        have d2 : wr.cell? ⟨b, k * 3 + 1, none⟩ = some (.int .i64 m.locks[k].page) := by rw [hbel.cell (by simp; omega), cell_alloc_old hb]; exact c2
        have d3 : wr.cell? ⟨b, k * 3 + 2, none⟩ = some (.int .i64 m.locks[k].mode) := by rw [hbel.cell (by simp; omega), cell_alloc_old hb]; exact c3
        have hs := Lib.hid (against_succ (w := ⟨tx, pg, md⟩) hlt)
        have hP : againstP ⟨tx, pg, md⟩ m.locks[k] = (m.locks[k].page == pg && (m.locks[k].txn != tx) && !Along m.locks[k].mode md) := rfl
        clear hcell c1 c2 c3 hL0
        generalize m.locks[k].txn = ktx at *
        generalize m.locks[k].page = kpg at *
        generalize m.locks[k].mode = kmd at *
        by_cases h1 : kpg = pg
        · by_cases h2 : ktx = tx
          · have hf : againstP ⟨tx, pg, md⟩ m.locks[k] = false := by rw [hP]; simp [h2]
            have hs' : Hid (against (m.locks.take (k + 1)) ⟨tx, pg, md⟩ = against (m.locks.take k) ⟨tx, pg, md⟩) := by have := hs.out; rw [hf] at this; exact this
            clear hs hP hf
            subst h1
            subst h2
            go_wp2
            go_roundw
            case rel =>
              exact ⟨k + 1, hlt, by go_num, by rw [hs'.out]; exact RdV.below hrd ((Below.refl _ _).alloc (Nat.le_refl _) _), hbel.alloc (by simp; omega) _⟩
            case measure => simp [intOf]; omega
          · cases h3 : Along kmd md with
            | true =>
              have hf : againstP ⟨tx, pg, md⟩ m.locks[k] = false := by rw [hP]; simp [h3]
              have hs' : Hid (against (m.locks.take (k + 1)) ⟨tx, pg, md⟩ = against (m.locks.take k) ⟨tx, pg, md⟩) := by have := hs.out; rw [hf] at this; exact this
              have hA : ∀ W, Calls Try.prog 30 #[.int .i64 kmd, .int .i64 md] W fun e w' => e = .returned (.bool true) ∧ W = w' := by intro W; rw [← h3]; exact ralong_c kmd md W
              have HA := Lib.hid hA
              clear hs hP hf h3 hA
              subst h1
              go_wp2_with (go_at_call 30; refine (HA.out _).mono ?_; rintro e w' ⟨rfl, rfl⟩)
              go_roundw
              case rel =>
                exact ⟨k + 1, hlt, by go_num, by rw [hs'.out]; exact RdV.below hrd ((Below.refl _ _).alloc (Nat.le_refl _) _), hbel.alloc (by simp; omega) _⟩
              case measure => simp [intOf]; omega
            | false =>
              have hf : againstP ⟨tx, pg, md⟩ m.locks[k] = true := by rw [hP]; simp [h1, h2, h3]
              have hs' : Hid (against (m.locks.take (k + 1)) ⟨tx, pg, md⟩ = ins (against (m.locks.take k) ⟨tx, pg, md⟩) ktx) := by have := hs.out; rw [hf] at this; exact this
              have hA : ∀ W, Calls Try.prog 30 #[.int .i64 kmd, .int .i64 md] W fun e w' => e = .returned (.bool false) ∧ W = w' := by intro W; rw [← h3]; exact ralong_c kmd md W
              have HA := Lib.hid hA
              have hlen : (against (m.locks.take k) ⟨tx, pg, md⟩).length ≤ 1000000 := by omega
              clear hs hP hf h3 hA
              subst h1
              go_wp2_with (first
                | (go_at_call 30; refine (HA.out _).mono ?_; rintro e w' ⟨rfl, rfl⟩)
                | (go_at_call 25; refine (insert_c _ _ ktx _ hlen (RdV.below hrd ((Below.refl _ _).alloc (Nat.le_refl _) _))).mono ?_; rintro e w2 ⟨v2, rfl, hrd2, hbel2⟩))
              go_roundw
              case rel =>
                exact ⟨k + 1, hlt, by go_num, by rw [hs'.out]; exact hrd2, (hbel.alloc (by simp; omega) _).trans (hbel2.mono (by simp; omega))⟩
              case measure => simp [intOf]; omega
        · have hf : againstP ⟨tx, pg, md⟩ m.locks[k] = false := by rw [hP]; simp [h1]
          have hs' : Hid (against (m.locks.take (k + 1)) ⟨tx, pg, md⟩ = against (m.locks.take k) ⟨tx, pg, md⟩) := by have := hs.out; rw [hf] at this; exact this
          clear hs hP hf
          go_wp2
          go_roundw
          case rel =>
            exact ⟨k + 1, hlt, by go_num, by rw [hs'.out]; exact RdV.below hrd ((Below.refl _ _).alloc (Nat.le_refl _) _), hbel.alloc (by simp; omega) _⟩
          case measure => simp [intOf]; omega
      · obtain rfl : k = m.locks.length := by omega
        rw [List.take_length] at hrd
        clear hcell
        go_wp2
        go_ret
        exact ⟨_, rfl, hrd, ((Below.refl _ _).alloc (Nat.le_refl _) _).trans (hbel.mono (by simp))⟩
end Go.Proofs.Ytejpjibhpjgcjaa
