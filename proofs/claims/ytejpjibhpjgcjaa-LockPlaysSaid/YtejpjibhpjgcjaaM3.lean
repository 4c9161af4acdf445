/-
  The document's table: For, Holders, Release.
  Conditions: those that each theorem names.
-/
import Derived.Test.YtejpjibhpjgcjaaM2
import Derived.Test.YtejpjibhpjgcjaaT
namespace Go.Proofs.Ytejpjibhpjgcjaa
open Go.RowKit

theorem forW_at {m : Tab} {txn : Int} {k : Nat} (hk : k < m.waits.length) (hno : ∀ l ∈ m.waits.take k, ¬ l.txn = txn) (h : m.waits[k].txn = txn) : forW m txn = against m.locks m.waits[k] := by
  have : m.waits.find? (fun l => l.txn == txn) = some m.waits[k] := by
    rw [List.find?_eq_some_iff_getElem]
    refine ⟨by simpa using h, k, hk, rfl, fun j hj => ?_⟩
    have := hno m.waits[j] (List.mem_take_iff_getElem.2 ⟨j, by omega, rfl⟩)
    simpa using this
  simp only [forW, this]
theorem forW_no {m : Tab} {txn : Int} (hno : ∀ l ∈ m.waits.take m.waits.length, ¬ l.txn = txn) : forW m txn = [] := by
  rw [List.take_length] at hno
  have : m.waits.find? (fun l => l.txn == txn) = none := by
    rw [List.find?_eq_none]; intro l hl; simpa using hno l hl
  simp only [forW, this]
theorem forW_len (m : Tab) (txn : Int) : (forW m txn).length ≤ m.locks.length := by
  unfold forW; split
  · exact against_len _ _
  · simp

set_option maxHeartbeats 1000000 in
theorem rfor_c (B g : Nat) (m : Tab) (w : World) (vd : Valid m) (h : MRep B w g m) (txn : Int) :
    Calls Try.prog 18 #[.pointer (some ⟨g, 0, none⟩), .int .i64 txn] w fun e w' => ∃ v, e = .returned v ∧ RdI w' v (forW m txn) ∧ Below w.heap.size w w' := by
  have hrep := h
  obtain ⟨vL, vW, h⟩ := h
  have hg := lt_of_heap h.blk
  have hL0 : w.cell? ⟨g, 1, none⟩ = some vW := by rw [cell_blkM h.blk]; rfl
  have hsz := vd.wsize
  by_cases hne : m.waits = []
  · obtain ⟨A, c, rfl⟩ := h.wform
    have hfin : forW m txn = [] := forW_no (by simp [hne])
    rw [hfin]
    rw [hne] at hL0
    simp only [List.length_nil] at hL0
    clear h hrep
    go_enter Try.func18, Try.ntmps18
    go_wp2
    refine wp_loop_rounds 1 ?_
    rw [rounds_succ]
    go_wp2
    go_ret
    exact ⟨_, rfl, RdV.nil _ _, Below.refl _ _⟩
  · obtain ⟨b, c, rfl, hlc, hBb, hb, hcell, _⟩ := own_cells h.waits hne
    clear h hne
    go_enter Try.func18, Try.ntmps18
    go_wp2
    go_loop [5] (fun i => ∃ k : Nat, k ≤ m.waits.length ∧ i = .int .i64 k ∧ ∀ l ∈ m.waits.take k, ¬ l.txn = txn) (fun i => m.waits.length - (intOf i).toNat)
    case atStart => exact ⟨0, Nat.zero_le _, rfl, by simp⟩
    case round =>
      obtain ⟨k, hk, rfl, hno⟩ := hrel
      by_cases hlt : k < m.waits.length
      · obtain ⟨c1, c2, c3⟩ := hcell k hlt
        by_cases h1 : m.waits[k].txn = txn
        · have hfin := Lib.hid (forW_at hlt hno h1)
          have HA := Lib.hid (ragainst_c B g m w vd hrep m.waits[k])
          clear hno hcell hrep
          generalize m.waits[k] = wk at *
          obtain ⟨a1, a2, a3⟩ := wk
          dsimp only at *
          subst h1
          go_wp2_with (go_at_call 24; refine (HA.out).mono ?_; rintro e w2 ⟨v2, rfl, hrd2, hbel2⟩)
          go_ret
          rw [hfin.out]
          exact ⟨_, rfl, hrd2, hbel2⟩
        · have hn' := Lib.hid (take_no hlt hno h1)
          generalize m.waits[k].txn = tx at *
          clear hno hcell hrep
          go_wp2
          go_round
          case rel => exact ⟨k + 1, hlt, by go_num, hn'.out⟩
          case measure => simp [intOf]; omega
      · obtain rfl : k = m.waits.length := by omega
        have hfin := Lib.hid (forW_no hno)
        clear hno hcell hrep
        go_wp2
        go_ret
        rw [hfin.out]
        exact ⟨_, rfl, RdV.nil _ _, Below.refl _ _⟩

def HoRel (w : World) (L : List Lk) (page : Int) (v i : Value) (wr : World) : Prop :=
  ∃ k : Nat, k ≤ L.length ∧ i = .int .i64 k ∧ RdI wr v (holdersOf (L.take k) page) ∧ Below w.heap.size w wr

set_option maxHeartbeats 1000000 in
theorem rholders_c (B g : Nat) (m : Tab) (w : World) (vd : Valid m) (h : MRep B w g m) (page : Int) :
    Calls Try.prog 16 #[.pointer (some ⟨g, 0, none⟩), .int .i64 page] w fun e w' => ∃ v, e = .returned v ∧ RdI w' v (holdersOf m.locks page) ∧ Below w.heap.size w w' := by
  obtain ⟨vL, vW, h⟩ := h
  have hg := lt_of_heap h.blk
  have hL0 : w.cell? ⟨g, 0, none⟩ = some vL := by rw [cell_blkM h.blk]; rfl
  have hsz := vd.size
  by_cases hne : m.locks = []
  · obtain ⟨A, c, rfl⟩ := h.lform
    rw [hne] at hL0 ⊢
    simp only [List.length_nil] at hL0
    clear h
    go_enter Try.func16, Try.ntmps16
    go_wp2
    refine wp_loop_rounds 1 ?_
    rw [rounds_succ]
    go_wp2
    go_ret
    exact ⟨_, rfl, RdV.nil _ _, Below.refl _ _⟩
  · obtain ⟨b, c, rfl, hlc, hBb, hb, hcell, _⟩ := own_cells h.locks hne
    clear h hne
    go_enter Try.func16, Try.ntmps16
    go_wp2
    go_loopw [5, 6] (HoRel w m.locks page) (fun _ i _ => m.locks.length - (intOf i).toNat)
    case atStart => exact ⟨0, Nat.zero_le _, rfl, RdV.nil _ _, Below.refl _ _⟩
    case round =>
      obtain ⟨k, hk, rfl, hrd, hbel⟩ := hrel
      have hbs := hbel.size
      have hr0 : wr.cell? ⟨g, 0, none⟩ = some (.slice (some ⟨b, 0, none⟩) m.locks.length c) := by rw [hbel.cell hg]; exact hL0
      have hal := holdersOf_len (m.locks.take k) page
      have htl := take_len_le m.locks k
      by_cases hlt : k < m.locks.length
      · obtain ⟨c1, c2, _⟩ := hcell k hlt
        have d1 : wr.cell? ⟨b, k * 3, none⟩ = some (.int .i64 m.locks[k].txn) := by rw [hbel.cell hb]; exact c1
        have d2 : wr.cell? ⟨b, k * 3 + 1, none⟩ = some (.int .i64 m.locks[k].page) := by rw [hbel.cell hb]; exact c2
        have hs := Lib.hid (holdersOf_succ (page := page) hlt)
        clear hcell c1 c2 hL0
        generalize m.locks[k].txn = ktx at *
        generalize m.locks[k].page = kpg at *
        by_cases h1 : kpg = page
        · have hs' : Hid (holdersOf (m.locks.take (k + 1)) page = ins (holdersOf (m.locks.take k) page) ktx) := by have := hs.out; rw [h1] at this; simp only [beq_self_eq_true, if_true] at this; exact this
          have hlen : (holdersOf (m.locks.take k) page).length ≤ 1000000 := by omega
          clear hs
          subst h1
          go_wp2_with (go_at_call 25; refine (insert_c _ _ ktx _ hlen hrd).mono ?_; rintro e w2 ⟨v2, rfl, hrd2, hbel2⟩)
          go_roundw
          case rel => exact ⟨k + 1, hlt, by go_num, by rw [hs'.out]; exact hrd2, hbel.trans (hbel2.mono hbs)⟩
          case measure => simp [intOf]; omega
        · have hs' : Hid (holdersOf (m.locks.take (k + 1)) page = holdersOf (m.locks.take k) page) := by have := hs.out; rw [if_neg (by simpa using h1)] at this; exact this
          clear hs
          go_wp2
          go_roundw
          case rel => exact ⟨k + 1, hlt, by go_num, by rw [hs'.out]; exact hrd, hbel⟩
          case measure => simp [intOf]; omega
      · obtain rfl : k = m.locks.length := by omega
        rw [List.take_length] at hrd
        clear hcell
        go_wp2
        go_ret
        exact ⟨_, rfl, hrd, hbel⟩

theorem E27 : ElemOk Try.prog 27 52 3 24 := ⟨Try.underlying27, ⟨.agg #[.int .i64 0, .int .i64 0, .int .i64 0], by kernel_rfl, rfl⟩, by omega, by omega⟩
theorem rowL_snoc (L : List Lk) (l : Lk) : rowL (L ++ [l]) = rowL L ++ [.int .i64 l.txn, .int .i64 l.page, .int .i64 l.mode] := by simp [rowL, cellsOf]

/-- the loop that keeps the rows of other transactions -/
def FgRel (w : World) (L : List Lk) (txn : Int) (v i : Value) (wr : World) : Prop :=
  ∃ k : Nat, k ≤ L.length ∧ i = .int .i64 k ∧ (∃ A c, v = .slice A (forget (L.take k) txn).length c) ∧ OwnL wr w.heap.size v (forget (L.take k) txn) ∧ Below w.heap.size w wr
theorem forget_succ {L : List Lk} {txn : Int} {k : Nat} (h : k < L.length) : forget (L.take (k + 1)) txn = if L[k].txn = txn then forget (L.take k) txn else forget (L.take k) txn ++ [L[k]] := by
  unfold forget
  rw [List.take_succ_eq_append_getElem h, List.filter_append]
  by_cases h1 : L[k].txn = txn <;> simp [h1]
theorem forget_len (L : List Lk) (txn : Int) : (forget L txn).length ≤ L.length := List.length_filter_le _ _

theorem own_more {w : World} {B B' : Nat} {e : TypeId} {sz n : Nat} {v : Value} {xs : List Value} (h : w.ownsRow B e sz v n xs) (hB : B' ≤ B) : w.ownsRow B' e sz v n xs := by
  obtain ⟨h1, h2⟩ := h
  refine ⟨h1, h2.imp id ?_⟩
  rintro ⟨g, cap, cur, a, b, c⟩
  exact ⟨g, cap, cur, a, by omega, c⟩

theorem heap_set_same {w : World} {g i : Nat} {cs : Array Value} {e : TypeId} {z : Nat × Nat} (h : w.heap[g]? = some (.cells cs e z)) (u : Value) : (w.setCell ⟨g, i, none⟩ u).heap[g]? = some (.cells (cs.setIfInBounds i u) e z) := by
  simp [World.setCell, Array.getElem?_modify, h]
theorem own_set {w : World} {B : Nat} {e : TypeId} {sz n : Nat} {v : Value} {xs : List Value} (h : w.ownsRow B e sz v n xs) {g i : Nat} (hg : ∀ c z, w.heap[g]? ≠ some (.cells c e z)) (u : Value) : (w.setCell ⟨g, i, none⟩ u).ownsRow B e sz v n xs :=
  own_keep h fun k c z hk => by rw [Below.heap_setCell _ _ _ _ (by rintro rfl; exact hg c z hk)]; exact hk
/-- the second list is replaced -/
theorem MAt.setW {B : Nat} {w : World} {g : Nat} {vL vW v : Value} {m : Tab} {W : List Lk} (h : MAt B w g vL vW m) (hown : OwnL w B v W) (hf : ∃ A c, v = .slice A W.length c) (hne : vL.ownBlock = none ∨ vL.ownBlock ≠ v.ownBlock) :
    MAt B (w.setCell ⟨g, 1, none⟩ v) g vL v ⟨m.locks, W⟩ := by
  have hg : ∀ c z, w.heap[g]? ≠ some (.cells c 52 z) := fun c z e => by rw [h.blk] at e; cases e
  exact ⟨h.b0, by have := heap_set_same (i := 1) h.blk v; simpa using this, own_set h.locks hg v, own_set hown hg v, h.lform, hf, hne⟩
theorem MAt.setL {B : Nat} {w : World} {g : Nat} {vL vW v : Value} {m : Tab} {L : List Lk} (h : MAt B w g vL vW m) (hown : OwnL w B v L) (hf : ∃ A c, v = .slice A L.length c) (hne : v.ownBlock = none ∨ v.ownBlock ≠ vW.ownBlock) :
    MAt B (w.setCell ⟨g, 0, none⟩ v) g v vW ⟨L, m.waits⟩ := by
  have hg : ∀ c z, w.heap[g]? ≠ some (.cells c 52 z) := fun c z e => by rw [h.blk] at e; cases e
  exact ⟨h.b0, by have := heap_set_same (i := 0) h.blk v; simpa using this, own_set hown hg v, own_set h.waits hg v, hf, h.wform, hne⟩
theorem MAt.below {B : Nat} {w w' : World} {g : Nat} {vL vW : Value} {m : Tab} (h : MAt B w g vL vW m) (hb : Below w.heap.size w w') : MAt B w' g vL vW m :=
  h.keep fun _ _ _ _ _ hk => (hb.block _ (lt_of_heap hk)).trans hk
/-- a row that is newer than w is apart from the rows in w -/
theorem own_apart {w wr : World} {B e sz n : Nat} {v u : Value} {xs : List Value} {e' sz' n' : Nat} {ys : List Value} {B' : Nat} (h : w.ownsRow B e sz v n xs) (h' : wr.ownsRow B' e' sz' u n' ys) (hB : w.heap.size ≤ B') : v.ownBlock = none ∨ v.ownBlock ≠ u.ownBlock := by
  cases hv : v.ownBlock with
  | none => exact .inl rfl
  | some k =>
    right
    intro hu
    have h1 := h.lt k hv
    have h2 := h'.lt k hu.symm
    omega
theorem fr_setM {B : Nat} {w0 w : World} {g i : Nat} {cs : Array Value} {e : TypeId} {z : Nat × Nat} {S : Obj → Bool} (hS : S (.cells cs e z) = true) (hf : Fr B S w0 w) (h0 : w0.heap[g]? = some (.cells cs e z)) (hb : B ≤ g) (u : Value) : Fr B S w0 (w.setCell ⟨g, i, none⟩ u) :=
  hf.setCell (.inr ⟨hb, fun o ho => by rw [h0] at ho; cases ho; exact hS⟩) u

set_option maxHeartbeats 1000000 in
theorem rforget_c (B g : Nat) (m : Tab) (w : World) (vd : Valid m) (h : MRep B w g m) (txn : Int) (hB : B ≤ w.heap.size) :
    Calls Try.prog 19 #[.pointer (some ⟨g, 0, none⟩), .int .i64 txn] w fun e w' => e = .returned (.tuple #[]) ∧ MRep B w' g ⟨m.locks, forget m.waits txn⟩ ∧ Fr B tagM w w' := by
  obtain ⟨vL, vW, h⟩ := h
  have HM := Lib.hid h
  have hg := lt_of_heap h.blk
  have hL0 : w.cell? ⟨g, 1, none⟩ = some vW := by rw [cell_blkM h.blk]; rfl
  have hF0 : w.frozen? ⟨g, 1, none⟩ = false := by simp [World.frozen?, h.blk]
  have hsz := vd.wsize
  by_cases hne : m.waits = []
  · obtain ⟨A, c, rfl⟩ := h.wform
    have hm : forget m.waits txn = [] := by simp [hne, forget]
    rw [hm]
    rw [hne] at hL0
    simp only [List.length_nil] at hL0
    clear h
    go_enter Try.func19, Try.ntmps19
    go_wp2
    refine wp_loop_rounds 1 ?_
    rw [rounds_succ]
    go_wp2
    go_end0
    refine ⟨rfl, ⟨vL, .slice none 0 0, HM.out.setW (World.ownsRow_nil _ _ _ _) ⟨none, 0, rfl⟩ ?_⟩, fr_setM (by rfl) (Fr.refl _ _ _) HM.out.blk HM.out.b0 _⟩
    cases hv : vL.ownBlock <;> simp [Value.ownBlock]
  · obtain ⟨b, c, rfl, hlc, hBb, hb, hcell, _⟩ := own_cells h.waits hne
    clear h hne
    go_enter Try.func19, Try.ntmps19
    go_wp2
    go_loopw [4, 5] (FgRel w m.waits txn) (fun _ i _ => m.waits.length - (intOf i).toNat)
    case atStart => exact ⟨0, Nat.zero_le _, rfl, ⟨none, 0, rfl⟩, World.ownsRow_nil _ _ _ _, Below.refl _ _⟩
    case round =>
      obtain ⟨k, hk, rfl, ⟨A, cA, rfl⟩, hown, hbel⟩ := hrel
      have hbs := hbel.size
      have hr0 : wr.cell? ⟨g, 1, none⟩ = some (.slice (some ⟨b, 0, none⟩) m.waits.length c) := by rw [hbel.cell hg]; exact hL0
      have hrf : wr.frozen? ⟨g, 1, none⟩ = false := by rw [hbel.frozen hg]; exact hF0
      have hal := forget_len (m.waits.take k) txn
      have htl := take_len_le m.waits k
      by_cases hlt : k < m.waits.length
      · obtain ⟨c1, c2, c3⟩ := hcell k hlt
        have d1 : wr.cell? ⟨b, k * 3, none⟩ = some (.int .i64 m.waits[k].txn) := by rw [hbel.cell hb]; exact c1
        have d2 : wr.cell? ⟨b, k * 3 + 1, none⟩ = some (.int .i64 m.waits[k].page) := by rw [hbel.cell hb]; exact c2
        have d3 : wr.cell? ⟨b, k * 3 + 2, none⟩ = some (.int .i64 m.waits[k].mode) := by rw [hbel.cell hb]; exact c3
        have hs := Lib.hid (forget_succ (txn := txn) hlt)
        clear hcell c1 c2 c3 hL0 hF0
        by_cases h1 : m.waits[k].txn = txn
        · have hs' : Hid (forget (m.waits.take (k + 1)) txn = forget (m.waits.take k) txn) := by have := hs.out; rw [if_pos h1] at this; exact this
          rw [h1] at d1
          clear hs h1
          go_wp2
          go_roundw
          case rel => exact ⟨k + 1, hlt, by go_num, ⟨A, cA, by rw [hs'.out]⟩, by rw [hs'.out]; exact hown, hbel⟩
          case measure => simp [intOf]; omega
        · have hs' : Hid (forget (m.waits.take (k + 1)) txn = forget (m.waits.take k) txn ++ [m.waits[k]]) := by have := hs.out; rw [if_neg h1] at this; exact this
          generalize m.waits[k] = wk at *
          obtain ⟨ktx, kpg, kmd⟩ := wk
          dsimp only at *
          clear hs
          generalize hfk : forget (m.waits.take k) txn = fk at *
          clear hfk
          go_wp2_with (at_builtin; refine wpList_app1 wr rfl _ _ _ rfl E27 rfl hown rfl rfl (by simp [Value.oneCell']) (by omega) hbs ?_; intro A1 c1 w1 hown1 hg1)
          go_roundw
          case rel =>
            refine ⟨k + 1, hlt, by go_num, ⟨A1, c1, by rw [hs'.out]; simp⟩, ?_, below_grown hbel hown hbs hg1⟩
            rw [hs'.out]
            unfold OwnL
            rw [rowL_snoc]
            simpa using hown1
          case measure => simp [intOf]; omega
      · obtain rfl : k = m.waits.length := by omega
        rw [List.take_length] at hown
        have hlen : (forget (m.waits.take m.waits.length) txn).length = (forget m.waits txn).length := by rw [List.take_length]
        rw [hlen]
        clear hcell hlen hal
        go_wp2
        go_end0
        refine ⟨rfl, ⟨vL, _, (HM.out.below hbel).setW (own_more hown hB) ⟨_, _, rfl⟩ (own_apart HM.out.locks hown (Nat.le_refl _))⟩, fr_setM (by rfl) (Fr.of_below hbel) HM.out.blk HM.out.b0 _⟩

theorem count_forget (L : List Lk) (txn : Int) : ((L.filter (fun l => l.txn == txn)).length : Int) = (L.length : Int) - ((forget L txn).length : Int) := by
  unfold forget
  induction L with
  | nil => rfl
  | cons l L ih =>
    by_cases h : l.txn = txn
    · simp [h] at ih ⊢; omega
    · simp [h] at ih ⊢; omega
theorem valid_forget {m : Tab} (v : Valid m) (txn : Int) : Valid ⟨m.locks, forget m.waits txn⟩ :=
  { v with wnodup := v.wnodup.filter _, wmodes := fun l hl => v.wmodes l (List.mem_filter.1 hl).1, wsize := Nat.le_trans (forget_len _ _) v.wsize }

set_option maxHeartbeats 1000000 in
theorem rrelease_c (B g : Nat) (m : Tab) (w : World) (vd : Valid m) (h : MRep B w g m) (txn : Int) (hB : B ≤ w.heap.size) :
    Calls Try.prog 7 #[.pointer (some ⟨g, 0, none⟩), .int .i64 txn] w fun e w' => e = .returned (.int .i64 (release m txn).1) ∧ MRep B w' g (release m txn).2 ∧ Fr B tagM w w' := by
  have hcnt := Lib.hid (count_forget m.locks txn)
  have HF := Lib.hid (rforget_c B g m w vd h txn hB)
  have vd1 := valid_forget vd txn
  have hrel2 : (release m txn).2 = ⟨forget m.locks txn, forget m.waits txn⟩ := rfl
  have hrel1 : (release m txn).1 = ((m.locks.filter (fun l => l.txn == txn)).length : Int) := rfl
  rw [hrel1, hrel2, hcnt.out]
  clear hrel1 hrel2 hcnt h
  go_enter Try.func7, Try.ntmps7
  go_wp2_with fail
  refine (HF.out).mono ?_
  rintro e w1 ⟨rfl, hrep, hfr⟩
  obtain ⟨vL, vW, h⟩ := hrep
  have HM := Lib.hid h
  have hs0 := hfr.size
  have hg := lt_of_heap h.blk
  have hL0 : w1.cell? ⟨g, 0, none⟩ = some vL := by rw [cell_blkM h.blk]; rfl
  have hF0 : w1.frozen? ⟨g, 0, none⟩ = false := by simp [World.frozen?, h.blk]
  have hsz := vd1.size
  dsimp only at hsz
  by_cases hne : m.locks = []
  · obtain ⟨A, c, rfl⟩ := h.lform
    have hm : forget m.locks txn = [] := by simp [hne, forget]
    dsimp only at hL0
    rw [hne] at hL0
    simp only [List.length_nil] at hL0
    clear h
    go_wp2
    refine wp_loop_rounds 1 ?_
    rw [rounds_succ]
    go_wp2
    go_ret
    rw [hm]
    refine ⟨by simp [hne], ⟨.slice none 0 0, vW, HM.out.setL (World.ownsRow_nil _ _ _ _) ⟨none, 0, rfl⟩ (.inl rfl)⟩, hfr.trans (fr_setM (by rfl) (Fr.refl _ _ _) HM.out.blk HM.out.b0 _)⟩
  · obtain ⟨b, c, rfl, hlc, hBb, hb, hcell, _⟩ := own_cells h.locks hne
    dsimp only at hL0 hcell hlc
    clear h hne
    go_wp2
    go_loopw [5, 6] (FgRel w1 m.locks txn) (fun _ i _ => m.locks.length - (intOf i).toNat)
    case atStart => exact ⟨0, Nat.zero_le _, rfl, ⟨none, 0, rfl⟩, World.ownsRow_nil _ _ _ _, Below.refl _ _⟩
    case round =>
      obtain ⟨k, hk, rfl, ⟨A, cA, rfl⟩, hown, hbel⟩ := hrel
      have hbs := hbel.size
      have hr0 : wr.cell? ⟨g, 0, none⟩ = some (.slice (some ⟨b, 0, none⟩) m.locks.length c) := by rw [hbel.cell hg]; exact hL0
      have hrf : wr.frozen? ⟨g, 0, none⟩ = false := by rw [hbel.frozen hg]; exact hF0
      have hal := forget_len (m.locks.take k) txn
      have htl := take_len_le m.locks k
      by_cases hlt : k < m.locks.length
      · obtain ⟨c1, c2, c3⟩ := hcell k hlt
        have d1 : wr.cell? ⟨b, k * 3, none⟩ = some (.int .i64 m.locks[k].txn) := by rw [hbel.cell hb]; exact c1
        have d2 : wr.cell? ⟨b, k * 3 + 1, none⟩ = some (.int .i64 m.locks[k].page) := by rw [hbel.cell hb]; exact c2
        have d3 : wr.cell? ⟨b, k * 3 + 2, none⟩ = some (.int .i64 m.locks[k].mode) := by rw [hbel.cell hb]; exact c3
        have hs := Lib.hid (forget_succ (txn := txn) hlt)
        clear hcell c1 c2 c3 hL0 hF0
        by_cases h1 : m.locks[k].txn = txn
        · have hs' : Hid (forget (m.locks.take (k + 1)) txn = forget (m.locks.take k) txn) := by have := hs.out; rw [if_pos h1] at this; exact this
          rw [h1] at d1
          clear hs h1
          go_wp2
          go_roundw
          case rel => exact ⟨k + 1, hlt, by go_num, ⟨A, cA, by rw [hs'.out]⟩, by rw [hs'.out]; exact hown, hbel⟩
          case measure => simp [intOf]; omega
        · have hs' : Hid (forget (m.locks.take (k + 1)) txn = forget (m.locks.take k) txn ++ [m.locks[k]]) := by have := hs.out; rw [if_neg h1] at this; exact this
          generalize m.locks[k] = wk at *
          obtain ⟨ktx, kpg, kmd⟩ := wk
          dsimp only at *
          clear hs
          generalize hfk : forget (m.locks.take k) txn = fk at *
          clear hfk
          go_wp2_with (at_builtin; refine wpList_app1 wr rfl _ _ _ rfl E27 rfl hown rfl rfl (by simp [Value.oneCell']) (by omega) hbs ?_; intro A1 c1 w1 hown1 hg1)
          go_roundw
          case rel =>
            refine ⟨k + 1, hlt, by go_num, ⟨A1, c1, by rw [hs'.out]; simp⟩, ?_, below_grown hbel hown hbs hg1⟩
            rw [hs'.out]
            unfold OwnL
            rw [rowL_snoc]
            simpa using hown1
          case measure => simp [intOf]; omega
      · obtain rfl : k = m.locks.length := by omega
        rw [List.take_length] at hown
        have hlen : (forget (m.locks.take m.locks.length) txn).length = (forget m.locks txn).length := by rw [List.take_length]
        rw [hlen] at hal ⊢
        clear hcell hlen
        go_wp2
        go_ret
        refine ⟨rfl, ⟨_, vW, (HM.out.below hbel).setL (own_more hown (by omega)) ⟨_, _, rfl⟩ ?_⟩, hfr.trans (fr_setM (by rfl) (Fr.of_below hbel) HM.out.blk HM.out.b0 _)⟩
        rcases own_apart HM.out.waits hown (Nat.le_refl _) with h0 | h0
        · rw [h0]; cases A <;> simp [Value.ownBlock]
        · exact .inr (Ne.symm h0)
end Go.Proofs.Ytejpjibhpjgcjaa
