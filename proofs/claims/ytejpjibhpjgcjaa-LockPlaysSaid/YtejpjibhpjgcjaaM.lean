/-
  The document's table of locks in memory; insert and Holds.
  Conditions: those that each theorem names.
-/
import Derived.Test.YtejpjibhpjgcjaaProg
import Derived.Test.YtejpjibhpjgcjaaPure
namespace Go.Proofs.Ytejpjibhpjgcjaa
open Go.RowKit

def ints (xs : List Int) : List Value := xs.map (Value.int .i64)
theorem ints_one (xs : List Int) : ∀ u ∈ ints xs, u.oneCell' = true := ints_oneCell .i64 xs
theorem E41 : ElemOk Try.prog 41 3 1 8 := ⟨Try.underlying41, ⟨.int .i64 0, by kernel_rfl, rfl⟩, by omega, by omega⟩
/-- a slice of ints -/
def RdI (w : World) (v : Value) (xs : List Int) : Prop := RdV w 1 v xs.length (ints xs)
theorem RdI.form {w : World} {v : Value} {xs : List Int} (h : RdI w v xs) (hne : xs ≠ []) : ∃ b o c, v = .slice (some ⟨b, o, none⟩) xs.length c ∧ xs.length ≤ c ∧ b < w.heap.size ∧ ∀ i (hi : i < xs.length), w.cell? ⟨b, o + i, none⟩ = some (.int .i64 xs[i]) := by
  obtain ⟨_, A, c, rfl, h2, h3⟩ := h
  have hl : xs.length ≠ 0 := by simpa using hne
  rcases h3 with h3 | ⟨b, o, rfl, h4, h5⟩
  · exact absurd h3 hl
  · exact ⟨b, o, c, rfl, h2, h4, fun i hi => h5 i _ (by simp [ints, hi])⟩
theorem RdI.any {w : World} {v : Value} {xs : List Int} (h : RdI w v xs) : ∃ A c, v = .slice A xs.length c := by
  obtain ⟨_, A, c, rfl, _⟩ := h; exact ⟨A, c, rfl⟩
theorem RdI.empty {w : World} {v : Value} (h : RdI w v []) : ∃ A c, v = .slice A 0 c := by
  obtain ⟨_, A, c, rfl, _⟩ := h; exact ⟨A, c, rfl⟩
abbrev OwnI (w : World) (B : Nat) (v : Value) (xs : List Int) : Prop := w.ownsRow B 3 1 v xs.length (ints xs)

theorem own_snoc {w : World} {B : Nat} {A : Option Addr} {c : Nat} {xs : List Int} {x : Int} (h : w.ownsRow B 3 1 (.slice A (xs.length + 1) c) (xs.length + 1) (ints xs ++ #[Value.int .i64 x].toList)) : OwnI w B (.slice A (xs ++ [x]).length c) (xs ++ [x]) := by
  unfold OwnI
  rw [List.length_append]
  simpa [ints] using h

theorem insSt_le (xs : List Int) (n : Int) (k : Nat) (h : k ≤ xs.length) : (insSt xs n k).1.length ≤ k + 1 := by
  rw [insSt_len xs n k h]; split <;> omega
theorem ins_of_in {xs : List Int} {n : Int} {k : Nat} (h : k < xs.length) (e : xs[k] = n) : ins xs n = xs := by
  unfold ins; rw [if_pos]; exact e ▸ List.getElem_mem h
theorem ins_of_done {xs : List Int} {n : Int} (h : ∀ x ∈ xs.take xs.length, x ≠ n) (hd : (insSt xs n xs.length).2 = true) : ins xs n = (insSt xs n xs.length).1 := by
  rw [List.take_length] at h
  unfold ins; rw [if_neg (fun hm => h n hm rfl), if_pos hd]
theorem ins_of_not {xs : List Int} {n : Int} (h : ∀ x ∈ xs.take xs.length, x ≠ n) (hd : (insSt xs n xs.length).2 = false) : ins xs n = (insSt xs n xs.length).1 ++ [n] := by
  rw [List.take_length] at h
  unfold ins; rw [if_neg (fun hm => h n hm rfl), if_neg (by simp [hd])]
theorem take_ne {xs : List Int} {n : Int} {k : Nat} (h : k < xs.length) (hne : ∀ x ∈ xs.take k, x ≠ n) (e : ¬ xs[k] = n) : ∀ x ∈ xs.take (k + 1), x ≠ n := by
  rw [List.take_succ_eq_append_getElem h]
  intro x hx
  rcases List.mem_append.1 hx with hx | hx
  · exact hne x hx
  · simp only [List.mem_singleton] at hx; subst hx; exact e

/-- the loop's relation -/
def InsRel (w : World) (xs : List Int) (n : Int) (v d i : Value) (wr : World) : Prop :=
  ∃ k : Nat, k ≤ xs.length ∧ i = .int .i64 k ∧ d = .bool (insSt xs n k).2 ∧ (∃ A c, v = .slice A (insSt xs n k).1.length c) ∧ OwnI wr w.heap.size v (insSt xs n k).1 ∧ Below w.heap.size w wr ∧ (∀ x ∈ xs.take k, x ≠ n)

set_option maxHeartbeats 1000000 in
theorem insert_c (vl : Value) (xs : List Int) (n : Int) (w : World) (hl : xs.length ≤ 1000000) (hrd : RdI w vl xs) :
    Calls Try.prog 25 #[vl, .int .i64 n] w fun e w' => ∃ v, e = .returned v ∧ RdI w' v (ins xs n) ∧ Below w.heap.size w w' := by
  by_cases hx0 : xs = []
  · subst hx0
    obtain ⟨A, c, rfl⟩ := hrd.empty
    have hown0 : w.ownsRow w.heap.size 3 1 (.slice none 0 0) 0 [] := World.ownsRow_nil _ _ _ _
    go_enter Try.func25, Try.ntmps25
    go_wp2
    refine wp_loop_rounds 1 ?_
    rw [rounds_succ]
    go_wp2_with (at_builtin; refine wpList_app1 w rfl _ _ _ rfl E41 rfl hown0 rfl rfl (by simp [Value.oneCell']) (by omega) (Nat.le_refl _) ?_; intro A1 c1 w1 hown1 hg1)
    go_ret
    refine ⟨_, rfl, ?_, below_grown (Below.refl _ _) hown0 (Nat.le_refl _) hg1⟩
    exact RdV.of_own (by simpa [ints, ins, insSt] using hown1)
  · obtain ⟨b, o, c, rfl, hlc, hb, hc⟩ := hrd.form hx0
    have hpos : 0 < xs.length := List.length_pos_iff.2 hx0
    go_enter Try.func25, Try.ntmps25
    go_wp2
    go_loopw [5, 6, 7] (InsRel w xs n) (fun _ _ i _ => xs.length - (intOf i).toNat)
    case atStart => exact ⟨0, Nat.zero_le _, rfl, rfl, ⟨none, 0, rfl⟩, World.ownsRow_nil _ _ _ _, Below.refl _ _, by simp⟩
    case round =>
      obtain ⟨k, hk, rfl, rfl, ⟨A, cA, rfl⟩, hown, hbel, hne⟩ := hrel
      have hle := insSt_le xs n k hk
      have hbs := hbel.size
      by_cases hlt : k < xs.length
      · have hck : wr.cell? ⟨b, o + k, none⟩ = some (.int .i64 xs[k]) := by rw [hbel.cell hb]; exact hc k hlt
        have hsucc := Lib.hid (insSt_succ xs n k hlt)
        by_cases he : xs[k] = n
        · have hfin := Lib.hid (ins_of_in hlt he)
          rw [he] at hck
          clear hsucc he hne hown
          go_wp2_with fail
          go_ret
          rw [hfin.out]
          exact ⟨_, rfl, RdV.below hrd hbel, hbel⟩
        · have hne' := Lib.hid (take_ne hlt hne he)
          cases hd : (insSt xs n k).2 with
          | true =>
            have hs1 : Hid (insSt xs n (k + 1) = ((insSt xs n k).1 ++ [xs[k]], true)) := by
              have := hsucc.out; simp [hd] at this; exact this
            clear hsucc hd hne
            generalize hst : (insSt xs n k).1 = st at *
            clear hst
            generalize hy : xs[k] = y at *
            clear hy
            go_wp2_with (at_builtin; refine wpList_app1 wr rfl _ _ _ rfl E41 rfl hown rfl rfl (by simp [Value.oneCell']) (by omega) hbs ?_; intro A1 c1 w1 hown1 hg1)
            go_roundw
            case rel =>
              refine ⟨k + 1, hlt, by go_num, by rw [hs1.out], ⟨A1, c1, by rw [hs1.out]; simp⟩, ?_, below_grown hbel hown hbs hg1, hne'.out⟩
              rw [hs1.out]
              have := own_snoc hown1
              rw [List.length_append] at this
              exact this
            case measure => simp [intOf]; omega
          | false =>
            by_cases hlt2 : n < xs[k]
            · have hs1 : Hid (insSt xs n (k + 1) = ((insSt xs n k).1 ++ [n, xs[k]], true)) := by
                have := hsucc.out; simp [hd, hlt2] at this; exact this
              clear hsucc hd hne
              generalize hst : (insSt xs n k).1 = st at *
              clear hst
              generalize hy : xs[k] = y at *
              clear hy
              go_wp2_with (first
                | (at_builtin; refine wpList_app1 wr rfl (.tmp 31) _ _ rfl E41 rfl hown rfl rfl (by simp [Value.oneCell']) (by omega) hbs ?_; intro A1 c1 w1 hown1 hg1; have hbel1 := below_grown hbel hown hbs hg1; have hbs1 := hbel1.size; have hck1 : w1.cell? ⟨b, o + k, none⟩ = some (.int .i64 y) := by (rw [hg1.cell (a := ⟨b, o + k, none⟩) hck (fun e => by have := hown.lt _ e.symm; simp at this; omega)]))
                | (at_builtin; refine wpList_app1 w1 rfl (.tmp 35) _ _ rfl E41 rfl hown1 rfl rfl (by simp [Value.oneCell']) (by omega) hbs1 ?_; intro A2 c2 w2 hown2 hg2))
              go_roundw
              case rel =>
                refine ⟨k + 1, hlt, by go_num, by rw [hs1.out], ⟨A2, c2, by rw [hs1.out]; simp⟩, ?_, below_grown hbel1 hown1 hbs1 hg2, hne'.out⟩
                rw [hs1.out]
                unfold OwnI
                simpa [ints] using hown2
              case measure => simp [intOf]; omega
            · have hs1 : Hid (insSt xs n (k + 1) = ((insSt xs n k).1 ++ [xs[k]], false)) := by
                have := hsucc.out; simp [hd, hlt2] at this; exact this
              clear hsucc hd hne
              generalize hst : (insSt xs n k).1 = st at *
              clear hst
              generalize hy : xs[k] = y at *
              clear hy
              go_wp2_with (at_builtin; refine wpList_app1 wr rfl _ _ _ rfl E41 rfl hown rfl rfl (by simp [Value.oneCell']) (by omega) hbs ?_; intro A1 c1 w1 hown1 hg1)
              go_roundw
              case rel =>
                refine ⟨k + 1, hlt, by go_num, by rw [hs1.out], ⟨A1, c1, by rw [hs1.out]; simp⟩, ?_, below_grown hbel hown hbs hg1, hne'.out⟩
                rw [hs1.out]
                have := own_snoc hown1
                rw [List.length_append] at this
                exact this
              case measure => simp [intOf]; omega
      · obtain rfl : k = xs.length := by omega
        cases hd : (insSt xs n xs.length).2 with
        | true =>
          have hfin := Lib.hid (ins_of_done hne hd)
          clear hne hd
          generalize hst : (insSt xs n xs.length).1 = st at *
          clear hst
          go_wp2_with fail
          go_ret
          rw [hfin.out]
          exact ⟨_, rfl, RdV.of_own hown, hbel⟩
        | false =>
          have hfin := Lib.hid (ins_of_not hne hd)
          clear hne hd
          generalize hst : (insSt xs n xs.length).1 = st at *
          clear hst
          go_wp2_with (at_builtin; refine wpList_app1 wr rfl _ _ _ rfl E41 rfl hown rfl rfl (by simp [Value.oneCell']) (by omega) hbs ?_; intro A1 c1 w1 hown1 hg1)
          go_ret
          rw [hfin.out]
          refine ⟨.slice A1 (st.length + 1) c1, rfl, ?_, below_grown hbel hown hbs hg1⟩
          have := RdV.of_own (own_snoc hown1)
          rw [List.length_append] at this
          unfold RdI
          rw [List.length_append]
          exact this

/-! ### the document's table in memory -/
def cellsOf (l : Lk) : List Value := [.int .i64 l.txn, .int .i64 l.page, .int .i64 l.mode]
def rowL (L : List Lk) : List Value := L.flatMap cellsOf
abbrev OwnL (w : World) (B : Nat) (v : Value) (L : List Lk) : Prop := w.ownsRow B 52 3 v L.length (rowL L)
theorem rowL_one (L : List Lk) : ∀ u ∈ rowL L, u.oneCell' = true := by
  intro u hu
  obtain ⟨l, _, hl⟩ := List.mem_flatMap.1 hu
  simp [cellsOf] at hl
  rcases hl with rfl | rfl | rfl <;> rfl
theorem rowL_get : ∀ (L : List Lk) (i j : Nat) (hi : i < L.length), j < 3 → (rowL L)[i * 3 + j]? = (cellsOf L[i])[j]?
  | [], i, j, hi, _ => by simp at hi
  | l :: L, 0, j, _, hj => by
    simp only [rowL, List.flatMap_cons]
    rw [List.getElem?_append_left (by simp [cellsOf]; omega)]
    simp
  | l :: L, i + 1, j, hi, hj => by
    simp only [rowL, List.flatMap_cons]
    rw [List.getElem?_append_right (by simp [cellsOf]; omega)]
    have e : (i + 1) * 3 + j - (cellsOf l).length = i * 3 + j := by simp [cellsOf]; omega
    rw [e]
    exact rowL_get L i j (by simpa using hi) hj
structure MAt (B : Nat) (w : World) (g : Nat) (vL vW : Value) (m : Tab) : Prop where
  b0 : B ≤ g
  blk : w.heap[g]? = some (.cells #[vL, vW] 29 (0, 0))
  locks : OwnL w B vL m.locks
  waits : OwnL w B vW m.waits
  lform : ∃ A c, vL = .slice A m.locks.length c
  wform : ∃ A c, vW = .slice A m.waits.length c
  ne : vL.ownBlock = none ∨ vL.ownBlock ≠ vW.ownBlock
def MRep (B : Nat) (w : World) (g : Nat) (m : Tab) : Prop := ∃ vL vW, MAt B w g vL vW m
theorem own_keep {w w' : World} {B : Nat} {e : TypeId} {sz n : Nat} {v : Value} {xs : List Value} (h : w.ownsRow B e sz v n xs) (hk : ∀ (k : Nat) (c : Array Value) (z : Nat × Nat), w.heap[k]? = some (.cells c e z) → w'.heap[k]? = some (.cells c e z)) : w'.ownsRow B e sz v n xs := by
  obtain ⟨h1, h2⟩ := h
  refine ⟨h1, h2.imp id ?_⟩
  rintro ⟨g, cap, cur, a, b, c, d⟩
  exact ⟨g, cap, cur, a, b, hk _ _ _ c, d⟩
theorem MAt.keep {B : Nat} {w w' : World} {g : Nat} {vL vW : Value} {m : Tab} (h : MAt B w g vL vW m) (hk : ∀ (k : Nat) (c : Array Value) (e : TypeId) (z : Nat × Nat), e = 29 ∨ e = 52 → w.heap[k]? = some (.cells c e z) → w'.heap[k]? = some (.cells c e z)) : MAt B w' g vL vW m :=
  { h with blk := hk _ _ _ _ (.inl rfl) h.blk, locks := own_keep h.locks (fun k c z => hk k c _ z (.inr rfl)), waits := own_keep h.waits (fun k c z => hk k c _ z (.inr rfl)) }
theorem MRep.below {B : Nat} {w w' : World} {g : Nat} {m : Tab} (h : MRep B w g m) (hb : Below w.heap.size w w') : MRep B w' g m := by
  obtain ⟨vL, vW, h⟩ := h
  exact ⟨vL, vW, h.keep fun k c e z _ hk => (hb.block k (lt_of_heap hk)).trans hk⟩
theorem MRep.fr {B B' : Nat} {w w' : World} {S : Obj → Bool} {g : Nat} {m : Tab} (h : MRep B w g m) (hb : Fr B' S w w') (hS : ∀ c e z, e = 29 ∨ e = 52 → S (.cells c e z) = false) : MRep B w' g m := by
  obtain ⟨vL, vW, h⟩ := h
  exact ⟨vL, vW, h.keep fun k c e z he hk => hb.keep k _ hk (.inr (hS c e z he))⟩

theorem cell_blkM {w : World} {g : Nat} {cs : Array Value} {e : TypeId} {z : Nat × Nat} (h : w.heap[g]? = some (.cells cs e z)) (i : Nat) : w.cell? ⟨g, i, none⟩ = cs[i]? := by
  simp [World.cell?, h]
/-- a row of locks: its cells -/
theorem own_cells {w : World} {B : Nat} {v : Value} {L : List Lk} (h : OwnL w B v L) (hne : L ≠ []) : ∃ b c, v = .slice (some ⟨b, 0, none⟩) L.length c ∧ L.length ≤ c ∧ B ≤ b ∧ b < w.heap.size ∧
    (∀ i (hi : i < L.length), w.cell? ⟨b, i * 3, none⟩ = some (.int .i64 L[i].txn) ∧ w.cell? ⟨b, i * 3 + 1, none⟩ = some (.int .i64 L[i].page) ∧ w.cell? ⟨b, i * 3 + 2, none⟩ = some (.int .i64 L[i].mode)) ∧
    (∀ i, w.frozen? ⟨b, i, none⟩ = false) := by
  have hl : L.length ≠ 0 := by simpa using hne
  have hc := h
  obtain ⟨h1, h2⟩ := h
  rcases h2 with ⟨rfl, h0⟩ | ⟨g, cap, cur, rfl, hg, hh, hn, _⟩
  · exact absurd h0 hl
  · have hcc : ∀ j u, (rowL L)[j]? = some u → w.cell? ⟨g, j, none⟩ = some u := by
      intro j u hj
      have := hc.cells (g := g) rfl j u hj
      rw [addr_add, Nat.zero_add] at this
      exact this
    refine ⟨g, cap, rfl, hn, hg, lt_of_heap hh, fun i hi => ⟨?_, ?_, ?_⟩, fun i => by simp [World.frozen?, hh]⟩
    · exact hcc _ _ (by have := rowL_get L i 0 hi (by omega); simpa [cellsOf] using this)
    · exact hcc _ _ (by have := rowL_get L i 1 hi (by omega); simpa [cellsOf] using this)
    · exact hcc _ _ (by have := rowL_get L i 2 hi (by omega); simpa [cellsOf] using this)

theorem holds_at : ∀ {L : List Lk} {txn page : Int} {k : Nat} (hk : k < L.length), (∀ l ∈ L.take k, ¬ (l.txn = txn ∧ l.page = page)) → L[k].txn = txn → L[k].page = page → holds L txn page = L[k].mode
  | [], _, _, k, hk, _, _, _ => by simp at hk
  | l :: L, txn, page, 0, _, _, h1, h2 => by
    simp only [List.getElem_cons_zero] at h1 h2 ⊢
    simp [holds, h1, h2]
  | l :: L, txn, page, k + 1, hk, hno, h1, h2 => by
    have h0 : (l.txn == txn && l.page == page) = false := by
      have := hno l (by simp)
      simpa using this
    have := holds_at (L := L) (k := k) (by simpa using hk) (fun x hx => hno x (by simp [hx])) (by simpa using h1) (by simpa using h2)
    simp only [List.getElem_cons_succ]
    rw [← this]
    simp only [holds, List.find?_cons, h0]
theorem holds_no {L : List Lk} {txn page : Int} (h : ∀ l ∈ L.take L.length, ¬ (l.txn = txn ∧ l.page = page)) : holds L txn page = 0 :=
  holds_none fun md hm => h _ (by rw [List.take_length]; exact hm) ⟨rfl, rfl⟩
theorem take_no {α : Type} {L : List α} {p : α → Prop} {k : Nat} (h : k < L.length) (hne : ∀ l ∈ L.take k, ¬ p l) (e : ¬ p L[k]) : ∀ l ∈ L.take (k + 1), ¬ p l := by
  rw [List.take_succ_eq_append_getElem h]
  intro x hx
  rcases List.mem_append.1 hx with hx | hx
  · exact hne x hx
  · simp only [List.mem_singleton] at hx; subst hx; exact e

set_option maxHeartbeats 1000000 in
theorem rholds_c (B g : Nat) (m : Tab) (w : World) (v : Valid m) (h : MRep B w g m) (txn page : Int) :
    Calls Try.prog 13 #[.pointer (some ⟨g, 0, none⟩), .int .i64 txn, .int .i64 page] w fun e w' => e = .returned (.int .i64 (holds m.locks txn page)) ∧ w = w' := by
  obtain ⟨vL, vW, h⟩ := h
  have hL0 : w.cell? ⟨g, 0, none⟩ = some vL := by rw [cell_blkM h.blk]; rfl
  have hsz := v.size
  by_cases hne : m.locks = []
  · obtain ⟨A, c, rfl⟩ := h.lform
    rw [hne] at hL0 ⊢
    simp only [List.length_nil] at hL0
    clear h
    go_enter Try.func13, Try.ntmps13
    go_wp2
    refine wp_loop_rounds 1 ?_
    rw [rounds_succ]
    go_wp2
    go_ret
    exact ⟨rfl, rfl⟩
  · obtain ⟨b, c, rfl, hlc, hBb, hb, hcell, _⟩ := own_cells h.locks hne
    clear h hne
    go_enter Try.func13, Try.ntmps13
    go_wp2
    go_loop [7] (fun i => ∃ k : Nat, k ≤ m.locks.length ∧ i = .int .i64 k ∧ ∀ l ∈ m.locks.take k, ¬ (l.txn = txn ∧ l.page = page)) (fun i => m.locks.length - (intOf i).toNat)
    case atStart => exact ⟨0, Nat.zero_le _, rfl, by simp⟩
    case round =>
      obtain ⟨k, hk, rfl, hno⟩ := hrel
      by_cases hlt : k < m.locks.length
      · obtain ⟨c1, c2, c3⟩ := hcell k hlt
        by_cases h1 : m.locks[k].txn = txn
        · by_cases h2 : m.locks[k].page = page
          · have hfin := Lib.hid (holds_at hlt hno h1 h2)
            rw [h1] at c1
            rw [h2] at c2
            generalize m.locks[k].mode = md at *
            clear hno h1 h2 hcell
            go_wp2
            go_ret
            rw [hfin.out]
            exact ⟨rfl, rfl⟩
          · have hn' := Lib.hid (take_no hlt hno (fun h => h2 h.2))
            rw [h1] at c1
            generalize m.locks[k].page = pg at *
            clear hno h1 hcell
            go_wp2
            go_round
            case rel => exact ⟨k + 1, hlt, by go_num, hn'.out⟩
            case measure => simp [intOf]; omega
        · have hn' := Lib.hid (take_no hlt hno (fun h => h1 h.1))
          generalize m.locks[k].txn = tx at *
          clear hno hcell
          go_wp2
          go_round
          case rel => exact ⟨k + 1, hlt, by go_num, hn'.out⟩
          case measure => simp [intOf]; omega
      · obtain rfl : k = m.locks.length := by omega
        have hfin := Lib.hid (holds_no hno)
        clear hno hcell
        go_wp2
        go_ret
        rw [hfin.out]
        exact ⟨rfl, rfl⟩
end Go.Proofs.Ytejpjibhpjgcjaa
