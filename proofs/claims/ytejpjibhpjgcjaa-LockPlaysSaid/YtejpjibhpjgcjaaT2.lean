/-
  Which transactions hold a page against a lock: the program's function.
  Conditions: those that each theorem names.
-/
import Derived.Test.YtejpjibhpjgcjaaKeys
import Derived.Test.YtejpjibhpjgcjaaM4
namespace Go.Proofs.Ytejpjibhpjgcjaa
open Go.RowKit Go.Sort

theorem along_c (a b : Int) (w : World) :
    Calls Try.prog 28 #[.int .i64 a, .int .i64 b] w fun e w' => e = .returned (.bool ((a == b) && (a != 3))) ∧ w = w' := by
  by_cases h1 : a = b
  · subst h1
    go_enter Try.func28, Try.ntmps28
    go_wp2
    go_ret
    simp
  · go_enter Try.func28, Try.ntmps28
    go_wp2
    go_ret
    simp [h1]
theorem along_eq {a b : Int} (h1 : 1 ≤ a ∧ a ≤ 3) : ((a == b) && (a != 3)) = Along a b := by
  unfold Along
  obtain ⟨h1, h2⟩ := h1
  have : a = 1 ∨ a = 2 ∨ a = 3 := by omega
  rcases this with rfl | rfl | rfl
  · have : ((1 : Int) == b) = (b == 1) := by rw [Bool.eq_iff_iff, beq_iff_eq, beq_iff_eq]; exact ⟨Eq.symm, Eq.symm⟩
    simp [this]
  · have : ((2 : Int) == b) = (b == 2) := by rw [Bool.eq_iff_iff, beq_iff_eq, beq_iff_eq]; exact ⟨Eq.symm, Eq.symm⟩
    simp [this]
  · simp

/-- slices.Sort on a row that the call owns -/
theorem sort_own {w : World} {B : Nat} {v : Value} {xs : List Int} (h : OwnI w B v xs) (hl : xs.length ≤ 1000000) :
    Calls Try.prog 29 #[v] w fun e w' => e = .returned (.tuple #[]) ∧ OwnI w' B v (xs.mergeSort fun x y => decide (x ≤ y)) ∧ w.grownBy w' v.ownBlock := by
  have hlen : (xs.mergeSort fun x y => decide (x ≤ y)).length = xs.length := List.length_mergeSort xs
  rcases h.2 with ⟨rfl, hz⟩ | ⟨gb, cap, cur, rfl, hbase, hgb, r1, r2, r3, r4⟩
  · have hss : xs = [] := List.eq_nil_of_length_eq_zero hz
    subst hss
    refine (Try.slices_Sort_int_none none 0 w).mono ?_
    rintro e w' ⟨rfl, rfl⟩
    exact ⟨rfl, by simpa [OwnI] using h, World.grownBy.refl _ _⟩
  · have hH : Holds encZ w gb 0 xs.toArray := holds_of_block_i hgb (by simpa [ints] using r4)
    refine (Try.slices_Sort_int gb 0 cap xs w hH (lt_of_heap hgb) (by omega)).mono ?_
    rintro e w' ⟨rfl, n, os, rfl⟩
    refine ⟨rfl, ?_, grownBy_sorted_i _⟩
    have := ownsRow_sorted_i (n := n) (os := os) hlen hbase hgb r1 r2 r3
    unfold OwnI
    rw [hlen]
    exact this

/-- of the page's holders: who stands against it; what is still to come -/
structure AgSt (l rl : List (Int × Int)) (p : Int × Int → Bool) (outs : List Int) : Prop where
  sub : ∀ x ∈ rl, x ∈ l
  nodup : outs.Nodup
  mem : ∀ o, o ∈ outs ↔ ∃ md, (o, md) ∈ l ∧ (o, md) ∉ rl ∧ p (o, md) = true
theorem hv_mem {l : List (Int × Int)} {k : Int} {v : Value} (h : (k, v) ∈ hv l) : ∃ md, v = .int .i64 md ∧ (k, md) ∈ l := by
  obtain ⟨⟨a, b⟩, h1, h2⟩ := List.mem_map.1 h
  simp only [Prod.mk.injEq] at h2
  obtain ⟨rfl, rfl⟩ := h2
  exact ⟨b, rfl, h1⟩
theorem hv_del (l : List (Int × Int)) (k : Int) : del (hv l) k = hv (del l k) := by
  unfold del hv
  rw [List.filter_map]
  rfl
theorem mem_del {α : Type} {l : List (Int × α)} {k : Int} {x : Int × α} : x ∈ del l k ↔ x ∈ l ∧ x.1 ≠ k := by
  simp [del]
theorem nodup_fst {l : List (Int × Int)} (hn : (l.map (·.1)).Nodup) {a b c : Int} (h1 : (a, b) ∈ l) (h2 : (a, c) ∈ l) : b = c := by
  have e1 := assoc_of_mem (kv := l) hn h1
  have e2 := assoc_of_mem (kv := l) hn h2
  rw [e1] at e2
  exact Option.some.inj e2
theorem AgSt.skip {l rl : List (Int × Int)} {p : Int × Int → Bool} {outs : List Int} (h : AgSt l rl p outs) (hn : (l.map (·.1)).Nodup) {k md : Int} (hk : (k, md) ∈ rl) (hp : p (k, md) = false) : AgSt l (del rl k) p outs := by
  refine ⟨fun x hx => h.sub x (mem_del.1 hx).1, h.nodup, fun o => ?_⟩
  rw [h.mem]
  constructor
  · rintro ⟨m, h1, h2, h3⟩
    exact ⟨m, h1, fun hx => h2 (mem_del.1 hx).1, h3⟩
  · rintro ⟨m, h1, h2, h3⟩
    refine ⟨m, h1, fun hx => ?_, h3⟩
    by_cases ho : o = k
    · subst ho
      have := nodup_fst hn h1 (h.sub _ hk)
      subst this
      rw [hp] at h3; cases h3
    · exact h2 (mem_del.2 ⟨hx, ho⟩)
theorem AgSt.take {l rl : List (Int × Int)} {p : Int × Int → Bool} {outs : List Int} (h : AgSt l rl p outs) (hn : (l.map (·.1)).Nodup) {k md : Int} (hk : (k, md) ∈ rl) (hp : p (k, md) = true) : AgSt l (del rl k) p (outs ++ [k]) := by
  refine ⟨fun x hx => h.sub x (mem_del.1 hx).1, ?_, fun o => ?_⟩
  · rw [List.nodup_append]
    refine ⟨h.nodup, by simp, ?_⟩
    intro a ha b hb
    simp only [List.mem_singleton] at hb
    subst hb
    rintro rfl
    obtain ⟨m, h1, h2, _⟩ := (h.mem _).1 ha
    have := nodup_fst hn h1 (h.sub _ hk)
    subst this
    exact h2 hk
  · simp only [List.mem_append, List.mem_singleton, h.mem]
    constructor
    · rintro (⟨m, h1, h2, h3⟩ | rfl)
      · exact ⟨m, h1, fun hx => h2 (mem_del.1 hx).1, h3⟩
      · exact ⟨md, h.sub _ hk, fun hx => (mem_del.1 hx).2 rfl, hp⟩
    · rintro ⟨m, h1, h2, h3⟩
      by_cases ho : o = k
      · exact .inr ho
      · exact .inl ⟨m, h1, fun hx => h2 (mem_del.2 ⟨hx, ho⟩), h3⟩
theorem AgSt.len {l rl : List (Int × Int)} {p : Int × Int → Bool} {outs : List Int} (h : AgSt l rl p outs) : outs.length ≤ l.length := by
  have := nodup_sub_len' (l := outs) (k := l.map (·.1)) h.nodup (fun x hx => by
    obtain ⟨m, h1, _⟩ := (h.mem x).1 hx
    exact List.mem_map.2 ⟨_, h1, rfl⟩)
  simpa using this

theorem own_snoc' {w : World} {B : Nat} {A : Option Addr} {c : Nat} {xs : List Int} {x : Int} (h : w.ownsRow B 3 1 (.slice A (xs.length + 1) c) (xs.length + 1) (ints xs ++ #[Value.int .i64 x].toList)) : OwnI w B (.slice A (xs.length + 1) c) (xs ++ [x]) := by
  have := own_snoc h
  rw [List.length_append] at this
  exact this

def pAg (txn md : Int) (x : Int × Int) : Bool := (x.1 != txn) && !Along x.2 md
def AgLoop (B : Nat) (w1 : World) (r b bx : Nat) (txn md : Int) (l : List (Int × Int)) (v : Value) (wr : World) : Prop :=
  ∃ rl outs, IT wr r b (hv l) (hv rl) ∧ AgSt l rl (pAg txn md) outs ∧ (∃ A c, v = .slice A outs.length c) ∧ OwnI wr (r + 1) v outs ∧ Below B w1 wr ∧ r < wr.heap.size ∧ wr.cell? ⟨bx, 1, none⟩ = some (.int .i64 md)

set_option maxHeartbeats 2000000 in
theorem against_c (B t : Nat) (m : Tab) (w : World) (vd : Valid m) (h : TRep B w t m) (txn page md : Int) :
    Calls Try.prog 21 #[.pointer (some ⟨t, 0, none⟩), .int .i64 txn, .agg #[.int .i64 page, .int .i64 md]] w fun e w' => ∃ v, e = .returned v ∧ RdI w' v (against m.locks ⟨txn, page, md⟩) ∧ Below w.heap.size w w' := by
  obtain ⟨bp, bw, pg, wt, h⟩ := h
  have hlt := lt_of_heap h.blk
  have hc : w.cell? ⟨t, 0, none⟩ = some (.map (some bp)) := by rw [cell_blk h.blk]; rfl
  have hsz := vd.size
  have r1 := run_lookup_im Try.underlying45 Try.underlying3 (z49 _) ((h.pages.alloc (.cells #[.int .i64 page, .int .i64 md] 55)).drew) page
  have hc1 : (w.alloc (.cells #[.int .i64 page, .int .i64 md] 55)).cell? ⟨t, 0, none⟩ = some (.map (some bp)) := by rw [cell_alloc_old hlt]; exact hc
  have HW := Lib.hid h
  rcases h.page page with ⟨ha, hno⟩ | ⟨b, l, hmem, ha, hi, hn, hl⟩
  · rw [ha] at r1
    simp only [Option.getD_none] at r1
    have rr := run_range_nil (P := Try.prog) Try.underlying49 (w.alloc (.cells #[.int .i64 page, .int .i64 md] 55)).drew
    have hempty : against m.locks ⟨txn, page, md⟩ = [] := by
      have hs := against_spec m.locks ⟨txn, page, md⟩
      cases hh : against m.locks ⟨txn, page, md⟩ with
      | nil => rfl
      | cons x xs =>
        rw [hh] at hs
        obtain ⟨⟨a, b, c⟩, hl, hp, rfl⟩ := (hs.2 x).1 (by simp)
        simp only [againstP, Bool.and_eq_true, beq_iff_eq] at hp
        obtain ⟨⟨rfl, _⟩, _⟩ := hp
        exact absurd hl (hno _ _)
    have hempty' := Lib.hid hempty
    clear h ha hno hc HW hempty
    go_enter Try.func21, Try.ntmps21
    go_wp2
    go_region
    have rn := fun ty => run_next_nil (P := Try.prog) (w := ((w.alloc (.cells #[.int .i64 page, .int .i64 md] 55)).alloc (.mapIter none 0 #[] 0)).drew) (r := w.heap.size + 1) (by
      have := (MapKept.heap_alloc (w.alloc (.cells #[.int .i64 page, .int .i64 md] 55)) (.mapIter none 0 #[] 0)).1
      rw [World.size_alloc] at this
      exact this) ty
    go_wp2
    refine wp_loop_rounds 1 ?_
    rw [rounds_succ]
    go_wp2_with (go_at_call 29; refine (Try.slices_Sort_int_none none 0 _).mono ?_; rintro e w' ⟨rfl, rfl⟩)
    go_ret
    rw [hempty'.out]
    exact ⟨_, rfl, RdV.nil _ _, (((Below.refl _ w).alloc (Nat.le_refl _) _).alloc (by simp) _).drew⟩
  · rw [ha] at r1
    simp only [Option.getD_some] at r1
    obtain ⟨w2, rr, hit, hg2, hsz2⟩ := run_range_im (P := Try.prog) Try.underlying49 ((hi.alloc (.cells #[.int .i64 page, .int .i64 md] 55)).drew)
    have hbel2 : Below w.heap.size w w2 := (((Below.refl _ w).alloc (Nat.le_refl _) _).drew).trans (grown_below hg2 (by simp) (by simp))
    have hcb0 : w2.cell? ⟨w.heap.size, 0, none⟩ = some (.int .i64 page) := by rw [World.cell?_of_block (hg2.block w.heap.size (by simp) (by simp))]; simp
    have hcb1 : w2.cell? ⟨w.heap.size, 1, none⟩ = some (.int .i64 md) := by rw [World.cell?_of_block (hg2.block w.heap.size (by simp) (by simp))]; simp
    have hbL := hi.lt
    have hll : l.length ≤ 256 := by
      have h1 : (l.map Prod.fst).length ≤ (m.locks.map Lk.txn).length := nodup_sub_len' hn (fun x hx => by
        obtain ⟨⟨a, c⟩, hy, rfl⟩ := List.mem_map.1 hx
        exact List.mem_map.2 ⟨_, (hl _ _).1 hy, rfl⟩)
      simp at h1; omega
    have hfin : ∀ outs, AgSt l [] (pAg txn md) outs → outs.mergeSort (fun x y => decide (x ≤ y)) = against m.locks ⟨txn, page, md⟩ := fun outs ho => by
      refine sort_eq (List.Perm.refl _) ho.nodup (against_spec _ _).1 (fun a => ?_)
      rw [ho.mem, (against_spec m.locks ⟨txn, page, md⟩).2]
      constructor
      · rintro ⟨x, h1, _, h2⟩
        refine ⟨_, (hl _ _).1 h1, ?_, rfl⟩
        simp only [pAg, Bool.and_eq_true] at h2
        simp [againstP, h2.1, h2.2]
      · rintro ⟨⟨x, p, c⟩, hy, h2, rfl⟩
        simp only [againstP, Bool.and_eq_true, beq_iff_eq] at h2
        obtain ⟨⟨rfl, h3⟩, h4⟩ := h2
        exact ⟨c, (hl _ _).2 hy, by simp, by simp [pAg, h3, h4]⟩
    have hfin' := Lib.hid hfin
    have hn' := Lib.hid hn
    have hmd : Hid (∀ k c, (k, c) ∈ l → 1 ≤ c ∧ c ≤ 3) := fun k c hk => vd.modes _ ((hl _ _).1 hk)
    have hsz2' : w2.heap.size = w.heap.size + 2 := by simpa using hsz2
    have hs2 : w.heap.size + 1 < w2.heap.size := by omega
    have e2 : (w.alloc (.cells #[.int .i64 page, .int .i64 md] 55)).drew.heap.size = w.heap.size + 1 := by simp
    rw [e2] at rr hit
    have hit' := Lib.hid hit
    clear e2
    clear h ha hc HW hfin hn hl hg2 hsz2 hsz2' hit hi hmem
    go_enter Try.func21, Try.ntmps21
    go_wp2
    go_region
    go_wp2
    have hbl : b < w.heap.size := hbL
    go_loopw [7] (AgLoop w.heap.size w (w.heap.size + 1) b w.heap.size txn md l) (fun _ wr => restCount wr (w.heap.size + 1) b)
    case atStart => exact ⟨l, [], hit'.out, ⟨fun _ h => h, by simp, fun o => by simp; intro x h1 h2; exact absurd h1 h2⟩, ⟨none, 0, rfl⟩, World.ownsRow_nil _ _ _ _, hbel2, hs2, hcb1⟩
    case round =>
      obtain ⟨rl, outs, hit3, hst, ⟨A, cA, rfl⟩, hown, hbel, hrs, hk0⟩ := hrel
      have hol := hst.len
      have hcount := Lib.hid hit3.count
      rcases run_next_im (P := Try.prog) hit3 0 with ⟨h0, hrun⟩ | ⟨k, v, w3, hkm, hrun, hit4, hg4, hsz4, hen⟩
      · have hrun' : ∀ ty, (Instr.next (.pointer (some ⟨w.heap.size + 1, 0, none⟩)) false ty).run Try.prog wr = .ok (.tuple #[.bool false]) wr := fun _ => hrun
        have hrl : rl = [] := by simpa [hv] using h0
        subst hrl
        have hf := Lib.hid (hfin'.out outs hst)
        have HS := Lib.hid (sort_own hown (by omega))
        clear hst hit3 h0 hrun hcount
        go_wp2_with (go_at_call 29; refine (HS.out).mono ?_; rintro e w4 ⟨rfl, hown4, hg4⟩)
        go_ret
        refine ⟨_, rfl, ?_, hbel.grown hg4 (by omega) (fun k hk => by have := (hown.lt k hk).1; omega)⟩
        rw [hf.out] at hown4
        have h5 := RdV.of_own hown4
        have h6 : (outs.mergeSort fun x y => decide (x ≤ y)).length = outs.length := List.length_mergeSort outs
        rw [hf.out] at h6
        rw [h6] at h5
        unfold RdI
        rw [h6]
        exact h5
      · have hrun' : ∀ ty, (Instr.next (.pointer (some ⟨w.heap.size + 1, 0, none⟩)) false ty).run Try.prog wr = .ok (.tuple #[.bool true, .int .i64 k, v]) w3 := fun _ => hrun
        obtain ⟨kmd, rfl, hkin⟩ := hv_mem hkm
        rw [hv_del] at hit4
        have hk1 : w3.cell? ⟨w.heap.size, 1, none⟩ = some (.int .i64 md) := by rw [World.cell?_of_block (hg4.block w.heap.size (by omega) (by simp))]; exact hk0
        have hown3 : OwnI w3 (w.heap.size + 1 + 1) (.slice A outs.length cA) outs := hown.kept hg4 (by
          cases hv : (Value.slice A outs.length cA).ownBlock with
          | none => exact .inl rfl
          | some j => right; intro e; have := (hown.lt j hv).1; simp at e; omega)
        have hbel3 := hbel.grown hg4 (by omega) (fun k hk => by simp at hk; omega)
        have hcnt4 := Lib.hid hit4.count
        have hlt4 : (hv (del rl k)).length < (hv rl).length := by
          simp only [hv, List.length_map]
          have hs : (del rl k).length < rl.length := by
            unfold del
            refine List.length_filter_lt_length_iff_exists.2 ⟨_, hkin, by simp⟩
          exact hs
        have hp : pAg txn md (k, kmd) = ((k != txn) && !Along kmd md) := rfl
        have hmo := hmd.out k kmd (hst.sub _ hkin)
        have hA : ∀ W, Calls Try.prog 28 #[.int .i64 kmd, .int .i64 md] W fun e w' => e = .returned (.bool (Along kmd md)) ∧ W = w' := by intro W; rw [← along_eq hmo]; exact along_c kmd md W
        have hsk := Lib.hid (fun h => hst.skip hn'.out hkin h)
        have htk := Lib.hid (fun h => hst.take hn'.out hkin h)
        have hrs3 : w.heap.size + 1 < w3.heap.size := by omega
        clear hrun hst hit3 hkm hkin hsz4
        by_cases h1 : k = txn
        · have hsk' := Lib.hid (hsk.out (by rw [hp]; simp [h1]))
          clear hsk htk hA hp
          subst h1
          go_wp2
          go_roundw
          case rel => exact ⟨_, outs, hit4, hsk'.out, ⟨_, _, rfl⟩, hown3, hbel3, by omega, hk1⟩
          case measure => rw [hcnt4.out, hcount.out]; exact hlt4
        · have h1' : (k != txn) = true := by rw [bne_iff_ne]; exact h1
          cases h3 : Along kmd md with
          | true =>
            rw [h3] at hA
            have HA := Lib.hid hA
            have hsk' := Lib.hid (hsk.out (by rw [hp]; simp [h3]))
            clear hsk htk hA hp h3
            go_wp2_with (go_at_call 28; refine (HA.out _).mono ?_; rintro e w' ⟨rfl, rfl⟩)
            go_roundw
            case rel => exact ⟨_, outs, hit4, hsk'.out, ⟨_, _, rfl⟩, hown3, hbel3, by omega, hk1⟩
            case measure => rw [hcnt4.out, hcount.out]; exact hlt4
          | false =>
            rw [h3] at hA
            have HA := Lib.hid hA
            have htk' := Lib.hid (htk.out (by rw [hp]; simp [h1, h3]))
            clear hsk htk hA hp h3
            go_wp2_with (first
              | (go_at_call 28; refine (HA.out _).mono ?_; rintro e w' ⟨rfl, rfl⟩)
              | (at_builtin; refine wpList_app1 w3 rfl _ _ _ rfl E41 rfl hown3 rfl rfl (by simp [Value.oneCell']) (by omega) (by omega) ?_; intro A5 c5 w5 hown5 hg5))
            have hfar : ∀ j, j ≤ w.heap.size + 1 → some j ≠ (Value.slice A outs.length cA).ownBlock := fun j hj e => by have := (hown3.lt j e.symm).1; omega
            go_roundw
            case rel =>
              refine ⟨_, outs ++ [k], hit4.grown hg5 (hfar b (by omega)) (hfar _ (Nat.le_refl _)), htk'.out, ⟨A5, c5, by simp⟩, own_snoc' hown5, hbel3.grown hg5 (by omega) (fun j hj => by have := (hown3.lt j hj).1; omega), by have := hg5.size; omega, ?_⟩
              rw [World.cell?_of_block (hg5.block w.heap.size (by omega) (hfar _ (by omega)))]; exact hk1
            case measure =>
              have h9 := (hit4.grown hg5 (hfar b (by omega)) (hfar _ (Nat.le_refl _))).count
              rw [h9, hcount.out]; exact hlt4
end Go.Proofs.Ytejpjibhpjgcjaa
