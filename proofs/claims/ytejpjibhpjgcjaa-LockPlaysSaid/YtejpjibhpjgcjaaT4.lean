/-
  Whether waiting would close a circle: the program's search.
  Conditions: those that each theorem names.
-/
import Derived.Test.YtejpjibhpjgcjaaT3
namespace Go.Proofs.Ytejpjibhpjgcjaa
open Go.RowKit Go.Sort

structure Dfs (m : Tab) (start cur S : List Int) (txn : Int) : Prop where
  reach : ∀ x ∈ cur, Reach m start x
  start : ∀ x ∈ start, x ∈ cur ∨ x ∈ S
  clos : ∀ s ∈ S, ∀ y ∈ forW m s, y ∈ cur ∨ y ∈ S
  no : txn ∉ S
  lock : ∀ x ∈ cur, x ∈ m.locks.map Lk.txn
  slock : ∀ x ∈ S, x ∈ m.locks.map Lk.txn
  nodup : S.Nodup
  len : cur.length ≤ 256 * (1 + S.length)
theorem Dfs.size {m : Tab} {start cur S : List Int} {txn : Int} (h : Dfs m start cur S txn) (v : Valid m) : S.length ≤ 256 := by
  have := nodup_sub_len' h.nodup h.slock
  have := v.size
  simp at *; omega
theorem Dfs.empty {m : Tab} {start S : List Int} {txn : Int} (h : Dfs m start [] S txn) : ¬ Reach m start txn := by
  intro hr
  have : ∀ x, Reach m start x → x ∈ S := by
    intro x hx
    induction hx with
    | base hx => exact (h.start _ hx).resolve_left (by simp)
    | step _ hy ih => exact (h.clos _ ih _ hy).resolve_left (by simp)
  exact h.no (this _ hr)
theorem Dfs.found {m : Tab} {start pre S : List Int} {o txn : Int} (h : Dfs m start (pre ++ [o]) S txn) : Reach m start o := h.reach o (by simp)
theorem Dfs.skip {m : Tab} {start pre S : List Int} {o txn : Int} (h : Dfs m start (pre ++ [o]) S txn) (ho : o ∈ S) : Dfs m start pre S txn := by
  have hin : ∀ x, x ∈ pre ++ [o] ∨ x ∈ S → x ∈ pre ∨ x ∈ S := by
    intro x hx
    rcases hx with hx | hx
    · rcases List.mem_append.1 hx with hx | hx
      · exact .inl hx
      · simp only [List.mem_singleton] at hx; subst hx; exact .inr ho
    · exact .inr hx
  refine ⟨fun x hx => h.reach x (by simp [hx]), fun x hx => hin x (h.start x hx), fun s hs y hy => hin y (h.clos s hs y hy), h.no, fun x hx => h.lock x (by simp [hx]), h.slock, h.nodup, ?_⟩
  have := h.len
  simp at this; omega
theorem Dfs.visit {m : Tab} {start pre S : List Int} {o txn : Int} (h : Dfs m start (pre ++ [o]) S txn) (v : Valid m) (ho : o ∉ S) (hne : o ≠ txn) : Dfs m start (pre ++ forW m o) (S ++ [o]) txn := by
  have hr := h.found
  have hin : ∀ x, x ∈ pre ++ [o] ∨ x ∈ S → x ∈ pre ++ forW m o ∨ x ∈ S ++ [o] := by
    intro x hx
    rcases hx with hx | hx
    · rcases List.mem_append.1 hx with hx | hx
      · exact .inl (by simp [hx])
      · exact .inr (by simp at hx; simp [hx])
    · exact .inr (by simp [hx])
  refine ⟨fun x hx => ?_, fun x hx => hin x (h.start x hx), fun s hs y hy => ?_, ?_, fun x hx => ?_, fun x hx => ?_, ?_, ?_⟩
  · rcases List.mem_append.1 hx with hx | hx
    · exact h.reach x (by simp [hx])
    · exact .step hr hx
  · rcases List.mem_append.1 hs with hs | hs
    · exact hin y (h.clos s hs y hy)
    · simp only [List.mem_singleton] at hs; subst hs; exact .inl (by simp [hy])
  · intro hx
    rcases List.mem_append.1 hx with hx | hx
    · exact h.no hx
    · simp only [List.mem_singleton] at hx; exact hne hx.symm
  · rcases List.mem_append.1 hx with hx | hx
    · exact h.lock x (by simp [hx])
    · exact forW_lock hx
  · rcases List.mem_append.1 hx with hx | hx
    · exact h.slock x hx
    · simp only [List.mem_singleton] at hx; subst hx; exact h.lock x (by simp)
  · rw [List.nodup_append]
    refine ⟨h.nodup, by simp, ?_⟩
    intro a ha b hb
    simp only [List.mem_singleton] at hb
    subst hb
    rintro rfl
    exact ho ha
  · have h1 := h.len
    have h2 := forW_len m o
    have h3 := v.size
    simp at h1 ⊢; omega

def tagI : Obj → Bool
  | .cells _ e _ => e == 3
  | _ => false
theorem tagT_I (o : Obj) (h : tagT o = true) : tagI o = false := by
  cases o with
  | cells c e f => simp only [tagT, tagI, beq_iff_eq, beq_eq_false_iff_ne] at h ⊢; subst h; decide
  | _ => simp_all [tagI]
theorem Fr.step {B : Nat} {S : Obj → Bool} {a w w' : World} {row : Option Nat} (h : Fr B S a w) (hg : w.grownBy w' row) (hr : ∀ k, row = some k → a.heap.size ≤ k ∨ (B ≤ k ∧ ∀ o, a.heap[k]? = some o → S o = true)) : Fr B S a w' := by
  refine ⟨hg.os.trans h.os, hg.tape.trans h.tape, hg.output.trans h.output, Nat.le_trans h.size hg.size, fun k o hk hs => ?_⟩
  have h1 := h.keep k o hk hs
  refine (hg.block k (lt_of_heap h1) (fun e => ?_)).trans h1
  rcases hr k e.symm with h2 | ⟨h2, h3⟩
  · have := lt_of_heap hk; omega
  · have := h3 o hk
    rcases hs with hs | hs
    · omega
    · rw [hs] at this; cases this
theorem Fr.stepOwn {B B' : Nat} {S : Obj → Bool} {a w w' : World} {e : TypeId} {sz n : Nat} {v : Value} {xs : List Value} (h : Fr B S a w) (hown : w.ownsRow B' e sz v n xs) (hB : B ≤ B') (hS : ∀ c z, S (.cells c e z) = true) (hg : w.grownBy w' v.ownBlock) : Fr B S a w' :=
  h.step hg fun k hk => .inr ⟨Nat.le_trans hB (hown.lt k hk).1, fun o ho => by
    cases hso : S o with
    | true => rfl
    | false =>
      have h1 := h.keep k o ho (.inr hso)
      obtain ⟨cur, hcur⟩ := own_obj hown hk
      rw [hcur] at h1; cases h1
      rw [hS] at hso; cases hso⟩
theorem TRep.frI {B B' : Nat} {w w' : World} {t : Nat} {m : Tab} (h : TRep B w t m) (hf : Fr B' tagI w w') : TRep B w' t m := by
  obtain ⟨bp, bw, pg, wt, h⟩ := h
  exact ⟨bp, bw, pg, wt, h.keep fun k o ho ht => hf.keep k o ho (.inr (tagT_I o ht))⟩

def ones (S : List Int) : List (Int × Value) := S.map fun x => (x, .int .i64 1)
theorem assoc_ones (S : List Int) (k : Int) : (assoc (ones S) k).getD (.int .i64 0) = .int .i64 (if k ∈ S then 1 else 0) := by
  induction S with
  | nil => rfl
  | cons x S ih =>
    unfold assoc ones at ih ⊢
    rw [List.map_cons, List.find?_cons]
    by_cases h : x = k
    · simp [h]
    · have h1 : (x == k) = false := by simpa using h
      have h2 : k ∈ x :: S ↔ k ∈ S := by simp [Ne.symm h]
      simp only [h1]
      rw [ih]
      by_cases h3 : k ∈ S
      · rw [if_pos h3, if_pos (h2.2 h3)]
      · rw [if_neg h3, if_neg (fun h => h3 (h2.1 h))]
theorem upd_ones {S : List Int} {k : Int} (h : k ∉ S) : upd (ones S) k (.int .i64 1) = ones (S ++ [k]) := by
  rw [upd_new, ones, ones, List.map_append]
  · rfl
  · unfold assoc ones
    rw [Option.map_eq_none_iff, List.find?_eq_none]
    intro x hx
    obtain ⟨y, hy, rfl⟩ := List.mem_map.1 hx
    simp only [beq_iff_eq]
    rintro rfl
    exact h hy

def mapSize (w : World) (b : Nat) : Nat := match w.heap[b]? with
  | some (.map es _) => es.size
  | _ => 0
theorem IM.size {w : World} {b : Nat} {kv : List (Int × Value)} (h : IM w b kv) : mapSize w b = kv.length := by
  obtain ⟨es, c, hb, _, he⟩ := h
  have := congrArg List.length he
  simp only [mapSize, hb]
  simpa using this

def CiRel (B' : Nat) (w : World) (bs : Nat) (m : Tab) (start : List Int) (txn : Int) (v : Value) (wr : World) : Prop :=
  ∃ cur S, (∃ A c, v = .slice A cur.length c) ∧ OwnI wr B' v cur ∧ IM wr bs (ones S) ∧ Dfs m start cur S txn ∧ Fr B' tagI w wr ∧ w.heap.size ≤ bs

set_option maxRecDepth 100000 in
set_option maxHeartbeats 2000000 in
theorem circle_c (B B' t : Nat) (m : Tab) (w : World) (vd : Valid m) (h : TRep B w t m) (txn : Int) (v : Value) (start : List Int) (hown : OwnI w B' v start) (hB : B' ≤ w.heap.size) (hlk : ∀ x ∈ start, x ∈ m.locks.map Lk.txn) (hln : start.length ≤ 256)
    (hf : ∃ A c, v = .slice A start.length c) :
    Calls Try.prog 22 #[.pointer (some ⟨t, 0, none⟩), .int .i64 txn, v] w fun e w' => ∃ bb : Bool, e = .returned (.bool bb) ∧ (bb = true ↔ Reach m start txn) ∧ Fr B' tagI w w' := by
  have hmm := @run_makeMap Try.prog
  have HT := Lib.hid (fun W (hr : TRep B W t m) o => waits_c B t m W vd hr o)
  have h0 : Dfs m start start [] txn := ⟨fun x hx => .base hx, fun x hx => .inl hx, by simp, by simp, hlk, by simp, by simp, by simpa using hln⟩
  obtain ⟨A0, c0, rfl⟩ := hf
  have hrep := Lib.hid h
  clear h hlk
  go_enter Try.func22, Try.ntmps22
  go_wp2
  go_step3
  go_wp2
  go_step3
  go_wp2
  go_loopw [2] (CiRel B' w w.heap.size m start txn) (fun v wr => 300 * (257 - mapSize wr w.heap.size) + lenOfV v)
  case atStart => exact ⟨start, [], ⟨_, _, rfl⟩, hown.alloc _, IM.made w, h0, (Fr.refl _ _ _).alloc _, Nat.le_refl _⟩
  case round =>
    clear hown h0
    obtain ⟨cur, S, ⟨A, c, rfl⟩, hown, him, hd, hfr, hbs⟩ := hrel
    have hsl := hd.size vd
    have hms := Lib.hid him.size
    rcases List.eq_nil_or_concat cur with rfl | ⟨pre, o, rfl⟩
    · have hno := Lib.hid hd.empty
      clear hd hms
      go_wp2_with fail
      try rw [Exit.noGoto_ret]
      go_ret
      exact ⟨false, rfl, by simp [hno.out], hfr⟩
    · rw [List.concat_eq_append] at *
      have hlen : (pre ++ [o]).length = pre.length + 1 := by simp
      rw [hlen] at hown ⊢
      rcases hown.2 with ⟨hv, _⟩ | ⟨g, cap, cur, hv, hbase, hgb, hcap, _⟩
      · cases hv
      · injection hv with hA hN hc
        clear hN
        subst hA
        subst hc
        have hck : wr.cell? ⟨g, pre.length, none⟩ = some (.int .i64 o) := by
          have := hown.cells (g := g) rfl pre.length (.int .i64 o) (by simp [ints])
          rwa [addr_add, Nat.zero_add] at this
        have hpop : wr.ownsRow B' 3 1 (.slice (some ⟨g, 0, none⟩) pre.length c) pre.length (ints pre) := by
          have h1 : ints (pre ++ [o]) = ints pre ++ [.int .i64 o] := by simp [ints]
          unfold OwnI at hown
          rw [hlen, h1] at hown
          exact ownsRow_pop (by simp [ints]) hown
        have hpl : pre.length ≤ 100000 := by
          have := hd.len
          rw [hlen] at this; omega
        have hHT := Lib.hid (hrep.out.frI hfr)
        have hbsl := him.lt
        have r1 := run_lookup_im Try.underlying49 Try.underlying3 (z3 wr) him o
        rw [assoc_ones] at r1
        have hws := hfr.size
        have hcc : pre.length + 1 ≤ c := by rw [← hlen]; exact hcap
        have hcc2 : pre.length ≤ c := by omega
        clear hlen hown hcap
        by_cases ho : o = txn
        · have hfound := Lib.hid hd.found
          clear hd him r1 hms hpop
          subst ho
          go_wp2_with fail
          try rw [Exit.noGoto_ret]
          go_ret
          exact ⟨true, rfl, by simp [hfound.out], hfr⟩
        · by_cases hin : o ∈ S
          · rw [if_pos hin] at r1
            have hsk := Lib.hid (hd.skip hin)
            have him' := Lib.hid him
            clear hd him hin
            go_wp2_with fail
            go_roundw
            case rel => exact ⟨pre, S, ⟨_, _, rfl⟩, hpop, him'.out, hsk.out, hfr, hbs⟩
            case measure => simp [lenOfV]
          · rw [if_neg hin] at r1
            have hv := Lib.hid (hd.visit vd hin ho)
            obtain ⟨w2, hu, him2, hg2, hsz2⟩ := run_update_im (P := Try.prog) Try.underlying49 Try.underlying3 him o (.int .i64 1)
            rw [upd_ones hin] at him2
            have hfr2 : Fr B' tagI w w2 := hfr.step hg2 (fun k hk => .inl (by simp at hk; omega))
            have hgne : some g ≠ some w.heap.size := by
              intro e
              injection e with e
              subst e
              obtain ⟨es, cl, hb, _⟩ := him
              rw [hgb] at hb; cases hb
            have hpop2 : OwnI w2 B' (.slice (some ⟨g, 0, none⟩) pre.length c) pre := hpop.kept hg2 (.inr hgne)
            have hT2 := Lib.hid (hrep.out.frI hfr2)
            have hsz2' := Lib.hid hsz2
            have hws2 := hfr2.size
            have hgs2 := hg2.size
            have hfl := forW_len m o
            have hvsz := vd.size
            have him2' := Lib.hid him2
            clear hd him hin hsz2 hpop hgne him2 hHT
            have hBw2 : B' ≤ w2.heap.size := by omega
            go_wp2_with (first
              | (go_at_call 17; refine (HT.out _ hT2.out o).mono ?_; rintro e w3 ⟨v3, rfl, hrd3, hbel3⟩; have hpop3 : w3.ownsRow B' 3 1 (.slice (some ⟨g, 0, none⟩) pre.length c) pre.length (ints pre) := own_keep hpop2 (fun k _ _ hk => (hbel3.block k (lt_of_heap hk)).trans hk); have hBw3 : B' ≤ w3.heap.size := Nat.le_trans hBw2 hbel3.size)
              | (at_builtin; refine wpList_app w3 rfl _ _ _ rfl E41 rfl hpop3 rfl hrd3 (ints_one _) (by omega) hBw3 ?_; intro A5 c5 w5 hown5 hg5))
            have hfr3 : Fr B' tagI w w3 := hfr2.trans (Fr.of_below hbel3)
            have him3 := him2'.out.below hbel3 (by omega)
            have him5 : IM w5 w.heap.size (ones (S ++ [o])) := him3.grown hg5 (by
              intro e
              obtain ⟨cur3, hcur3⟩ := own_obj hpop3 e.symm
              obtain ⟨es, cl, hb, _⟩ := him3
              rw [hcur3] at hb; cases hb)
            have hms5 := him5.size
            go_roundw
            case rel =>
              refine ⟨pre ++ forW m o, S ++ [o], ⟨A5, c5, by simp⟩, ?_, him5, hv.out, hfr3.stepOwn hpop3 (Nat.le_refl _) (fun _ _ => rfl) hg5, hbs⟩
              have : ints (pre ++ forW m o) = ints pre ++ ints (forW m o) := by simp [ints]
              unfold OwnI
              rw [this, List.length_append]
              exact hown5
            case measure =>
              rw [hms5, hms.out]
              simp [ones, lenOfV]
              omega
end Go.Proofs.Ytejpjibhpjgcjaa
