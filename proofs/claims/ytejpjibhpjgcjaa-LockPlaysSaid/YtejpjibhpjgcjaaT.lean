/-
  The program's table of locks in memory; New, Len and Holds.
  Conditions: those that each theorem names.
-/
import Derived.Test.YtejpjibhpjgcjaaProg
import Derived.Test.YtejpjibhpjgcjaaPure
namespace Go.Proofs.Ytejpjibhpjgcjaa
open Go.RowKit

theorem z49 (w : World) : (zeroValue 49).run Try.prog w = .ok (.map none) w := by kernel_rfl
theorem z3 (w : World) : (zeroValue 3).run Try.prog w = .ok (.int .i64 0) w := by kernel_rfl
theorem z55 (w : World) : (zeroValue 55).run Try.prog w = .ok (.agg #[.int .i64 0, .int .i64 0]) w := by kernel_rfl

/-- the program's table may write these blocks -/
def tagT : Obj → Bool
  | .cells _ e _ => e == 48
  | .map _ _ => true
  | _ => false
/-- the document's table may write these -/
def tagM : Obj → Bool
  | .cells _ e _ => e == 29 || e == 52
  | _ => false
theorem tagT_M (o : Obj) (h : tagT o = true) : tagM o = false := by
  cases o <;> simp_all [tagT, tagM]
theorem tagM_T (o : Obj) (h : tagM o = true) : tagT o = false := by
  cases o with
  | cells c e f =>
    simp only [tagT, tagM, Bool.or_eq_true, beq_iff_eq, beq_eq_false_iff_ne] at h ⊢
    rcases h with rfl | rfl <;> decide
  | _ => simp_all [tagM]

abbrev Pages := List (Int × Nat × List (Int × Int))
def pv (pg : Pages) : List (Int × Value) := pg.map fun x => (x.1, .map (some x.2.1))
def hv (l : List (Int × Int)) : List (Int × Value) := l.map fun y => (y.1, .int .i64 y.2)
def wv (l : List (Int × Int × Int)) : List (Int × Value) := l.map fun x => (x.1, .agg #[.int .i64 x.2.1, .int .i64 x.2.2])

/-- the program's table in memory -/
structure TAt (B : Nat) (w : World) (t : Nat) (bp bw : Nat) (pg : Pages) (wt : List (Int × Int × Int)) (m : Tab) : Prop where
  b0 : B ≤ t
  blk : w.heap[t]? = some (.cells #[.map (some bp), .map (some bw), .int .i64 m.locks.length] 48 (0, 0))
  b1 : B ≤ bp
  b2 : B ≤ bw
  ne : bp ≠ bw
  pages : IM w bp (pv pg)
  waits : IM w bw (wv wt)
  inner : ∀ x ∈ pg, B ≤ x.2.1 ∧ x.2.1 ≠ bp ∧ x.2.1 ≠ bw ∧ IM w x.2.1 (hv x.2.2)
  nodup : (pg.map (·.2.1)).Nodup
  locks : ∀ p tx md, (∃ x ∈ pg, x.1 = p ∧ (tx, md) ∈ x.2.2) ↔ (⟨tx, p, md⟩ : Lk) ∈ m.locks
  wait : ∀ tx p md, (tx, p, md) ∈ wt ↔ (⟨tx, p, md⟩ : Lk) ∈ m.waits
def TRep (B : Nat) (w : World) (t : Nat) (m : Tab) : Prop := ∃ bp bw pg wt, TAt B w t bp bw pg wt m

theorem im_tag {w w' : World} {b : Nat} {kv : List (Int × Value)} (hk : ∀ (k : Nat) (o : Obj), w.heap[k]? = some o → tagT o = true → w'.heap[k]? = some o) (h : IM w b kv) : IM w' b kv := by
  obtain ⟨es, c, hb, r⟩ := h
  exact ⟨es, c, hk b _ hb rfl, r⟩
theorem TAt.keep {B : Nat} {w w' : World} {t bp bw : Nat} {pg : Pages} {wt : List (Int × Int × Int)} {m : Tab} (h : TAt B w t bp bw pg wt m) (hk : ∀ (k : Nat) (o : Obj), w.heap[k]? = some o → tagT o = true → w'.heap[k]? = some o) : TAt B w' t bp bw pg wt m :=
  { h with blk := hk t _ h.blk rfl, pages := im_tag hk h.pages, waits := im_tag hk h.waits, inner := fun x hx => by obtain ⟨a, b, c, d⟩ := h.inner x hx; exact ⟨a, b, c, im_tag hk d⟩ }
theorem keepT_of_M {B : Nat} {w w' : World} (h : Fr B tagM w w') : ∀ (k : Nat) (o : Obj), w.heap[k]? = some o → tagT o = true → w'.heap[k]? = some o :=
  fun k o ho ht => h.keep k o ho (.inr (tagT_M o ht))
theorem keepT_of_below {w w' : World} (h : Below w.heap.size w w') : ∀ (k : Nat) (o : Obj), w.heap[k]? = some o → tagT o = true → w'.heap[k]? = some o :=
  fun k _ ho _ => (h.block k (lt_of_heap ho)).trans ho
theorem TRep.keepM {B : Nat} {w w' : World} {t : Nat} {m : Tab} (h : TRep B w t m) (hf : Fr B tagM w w') : TRep B w' t m := by
  obtain ⟨bp, bw, pg, wt, h⟩ := h; exact ⟨bp, bw, pg, wt, h.keep (keepT_of_M hf)⟩
theorem TRep.below {B : Nat} {w w' : World} {t : Nat} {m : Tab} (h : TRep B w t m) (hf : Below w.heap.size w w') : TRep B w' t m := by
  obtain ⟨bp, bw, pg, wt, h⟩ := h; exact ⟨bp, bw, pg, wt, h.keep (keepT_of_below hf)⟩

theorem assoc_map {α β : Type} (f : α → β) (kv : List (Int × α)) (k : Int) : assoc (kv.map fun x => (x.1, f x.2)) k = (assoc kv k).map f := by
  induction kv with
  | nil => rfl
  | cons x l ih =>
    unfold assoc at ih ⊢
    simp only [List.map_cons, List.find?_cons]
    by_cases h : (x.1 == k) = true
    · simp [h]
    · simp only [h]; exact ih
theorem assoc_mem {α : Type} {kv : List (Int × α)} {k : Int} {v : α} (h : assoc kv k = some v) : (k, v) ∈ kv := by
  unfold assoc at h
  cases hf : kv.find? (fun x => x.1 == k) with
  | none => rw [hf] at h; simp at h
  | some x =>
    rw [hf] at h
    have h1 := List.find?_some hf
    have h2 := List.mem_of_find?_eq_some hf
    simp at h h1
    subst h; subst h1; exact h2
theorem assoc_of_mem {α : Type} {kv : List (Int × α)} {k : Int} {v : α} (hn : (kv.map Prod.fst).Nodup) (h : (k, v) ∈ kv) : assoc kv k = some v := by
  induction kv with
  | nil => simp at h
  | cons x l ih =>
    rw [List.map_cons, List.nodup_cons] at hn
    unfold assoc at ih ⊢
    rw [List.find?_cons]
    rcases List.mem_cons.1 h with rfl | h
    · simp
    · have : (x.1 == k) = false := by
        simp; rintro rfl; exact hn.1 (List.mem_map.2 ⟨_, h, rfl⟩)
      rw [this]; exact ih hn.2 h
theorem assoc_none {α : Type} {kv : List (Int × α)} {k : Int} (h : assoc kv k = none) : ∀ v, (k, v) ∉ kv := by
  intro v hv
  simp only [assoc, Option.map_eq_none_iff, List.find?_eq_none] at h
  exact h _ hv (by simp)
theorem pv_keys (pg : Pages) : (pv pg).map Prod.fst = pg.map (·.1) := by simp [pv, Function.comp_def]
theorem hv_keys (l : List (Int × Int)) : (hv l).map Prod.fst = l.map (·.1) := by simp [hv, Function.comp_def]
theorem wv_keys (l : List (Int × Int × Int)) : (wv l).map Prod.fst = l.map (·.1) := by simp [wv, Function.comp_def]

section
variable {B : Nat} {w : World} {t bp bw : Nat} {pg : Pages} {wt : List (Int × Int × Int)} {m : Tab}
/-- a page: none hold it, or it has a map of its own -/
theorem TAt.page (h : TAt B w t bp bw pg wt m) (p : Int) :
    (assoc (pv pg) p = none ∧ ∀ tx md, (⟨tx, p, md⟩ : Lk) ∉ m.locks) ∨
    ∃ b l, (p, b, l) ∈ pg ∧ assoc (pv pg) p = some (.map (some b)) ∧ IM w b (hv l) ∧ (l.map (·.1)).Nodup ∧ ∀ tx md, (tx, md) ∈ l ↔ (⟨tx, p, md⟩ : Lk) ∈ m.locks := by
  have hn : (pg.map (·.1)).Nodup := by rw [← pv_keys]; exact h.pages.nodup
  have hpv : assoc (pv pg) p = (assoc pg p).map (fun x => Value.map (some x.1)) := assoc_map (fun x : Nat × List (Int × Int) => Value.map (some x.1)) pg p
  cases ha : assoc pg p with
  | none =>
    left
    rw [hpv, ha]
    refine ⟨rfl, fun tx md hm => ?_⟩
    obtain ⟨x, hx, rfl, _⟩ := (h.locks _ _ _).2 hm
    exact assoc_none ha x.2 hx
  | some x =>
    right
    have hm := assoc_mem ha
    obtain ⟨_, _, _, hi⟩ := h.inner _ hm
    refine ⟨x.1, x.2, hm, by rw [hpv, ha]; rfl, hi, by rw [← hv_keys]; exact hi.nodup, fun tx md => ⟨fun hin => (h.locks _ _ _).1 ⟨_, hm, rfl, hin⟩, fun hin => ?_⟩⟩
    obtain ⟨y, hy, hyp, hin'⟩ := (h.locks _ _ _).2 hin
    have := assoc_of_mem hn hy
    rw [hyp, ha] at this
    injection this with this
    have h2 : y.2.2 = x.2 := by rw [this]
    rw [← h2]; exact hin'
theorem TAt.has (v : Valid m) {l : List (Int × Int)} {p : Int} (h : ∀ tx md, (tx, md) ∈ l ↔ (⟨tx, p, md⟩ : Lk) ∈ m.locks) (tx : Int) :
    (assoc (hv l) tx).getD (.int .i64 0) = .int .i64 (holds m.locks tx p) := by
  have : assoc (hv l) tx = (assoc l tx).map (fun x => Value.int .i64 x) := assoc_map (fun x : Int => Value.int .i64 x) l tx
  rw [this]
  cases ha : assoc l tx with
  | none => rw [holds_none (fun md hm => assoc_none ha md ((h _ _).2 hm))]; rfl
  | some x => rw [holds_some v.nodup ((h _ _).1 (assoc_mem ha))]; rfl
end

theorem cell_blk {w : World} {g : Nat} {cs : Array Value} {e : TypeId} {z : Nat × Nat} (h : w.heap[g]? = some (.cells cs e z)) (i : Nat) : w.cell? ⟨g, i, none⟩ = cs[i]? := by
  simp [World.cell?, h]

theorem new_c (w : World) (B : Nat) (hB : B ≤ w.heap.size) :
    Calls Try.prog 5 #[] w fun e w' => ∃ t, e = .returned (.pointer (some ⟨t, 0, none⟩)) ∧ TRep B w' t ⟨[], []⟩ ∧ Below w.heap.size w w' := by
  have hmm := @run_makeMap Try.prog
  go_enter Try.func5, Try.ntmps5
  go_wp2
  go_ret
  refine ⟨w.heap.size + 2, rfl, ⟨w.heap.size, w.heap.size + 1, [], [], ?_⟩, (((Below.refl _ _).alloc (Nat.le_refl _) _).alloc (by simp) _).alloc (by simp; omega) _⟩
  have e1 := (IM.made w).keep (Below.heap_alloc (w.alloc (.map #[] 0)) (.map #[] 0) w.heap.size (by simp))
  have e2 := IM.made (w.alloc (.map #[] 0))
  refine ⟨by omega, ?_, by omega, by omega, by omega, ?_, ?_, by simp, by simp, by simp, by simp⟩
  · have := (MapKept.heap_alloc ((w.alloc (.map #[] 0)).alloc (.map #[] 0)) (.cells #[.map (some w.heap.size), .map (some (w.heap.size + 1)), .int .i64 0] 48)).1
    simpa using this
  · exact e1.keep (Below.heap_alloc _ _ _ (by simp; omega))
  · have := e2.keep (Below.heap_alloc ((w.alloc (.map #[] 0)).alloc (.map #[] 0)) (.cells #[.map (some w.heap.size), .map (some (w.heap.size + 1)), .int .i64 0] 48) (w.alloc (.map #[] 0)).heap.size (by simp))
    simpa [wv] using this

theorem len_c (B t : Nat) (m : Tab) (w : World) (h : TRep B w t m) :
    Calls Try.prog 11 #[.pointer (some ⟨t, 0, none⟩)] w fun e w' => e = .returned (.int .i64 m.locks.length) ∧ w = w' := by
  obtain ⟨bp, bw, pg, wt, h⟩ := h
  have hc : w.cell? ⟨t, 2, none⟩ = some (.int .i64 m.locks.length) := by rw [cell_blk h.blk]; rfl
  clear h
  go_enter Try.func11, Try.ntmps11
  go_wp2
  go_ret
  exact ⟨rfl, rfl⟩

theorem holds_c (B t : Nat) (m : Tab) (w : World) (v : Valid m) (h : TRep B w t m) (txn page : Int) :
    Calls Try.prog 12 #[.pointer (some ⟨t, 0, none⟩), .int .i64 txn, .int .i64 page] w fun e w' => e = .returned (.int .i64 (holds m.locks txn page)) ∧ w = w' := by
  obtain ⟨bp, bw, pg, wt, h⟩ := h
  have hc : w.cell? ⟨t, 0, none⟩ = some (.map (some bp)) := by rw [cell_blk h.blk]; rfl
  have r1 := run_lookup_im Try.underlying45 Try.underlying3 (z49 w) h.pages page
  rcases h.page page with ⟨ha, hno⟩ | ⟨b, l, hmem, ha, hi, _, hl⟩
  · rw [ha] at r1
    simp only [Option.getD_none] at r1
    have r2 := run_lookup_im_nil Try.underlying49 Try.underlying3 (z3 w) txn
    rw [holds_none (fun md => hno txn md)]
    clear h ha hno
    go_enter Try.func12, Try.ntmps12
    go_wp2
    go_ret
    exact ⟨rfl, rfl⟩
  · rw [ha] at r1
    simp only [Option.getD_some] at r1
    have r2 := run_lookup_im Try.underlying49 Try.underlying3 (z3 w) hi txn
    rw [TAt.has v hl] at r2
    clear h ha hl
    go_enter Try.func12, Try.ntmps12
    go_wp2
    go_ret
    exact ⟨rfl, rfl⟩
end Go.Proofs.Ytejpjibhpjgcjaa
