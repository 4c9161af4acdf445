/-
  Plain laws: a lock is written into its page's map.
  Conditions: those that each theorem names.
-/
import Derived.Test.YtejpjibhpjgcjaaT8
namespace Go.Proofs.Ytejpjibhpjgcjaa
open Go.RowKit Go.Sort
set_option maxRecDepth 100000

/-- what the list of locks becomes -/
def IsPut (L L' : List Lk) (x : Lk) : Prop := ∀ y, y ∈ L' ↔ y = x ∨ (¬ (y.txn = x.txn ∧ y.page = x.page) ∧ y ∈ L)
theorem isPut_set {L : List Lk} {txn page md : Int} (h : holds L txn page ≠ 0) : IsPut L (L.map (fun l => if l.txn == txn && l.page == page then ⟨txn, page, md⟩ else l)) ⟨txn, page, md⟩ := by
  intro y
  rw [List.mem_map]
  constructor
  · rintro ⟨l, hl, rfl⟩
    by_cases hc : l.txn = txn ∧ l.page = page
    · left; simp [hc]
    · right
      have : (l.txn == txn && l.page == page) = false := by
        rw [Bool.and_eq_false_iff, beq_eq_false_iff_ne, beq_eq_false_iff_ne]
        by_cases h1 : l.txn = txn
        · exact .inr fun h2 => hc ⟨h1, h2⟩
        · exact .inl h1
      rw [this]
      exact ⟨hc, hl⟩
  · rintro (rfl | ⟨h1, h2⟩)
    · exact ⟨_, holds_mem h, by simp⟩
    · refine ⟨y, h2, ?_⟩
      have : (y.txn == txn && y.page == page) = false := by
        rw [Bool.and_eq_false_iff, beq_eq_false_iff_ne, beq_eq_false_iff_ne]
        by_cases h3 : y.txn = txn
        · exact .inr fun h4 => h1 ⟨h3, h4⟩
        · exact .inl h3
      rw [this]; rfl
theorem isPut_new {m : Tab} (v : Valid m) {txn page md : Int} (h : holds m.locks txn page = 0) : IsPut m.locks (m.locks ++ [⟨txn, page, md⟩]) ⟨txn, page, md⟩ := by
  intro y
  rw [List.mem_append, List.mem_singleton]
  constructor
  · rintro (h1 | rfl)
    · refine .inr ⟨?_, h1⟩
      rintro ⟨h2, h3⟩
      obtain ⟨a, b, c⟩ := y
      dsimp only at h2 h3
      subst h2 h3
      rw [holds_some v.nodup h1] at h
      have := (v.modes _ h1).1
      dsimp only at this
      omega
    · exact .inl rfl
  · rintro (rfl | ⟨_, h2⟩)
    · exact .inr rfl
    · exact .inl h2

/-- a lock is written into its page's map -/
theorem TAt.put {B t bp bw b : Nat} {pg : Pages} {wt : List (Int × Int × Int)} {m : Tab} {l : List (Int × Int)} {txn page md : Int} {w w' : World} {L' : List Lk} (h : TAt B w t bp bw pg wt m) (hk : (page, b, l) ∈ pg)
    (hblk : w'.heap[t]? = some (.cells #[.map (some bp), .map (some bw), .int .i64 L'.length] 48 (0, 0))) (hkeep : ∀ b' kv, b' ≠ b → IM w b' kv → IM w' b' kv) (him : IM w' b (hv (upd l txn md))) (hL : IsPut m.locks L' ⟨txn, page, md⟩) :
    TAt B w' t bp bw (pg.map (fun y => if y.1 == page then (page, b, upd l txn md) else y)) wt ⟨L', m.waits⟩ := by
  obtain ⟨a1, a2, a3, a4⟩ := h.inner _ hk
  dsimp only at a1 a2 a3 a4
  have hnp : (pg.map (·.1)).Nodup := by rw [← pv_keys]; exact h.pages.nodup
  refine ⟨h.b0, hblk, h.b1, h.b2, h.ne, by rw [pv_replace hnp hk]; exact hkeep _ _ (Ne.symm a2) h.pages, hkeep _ _ (Ne.symm a3) h.waits, fun x hx => ?_, by rw [blocks_replace hnp hk]; exact h.nodup, fun p tx q => ?_, h.wait⟩
  · rcases (mem_replace hk).1 hx with rfl | ⟨hx1, hx2⟩
    · exact ⟨a1, a2, a3, him⟩
    · obtain ⟨b1, b2, b3, b4⟩ := h.inner x hx1
      exact ⟨b1, b2, b3, hkeep _ _ (fun e => hx2 (congrArg Prod.fst (nodup_blk h.nodup hx1 hk e))) b4⟩
  · have hL' := hL ⟨tx, p, q⟩
    simp only [Lk.mk.injEq] at hL'
    rw [hL']
    constructor
    · rintro ⟨x, hx, rfl, hm⟩
      rcases (mem_replace hk).1 hx with rfl | ⟨hx1, hx2⟩
      · rcases (mem_upd _ _).1 hm with ⟨rfl, rfl⟩ | ⟨h1, h2⟩
        · exact .inl ⟨rfl, rfl, rfl⟩
        · exact .inr ⟨fun e => h1 e.1, (h.locks _ _ _).1 ⟨_, hk, rfl, h2⟩⟩
      · exact .inr ⟨fun e => hx2 e.2, (h.locks _ _ _).1 ⟨x, hx1, rfl, hm⟩⟩
    · rintro (⟨rfl, rfl, rfl⟩ | ⟨h1, h2⟩)
      · exact ⟨_, (mem_replace hk).2 (.inl rfl), rfl, (mem_upd _ _).2 (.inl ⟨rfl, rfl⟩)⟩
      · obtain ⟨x, hx, rfl, hm⟩ := (h.locks _ _ _).2 h2
        by_cases hp : x.1 = page
        · have := nodup_key hnp hx hk hp
          subst this
          exact ⟨_, (mem_replace hk).2 (.inl rfl), rfl, (mem_upd _ _).2 (.inr ⟨fun e => h1 ⟨e, rfl⟩, hm⟩)⟩
        · exact ⟨x, (mem_replace hk).2 (.inr ⟨hx, hp⟩), rfl, hm⟩

/-- a page that has no map yet -/
theorem TAt.newpage {B t bp bw : Nat} {pg : Pages} {wt : List (Int × Int × Int)} {m : Tab} {page : Int} {w w' : World} (h : TAt B w t bp bw pg wt m) (hB : B ≤ w.heap.size) (hno : assoc (pv pg) page = none)
    (hg : (w.alloc (.map #[] 0)).grownBy w' (some bp)) (him : IM w' bp (upd (pv pg) page (.map (some w.heap.size)))) : TAt B w' t bp bw (pg ++ [(page, w.heap.size, [])]) wt m := by
  have hA := h.keep (keepT_of_below ((Below.refl w.heap.size w).alloc (Nat.le_refl _) (.map #[] 0)))
  have hold : ∀ x ∈ pg, x.2.1 < w.heap.size := fun x hx => (h.inner x hx).2.2.2.lt
  refine ⟨h.b0, (hg.block t (lt_of_heap hA.blk) (fun e => im_ne_blk h.blk h.pages (by injection e))).trans hA.blk, h.b1, h.b2, h.ne, ?_, hA.waits.grown hg (fun e => h.ne (by injection e with e; exact e.symm)), fun x hx => ?_, ?_, fun p tx q => ?_, h.wait⟩
  · rw [upd_new hno] at him
    simpa [pv] using him
  · rcases List.mem_append.1 hx with hx | hx
    · obtain ⟨a1, a2, a3, a4⟩ := hA.inner x hx
      exact ⟨a1, a2, a3, a4.grown hg (fun e => a2 (by injection e))⟩
    · rw [List.mem_singleton.1 hx]
      have h1 := h.pages.lt
      have h2 := h.waits.lt
      exact ⟨hB, by dsimp only; omega, by dsimp only; omega, (IM.made w).grown hg (fun e => by injection e with e; omega)⟩
  · rw [List.map_append, List.nodup_append]
    refine ⟨h.nodup, by simp, ?_⟩
    intro a ha c hc e
    obtain ⟨x, hx, rfl⟩ := List.mem_map.1 ha
    have := hold x hx
    simp at hc
    omega
  · rw [← h.locks]
    constructor
    · rintro ⟨x, hx, rfl, hm⟩
      rcases List.mem_append.1 hx with hx | hx
      · exact ⟨x, hx, rfl, hm⟩
      · rw [List.mem_singleton.1 hx] at hm
        cases hm
    · rintro ⟨x, hx, rfl, hm⟩
      exact ⟨x, List.mem_append.2 (.inl hx), rfl, hm⟩
end Go.Proofs.Ytejpjibhpjgcjaa
