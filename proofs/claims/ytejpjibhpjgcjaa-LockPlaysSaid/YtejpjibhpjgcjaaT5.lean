/-
  The plain laws of the program's Release.
  Conditions: those that each theorem names.
-/
import Derived.Test.YtejpjibhpjgcjaaT4
namespace Go.Proofs.Ytejpjibhpjgcjaa
open Go.RowKit Go.Sort

section
variable {P : Program} {w : World} {ops : Array Oper} {rest : List Oper} {o : Oper} {a : Act} {Q : Exit → Act → World → Prop}
theorem wpList_del {w' : World} (hg : o.guard = none) (m x : Operand) (t k : TypeId) (hop : o.op = Op.call { callee := Callee.builtin Builtin.delete, args := #[m, x], argTypes := #[t, k] }) {mv xv : Value}
    (hm : a.eval m = mv) (hx : a.eval x = xv) (hrun : ∀ ty, (Builtin.delete_ #[t, k] ty #[mv, xv]).run P w = .ok (.tuple #[]) w') (h : wpList P ops Q rest (a.put o.dst (.tuple #[])) w') : wpList P ops Q (o :: rest) a w := by
  refine wpList_plain hg fun K' hK' => ?_
  unfold Oper.wp
  simp [execOp, hop, resolve, invoke, builtin, hm, hx, hrun, Result.andThen]
  exact hK' _ _ h
theorem wpList_len (hg : o.guard = none) (m : Operand) (t : TypeId) (hop : o.op = Op.call { callee := Callee.builtin Builtin.len, args := #[m], argTypes := #[t] }) {mv v : Value}
    (hm : a.eval m = mv) (hrun : ∀ ty, (Builtin.len_ #[t] ty #[mv]).run P w = .ok v w) (h : wpList P ops Q rest (a.put o.dst v) w) : wpList P ops Q (o :: rest) a w := by
  refine wpList_plain hg fun K' hK' => ?_
  unfold Oper.wp
  simp [execOp, hop, resolve, invoke, builtin, hm, hrun, Result.andThen]
  exact hK' _ _ h
end
theorem Fr.stepIM {B b : Nat} {a w w' : World} {kv : List (Int × Value)} (h : Fr B tagT a w) (him : IM w b kv) (hB : B ≤ b) (hg : w.grownBy w' (some b)) : Fr B tagT a w' :=
  h.step hg fun k hk => by
    injection hk with hk; subst hk
    refine .inr ⟨hB, fun o ho => ?_⟩
    cases hso : tagT o with
    | true => rfl
    | false =>
      have h1 := h.keep b o ho (.inr hso)
      obtain ⟨es, c, hb, _⟩ := him
      rw [hb] at h1; cases h1
      cases hso

def rlHas (rl : Pages) (p : Int) : Bool := rl.any (fun x => x.1 == p)
def cntOf (L : List Lk) (txn : Int) (rl : Pages) : Nat := (L.filter (fun l => l.txn == txn && rlHas rl l.page)).length
/-- the table while it is gone through -/
structure RelSt (B : Nat) (wr : World) (t bp bw r : Nat) (txn : Int) (wt : List (Int × Int × Int)) (m : Tab) (pgc rl : Pages) (n : Nat) : Prop where
  blk : wr.heap[t]? = some (.cells #[.map (some bp), .map (some bw), .int .i64 m.locks.length] 48 (0, 0))
  it : IT wr r bp (pv pgc) (pv rl)
  waits : IM wr bw (wv (del wt txn))
  inner : ∀ x ∈ pgc, B ≤ x.2.1 ∧ x.2.1 ≠ bp ∧ x.2.1 ≠ bw ∧ x.2.1 ≠ r ∧ IM wr x.2.1 (hv x.2.2)
  nodup : (pgc.map (·.2.1)).Nodup
  sub : ∀ x ∈ rl, x ∈ pgc
  locks : ∀ p tx md, (∃ x ∈ pgc, x.1 = p ∧ (tx, md) ∈ x.2.2) ↔ (⟨tx, p, md⟩ : Lk) ∈ m.locks ∧ (tx = txn → rlHas rl p = true)
  count : n + cntOf m.locks txn rl = (m.locks.filter (fun l => l.txn == txn)).length

def delP (rl : Pages) (k : Int) : Pages := rl.filter (fun x => !(x.1 == k))
theorem pv_del (rl : Pages) (k : Int) : del (pv rl) k = pv (delP rl k) := by
  unfold del pv delP
  rw [List.filter_map]
  rfl
theorem rlHas_del (rl : Pages) (k p : Int) : rlHas (delP rl k) p = (rlHas rl p && !(p == k)) := by
  rw [Bool.eq_iff_iff]
  simp only [rlHas, delP, List.any_eq_true, List.mem_filter, Bool.and_eq_true, Bool.not_eq_true', beq_eq_false_iff_ne, beq_iff_eq, ne_eq]
  constructor
  · rintro ⟨x, ⟨h1, h2⟩, rfl⟩; exact ⟨⟨x, h1, rfl⟩, h2⟩
  · rintro ⟨⟨x, h1, rfl⟩, h2⟩; exact ⟨x, ⟨h1, h2⟩, rfl⟩
theorem cnt_skip {L : List Lk} {txn k : Int} {rl : Pages} (h : ∀ md, (⟨txn, k, md⟩ : Lk) ∉ L) : cntOf L txn (delP rl k) = cntOf L txn rl := by
  unfold cntOf
  congr 1
  refine List.filter_congr fun l hl => ?_
  rw [rlHas_del]
  by_cases h1 : l.txn = txn
  · have : (l.page == k) = false := by
      rw [beq_eq_false_iff_ne]
      rintro rfl
      subst h1
      exact h l.mode hl
    simp [this]
  · have : (l.txn == txn) = false := by rw [beq_eq_false_iff_ne]; exact h1
    rw [this]; rfl
theorem cnt_one {L : List Lk} {txn k md : Int} {rl : Pages} (hn : L.Pairwise (fun a b => ¬ (a.txn = b.txn ∧ a.page = b.page))) (h : (⟨txn, k, md⟩ : Lk) ∈ L) (hk : rlHas rl k = true) : cntOf L txn (delP rl k) + 1 = cntOf L txn rl := by
  unfold cntOf
  induction L with
  | nil => simp at h
  | cons l L ih =>
    obtain ⟨h1, h2⟩ := List.pairwise_cons.1 hn
    rcases List.mem_cons.1 h with rfl | h
    · have hno : ∀ m, (⟨txn, k, m⟩ : Lk) ∉ L := fun m hm => h1 _ hm ⟨rfl, rfl⟩
      have := cnt_skip (rl := rl) hno
      unfold cntOf at this
      simp only [List.filter_cons, rlHas_del, beq_self_eq_true, Bool.not_true, Bool.and_false, Bool.false_eq_true, if_false, Bool.true_and, hk, if_true, List.length_cons]
      simp only [rlHas_del] at this
      rw [this]
    · have hl : ¬ (l.txn = txn ∧ l.page = k) := h1 _ h
      have ih' := ih h2 h
      have hsame : (l.txn == txn && rlHas (delP rl k) l.page) = (l.txn == txn && rlHas rl l.page) := by
        rw [rlHas_del]
        by_cases ht : l.txn = txn
        · have : (l.page == k) = false := by rw [beq_eq_false_iff_ne]; exact fun e => hl ⟨ht, e⟩
          simp [this]
        · have : (l.txn == txn) = false := by rw [beq_eq_false_iff_ne]; exact ht
          rw [this]; rfl
      simp only [List.filter_cons, hsame]
      split
      · simp only [List.length_cons]; omega
      · exact ih'
theorem cnt_nil (L : List Lk) (txn : Int) : cntOf L txn [] = 0 := by
  unfold cntOf
  rw [List.length_eq_zero_iff, List.filter_eq_nil_iff]
  intro l _
  simp [rlHas]

section
variable {B : Nat} {wr w3 : World} {t bp bw r : Nat} {txn : Int} {wt : List (Int × Int × Int)} {m : Tab} {pgc rl : Pages} {n : Nat} {k : Int} {b : Nat} {l : List (Int × Int)}
theorem RelSt.rne (h : RelSt B wr t bp bw r txn wt m pgc rl n) : r ≠ t ∧ bw ≠ r := by
  obtain ⟨h0, es, c, s, sn, c0, hb, _, _, hr, _⟩ := h.it
  refine ⟨?_, ?_⟩
  · rintro rfl
    have := h.blk
    rw [hr] at this; cases this
  · rintro rfl
    obtain ⟨es, c, hb, _⟩ := h.waits
    rw [hr] at hb; cases hb
theorem im_ne_blk {w : World} {g b : Nat} {cs : Array Value} {e : TypeId} {z : Nat × Nat} {kv : List (Int × Value)} (h1 : w.heap[g]? = some (.cells cs e z)) (h2 : IM w b kv) : g ≠ b := by
  rintro rfl
  obtain ⟨es, c, hb, _⟩ := h2
  rw [h1] at hb; cases hb
theorem RelSt.nodupP (h : RelSt B wr t bp bw r txn wt m pgc rl n) : (pgc.map (·.1)).Nodup := by
  rw [← pv_keys]; exact h.it.im.nodup
theorem nodup_key {pg : Pages} (hn : (pg.map (·.1)).Nodup) {x y : Int × Nat × List (Int × Int)} (hx : x ∈ pg) (hy : y ∈ pg) (e : x.1 = y.1) : x = y := by
  have e1 := assoc_of_mem (kv := pg) (k := x.1) (v := x.2) hn hx
  have e2 := assoc_of_mem (kv := pg) (k := x.1) (v := y.2) hn (by rw [e]; exact hy)
  rw [e1] at e2
  have e3 := Option.some.inj e2
  exact Prod.ext e e3
theorem rlHas_mem (h : (k, b, l) ∈ rl) : rlHas rl k = true := by
  unfold rlHas; rw [List.any_eq_true]; exact ⟨_, h, by simp⟩

/-- the step alone -/
theorem RelSt.stepped (h : RelSt B wr t bp bw r txn wt m pgc rl n) (hg : wr.grownBy w3 (some r)) :
    w3.heap[t]? = some (.cells #[.map (some bp), .map (some bw), .int .i64 m.locks.length] 48 (0, 0)) ∧ IM w3 bw (wv (del wt txn)) ∧ (∀ x ∈ pgc, B ≤ x.2.1 ∧ x.2.1 ≠ bp ∧ x.2.1 ≠ bw ∧ x.2.1 ≠ r ∧ IM w3 x.2.1 (hv x.2.2)) := by
  obtain ⟨h1, h2⟩ := h.rne
  refine ⟨(hg.block t (lt_of_heap h.blk) (fun e => h1 (by injection e with e; exact e.symm))).trans h.blk, h.waits.grown hg (fun e => h2 (by injection e)), fun x hx => ?_⟩
  obtain ⟨a1, a2, a3, a4, a5⟩ := h.inner x hx
  exact ⟨a1, a2, a3, a4, a5.grown hg (fun e => a4 (by injection e))⟩
theorem RelSt.skip (h : RelSt B wr t bp bw r txn wt m pgc rl n) (hk : (k, b, l) ∈ rl) (hno : ∀ md, (txn, md) ∉ l) (hg : wr.grownBy w3 (some r)) (hit : IT w3 r bp (pv pgc) (pv (delP rl k))) :
    RelSt B w3 t bp bw r txn wt m pgc (delP rl k) n := by
  obtain ⟨h1, h2, h3⟩ := h.stepped hg
  have hnl : ∀ md, (⟨txn, k, md⟩ : Lk) ∉ m.locks := fun md hm => by
    obtain ⟨x, hx, hxk, hin⟩ := (h.locks k txn md).2 ⟨hm, fun _ => rlHas_mem hk⟩
    have := nodup_key h.nodupP hx (h.sub _ hk) hxk
    rw [this] at hin
    exact hno md hin
  refine ⟨h1, hit, h2, h3, h.nodup, fun x hx => h.sub x (List.mem_filter.1 hx).1, fun p tx md => ?_, ?_⟩
  · rw [h.locks, rlHas_del]
    constructor
    · rintro ⟨a1, a2⟩
      refine ⟨a1, fun e => ?_⟩
      subst e
      have : (p == k) = false := by rw [beq_eq_false_iff_ne]; rintro rfl; exact hnl md a1
      rw [a2 rfl, this]; rfl
    · rintro ⟨a1, a2⟩
      exact ⟨a1, fun e => by have := a2 e; simp only [Bool.and_eq_true] at this; exact this.1⟩
  · rw [cnt_skip hnl]; exact h.count
theorem mem_replace {pg : Pages} (hk : (k, b, l) ∈ pg) {l' : List (Int × Int)} {x : Int × Nat × List (Int × Int)} :
    x ∈ pg.map (fun y => if y.1 == k then (k, b, l') else y) ↔ x = (k, b, l') ∨ (x ∈ pg ∧ x.1 ≠ k) := by
  rw [List.mem_map]
  constructor
  · rintro ⟨y, hy, rfl⟩
    by_cases h : y.1 = k
    · left; simp [h]
    · right; simp only [beq_iff_eq, h, if_false]; exact ⟨hy, h⟩
  · rintro (rfl | ⟨h1, h2⟩)
    · exact ⟨_, hk, by simp⟩
    · exact ⟨x, h1, by simp [h2]⟩
theorem pv_replace {pg : Pages} (hn : (pg.map (·.1)).Nodup) (hk : (k, b, l) ∈ pg) {l' : List (Int × Int)} : pv (pg.map (fun y => if y.1 == k then (k, b, l') else y)) = pv pg := by
  unfold pv
  rw [List.map_map]
  refine List.map_congr_left fun y hy => ?_
  simp only [Function.comp]
  by_cases h : y.1 = k
  · have := nodup_key hn hy hk h
    subst this
    simp
  · simp [h]
theorem blocks_replace {pg : Pages} (hn : (pg.map (·.1)).Nodup) (hk : (k, b, l) ∈ pg) {l' : List (Int × Int)} : (pg.map (fun y => if y.1 == k then (k, b, l') else y)).map (·.2.1) = pg.map (·.2.1) := by
  rw [List.map_map]
  refine List.map_congr_left fun y hy => ?_
  simp only [Function.comp]
  by_cases h : y.1 = k
  · have := nodup_key hn hy hk h
    subst this
    simp
  · simp [h]
theorem nodup_blk {pg : Pages} (hn : (pg.map (·.2.1)).Nodup) {x y : Int × Nat × List (Int × Int)} (hx : x ∈ pg) (hy : y ∈ pg) (e : x.2.1 = y.2.1) : x = y := by
  have hpw : pg.Pairwise (fun a b => a.2.1 ≠ b.2.1) := List.pairwise_map.1 hn
  exact pw_inj hpw (f := fun a => a.2.1) (fun _ _ h => h) hx hy e

/-- one lock goes; others hold the page still -/
theorem RelSt.keep (v : Valid m) (h : RelSt B wr t bp bw r txn wt m pgc rl n) {md : Int} (hk : (k, b, l) ∈ rl) (hin : (txn, md) ∈ l) (hg : wr.grownBy w3 (some r)) (hit : IT w3 r bp (pv pgc) (pv (delP rl k)))
    {w4 : World} (hg4 : w3.grownBy w4 (some b)) (him4 : IM w4 b (hv (del l txn))) :
    RelSt B w4 t bp bw r txn wt m (pgc.map (fun y => if y.1 == k then (k, b, del l txn) else y)) (delP rl k) (n + 1) := by
  obtain ⟨h1, h2, h3⟩ := h.stepped hg
  have hpk := h.sub _ hk
  obtain ⟨a1, a2, a3, a4, a5⟩ := h3 _ hpk
  dsimp only at a1 a2 a3 a4 a5
  have hnp := h.nodupP
  have hlk : (⟨txn, k, md⟩ : Lk) ∈ m.locks := ((h.locks k txn md).1 ⟨_, hpk, rfl, hin⟩).1
  refine ⟨(hg4.block t (lt_of_heap h1) (fun e => im_ne_blk h1 a5 (by injection e))).trans h1, ?_, h2.grown hg4 (fun e => a3 (by injection e with e; exact e.symm)), ?_, by rw [blocks_replace hnp hpk]; exact h.nodup, ?_, ?_, ?_⟩
  · rw [pv_replace hnp hpk]
    exact hit.grown hg4 (fun e => a2 (by injection e with e; exact e.symm)) (fun e => a4 (by injection e with e; exact e.symm))
  · intro x hx
    rcases (mem_replace hpk).1 hx with rfl | ⟨hx1, hx2⟩
    · exact ⟨a1, a2, a3, a4, him4⟩
    · obtain ⟨b1, b2, b3, b4, b5⟩ := h3 x hx1
      refine ⟨b1, b2, b3, b4, b5.grown hg4 (fun e => hx2 ?_)⟩
      injection e with e
      exact congrArg Prod.fst (nodup_blk h.nodup hx1 hpk e)
  · intro x hx
    have := List.mem_filter.1 hx
    refine (mem_replace hpk).2 (.inr ⟨h.sub x this.1, by simpa using this.2⟩)
  · intro p tx md'
    rw [rlHas_del]
    constructor
    · rintro ⟨x, hx, rfl, hmm⟩
      rcases (mem_replace hpk).1 hx with rfl | ⟨hx1, hx2⟩
      · obtain ⟨c1, c2⟩ := mem_del.1 hmm
        have := (h.locks k tx md').1 ⟨_, hpk, rfl, c1⟩
        exact ⟨this.1, fun e => absurd e c2⟩
      · have := (h.locks x.1 tx md').1 ⟨_, hx1, rfl, hmm⟩
        refine ⟨this.1, fun e => ?_⟩
        have h7 : (x.1 == k) = false := by rw [beq_eq_false_iff_ne]; exact hx2
        rw [this.2 e, h7]; rfl
    · rintro ⟨c1, c2⟩
      by_cases hp : p = k
      · subst hp
        have hne : tx ≠ txn := fun e => by have := c2 e; simp at this
        obtain ⟨x, hx, hxk, hmm⟩ := (h.locks p tx md').2 ⟨c1, fun e => absurd e hne⟩
        have := nodup_key hnp hx hpk hxk
        subst this
        exact ⟨_, (mem_replace hpk).2 (.inl rfl), rfl, mem_del.2 ⟨hmm, hne⟩⟩
      · obtain ⟨x, hx, rfl, hmm⟩ := (h.locks p tx md').2 ⟨c1, fun e => by have := c2 e; simp only [Bool.and_eq_true] at this; exact this.1⟩
        exact ⟨x, (mem_replace hpk).2 (.inr ⟨hx, hp⟩), rfl, hmm⟩
  · have := cnt_one (rl := rl) v.nodup hlk (rlHas_mem hk)
    have := h.count
    omega
/-- .. and nobody does -/
theorem RelSt.drop (h : RelSt B w3 t bp bw r txn wt m pgc rl n) (hk : (k, b, []) ∈ pgc) (hnr : rlHas rl k = false)
    {w5 : World} (hg5 : w3.grownBy w5 (some bp)) (hit5 : IT w5 r bp (pv (delP pgc k)) (pv rl)) :
    RelSt B w5 t bp bw r txn wt m (delP pgc k) rl n := by
  obtain ⟨h1, h2⟩ := h.rne
  have hbne : bw ≠ bp := by
    rintro rfl
    obtain ⟨es, c, hb, _, he⟩ := h.waits
    obtain ⟨es', c', hb', _, he'⟩ := h.it.im
    rw [hb] at hb'
    cases hb'
    have hkin : (k, Value.map (some b)) ∈ pv pgc := List.mem_map.2 ⟨_, hk, rfl⟩
    rw [he] at he'
    have : pairOf (k, Value.map (some b)) ∈ (wv (del wt txn)).map pairOf := by rw [he']; exact List.mem_map.2 ⟨_, hkin, rfl⟩
    obtain ⟨y, hy, hyp⟩ := List.mem_map.1 this
    obtain ⟨z, _, rfl⟩ := List.mem_map.1 hy
    simp [pairOf] at hyp
  refine ⟨(hg5.block t (lt_of_heap h.blk) (fun e => im_ne_blk h.blk h.it.im (by injection e))).trans h.blk, hit5, h.waits.grown hg5 (fun e => hbne (by injection e)), fun x hx => ?_, ?_, fun x hx => ?_, fun p tx md => ?_, h.count⟩
  · have hx' := List.mem_filter.1 hx
    obtain ⟨b1, b2, b3, b4, b5⟩ := h.inner x hx'.1
    exact ⟨b1, b2, b3, b4, b5.grown hg5 (fun e => b2 (by injection e))⟩
  · exact (List.Sublist.map _ List.filter_sublist).nodup h.nodup
  · refine List.mem_filter.2 ⟨h.sub x hx, ?_⟩
    simp only [Bool.not_eq_true', beq_eq_false_iff_ne]
    rintro rfl
    have : rlHas rl x.1 = true := by unfold rlHas; rw [List.any_eq_true]; exact ⟨x, hx, by simp⟩
    rw [hnr] at this; cases this
  · rw [← h.locks]
    constructor
    · rintro ⟨x, hx, rfl, hmm⟩; exact ⟨x, (List.mem_filter.1 hx).1, rfl, hmm⟩
    · rintro ⟨x, hx, rfl, hmm⟩
      refine ⟨x, List.mem_filter.2 ⟨hx, ?_⟩, rfl, hmm⟩
      simp only [Bool.not_eq_true', beq_eq_false_iff_ne]
      intro e
      have := nodup_key h.nodupP hx hk e
      subst this
      simp at hmm
end
end Go.Proofs.Ytejpjibhpjgcjaa
