/-
  Frames, maps with int keys, iterators, rows that are read or appended to: laws for the walks.
  Conditions: those that each theorem names.
-/
import Derived.WalkKit
import Derived.WalkSpells
import Derived.WalkLawsBesides
import Derived.Maps.RangeWalk
import Derived.BigQuiet
import Derived.Maps.AppendAt
import Derived.Lib.Hide
import Derived.WalkSmall
namespace Go.Proofs.Ytbcafhhheileeaa
open Go.RowKit Go.MapKept
open Go.ChangeMaps (setBlock)

/-! ### frames: blocks from B on that S lets may be written; all else stays -/
structure Fr (B : Nat) (S : Obj → Bool) (w w' : World) : Prop where
  os : w'.os = w.os
  tape : w'.tape = w.tape
  output : w'.output = w.output
  size : w.heap.size ≤ w'.heap.size
  keep : ∀ (k : Nat) (o : Obj), w.heap[k]? = some o → (k < B ∨ S o = false) → w'.heap[k]? = some o

theorem Fr.refl (B : Nat) (S : Obj → Bool) (w : World) : Fr B S w w := ⟨rfl, rfl, rfl, Nat.le_refl _, fun _ _ h _ => h⟩
theorem Fr.trans {B : Nat} {S : Obj → Bool} {a b c : World} (h : Fr B S a b) (k : Fr B S b c) : Fr B S a c :=
  ⟨k.os.trans h.os, k.tape.trans h.tape, k.output.trans h.output, Nat.le_trans h.size k.size, fun i o hi hs => k.keep i o (h.keep i o hi hs) hs⟩
theorem Fr.mono {B B' : Nat} {S S' : Obj → Bool} {w w' : World} (h : Fr B S w w') (hB : B' ≤ B) (hS : ∀ o, S' o = false → S o = false) : Fr B' S' w w' :=
  ⟨h.os, h.tape, h.output, h.size, fun k o hk hs => h.keep k o hk (by rcases hs with hs | hs; exact .inl (by omega); exact .inr (hS o hs))⟩
theorem lt_of_heap {w : World} {k : Nat} {o : Obj} (h : w.heap[k]? = some o) : k < w.heap.size := (Array.getElem?_eq_some_iff.1 h).1
theorem Fr.of_below {B : Nat} {S : Obj → Bool} {w w' : World} (h : Below w.heap.size w w') : Fr B S w w' :=
  ⟨h.os, h.tape, h.output, h.size, fun k _ hk _ => (h.block k (lt_of_heap hk)).trans hk⟩
theorem Fr.of_grown {B : Nat} {S : Obj → Bool} {w w' : World} {row : Option Nat} (h : w.grownBy w' row) (hr : ∀ k o, row = some k → w.heap[k]? = some o → B ≤ k ∧ S o = true) : Fr B S w w' :=
  ⟨h.os, h.tape, h.output, h.size, fun k o hk hs => (h.block k (lt_of_heap hk) (fun e => by
    obtain ⟨h1, h2⟩ := hr k o e.symm hk
    rcases hs with hs | hs
    · omega
    · rw [h2] at hs; cases hs)).trans hk⟩
theorem Fr.drew {B : Nat} {S : Obj → Bool} {a w : World} (h : Fr B S a w) : Fr B S a w.drew := ⟨h.os, h.tape, h.output, h.size, h.keep⟩
theorem Fr.drewN {B : Nat} {S : Obj → Bool} {a w : World} (h : Fr B S a w) (n : Nat) : Fr B S a (w.drewN n) := ⟨h.os, h.tape, h.output, h.size, h.keep⟩
theorem Fr.alloc {B : Nat} {S : Obj → Bool} {a w : World} (h : Fr B S a w) (o : Obj) : Fr B S a (w.alloc o) :=
  h.trans (Fr.of_below ((Below.refl _ _).alloc (Nat.le_refl _) o))
/-- a store into a block that may be written, or that is newer than a -/
theorem Fr.setCell {B : Nat} {S : Obj → Bool} {a w : World} (h : Fr B S a w) {p : Addr} (hp : a.heap.size ≤ p.block ∨ (B ≤ p.block ∧ ∀ o, a.heap[p.block]? = some o → S o = true)) (u : Value) : Fr B S a (w.setCell p u) := by
  refine ⟨h.os, h.tape, h.output, ?_, fun k o hk hs => ?_⟩
  · have := h.size; simpa [World.setCell] using this
  · have hne : k ≠ p.block := by
      rintro rfl
      have := lt_of_heap hk
      rcases hp with hp | ⟨hp1, hp2⟩
      · omega
      · have := hp2 o hk
        rcases hs with hs | hs
        · omega
        · rw [hs] at this; cases this
    rw [Below.heap_setCell _ _ _ _ hne]
    exact h.keep k o hk hs
theorem Fr.below {B : Nat} {S : Obj → Bool} {w w' : World} (h : Fr B S w w') (hB : B ≤ w.heap.size) : Below B w w' :=
  ⟨h.os, h.tape, h.output, h.size, fun k hk => by
    obtain ⟨o, ho⟩ : ∃ o, w.heap[k]? = some o := ⟨_, Array.getElem?_eq_getElem (by omega)⟩
    rw [ho]; exact h.keep k o ho (.inl hk)⟩
theorem Fr.pure {B : Nat} {S : Obj → Bool} {w w' : World} (h : Fr B S w w') (hB : w.heap.size ≤ B) : Below w.heap.size w w' :=
  ⟨h.os, h.tape, h.output, h.size, fun k hk => by
    obtain ⟨o, ho⟩ : ∃ o, w.heap[k]? = some o := ⟨_, Array.getElem?_eq_getElem (by omega)⟩
    rw [ho]; exact h.keep k o ho (.inl (by omega))⟩
theorem below_drewN {B : Nat} {a w : World} (h : Below B a w) (n : Nat) : Below B a (w.drewN n) := ⟨h.os, h.tape, h.output, h.size, h.block⟩

/-! ### maps whose keys are ints -/
def assoc {α : Type} (kv : List (Int × α)) (k : Int) : Option α := (kv.find? (fun x => x.1 == k)).map (·.2)
def upd {α : Type} (kv : List (Int × α)) (k : Int) (v : α) : List (Int × α) :=
  if kv.any (fun x => x.1 == k) then kv.map (fun x => if x.1 == k then (k, v) else x) else kv ++ [(k, v)]
def del {α : Type} (kv : List (Int × α)) (k : Int) : List (Int × α) := kv.filter (fun x => !(x.1 == k))

def entryOf (e : MapEntry) : Value × Value := (e.key, e.val)
def pairOf (x : Int × Value) : Value × Value := (.int .i64 x.1, x.2)
def IM (w : World) (b : Nat) (kv : List (Int × Value)) : Prop :=
  ∃ es clock, w.heap[b]? = some (.map es clock) ∧ Stamped es clock ∧ es.toList.map entryOf = kv.map pairOf

theorem IM.lt {w : World} {b : Nat} {kv : List (Int × Value)} (h : IM w b kv) : b < w.heap.size := by
  obtain ⟨es, c, hb, _⟩ := h; exact lt_of_heap hb
theorem IM.keep {w w' : World} {b : Nat} {kv : List (Int × Value)} (h : IM w b kv) (he : w'.heap[b]? = w.heap[b]?) : IM w' b kv := by
  obtain ⟨es, c, hb, r⟩ := h; exact ⟨es, c, he.trans hb, r⟩
theorem IM.nodup {w : World} {b : Nat} {kv : List (Int × Value)} (h : IM w b kv) : (kv.map Prod.fst).Nodup := by
  obtain ⟨es, c, hb, hs, he⟩ := h
  have h3 := hs.2.2
  have e1 : es.toList.map (·.key) = (kv.map pairOf).map Prod.fst := by rw [← he, List.map_map]; rfl
  rw [e1, List.map_map] at h3
  have e2 : (kv.map Prod.fst).map (fun k => Value.int .i64 k) = kv.map (Prod.fst ∘ pairOf) := by rw [List.map_map]; rfl
  rw [← e2] at h3
  exact List.Pairwise.of_map (fun k => Value.int .i64 k) (fun a b hab e => hab (by rw [e])) h3
theorem IM.made (w : World) : IM (w.alloc (.map #[] 0)) w.heap.size [] := ⟨#[], 0, (MapKept.heap_alloc w _).1, stamped_empty 0, rfl⟩
theorem im_keys {es : Array MapEntry} {kv : List (Int × Value)} (he : es.toList.map entryOf = kv.map pairOf) : ∀ x ∈ es.toList, IsKey (.int .i64) x.key := by
  intro x hx
  have : entryOf x ∈ kv.map pairOf := by rw [← he]; exact List.mem_map.2 ⟨x, hx, rfl⟩
  obtain ⟨y, _, hy⟩ := List.mem_map.1 this
  have : x.key = .int .i64 y.1 := (congrArg Prod.fst hy).symm
  rw [this]; rfl
theorem find_spec : ∀ (l : List MapEntry) (kv : List (Int × Value)) (k : Int) (i : Nat), l.map entryOf = kv.map pairOf →
    (Instr.findNow (.int .i64) (.int .i64 k) l i = some none ∧ assoc kv k = none ∧ ∀ x ∈ l, x.key ≠ .int .i64 k) ∨
    ∃ j v, Instr.findNow (.int .i64) (.int .i64 k) l i = some (some (i + j, v)) ∧ assoc kv k = some v ∧ ∃ kv1 kv2, kv = kv1 ++ (k, v) :: kv2 ∧ kv1.length = j ∧ ∀ x ∈ kv1, x.1 ≠ k
  | [], kv, k, i, h => by
    have : kv = [] := by simpa using h.symm
    subst this
    exact .inl ⟨rfl, rfl, by simp⟩
  | e :: l, [], k, i, h => by simp at h
  | e :: l, (k', v) :: kv, k, i, h => by
    simp only [List.map_cons, List.cons.injEq, entryOf, pairOf, Prod.mk.injEq] at h
    obtain ⟨⟨hk, hv⟩, ht⟩ := h
    have ht' : l.map entryOf = kv.map pairOf := by simpa [entryOf, pairOf] using ht
    by_cases hkk : k' = k
    · subst hkk
      refine .inr ⟨0, v, by simp [Instr.findNow, hk, Instr.sameNow, hv], by simp [assoc], [], kv, by simp, rfl, by simp⟩
    · have hb : (k == k') = false := by simp; exact fun h => hkk h.symm
      have hb' : (k' == k) = false := by simpa using hkk
      rcases find_spec l kv k (i + 1) ht' with ⟨h1, h2, h3⟩ | ⟨j, u, h1, h2, kv1, kv2, h3, h4, h5⟩
      · refine .inl ⟨by simp [Instr.findNow, hk, Instr.sameNow, hb, h1], by simpa [assoc, hb'] using h2, ?_⟩
        intro x hx
        rcases List.mem_cons.1 hx with rfl | hx
        · rw [hk]; intro e; injection e with _ e; exact hkk e
        · exact h3 x hx
      · refine .inr ⟨j + 1, u, by simp [Instr.findNow, hk, Instr.sameNow, hb, h1]; omega, by simpa [assoc, hb'] using h2, (k', v) :: kv1, kv2, by simp [h3], by simp [h4], ?_⟩
        intro x hx
        rcases List.mem_cons.1 hx with rfl | hx
        · exact hkk
        · exact h5 x hx

theorem pw_inj {α β : Type} {R : α → α → Prop} {f : α → β} : ∀ {l : List α}, l.Pairwise R → (∀ x y, R x y → f x ≠ f y) → ∀ {x y : α}, x ∈ l → y ∈ l → f x = f y → x = y
  | [], _, _, _, _, hx, _, _ => by simp at hx
  | a :: l, h, hR, x, y, hx, hy, e => by
    rw [List.pairwise_cons] at h
    rcases List.mem_cons.1 hx with rfl | hx' <;> rcases List.mem_cons.1 hy with rfl | hy'
    · rfl
    · exact absurd e (hR _ _ (h.1 y hy'))
    · exact absurd e.symm (hR _ _ (h.1 x hx'))
    · exact pw_inj h.2 hR hx' hy' e

section
variable {P : Program} {w : World} {b : Nat} {kv : List (Int × Value)} {t kt et : TypeId}
theorem run_lookup_im (ht : P.underlying t = some (.map kt et)) (hk : P.underlying kt = some (.int .i64)) {z : Value} (hz : (zeroValue et).run P w = .ok z w) (h : IM w b kv) (k : Int) :
    (Instr.lookup t (.map (some b)) (.int .i64 k) false).run P w = .ok ((assoc kv k).getD z) w := by
  obtain ⟨es, c, hb, hs, he⟩ := h
  rcases find_spec es.toList kv k 0 he with ⟨h1, h2, _⟩ | ⟨j, v, h1, h2, _⟩ <;>
  simp [Instr.lookup, run_underlying ht, MapKept.run_getObj_map hb, run_checkKey hk (k := .int .i64 k) rfl, run_findKey hk h1, Result.andThen, h2, hz]
theorem run_lookup_im_ok (ht : P.underlying t = some (.map kt et)) (hk : P.underlying kt = some (.int .i64)) {z : Value} (hz : (zeroValue et).run P w = .ok z w) (h : IM w b kv) (k : Int) :
    (Instr.lookup t (.map (some b)) (.int .i64 k) true).run P w = .ok (.tuple #[(assoc kv k).getD z, .bool (assoc kv k).isSome]) w := by
  obtain ⟨es, c, hb, hs, he⟩ := h
  rcases find_spec es.toList kv k 0 he with ⟨h1, h2, _⟩ | ⟨j, v, h1, h2, _⟩ <;>
  simp [Instr.lookup, run_underlying ht, MapKept.run_getObj_map hb, run_checkKey hk (k := .int .i64 k) rfl, run_findKey hk h1, Result.andThen, h2, hz]
theorem run_lookup_im_nil (ht : P.underlying t = some (.map kt et)) (hk : P.underlying kt = some (.int .i64)) {z : Value} (hz : (zeroValue et).run P w = .ok z w) (k : Int) :
    (Instr.lookup t (.map none) (.int .i64 k) false).run P w = .ok z w := by
  have h1 : Instr.findNow (.int .i64) (.int .i64 k) [] 0 = some none := rfl
  simp [Instr.lookup, run_underlying ht, run_checkKey hk (k := .int .i64 k) rfl, run_findKey hk h1, Result.andThen, hz]
theorem run_len_im (ht : P.underlying t = some (.map kt et)) (h : IM w b kv) (ty : TypeId) : (Builtin.len_ #[t] ty #[.map (some b)]).run P w = .ok (.int .i64 kv.length) w := by
  obtain ⟨es, c, hb, hs, he⟩ := h
  have : es.size = kv.length := by have := congrArg List.length he; simpa using this
  simp [Builtin.len_, run_underlying ht, MapKept.run_getObj_map hb, Result.andThen, goInt, this]

theorem upd_new {α : Type} {kv : List (Int × α)} {k : Int} {v : α} (h : assoc kv k = none) : upd kv k v = kv ++ [(k, v)] := by
  have : kv.any (fun x => x.1 == k) = false := by
    simp only [assoc, Option.map_eq_none_iff, List.find?_eq_none] at h
    rw [List.any_eq_false]; exact h
  rw [upd, this]; simp
theorem upd_old {α : Type} {kv1 kv2 : List (Int × α)} {k : Int} {v u : α} (h1 : ∀ x ∈ kv1, x.1 ≠ k) (h2 : ∀ x ∈ kv2, x.1 ≠ k) : upd (kv1 ++ (k, u) :: kv2) k v = kv1 ++ (k, v) :: kv2 := by
  have e1 : kv1.map (fun x => if x.1 == k then (k, v) else x) = kv1 := by
    conv => rhs; rw [← List.map_id kv1]
    exact List.map_congr_left fun x hx => by simp [h1 x hx]
  have e2 : kv2.map (fun x => if x.1 == k then (k, v) else x) = kv2 := by
    conv => rhs; rw [← List.map_id kv2]
    exact List.map_congr_left fun x hx => by simp [h2 x hx]
  have ha : (kv1 ++ (k, u) :: kv2).any (fun x => x.1 == k) = true := by simp
  rw [upd, if_pos ha, List.map_append, List.map_cons, e1, e2]
  simp
theorem del_none {α : Type} {kv : List (Int × α)} {k : Int} (h : ∀ x ∈ kv, x.1 ≠ k) : del kv k = kv := by
  rw [del, List.filter_eq_self]; intro x hx; simp [h x hx]
theorem nodup_split {α : Type} {kv1 kv2 : List (Int × α)} {k : Int} {v : α} (h : ((kv1 ++ (k, v) :: kv2).map Prod.fst).Nodup) : (∀ x ∈ kv1, x.1 ≠ k) ∧ (∀ x ∈ kv2, x.1 ≠ k) := by
  rw [List.map_append, List.map_cons, List.nodup_append] at h
  obtain ⟨_, h2, h3⟩ := h
  rw [List.nodup_cons] at h2
  exact ⟨fun x hx e => h3 x.1 (List.mem_map.2 ⟨x, hx, rfl⟩) k (by simp) e, fun x hx e => h2.1 (List.mem_map.2 ⟨x, hx, e⟩)⟩

theorem run_update_im (ht : P.underlying t = some (.map kt et)) (hk : P.underlying kt = some (.int .i64)) (h : IM w b kv) (k : Int) (v : Value) :
    ∃ w', (Instr.mapUpdate t (.map (some b)) (.int .i64 k) v).run P w = .ok () w' ∧ IM w' b (upd kv k v) ∧ w.grownBy w' (some b) ∧ w'.heap.size = w.heap.size := by
  have hnd := h.nodup
  obtain ⟨es, c, hb, hs, he⟩ := h
  rcases find_spec es.toList kv k 0 he with ⟨h1, h2, h3⟩ | ⟨j, u, h1, h2, kv1, kv2, rfl, hj, h5⟩
  · refine ⟨{ w with heap := w.heap.setIfInBounds b (.map (es.push { key := .int .i64 k, val := v, born := c }) (c + 1)) }, ?_, ⟨_, _, (heap_set hb).1, stamped_push hs h3, ?_⟩, ⟨rfl, rfl, rfl, by simp, fun i _ hi => (heap_set hb).2 i (fun e => hi (by rw [e]))⟩, by simp⟩
    · simp [Instr.mapUpdate, run_underlying ht, MapKept.run_getObj_map hb, run_checkKey hk (k := .int .i64 k) rfl, run_findKey hk h1, MapKept.run_setObj_map _ hb, Result.andThen]
    · rw [upd_new h2]
      simp [he, entryOf, pairOf]
  · obtain ⟨g1, g2⟩ := nodup_split hnd
    have hlen : es.toList.length = kv1.length + (kv2.length + 1) := by have := congrArg List.length he; simpa using this
    have hlt : j < es.size := by have : es.toList.length = es.size := by simp
                                 omega
    obtain ⟨e, hje⟩ : ∃ e, es[j]? = some e := ⟨_, Array.getElem?_eq_getElem hlt⟩
    have hkey : e.key = .int .i64 k := by
      have h6 : (es.toList.map entryOf)[j]? = some (entryOf e) := by simp [hje]
      rw [he, List.map_append, List.getElem?_append_right (by simp [hj])] at h6
      simp [hj, pairOf, entryOf] at h6
      exact h6.1.symm
    refine ⟨{ w with heap := w.heap.setIfInBounds b (.map (es.modify j fun e => { e with key := .int .i64 k, val := v }) c) }, ?_, ⟨_, _, (heap_set hb).1, stamped_modify hs _ _ (fun _ _ => rfl) (fun e' _ he' => by rw [hje] at he'; cases he'; exact hkey.symm), ?_⟩, ⟨rfl, rfl, rfl, by simp, fun i _ hi => (heap_set hb).2 i (fun e => hi (by rw [e]))⟩, by simp⟩
    · rw [Nat.zero_add] at h1
      simp [Instr.mapUpdate, run_underlying ht, MapKept.run_getObj_map hb, run_checkKey hk (k := .int .i64 k) rfl, run_findKey hk h1, MapKept.run_setObj_map _ hb, Result.andThen, hje, hkey, run_keyThatStays (k := .int .i64 k) (d := .int .i64) rfl]
    · rw [upd_old g1 g2]
      apply List.ext_getElem?
      intro i
      have h7 := congrArg (fun l => l[i]?) he
      simp only [List.getElem?_map, Array.getElem?_toList, Array.getElem?_modify] at h7 ⊢
      by_cases hij : j = i
      · subst hij
        simp [hje, entryOf, hj, pairOf]
      · simp only [hij, if_false]
        rw [h7]
        rcases Nat.lt_trichotomy i kv1.length with hl | hl | hl
        · rw [List.getElem?_append_left hl, List.getElem?_append_left hl]
        · omega
        · rw [List.getElem?_append_right (by omega), List.getElem?_append_right (by omega)]
          obtain ⟨m, hm⟩ : ∃ m, i - kv1.length = m + 1 := ⟨i - kv1.length - 1, by omega⟩
          rw [hm]; simp

theorem del_mid {α : Type} {kv1 kv2 : List (Int × α)} {k : Int} {v : α} (h1 : ∀ x ∈ kv1, x.1 ≠ k) (h2 : ∀ x ∈ kv2, x.1 ≠ k) : del (kv1 ++ (k, v) :: kv2) k = kv1 ++ kv2 := by
  have e1 := del_none h1
  have e2 := del_none h2
  unfold del at *
  rw [List.filter_append, List.filter_cons, e1, e2]
  simp

/-- delete; which entry went -/
theorem run_delete_im (ht : P.underlying t = some (.map kt et)) (hk : P.underlying kt = some (.int .i64)) {es : Array MapEntry} {c : Nat} (hb : w.heap[b]? = some (.map es c)) (hs : Stamped es c) (he : es.toList.map entryOf = kv.map pairOf) (k : Int) (ty : TypeId) (kt' : TypeId) :
    ∃ w' es', (Builtin.delete_ #[t, kt'] ty #[.map (some b), .int .i64 k]).run P w = .ok (.tuple #[]) w' ∧ w'.heap[b]? = some (.map es' c) ∧ Stamped es' c ∧ es'.toList.map entryOf = (del kv k).map pairOf ∧ es'.toList = es.toList.filter (fun e => !(match e.key with | .int .i64 x => x == k | _ => false)) ∧ w.grownBy w' (some b) ∧ w'.heap.size = w.heap.size := by
  have hnd : (kv.map Prod.fst).Nodup := IM.nodup (w := w) (b := b) ⟨es, c, hb, hs, he⟩
  have hfil : ∀ (l : List MapEntry) (q : List (Int × Value)), l.map entryOf = q.map pairOf → (l.filter (fun e => !(match e.key with | .int .i64 x => x == k | _ => false))).map entryOf = (del q k).map pairOf := by
    intro l
    induction l with
    | nil => intro q hq; have : q = [] := by simpa using hq.symm
             subst this; rfl
    | cons e l ih =>
      intro q hq
      cases q with
      | nil => simp at hq
      | cons x q =>
        simp only [List.map_cons, List.cons.injEq] at hq
        obtain ⟨h1, h2⟩ := hq
        have hkey : e.key = .int .i64 x.1 := congrArg Prod.fst h1
        have ih' := ih q h2
        unfold del at ih' ⊢
        simp only [List.filter_cons, hkey]
        by_cases hx : x.1 = k
        · simp [hx]; exact ih'
        · simp [hx]; exact ⟨h1, ih'⟩
  rcases find_spec es.toList kv k 0 he with ⟨h1, h2, h3⟩ | ⟨j, u, h1, h2, kv1, kv2, hkv, hj, h5⟩
  · have hsame : es.toList.filter (fun e => !(match e.key with | .int .i64 x => x == k | _ => false)) = es.toList := by
      rw [List.filter_eq_self]
      intro e hm
      have hne := h3 e hm
      have hkk := im_keys he e hm
      cases hek : e.key with
      | int q x =>
        rw [hek] at hkk hne
        have : q = .i64 := hkk
        subst this
        simp
        intro hxx; exact hne (by rw [hxx])
      | _ => rw [hek] at hkk; exact absurd hkk (by simp [IsKey])
    refine ⟨{ w with heap := w.heap.setIfInBounds b (.map es c) }, es, ?_, (heap_set hb).1, hs, ?_, hsame.symm, ⟨rfl, rfl, rfl, by simp, fun i _ hi => (heap_set hb).2 i (fun e => hi (by rw [e]))⟩, by simp⟩
    · simp [Builtin.delete_, run_underlying ht, MapKept.run_getObj_map hb, run_checkKey hk (k := .int .i64 k) rfl, run_findKey hk h1, MapKept.run_setObj_map _ hb, Result.andThen]
    · have := hfil _ _ he
      rw [hsame] at this
      exact this
  · rw [Nat.zero_add] at h1
    have hnd' := hnd
    rw [hkv] at hnd'
    obtain ⟨g1, g2⟩ := nodup_split hnd'
    have he2 := he
    rw [hkv, List.map_append, List.map_cons, List.map_eq_append_iff] at he2
    obtain ⟨l1, l2', hl, m1, m2⟩ := he2
    rw [List.map_eq_cons_iff] at m2
    obtain ⟨e, l2, rfl, m3, m4⟩ := m2
    have hl1 : l1.length = j := by have := congrArg List.length m1; simpa [hj] using this
    have hlt : j < es.size := by
      have h8 : es.toList.length = es.size := by simp
      rw [← h8, hl]; simp [hl1]
    have hek : e.key = .int .i64 k := congrArg Prod.fst m3
    have hother : ∀ (l : List MapEntry) (q : List (Int × Value)), l.map entryOf = q.map pairOf → (∀ x ∈ q, x.1 ≠ k) → l.filter (fun e => !(match e.key with | .int .i64 x => x == k | _ => false)) = l := by
      intro l q hq hne
      rw [List.filter_eq_self]
      intro x hx
      have : entryOf x ∈ q.map pairOf := by rw [← hq]; exact List.mem_map.2 ⟨x, hx, rfl⟩
      obtain ⟨y, hy, hyx⟩ := List.mem_map.1 this
      have hxk : x.key = .int .i64 y.1 := (congrArg Prod.fst hyx).symm
      simp [hxk, hne y hy]
    have her : (es.eraseIdxIfInBounds j).toList = l1 ++ l2 := by
      unfold Array.eraseIdxIfInBounds
      rw [dif_pos hlt]
      simp only [Array.toList_eraseIdx, hl]
      rw [List.eraseIdx_append_of_length_le (by omega)]
      simp [hl1]
    have hmap : (es.eraseIdxIfInBounds j).toList.map entryOf = (del kv k).map pairOf := by
      rw [her, hkv, del_mid g1 g2, List.map_append, List.map_append, m1, m4]
    refine ⟨{ w with heap := w.heap.setIfInBounds b (.map (es.eraseIdxIfInBounds j) c) }, es.eraseIdxIfInBounds j, ?_, (heap_set hb).1, stamped_erase hs _, hmap, ?_, ⟨rfl, rfl, rfl, by simp, fun i _ hi => (heap_set hb).2 i (fun e => hi (by rw [e]))⟩, by simp⟩
    · simp [Builtin.delete_, run_underlying ht, MapKept.run_getObj_map hb, run_checkKey hk (k := .int .i64 k) rfl, run_findKey hk h1, MapKept.run_setObj_map _ hb, Result.andThen]
    · rw [her, hl, List.filter_append, List.filter_cons, hother l1 kv1 m1 g1, hother l2 kv2 m4 g2]
      simp [hek]

theorem run_delete_im' (ht : P.underlying t = some (.map kt et)) (hk : P.underlying kt = some (.int .i64)) (h : IM w b kv) (k : Int) (ty kt' : TypeId) :
    ∃ w', (Builtin.delete_ #[t, kt'] ty #[.map (some b), .int .i64 k]).run P w = .ok (.tuple #[]) w' ∧ IM w' b (del kv k) ∧ w.grownBy w' (some b) ∧ w'.heap.size = w.heap.size := by
  obtain ⟨es, c, hb, hs, he⟩ := h
  obtain ⟨w', es', h1, h2, h3, h4, _, h5, h6⟩ := run_delete_im ht hk hb hs he k ty kt'
  exact ⟨w', h1, ⟨es', c, h2, h3, h4⟩, h5, h6⟩

theorem run_clear_im (ht : P.underlying t = some (.map kt et)) (h : IM w b kv) (ty : TypeId) :
    ∃ w', (Builtin.clear_ #[t] ty #[.map (some b)]).run P w = .ok (.tuple #[]) w' ∧ IM w' b [] ∧ w.grownBy w' (some b) ∧ w'.heap.size = w.heap.size := by
  obtain ⟨es, c, hb, hs, he⟩ := h
  refine ⟨{ w with heap := w.heap.setIfInBounds b (.map #[] c) }, ?_, ⟨#[], c, (heap_set hb).1, stamped_empty c, rfl⟩, ⟨rfl, rfl, rfl, by simp, fun i _ hi => (heap_set hb).2 i (fun e => hi (by rw [e]))⟩, by simp⟩
  simp [Builtin.clear_, run_underlying ht, MapKept.run_getObj_map hb, MapKept.run_setObj_map _ hb, Result.andThen]

/-! ### ranging over such a map -/
def IT (w : World) (r b : Nat) (kv rest : List (Int × Value)) : Prop :=
  r ≠ b ∧ ∃ es clock since seen c0, w.heap[b]? = some (.map es clock) ∧ Stamped es clock ∧ es.toList.map entryOf = kv.map pairOf ∧
    w.heap[r]? = some (.mapIter (some b) since seen c0) ∧ (∀ x ∈ es.toList, x.born < since) ∧ since ≤ c0 ∧ since ≤ clock ∧
    (es.toList.filter (fun e => !seen.contains e.born)).map entryOf = rest.map pairOf

theorem IT.im {r : Nat} {rest : List (Int × Value)} (h : IT w r b kv rest) : IM w b kv := by
  obtain ⟨_, es, c, _, _, _, hb, hs, he, _⟩ := h; exact ⟨es, c, hb, hs, he⟩
theorem IT.lt {r : Nat} {rest : List (Int × Value)} (h : IT w r b kv rest) : r < w.heap.size := by
  obtain ⟨_, es, c, _, _, _, hb, hs, he, hr, _⟩ := h; exact lt_of_heap hr
theorem IT.keep {w' : World} {r : Nat} {rest : List (Int × Value)} (h : IT w r b kv rest) (h1 : w'.heap[b]? = w.heap[b]?) (h2 : w'.heap[r]? = w.heap[r]?) : IT w' r b kv rest := by
  obtain ⟨h0, es, c, s, sn, c0, hb, hs, he, hr, q⟩ := h; exact ⟨h0, es, c, s, sn, c0, h1.trans hb, hs, he, h2.trans hr, q⟩

theorem run_range_im (ht : P.underlying t = some (.map kt et)) (h : IM w b kv) :
    ∃ w', (Instr.range t (.map (some b))).run P w = .ok (.pointer (some ⟨w.heap.size, 0, none⟩)) w' ∧ IT w' w.heap.size b kv kv ∧ w.grownBy w' none ∧ w'.heap.size = w.heap.size + 1 := by
  have hlt := h.lt
  obtain ⟨es, c, hb, hs, he⟩ := h
  refine ⟨_, run_range_map w t kt et b es c ht hb, ⟨by omega, es, c, c, #[], c, ((MapKept.heap_alloc w _).2 b hlt).trans hb, hs, he, (MapKept.heap_alloc w _).1, hs.1, Nat.le_refl _, Nat.le_refl _, ?_⟩, World.grownBy_alloc w _ none, by simp⟩
  rw [← he]; congr 1; simp

/-- 'next': either nothing is left, or some entry that is left -/
theorem run_next_im {r : Nat} {rest : List (Int × Value)} (h : IT w r b kv rest) (ty : TypeId) :
    (rest = [] ∧ (Instr.next (.pointer (some ⟨r, 0, none⟩)) false ty).run P w = .ok (.tuple #[.bool false]) w) ∨
    ∃ k v w', (k, v) ∈ rest ∧ (Instr.next (.pointer (some ⟨r, 0, none⟩)) false ty).run P w = .ok (.tuple #[.bool true, .int .i64 k, v]) w' ∧
      IT w' r b kv (del rest k) ∧ w.grownBy w' (some r) ∧ w'.heap.size = w.heap.size ∧ (Instr.entry (.pointer (some ⟨r, 0, none⟩))).run P w' = .ok (.tuple #[.int .i64 k, v]) w' := by
  obtain ⟨hne, es, c, since, seen, c0, hb, hs, he, hr, hold, hsc, hsk, hrest⟩ := h
  rcases run_next_at (P := P) w ty r b since c0 seen es c hr hb hold hsc with ⟨h0, hrun⟩ | ⟨e, hem, w1, hal, hrun⟩
  · left
    refine ⟨?_, hrun⟩
    have : (leftOf es seen).toList = [] := by simpa using h0
    have h2 : es.toList.filter (fun e => !seen.contains e.born) = [] := by
      unfold leftOf at this; simpa using this
    rw [h2] at hrest
    simpa using hrest.symm
  · right
    have hem' : e ∈ es.toList.filter (fun e => !seen.contains e.born) := by unfold leftOf at hem; simpa using hem
    have hin : entryOf e ∈ rest.map pairOf := by rw [← hrest]; exact List.mem_map.2 ⟨e, hem', rfl⟩
    obtain ⟨y, hy, hye⟩ := List.mem_map.1 hin
    have hk1 : e.key = .int .i64 y.1 := (congrArg Prod.fst hye).symm
    have hv1 : e.val = y.2 := (congrArg Prod.snd hye).symm
    have hees : e ∈ es.toList := (List.mem_filter.1 hem').1
    have hr1 : w1.heap[r]? = some (.mapIter (some b) since seen c0) := by rcases hal with rfl | rfl <;> exact hr
    have hb1 : w1.heap[b]? = some (.map es c) := by rcases hal with rfl | rfl <;> exact hb
    have hset := heap_set (o' := .mapIter (some b) since (seen.push e.born) c) hr1
    have hb' : (setBlock w1 r (.mapIter (some b) since (seen.push e.born) c)).heap[b]? = some (.map es c) := (hset.2 b (fun e1 => hne e1.symm)).trans hb1
    rw [hk1, hv1] at hrun
    have hen := run_entry_at (P := P) _ r b since seen es c e hset.1 hb' hees hs.2.1
    rw [hk1, hv1] at hen
    refine ⟨y.1, y.2, _, hy, hrun, ⟨hne, es, c, since, seen.push e.born, c, hb', hs, he, hset.1, hold, hsk, hsk, ?_⟩, ?_, ?_, hen⟩
    · -- what is left
      have hborn : ∀ x ∈ es.toList, (x.born = e.born ↔ x.key = e.key) := by
        intro x hx
        have hst := (stamped_iff es c).1 hs
        constructor
        · intro hbe
          have hpw : es.toList.Pairwise (fun x y => x.born ≠ y.born) := List.pairwise_map.1 hst.2.1
          have := pw_inj hpw (f := fun m : MapEntry => m.born) (fun _ _ h => h) hx hees hbe
          rw [this]
        · intro hke
          have := pw_inj hst.2.2 (f := fun m : MapEntry => m.key) (fun _ _ h => h) hx hees hke
          rw [this]
      have hstep : ∀ (l : List MapEntry) (q : List (Int × Value)), (∀ x ∈ l, x ∈ es.toList) → (l.filter (fun e => !seen.contains e.born)).map entryOf = q.map pairOf →
          (l.filter (fun x => !(seen.push e.born).contains x.born)).map entryOf = (del q y.1).map pairOf := by
        intro l
        induction l with
        | nil => intro q _ hq; have : q = [] := by simpa using hq.symm
                 subst this; rfl
        | cons x l ih =>
          intro q hsub hq
          have hxe := hborn x (hsub x (by simp))
          have hsub' : ∀ x ∈ l, x ∈ es.toList := fun z hz => hsub z (by simp [hz])
          have hcp : (seen.push e.born).contains x.born = (seen.contains x.born || (x.born == e.born)) := by
            rw [Bool.eq_iff_iff]; simp [Array.mem_push]
          by_cases hc : seen.contains x.born = true
          · rw [List.filter_cons, hc] at hq
            rw [List.filter_cons, hcp, hc]
            simpa using ih q hsub' (by simpa using hq)
          · have hc' : seen.contains x.born = false := by simpa using hc
            rw [List.filter_cons, hc'] at hq
            simp only [Bool.not_false, if_true, List.map_cons] at hq
            cases q with
            | nil => simp at hq
            | cons z q =>
              simp only [List.map_cons, List.cons.injEq] at hq
              obtain ⟨hz, hq'⟩ := hq
              have hxk : x.key = .int .i64 z.1 := congrArg Prod.fst hz
              have ih' := ih q hsub' hq'
              rw [List.filter_cons, hcp, hc']
              unfold del at ih' ⊢
              rw [List.filter_cons]
              by_cases hzy : z.1 = y.1
              · have hb1 : (x.born == e.born) = true := by simp [hxe, hxk, hk1, hzy]
                simpa [hb1, hzy] using ih'
              · have hb1 : (x.born == e.born) = false := by
                  simp [hxe, hxk, hk1, hzy]
                simp only [hb1, Bool.or_self, Bool.not_false, if_true, List.map_cons, hz, ih']
                simp [hzy]
      exact hstep es.toList rest (fun _ h => h) hrest
    · rcases hal with rfl | rfl <;> exact ⟨rfl, rfl, rfl, by simp [setBlock], fun i _ hi => hset.2 i (fun e1 => hi (by rw [e1]))⟩
    · rcases hal with rfl | rfl <;> simp [setBlock]

/-- delete in the round -/
theorem run_delete_it (ht : P.underlying t = some (.map kt et)) (hk : P.underlying kt = some (.int .i64)) {r : Nat} {rest : List (Int × Value)} (h : IT w r b kv rest) (k : Int) (ty kt' : TypeId) :
    ∃ w', (Builtin.delete_ #[t, kt'] ty #[.map (some b), .int .i64 k]).run P w = .ok (.tuple #[]) w' ∧ IT w' r b (del kv k) (del rest k) ∧ w.grownBy w' (some b) ∧ w'.heap.size = w.heap.size := by
  obtain ⟨hne, es, c, since, seen, c0, hb, hs, he, hr, hold, hsc, hsk, hrest⟩ := h
  obtain ⟨w', es', h1, h2, h3, h4, h7, h5, h6⟩ := run_delete_im ht hk hb hs he k ty kt'
  refine ⟨w', h1, ⟨hne, es', c, since, seen, c0, h2, h3, h4, (h5.block r (lt_of_heap hr) (fun e => hne (by injection e))).trans hr, ?_, hsc, hsk, ?_⟩, h5, h6⟩
  · intro x hx; rw [h7] at hx; exact hold x (List.mem_filter.1 hx).1
  · rw [h7, List.filter_filter]
    have hgen : ∀ (l : List MapEntry) (q : List (Int × Value)), (l.filter (fun e => !seen.contains e.born)).map entryOf = q.map pairOf →
        (l.filter (fun a => (!seen.contains a.born) && (!(match a.key with | .int .i64 x => x == k | _ => false)))).map entryOf = (del q k).map pairOf := by
      intro l
      induction l with
      | nil => intro q hq; have : q = [] := by simpa using hq.symm
               subst this; rfl
      | cons x l ih =>
        intro q hq
        by_cases hc : seen.contains x.born = true
        · rw [List.filter_cons, hc] at hq
          rw [List.filter_cons, hc]
          simpa using ih q (by simpa using hq)
        · have hc' : seen.contains x.born = false := by simpa using hc
          rw [List.filter_cons, hc'] at hq
          simp only [Bool.not_false, if_true, List.map_cons] at hq
          cases q with
          | nil => simp at hq
          | cons z q =>
            simp only [List.map_cons, List.cons.injEq] at hq
            obtain ⟨hz, hq'⟩ := hq
            have hxk : x.key = .int .i64 z.1 := congrArg Prod.fst hz
            have ih' := ih q hq'
            rw [List.filter_cons, hc']
            unfold del at ih' ⊢
            rw [List.filter_cons]
            by_cases hzk : z.1 = k
            · simp only [hxk, hzk, beq_self_eq_true, Bool.not_true, Bool.and_false, Bool.false_eq_true, if_false]; exact ih'
            · simp only [hxk, Bool.not_false, Bool.true_and, if_true, List.map_cons, hz, ih', beq_eq_false_iff_ne.2 hzk]
    exact hgen es.toList rest hrest
end

/-! ### slices that are read, rows that are owned -/
/-- the slice value v reads as n elements of sz cells each: xs -/
def RdV (w : World) (sz : Nat) (v : Value) (n : Nat) (xs : List Value) : Prop :=
  xs.length = n * sz ∧ ∃ A c, v = .slice A n c ∧ n ≤ c ∧ (n = 0 ∨ ∃ b o, A = some ⟨b, o, none⟩ ∧ b < w.heap.size ∧ ∀ j u, xs[j]? = some u → w.cell? ⟨b, o + j, none⟩ = some u)
theorem addr_add (b o j : Nat) : (⟨b, o, none⟩ : Addr).add j = ⟨b, o + j, none⟩ := by unfold Addr.add; split <;> simp_all
theorem RdV.nil (w : World) (sz : Nat) : RdV w sz (.slice none 0 0) 0 [] := ⟨by simp, none, 0, rfl, Nat.le_refl _, .inl rfl⟩
theorem RdV.keep {w w' : World} {sz : Nat} {v : Value} {n : Nat} {xs : List Value} (h : RdV w sz v n xs) (hk : ∀ b, v.ownBlock = some b → n ≠ 0 → b < w.heap.size → w'.heap[b]? = w.heap[b]?) (hs : w.heap.size ≤ w'.heap.size) : RdV w' sz v n xs := by
  obtain ⟨h1, A, c, rfl, h2, h3⟩ := h
  refine ⟨h1, A, c, rfl, h2, h3.imp id ?_⟩
  rintro ⟨b, o, rfl, h4, h5⟩
  by_cases hn : n = 0
  · refine ⟨b, o, rfl, by omega, fun j u hj => ?_⟩
    have : xs = [] := List.eq_nil_of_length_eq_zero (by simp [h1, hn])
    subst this; simp at hj
  · refine ⟨b, o, rfl, by omega, fun j u hj => ?_⟩
    rw [World.cell?_of_block (w := w) (hk b rfl hn h4)]
    exact h5 j u hj
theorem RdV.below {w w' : World} {sz : Nat} {v : Value} {n : Nat} {xs : List Value} (h : RdV w sz v n xs) (hb : Below w.heap.size w w') : RdV w' sz v n xs :=
  h.keep (fun b _ _ hlt => hb.block b hlt) hb.size
theorem RdV.fr {B : Nat} {S : Obj → Bool} {w w' : World} {sz : Nat} {v : Value} {n : Nat} {xs : List Value} (h : RdV w sz v n xs) (hf : Fr B S w w') (hS : ∀ b o, v.ownBlock = some b → w.heap[b]? = some o → b < B ∨ S o = false) : RdV w' sz v n xs :=
  h.keep (fun b hb _ hlt => by
    obtain ⟨o, ho⟩ : ∃ o, w.heap[b]? = some o := ⟨_, Array.getElem?_eq_getElem hlt⟩
    rw [ho]; exact hf.keep b o ho (hS b o hb ho)) hf.size
theorem RdV.of_own {w : World} {base : Nat} {e : TypeId} {sz : Nat} {v : Value} {n : Nat} {xs : List Value} (h : w.ownsRow base e sz v n xs) : RdV w sz v n xs := by
  refine ⟨h.1, ?_⟩
  rcases h.2 with ⟨rfl, rfl⟩ | ⟨g, cap, cur, rfl, _, hh, hn, _, _, _⟩
  · exact ⟨none, 0, rfl, Nat.le_refl _, .inl rfl⟩
  · refine ⟨_, cap, rfl, hn, .inr ⟨g, 0, rfl, lt_of_heap hh, fun j u hj => ?_⟩⟩
    have := h.cells (g := g) rfl j u hj
    rwa [addr_add] at this
theorem RdV.lit (w : World) (cs : Array Value) (e : TypeId) (sz n : Nat) (hs : cs.size = n * sz) : RdV (w.alloc (.cells cs e)) sz (.slice (some ⟨w.heap.size, 0, none⟩) n n) n cs.toList := by
  refine ⟨by simpa using hs, _, n, rfl, Nat.le_refl _, .inr ⟨_, 0, rfl, by simp, fun j u hj => ?_⟩⟩
  have h1 := (MapKept.heap_alloc w (.cells cs e)).1
  simp only [World.cell?, h1, Nat.zero_add]
  simpa using hj

structure ElemOk (P : Program) (t e : TypeId) (sz bytes : Nat) : Prop where
  under : P.underlying t = some (.slice e)
  info : ∃ z, (P.info? e).map (fun i => (i.zero, i.size, i.bytes)) = some (some z, sz, bytes) ∧ z.cells.size = sz
  pos : 0 < sz
  bpos : 0 < bytes

section
variable {P : Program} (w : World) {ops : Array Oper} {rest : List Oper} {o : Oper} {a : Act} {Q : Exit → Act → World → Prop}
theorem run_app {t e : TypeId} {sz bytes : Nat} (E : ElemOk P t e sz bytes) (ty : TypeId) {base : Nat} {v : Value} {n : Nat} {xs : List Value} (hown : w.ownsRow base e sz v n xs)
    {u : Value} {m : Nat} {news : List Value} (hrd : RdV w sz u m news) (h1 : ∀ x ∈ news, x.oneCell' = true) (hb : (n + m) * bytes ≤ 140737488355328) (hbase : base ≤ w.heap.size) :
    ∃ A c w', (Builtin.append_ #[t, t] ty #[v, u]).run P w = .ok (.slice A (n + m) c) w' ∧ w'.ownsRow base e sz (.slice A (n + m) c) (n + m) (xs ++ news) ∧ w.grownBy w' v.ownBlock ∧
      ((Value.slice A (n + m) c).ownBlock = v.ownBlock ∨ ∃ k, (Value.slice A (n + m) c).ownBlock = some k ∧ w.heap.size ≤ k) := by
  obtain ⟨z, hi, hzs⟩ := E.info
  obtain ⟨i, hi, hz0, hz1, hz2⟩ := info_parts hi
  have h63 : n + m ≤ maxLen := by
    have := Nat.le_mul_of_pos_right (n + m) E.bpos
    simp only [maxLen]; omega
  have form : ∀ {v' : Value} {w' : World} {k : Nat} {ys : List Value}, w'.ownsRow base e sz v' k ys → ∃ A c, v' = .slice A k c := by
    intro v' w' k ys h
    rcases h.2 with ⟨rfl, rfl⟩ | ⟨g, cap, cur, rfl, _⟩
    · exact ⟨none, 0, rfl⟩
    · exact ⟨_, _, rfl⟩
  obtain ⟨hl, A, c, rfl, hmc, hA⟩ := hrd
  rcases A with _ | ad
  · have hm : m = 0 := by
      rcases hA with h | ⟨b, o, h, _⟩
      · exact h
      · cases h
    subst hm
    have hn : news = [] := List.eq_nil_of_length_eq_zero (by simpa using hl)
    subst hn
    have hr : (Builtin.append_ #[t, t] ty #[v, .slice none 0 c]).run P w = .ok v w := by
      rcases hown.2 with ⟨rfl, rfl⟩ | ⟨g, cap, cur, rfl, _, _, hnc, _⟩
      · simp [Builtin.append_, run_underlying E.under, sizeOf, typeInfo, hi, Builtin.lenOf, Builtin.firstCells]
      · simp [Builtin.append_, run_underlying E.under, sizeOf, typeInfo, hi, Builtin.lenOf, Builtin.firstCells, hnc, storeCells]
    obtain ⟨A, c', rfl⟩ := form hown
    exact ⟨A, c', w, hr, by simpa using hown, World.grownBy.refl w _, .inl rfl⟩
  · have hcells : ∀ j x, news[j]? = some x → w.cell? (ad.add j) = some x := by
      intro j x hj
      rcases hA with h | ⟨b, o, h, _, h5⟩
      · have : news = [] := List.eq_nil_of_length_eq_zero (by simp [hl, h])
        subst this; simp at hj
      · injection h with h; subst h
        rw [addr_add]; exact h5 j x hj
    obtain ⟨v', w', hrun, h2, h3, _, h5⟩ := run_append_own_at (P := P) w base t ty e i z sz bytes E.under hi hz0 hz1 hz2 hzs E.pos v n xs hown ad m c news hl hcells h1 h63 hb hbase
    obtain ⟨A, c', rfl⟩ := form h2
    exact ⟨A, c', w', hrun, h2, h3, h5.imp id (fun h => ⟨_, h, Nat.le_refl _⟩)⟩
/-- append(s, x...) at the operation -/
theorem wpList_app (hgd : o.guard = none) (s x : Operand) (t : TypeId) (ho : o.op = .call { callee := .builtin .append, args := #[s, x], argTypes := #[t, t] })
    {e : TypeId} {sz bytes : Nat} (E : ElemOk P t e sz bytes) {base : Nat} {v : Value} {n : Nat} {xs : List Value} (hs : a.eval s = v) (hown : w.ownsRow base e sz v n xs)
    {u : Value} {m : Nat} {news : List Value} (hx : a.eval x = u) (hrd : RdV w sz u m news) (h1 : ∀ y ∈ news, y.oneCell' = true) (hb : (n + m) * bytes ≤ 140737488355328) (hbase : base ≤ w.heap.size)
    (h : ∀ A c w', w'.ownsRow base e sz (.slice A (n + m) c) (n + m) (xs ++ news) → w.grownBy w' v.ownBlock → wpList P ops Q rest (a.put o.dst (.slice A (n + m) c)) w') : wpList P ops Q (o :: rest) a w := by
  refine wpList_plain hgd fun K hK => ?_
  obtain ⟨A, c, w', hr, h2, h3, _⟩ := run_app (P := P) w E o.type hown hrd h1 hb hbase
  unfold Oper.wp execOp
  simp only [ho, resolve, invoke, builtin, Sem.run_bind, Sem.run_pure, Result.andThen_ok, List.map_toArray, List.map_cons, List.map_nil, hs, hx, hr]
  exact hK _ _ (h A c w' h2 h3)
/-- append(s, x) at the operation: the one element lies in a block just made -/
theorem wpList_app1 (hgd : o.guard = none) (s x : Operand) (t : TypeId) (ho : o.op = .call { callee := .builtin .append, args := #[s, x], argTypes := #[t, t] })
    {e : TypeId} {sz bytes : Nat} (E : ElemOk P t e sz bytes) {base : Nat} {v : Value} {n : Nat} {xs : List Value} (hs : a.eval s = v) (hown : w.ownsRow base e sz v n xs)
    {cs : Array Value} (hx : a.eval x = .slice (some ⟨w.heap.size, 0, none⟩) 1 1) (hcs : cs.size = sz) (h1 : ∀ y ∈ cs.toList, y.oneCell' = true) (hb : (n + 1) * bytes ≤ 140737488355328) (hbase : base ≤ w.heap.size)
    (h : ∀ A c w', w'.ownsRow base e sz (.slice A (n + 1) c) (n + 1) (xs ++ cs.toList) → w.grownBy w' v.ownBlock → wpList P ops Q rest (a.put o.dst (.slice A (n + 1) c)) w') : wpList P ops Q (o :: rest) a (w.alloc (.cells cs e)) := by
  refine wpList_app (w.alloc (.cells cs e)) hgd s x t ho E hs (hown.alloc _) hx (RdV.lit w cs e sz 1 (by omega)) h1 hb (by simp; omega) ?_
  intro A c w' h2 h3
  refine h A c w' h2 ?_
  exact ⟨h3.os, h3.tape, h3.output, Nat.le_trans (by simp) h3.size, fun k hk hne => (h3.block k (by simp; omega) hne).trans (Below.heap_alloc w _ k hk)⟩
end
/-- what was owned and grows stays apart from what is older than its base -/
theorem below_grown {B : Nat} {w0 w w' : World} {e : TypeId} {sz n : Nat} {v : Value} {xs : List Value} (h : Below B w0 w) (hown : w.ownsRow B e sz v n xs) (hB : B ≤ w.heap.size) (hg : w.grownBy w' v.ownBlock) : Below B w0 w' :=
  h.grown hg hB (fun k hk => (hown.lt k hk).1)

section
variable {P : Program} (w : World) {ops : Array Oper} {o : Oper} {a : Act} {K : Act → World → Prop} {Q : Exit → Act → World → Prop} {E' : Prop}
/-- append(s, x), one element just built, as a step of a region that draws -/
theorem step_app1 (hgd : o.guard = none) (s x : Operand) (t : TypeId) (ho : o.op = .call { callee := .builtin .append, args := #[s, x], argTypes := #[t, t] })
    {e : TypeId} {sz bytes : Nat} (E : ElemOk P t e sz bytes) {base : Nat} {v : Value} {n : Nat} {xs : List Value} (hs : a.eval s = v) (hown : w.ownsRow base e sz v n xs)
    {cs : Array Value} (hx : a.eval x = .slice (some ⟨w.heap.size, 0, none⟩) 1 1) (hcs : cs.size = sz) (h1 : ∀ y ∈ cs.toList, y.oneCell' = true) (hb : (n + 1) * bytes ≤ 140737488355328) (hbase : base ≤ w.heap.size)
    (h : ∀ A c w', w'.ownsRow base e sz (.slice A (n + 1) c) (n + 1) (xs ++ cs.toList) → w.grownBy w' v.ownBlock → ((Value.slice A (n + 1) c).ownBlock = v.ownBlock ∨ ∃ k, (Value.slice A (n + 1) c).ownBlock = some k ∧ w.heap.size ≤ k) → K (a.put o.dst (.slice A (n + 1) c)) w') :
    if Region.wanted o (yielded ops a.tmps) = true then Oper.wp P o a (w.alloc (.cells cs e)) K Q else E' := by
  have hw : Region.wanted o (yielded ops a.tmps) = true := by simp [Region.wanted, hgd]
  rw [if_pos hw]
  obtain ⟨A, c, w', hr, h2, h3, h4⟩ := run_app (P := P) (w.alloc (.cells cs e)) E o.type (hown.alloc _) (RdV.lit w cs e sz 1 (by omega)) h1 hb (by simp; omega)
  unfold Oper.wp execOp
  simp only [ho, resolve, invoke, builtin, Sem.run_bind, Sem.run_pure, Result.andThen_ok, List.map_toArray, List.map_cons, List.map_nil, hs, hx, hr]
  refine h A c w' h2 ⟨h3.os, h3.tape, h3.output, Nat.le_trans (by simp) h3.size, fun k hk hne => (h3.block k (by simp; omega) hne).trans (Below.heap_alloc w _ k hk)⟩ (h4.imp id (fun ⟨k, h, hk⟩ => ⟨k, h, by simp at hk; omega⟩))
end

/-! ### how many are still to come -/
def restCount (w : World) (r b : Nat) : Nat := match w.heap[b]?, w.heap[r]? with
  | some (.map es _), some (.mapIter _ _ seen _) => (es.toList.filter (fun e => !seen.contains e.born)).length
  | _, _ => 0
theorem IT.count {w : World} {r b : Nat} {kv rest : List (Int × Value)} (h : IT w r b kv rest) : restCount w r b = rest.length := by
  obtain ⟨_, es, c, s, seen, c0, hb, _, _, hr, _, _, _, hl⟩ := h
  have := congrArg List.length hl
  simp only [restCount, hb, hr]
  simpa using this
theorem IT.drew {w : World} {r b : Nat} {kv rest : List (Int × Value)} (h : IT w r b kv rest) : IT w.drew r b kv rest := h
theorem IM.drew {w : World} {b : Nat} {kv : List (Int × Value)} (h : IM w b kv) : IM w.drew b kv := h
theorem IM.alloc {w : World} {b : Nat} {kv : List (Int × Value)} (h : IM w b kv) (o : Obj) : IM (w.alloc o) b kv := h.keep (Below.heap_alloc w o b h.lt)
theorem IM.below {w w' : World} {B b : Nat} {kv : List (Int × Value)} (h : IM w b kv) (hb : Below B w w') (hB : b < B) : IM w' b kv := h.keep (hb.block b hB)
theorem IM.grown {w w' : World} {row : Option Nat} {b : Nat} {kv : List (Int × Value)} (h : IM w b kv) (hg : w.grownBy w' row) (hne : some b ≠ row) : IM w' b kv := h.keep (hg.block b h.lt hne)
theorem IT.grown {w w' : World} {row : Option Nat} {r b : Nat} {kv rest : List (Int × Value)} (h : IT w r b kv rest) (hg : w.grownBy w' row) (hb : some b ≠ row) (hr : some r ≠ row) : IT w' r b kv rest := h.keep (hg.block b h.im.lt hb) (hg.block r h.lt hr)
theorem run_range_nil {P : Program} {t kt et : TypeId} (ht : P.underlying t = some (.map kt et)) (w : World) :
    (Instr.range t (.map none)).run P w = .ok (.pointer (some ⟨w.heap.size, 0, none⟩)) (w.alloc (.mapIter none 0 #[] 0)) := by
  simp [Instr.range, run_underlying ht, Result.andThen, newObj, Sem.run]
theorem run_next_nil {P : Program} {w : World} {r : Nat} (h : w.heap[r]? = some (.mapIter none 0 #[] 0)) (ty : TypeId) :
    (Instr.next (.pointer (some ⟨r, 0, none⟩)) false ty).run P w = .ok (.tuple #[.bool false]) w := by
  simp [Instr.next, getObj, Sem.run, h, Result.andThen]
theorem grown_below {w w' : World} {row : Option Nat} {B : Nat} (hg : w.grownBy w' row) (hB : B ≤ w.heap.size) (hr : ∀ k, row = some k → B ≤ k) : Below B w w' := (Below.refl _ _).grown hg hB hr
end Go.Proofs.Ytbcafhhheileeaa
