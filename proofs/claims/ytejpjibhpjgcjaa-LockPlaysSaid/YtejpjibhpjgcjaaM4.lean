/-
  The document's table: against.
  Conditions: those that each theorem names.
-/
import Derived.Test.YtejpjibhpjgcjaaM3
import Derived.Deep.RegionLaw
namespace Go.Proofs.Ytejpjibhpjgcjaa
open Go.RowKit

theorem nodup_sub_len {α : Type} [DecidableEq α] : ∀ {l k : List α}, l.Nodup → (∀ x ∈ l, x ∈ k) → l.length ≤ k.length
  | [], _, _, _ => by simp
  | a :: l, k, hn, h => by
    rw [List.nodup_cons] at hn
    have ha := h a (by simp)
    have := nodup_sub_len (l := l) (k := k.erase a) hn.2 (fun x hx => (List.mem_erase_of_ne (by rintro rfl; exact hn.1 hx)).2 (h x (by simp [hx])))
    rw [List.length_erase_of_mem ha] at this
    have := List.length_pos_of_mem ha
    simp; omega
theorem sorted_nodup {xs : List Int} (h : Sorted xs) : xs.Nodup := List.Pairwise.imp (fun hab => by omega) h
theorem forW_lock {m : Tab} {txn x : Int} (h : x ∈ forW m txn) : x ∈ m.locks.map Lk.txn := by
  unfold forW at h
  split at h
  · obtain ⟨l, hl, _, rfl⟩ := ((against_spec _ _).2 x).1 h
    exact List.mem_map.2 ⟨l, hl, rfl⟩
  · simp at h
theorem forW_sorted (m : Tab) (txn : Int) : Sorted (forW m txn) := by
  unfold forW
  split
  · exact (against_spec _ _).1
  · simp [Sorted]
theorem own_ne {w : World} {B : Nat} {e e' : TypeId} {sz n g : Nat} {v : Value} {xs : List Value} {cs : Array Value} {z : Nat × Nat} (h : w.ownsRow B e sz v n xs) (hg : w.heap[g]? = some (.cells cs e' z)) (hne : e ≠ e') : some g ≠ v.ownBlock := by
  rcases h.2 with ⟨rfl, _⟩ | ⟨g', cap, cur, rfl, _, hh, _⟩
  · simp [Value.ownBlock]
  · simp only [Value.ownBlock, ne_eq, Option.some.injEq]
    rintro rfl
    rw [hg] at hh; cases hh; exact hne rfl
theorem grown_frozen {w w' : World} {row : Option Nat} {p : Addr} (hg : w.grownBy w' row) (hp : p.block < w.heap.size) (hne : some p.block ≠ row) : w'.frozen? p = w.frozen? p :=
  World.frozen?_of_block (w := w) (hg.block p.block hp hne)
/-- 't.Waits = append(t.Waits, l)', behind the append -/
theorem MAt.pushW {B : Nat} {w w6 : World} {g : Nat} {vL vW v6 : Value} {m : Tab} {W : List Lk} (h : MAt B w g vL vW m) (hg : w.grownBy w6 vW.ownBlock) (hown : OwnL w6 B v6 W) (hf : ∃ A c, v6 = .slice A W.length c)
    (hat : v6.ownBlock = vW.ownBlock ∨ ∃ k, v6.ownBlock = some k ∧ w.heap.size ≤ k) : MAt B (w6.setCell ⟨g, 1, none⟩ v6) g vL v6 ⟨m.locks, W⟩ ∧ Fr B tagM w (w6.setCell ⟨g, 1, none⟩ v6) := by
  have hgn := own_ne h.waits h.blk (by decide)
  have hblk : w6.heap[g]? = some (.cells #[vL, vW] 29 (0, 0)) := (hg.block g (lt_of_heap h.blk) hgn).trans h.blk
  have hlocks : OwnL w6 B vL m.locks := h.locks.kept hg h.ne
  have h6 : ∀ c z, w6.heap[g]? ≠ some (.cells c 52 z) := fun c z e => by rw [hblk] at e; cases e
  refine ⟨⟨h.b0, by have := heap_set_same (i := 1) hblk v6; simpa using this, own_set hlocks h6 v6, own_set hown h6 v6, h.lform, hf, ?_⟩, ?_⟩
  · rcases h.ne with h0 | h0
    · exact .inl h0
    · right
      rcases hat with e | ⟨k, e, hk⟩
      · rw [e]; exact h0
      · rw [e]; intro e2
        have := (h.locks.lt k e2).2
        omega
  · have hfr : Fr B tagM w w6 := Fr.of_grown hg (fun k o hk ho => ⟨(h.waits.lt k hk).1, by
      rcases h.waits.2 with ⟨hv, _⟩ | ⟨g', cap, cur, hv, _, hh, _⟩
      · rw [hv] at hk; simp [Value.ownBlock] at hk
      · rw [hv] at hk; simp only [Value.ownBlock, Option.some.injEq] at hk; subst hk
        rw [hh] at ho; cases ho; rfl⟩)
    exact fr_setM (by rfl) hfr h.blk h.b0 _
/-- 't.Locks = append(t.Locks, l)', behind the append -/
theorem MAt.pushL {B : Nat} {w w6 : World} {g : Nat} {vL vW v6 : Value} {m : Tab} {L : List Lk} (h : MAt B w g vL vW m) (hg : w.grownBy w6 vL.ownBlock) (hown : OwnL w6 B v6 L) (hf : ∃ A c, v6 = .slice A L.length c)
    (hat : v6.ownBlock = vL.ownBlock ∨ ∃ k, v6.ownBlock = some k ∧ w.heap.size ≤ k) : MAt B (w6.setCell ⟨g, 0, none⟩ v6) g v6 vW ⟨L, m.waits⟩ ∧ Fr B tagM w (w6.setCell ⟨g, 0, none⟩ v6) := by
  have hgn := own_ne h.locks h.blk (by decide)
  have hblk : w6.heap[g]? = some (.cells #[vL, vW] 29 (0, 0)) := (hg.block g (lt_of_heap h.blk) hgn).trans h.blk
  have hne' : vW.ownBlock = none ∨ vW.ownBlock ≠ vL.ownBlock := by
    rcases h.ne with h0 | h0
    · rw [h0]; cases vW.ownBlock <;> simp
    · exact .inr (Ne.symm h0)
  have hwaits : OwnL w6 B vW m.waits := h.waits.kept hg hne'
  have h6 : ∀ c z, w6.heap[g]? ≠ some (.cells c 52 z) := fun c z e => by rw [hblk] at e; cases e
  refine ⟨⟨h.b0, by have := heap_set_same (i := 0) hblk v6; simpa using this, own_set hown h6 v6, own_set hwaits h6 v6, hf, h.wform, ?_⟩, ?_⟩
  · rcases hat with e | ⟨k, e, hk⟩
    · rw [e]; exact h.ne
    · right; rw [e]; intro e2
      have := (h.waits.lt k e2.symm).2
      omega
  · have hfr : Fr B tagM w w6 := Fr.of_grown hg (fun k o hk ho => ⟨(h.locks.lt k hk).1, by
      rcases h.locks.2 with ⟨hv, _⟩ | ⟨g', cap, cur, hv, _, hh, _⟩
      · rw [hv] at hk; simp [Value.ownBlock] at hk
      · rw [hv] at hk; simp only [Value.ownBlock, Option.some.injEq] at hk; subst hk
        rw [hh] at ho; cases ho; rfl⟩)
    exact fr_setM (by rfl) hfr h.blk h.b0 _
theorem own_obj {w : World} {B : Nat} {e : TypeId} {sz n b : Nat} {v : Value} {xs : List Value} (h : w.ownsRow B e sz v n xs) (hv : v.ownBlock = some b) : ∃ cur, w.heap[b]? = some (.cells cur e (0, 0)) := by
  rcases h.2 with ⟨rfl, _⟩ | ⟨g', cap, cur, rfl, _, hh, _⟩
  · simp [Value.ownBlock] at hv
  · simp only [Value.ownBlock, Option.some.injEq] at hv; subst hv; exact ⟨_, hh⟩
/-- a cell of the row of locks is written -/
theorem MAt.putL {B : Nat} {w : World} {g b n c j : Nat} {vW u : Value} {m : Tab} {L : List Lk} (h : MAt B w g (.slice (some ⟨b, 0, none⟩) n c) vW m) (hl : L.length = m.locks.length) (hr : rowL L = (rowL m.locks).set j u) :
    MAt B (w.setCell ⟨b, j, none⟩ u) g (.slice (some ⟨b, 0, none⟩) n c) vW ⟨L, m.waits⟩ ∧ Fr B tagM w (w.setCell ⟨b, j, none⟩ u) := by
  obtain ⟨A, c', hf⟩ := h.lform
  injection hf with hA hn hc
  subst hn
  have hst := World.ownsRow.stored h.locks j u
  have hgn := own_ne h.locks h.blk (by decide)
  obtain ⟨cur, hcur⟩ := own_obj h.locks rfl
  refine ⟨⟨h.b0, (hst.2.block g (lt_of_heap h.blk) hgn).trans h.blk, ?_, ?_, ⟨_, _, by rw [hl]⟩, h.wform, h.ne⟩, ?_⟩
  · unfold OwnL; rw [hr, hl]; exact hst.1
  · refine h.waits.kept hst.2 ?_
    rcases h.ne with h0 | h0
    · simp [Value.ownBlock] at h0
    · exact .inr (Ne.symm h0)
  · exact (Fr.refl _ _ _).setCell (.inr ⟨(h.locks.lt b rfl).1, fun o ho => by rw [hcur] at ho; cases ho; rfl⟩) u
theorem MAt.drew {B : Nat} {w : World} {g : Nat} {vL vW : Value} {m : Tab} (h : MAt B w g vL vW m) : MAt B w.drew g vL vW m := ⟨h.b0, h.blk, h.locks, h.waits, h.lform, h.wform, h.ne⟩
/-- what holds of the list 'all' -/
structure Clos (m : Tab) (start all : List Int) : Prop where
  sorted : Sorted all
  sub : ∀ x ∈ start, x ∈ all
  reach : ∀ x ∈ all, Reach m start x
  lock : ∀ x ∈ all, x ∈ m.locks.map Lk.txn
theorem Clos.len {m : Tab} {start all : List Int} (h : Clos m start all) (v : Valid m) : all.length ≤ 256 := by
  have := nodup_sub_len (sorted_nodup h.sorted) h.lock
  have := v.size
  simp at *; omega
theorem Clos.add {m : Tab} {start all : List Int} (h : Clos m start all) {x y : Int} (hx : Reach m start x) (hy : y ∈ forW m x) : Clos m start (ins all y) := by
  obtain ⟨h1, h2⟩ := ins_sorted (n := y) h.sorted
  refine ⟨h1, fun z hz => (h2 z).2 (.inl (h.sub z hz)), fun z hz => ?_, fun z hz => ?_⟩
  · rcases (h2 z).1 hz with hz | rfl
    · exact h.reach z hz
    · exact .step hx hy
  · rcases (h2 z).1 hz with hz | rfl
    · exact h.lock z hz
    · exact forW_lock hy
theorem Clos.done {m : Tab} {start all : List Int} (h : Clos m start all) (hc : ∀ x ∈ all, ∀ y ∈ forW m x, y ∈ all) (t : Int) : t ∈ all ↔ Reach m start t := by
  refine ⟨h.reach t, fun hr => ?_⟩
  induction hr with
  | base hx => exact h.sub _ hx
  | step _ hy ih => exact hc _ ih _ hy
theorem ins_in {xs : List Int} {n : Int} (h : n ∈ xs) : ins xs n = xs := by unfold ins; rw [if_pos h]
theorem ins_out_len {xs : List Int} {n : Int} (h : n ∉ xs) : (ins xs n).length = xs.length + 1 := by
  have h1 := insSt_len xs n xs.length (Nat.le_refl _)
  unfold ins
  rw [if_neg h]
  split
  · rename_i hd; rw [hd] at h1; simpa using h1
  · rename_i hd; simp [hd] at h1; simp [h1]

/-- what a pass has done so far -/
structure Pass (m : Tab) (start all0 all : List Int) (b : Bool) (i : Nat) : Prop where
  clos : Clos m start all
  le : all0.length ≤ all.length
  yes : b = true → all0.length < all.length
  no : b = false → all = all0 ∧ ∀ j (h : j < all0.length), j < i → ∀ y ∈ forW m all0[j], y ∈ all0

def lenOfV : Value → Nat | .slice _ n _ => n | _ => 0
def boolOfV : Value → Bool | .bool b => b | _ => false

def OutRel (wb : World) (m : Tab) (start : List Int) (v b : Value) (wr : World) : Prop :=
  ∃ all bb, b = .bool bb ∧ (∃ A c, v = .slice A all.length c) ∧ RdI wr v all ∧ Below wb.heap.size wb wr ∧ Clos m start all ∧ (bb = false → ∀ x ∈ all, ∀ y ∈ forW m x, y ∈ all)
def MidRel (wb : World) (m : Tab) (start all0 : List Int) (v b i : Value) (wr : World) : Prop :=
  ∃ all bb k, k ≤ 256 ∧ i = .int .i64 (k : Nat) ∧ b = .bool bb ∧ (∃ A c, v = .slice A all.length c) ∧ RdI wr v all ∧ Below wb.heap.size wb wr ∧ Pass m start all0 all bb k
def InRel (wb : World) (m : Tab) (start all0 l : List Int) (i0 : Nat) (b0 : Bool) (v b i : Value) (wr : World) : Prop :=
  ∃ all bb k, k ≤ l.length ∧ i = .int .i64 (k : Nat) ∧ b = .bool bb ∧ (∃ A c, v = .slice A all.length c) ∧ RdI wr v all ∧ Below wb.heap.size wb wr ∧ Pass m start all0 all bb i0 ∧ (bb = false → ∀ y ∈ l.take k, y ∈ all0) ∧ (b0 = true → bb = true)

theorem Pass.stay {m : Tab} {start all0 all : List Int} {b : Bool} {i : Nat} {x y : Int} (h : Pass m start all0 all b i) (hx : Reach m start x) (hy : y ∈ forW m x) (hb : b = true ∨ y ∈ all) : Pass m start all0 (ins all y) b i := by
  rcases hb with rfl | hin
  · refine ⟨h.clos.add hx hy, ?_, fun _ => ?_, by simp⟩
    · have := h.le
      by_cases hm : y ∈ all
      · rw [ins_in hm]; exact this
      · rw [ins_out_len hm]; omega
    · have := h.yes rfl
      by_cases hm : y ∈ all
      · rw [ins_in hm]; exact this
      · rw [ins_out_len hm]; omega
  · rw [ins_in hin]; exact h
theorem Pass.grow {m : Tab} {start all0 all : List Int} {b : Bool} {i : Nat} {x y : Int} (h : Pass m start all0 all b i) (hx : Reach m start x) (hy : y ∈ forW m x) (hn : y ∉ all) : Pass m start all0 (ins all y) true i :=
  ⟨h.clos.add hx hy, by rw [ins_out_len hn]; have := h.le; omega, fun _ => by rw [ins_out_len hn]; have := h.le; omega, by simp⟩
theorem Pass.next {m : Tab} {start all0 all : List Int} {b : Bool} {i : Nat} (h : Pass m start all0 all b i) (hn : b = false → ∀ (hi : i < all0.length), ∀ y ∈ forW m all0[i], y ∈ all0) : Pass m start all0 all b (i + 1) :=
  ⟨h.clos, h.le, h.yes, fun hb => ⟨(h.no hb).1, fun j hj hji y hy => by
    by_cases e : j = i
    · subst e; exact hn hb hj y hy
    · exact (h.no hb).2 j hj (by omega) y hy⟩⟩
end Go.Proofs.Ytejpjibhpjgcjaa
