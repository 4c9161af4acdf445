/-
  The program's Take: wrong modes, and a lock that is held already.
  Conditions: those that each theorem names.
-/
import Derived.Test.YtejpjibhpjgcjaaT6
namespace Go.Proofs.Ytejpjibhpjgcjaa
open Go.RowKit Go.Sort

def join (a b : Int) : Int := if a = 0 ∨ a = b then b else 3
theorem join_c (a b : Int) (w : World) :
    Calls Try.prog 20 #[.int .i64 a, .int .i64 b] w fun e w' => e = .returned (.int .i64 (join a b)) ∧ w = w' := by
  by_cases h0 : a = 0
  · subst h0
    go_enter Try.func20, Try.ntmps20
    go_wp2
    go_ret
    simp [join]
  · have h0' : (a == 0) = false := by simpa using h0
    by_cases h1 : a = b
    · subst h1
      go_enter Try.func20, Try.ntmps20
      go_wp2
      go_ret
      simp [join]
    · have h1' : (a == b) = false := by simpa using h1
      go_enter Try.func20, Try.ntmps20
      go_wp2
      go_ret
      simp [join, h0, h1]

theorem mem_upd {α : Type} {l : List (Int × α)} {k : Int} {v : α} (tx : Int) (x : α) : (tx, x) ∈ upd l k v ↔ (tx = k ∧ x = v) ∨ (tx ≠ k ∧ (tx, x) ∈ l) := by
  unfold upd
  by_cases h : l.any (fun x => x.1 == k) = true
  · rw [if_pos h, List.mem_map]
    constructor
    · rintro ⟨y, hy, he⟩
      by_cases hk : y.1 = k
      · simp only [hk, beq_self_eq_true, if_true, Prod.mk.injEq] at he
        exact .inl ⟨he.1.symm, he.2.symm⟩
      · simp only [beq_iff_eq, hk, if_false] at he
        subst he
        exact .inr ⟨hk, hy⟩
    · rintro (⟨rfl, rfl⟩ | ⟨h1, h2⟩)
      · rw [List.any_eq_true] at h
        obtain ⟨y, hy, hyk⟩ := h
        exact ⟨y, hy, by simp [beq_iff_eq.1 hyk]⟩
      · exact ⟨_, h2, by simp [h1]⟩
  · rw [if_neg h, List.mem_append, List.mem_singleton, Prod.mk.injEq]
    have hno : ∀ y ∈ l, y.1 ≠ k := by
      intro y hy e
      apply h
      rw [List.any_eq_true]
      exact ⟨y, hy, by simp [e]⟩
    constructor
    · rintro (h1 | ⟨rfl, rfl⟩)
      · exact .inr ⟨hno _ h1, h1⟩
      · exact .inl ⟨rfl, rfl⟩
    · rintro (⟨rfl, rfl⟩ | ⟨h1, h2⟩)
      · exact .inr ⟨rfl, rfl⟩
      · exact .inl h2
theorem upd_map {α β : Type} (f : α → β) (l : List (Int × α)) (k : Int) (v : α) : upd (l.map fun x => (x.1, f x.2)) k (f v) = (upd l k v).map fun x => (x.1, f x.2) := by
  unfold upd
  have h1 : (l.map fun x => (x.1, f x.2)).any (fun x => x.1 == k) = l.any (fun x => x.1 == k) := by rw [List.any_map]; rfl
  rw [h1]
  split
  · rw [List.map_map, List.map_map]
    refine List.map_congr_left fun x _ => ?_
    simp only [Function.comp]
    split <;> rfl
  · simp
theorem hv_upd (l : List (Int × Int)) (k v : Int) : upd (hv l) k (.int .i64 v) = hv (upd l k v) := upd_map (fun x : Int => Value.int .i64 x) l k v
theorem wv_upd (l : List (Int × Int × Int)) (k p v : Int) : upd (wv l) k (.agg #[.int .i64 p, .int .i64 v]) = wv (upd l k (p, v)) := upd_map (fun x : Int × Int => Value.agg #[.int .i64 x.1, .int .i64 x.2]) l k (p, v)

/-- what it had waited for is forgotten -/
theorem take_pre {B t : Nat} {m : Tab} {w : World} (h : TRep B w t m) (txn : Int) : ∃ bp bw pg wt w1, w.cell? ⟨t, 1, none⟩ = some (.map (some bw)) ∧
    (∀ ty, (Builtin.delete_ #[46, 3] ty #[.map (some bw), .int .i64 txn]).run Try.prog w = .ok (.tuple #[]) w1) ∧ TAt B w1 t bp bw pg wt ⟨m.locks, forget m.waits txn⟩ ∧ Fr B tagT w w1 := by
  obtain ⟨bp, bw, pg, wt, h⟩ := h
  have hdel : ∀ ty, ∃ w', (Builtin.delete_ #[46, 3] ty #[.map (some bw), .int .i64 txn]).run Try.prog w = .ok (.tuple #[]) w' ∧ IM w' bw (del (wv wt) txn) ∧ w.grownBy w' (some bw) ∧ w'.heap.size = w.heap.size := fun ty => run_delete_im' Try.underlying46 Try.underlying3 h.waits txn ty 3
  obtain ⟨w1, hd1, him1, hg1, hs1⟩ := hdel 0
  rw [wv_del] at him1
  refine ⟨bp, bw, pg, del wt txn, w1, by rw [cell_blk h.blk]; rfl, fun _ => hd1, ?_, (Fr.refl _ _ _).stepIM h.waits h.b2 hg1⟩
  refine ⟨h.b0, (hg1.block t (lt_of_heap h.blk) (fun e => im_ne_blk h.blk h.waits (by injection e))).trans h.blk, h.b1, h.b2, h.ne, h.pages.grown hg1 (fun e => h.ne (by injection e)), him1, fun x hx => ?_, h.nodup, h.locks, fun tx p md => ?_⟩
  · obtain ⟨a1, a2, a3, a4⟩ := h.inner x hx
    exact ⟨a1, a2, a3, a4.grown hg1 (fun e => a3 (by injection e))⟩
  · rw [mem_del, h.wait]
    simp only [forget, List.mem_filter, bne_iff_ne, ne_eq]
/-- the two look-ups -/
theorem has_run {B t bp bw : Nat} {pg : Pages} {wt : List (Int × Int × Int)} {m : Tab} {w : World} (h : TAt B w t bp bw pg wt m) (v : Valid m) (txn page : Int) :
    ∃ mv, (Instr.lookup 45 (.map (some bp)) (.int .i64 page) false).run Try.prog w = .ok mv w ∧ (Instr.lookup 49 mv (.int .i64 txn) false).run Try.prog w = .ok (.int .i64 (holds m.locks txn page)) w ∧
      ((mv = .map none ∧ assoc (pv pg) page = none ∧ ∀ tx md, (⟨tx, page, md⟩ : Lk) ∉ m.locks) ∨ ∃ b l, mv = .map (some b) ∧ (page, b, l) ∈ pg ∧ assoc (pv pg) page = some (.map (some b)) ∧ IM w b (hv l) ∧ (l.map (·.1)).Nodup ∧ ∀ tx md, (tx, md) ∈ l ↔ (⟨tx, page, md⟩ : Lk) ∈ m.locks) := by
  have r1 := run_lookup_im (P := Try.prog) Try.underlying45 Try.underlying3 (z49 w) h.pages page
  rcases h.page page with ⟨ha, hno⟩ | ⟨b, l, hmem, ha, hi, hn, hl⟩
  · rw [ha] at r1
    refine ⟨_, r1, ?_, .inl ⟨rfl, ha, hno⟩⟩
    rw [holds_none (fun md => hno txn md)]
    exact run_lookup_im_nil Try.underlying49 Try.underlying3 (z3 w) txn
  · rw [ha] at r1
    refine ⟨_, r1, ?_, .inr ⟨b, l, rfl, hmem, ha, hi, hn, hl⟩⟩
    have r2 := run_lookup_im (P := Try.prog) Try.underlying49 Try.underlying3 (z3 w) hi txn
    rw [TAt.has v hl] at r2
    exact r2

def errV (n : Int) : Value := if n = 0 then .nilIface else .iface 44 (.int .i64 n)

set_option maxRecDepth 100000
theorem take_bad (t : Nat) (txn page mode : Int) (w : World) (h : mode < 1 ∨ mode > 3) :
    Calls Try.prog 9 #[.pointer (some ⟨t, 0, none⟩), .int .i64 txn, .int .i64 page, .int .i64 mode] w fun e w' => e = .returned (.iface 44 (.int .i64 2)) ∧ w = w' := by
  rcases h with h | h
  · go_enter Try.func9, Try.ntmps9
    go_wp2
    go_ret
    exact ⟨rfl, rfl⟩
  · have h2 : ¬ mode < 1 := by omega
    have h3 : (3 : Int) < mode := h
    go_enter Try.func9, Try.ntmps9
    go_wp2
    go_ret
    exact ⟨rfl, rfl⟩

set_option maxHeartbeats 2000000 in
theorem take_has (B t : Nat) (m : Tab) (w : World) (vd : Valid m) (h : TRep B w t m) (txn page mode : Int) (hm1 : 1 ≤ mode) (hm2 : mode ≤ 3)
    (hc : holds m.locks txn page = mode ∨ holds m.locks txn page = 3) :
    Calls Try.prog 9 #[.pointer (some ⟨t, 0, none⟩), .int .i64 txn, .int .i64 page, .int .i64 mode] w fun e w' => e = .returned .nilIface ∧ TRep B w' t ⟨m.locks, forget m.waits txn⟩ ∧ Fr B tagT w w' := by
  obtain ⟨bp, bw, pg, wt, w1, hc1, hd1, hT, hfr⟩ := take_pre h txn
  have vd1 := valid_forget vd txn
  obtain ⟨mv, r1, r2, _⟩ := has_run hT vd1 txn page
  have hc0 : w1.cell? ⟨t, 0, none⟩ = some (.map (some bp)) := by rw [cell_blk hT.blk]; rfl
  have hj : join (holds m.locks txn page) mode = holds m.locks txn page := by
    unfold join
    rcases hc with hc | hc
    · simp [hc]
    · rw [hc]; split
      · omega
      · rfl
  have HJ := Lib.hid (fun W => join_c (holds m.locks txn page) mode W)
  dsimp only at r2
  have hrep1 : Hid (TRep B w1 t ⟨m.locks, forget m.waits txn⟩) := ⟨_, _, _, _, hT⟩
  rw [hj] at HJ
  generalize holds m.locks txn page = hs at *
  clear hj hc h hT
  go_enter Try.func9, Try.ntmps9
  go_wp2_with (first
    | (at_delete; refine wpList_del rfl _ _ _ _ rfl rfl rfl hd1 ?_)
    | (go_at_call 20; refine (HJ.out _).mono ?_; rintro e w2 ⟨rfl, rfl⟩))
  go_ret
  exact ⟨rfl, hrep1.out.below ((Below.refl _ _).alloc (Nat.le_refl _) _), hfr.alloc _⟩
end Go.Proofs.Ytejpjibhpjgcjaa
