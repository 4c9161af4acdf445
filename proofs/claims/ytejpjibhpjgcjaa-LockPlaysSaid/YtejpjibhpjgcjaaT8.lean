/-
  The program's Take where it must wait.
  Conditions: those that each theorem names.
-/
import Derived.Test.YtejpjibhpjgcjaaT7
namespace Go.Proofs.Ytejpjibhpjgcjaa
open Go.RowKit Go.Sort
set_option maxRecDepth 100000

/-- a wait is noted -/
theorem TAt.wait_put {B t bp bw : Nat} {pg : Pages} {wt : List (Int × Int × Int)} {L W : List Lk} {txn page md : Int} {w w' : World} (h : TAt B w t bp bw pg wt ⟨L, W⟩) (hno : ∀ l ∈ W, l.txn ≠ txn)
    (hg : w.grownBy w' (some bw)) (him : IM w' bw (upd (wv wt) txn (.agg #[.int .i64 page, .int .i64 md]))) : TAt B w' t bp bw pg (upd wt txn (page, md)) ⟨L, W ++ [⟨txn, page, md⟩]⟩ := by
  rw [wv_upd] at him
  refine ⟨h.b0, (hg.block t (lt_of_heap h.blk) (fun e => im_ne_blk h.blk h.waits (by injection e))).trans h.blk, h.b1, h.b2, h.ne, h.pages.grown hg (fun e => h.ne (by injection e)), him, fun x hx => ?_, h.nodup, h.locks, fun tx p m => ?_⟩
  · obtain ⟨a1, a2, a3, a4⟩ := h.inner x hx
    exact ⟨a1, a2, a3, a4.grown hg (fun e => a3 (by injection e))⟩
  · rw [mem_upd, h.wait]
    simp only [Prod.mk.injEq, List.mem_append, List.mem_singleton, Lk.mk.injEq]
    constructor
    · rintro (⟨rfl, rfl, rfl⟩ | ⟨h1, h2⟩)
      · exact .inr ⟨rfl, rfl, rfl⟩
      · exact .inl h2
    · rintro (h1 | ⟨rfl, rfl, rfl⟩)
      · exact .inr ⟨hno _ h1, h1⟩
      · exact .inl ⟨rfl, rfl, rfl⟩

theorem TAt.tagkeep {B t bp bw : Nat} {pg : Pages} {wt : List (Int × Int × Int)} {m : Tab} {w w' : World} {B' : Nat} (h : TAt B w t bp bw pg wt m) (hf : Fr B' tagI w w') : TAt B w' t bp bw pg wt m :=
  h.keep fun k o ho ht => hf.keep k o ho (.inr (tagT_I o ht))
theorem TAt.below {B t bp bw : Nat} {pg : Pages} {wt : List (Int × Int × Int)} {m : Tab} {w w' : World} (h : TAt B w t bp bw pg wt m) (hf : Below w.heap.size w w') : TAt B w' t bp bw pg wt m := h.keep (keepT_of_below hf)
theorem TAt.drew {B t bp bw : Nat} {pg : Pages} {wt : List (Int × Int × Int)} {m : Tab} {w : World} (h : TAt B w t bp bw pg wt m) : TAt B w.drew t bp bw pg wt m := h.keep fun _ _ h _ => h

theorem Fr.transNew {B B' : Nat} {S S' : Obj → Bool} {a w w' : World} (h : Fr B S a w) (k : Fr B' S' w w') (hB : a.heap.size ≤ B') : Fr B S a w' :=
  ⟨k.os.trans h.os, k.tape.trans h.tape, k.output.trans h.output, Nat.le_trans h.size k.size, fun i o hi hs => k.keep i o (h.keep i o hi hs) (.inl (Nat.lt_of_lt_of_le (lt_of_heap hi) hB))⟩
theorem own_form {v : Value} {w : World} {B : Nat} {e : TypeId} {sz k : Nat} {ys : List Value} (h : w.ownsRow B e sz v k ys) : ∃ A c, v = .slice A k c := by
  rcases h.2 with ⟨rfl, rfl⟩ | ⟨g, cap, cur, rfl, _⟩
  · exact ⟨none, 0, rfl⟩
  · exact ⟨_, _, rfl⟩

def WaitPost (B t : Nat) (m : Tab) (w : World) (txn page md : Int) (e : Ending) (w' : World) : Prop := Fr B tagT w w' ∧
  ((Reach ⟨m.locks, forget m.waits txn⟩ (against m.locks ⟨txn, page, md⟩) txn ∧ e = .returned (.iface 44 (.int .i64 18)) ∧ TRep B w' t ⟨m.locks, forget m.waits txn⟩) ∨
   (¬ Reach ⟨m.locks, forget m.waits txn⟩ (against m.locks ⟨txn, page, md⟩) txn ∧ e = .returned (.iface 44 (.int .i64 17)) ∧ TRep B w' t ⟨m.locks, forget m.waits txn ++ [⟨txn, page, md⟩]⟩))

set_option maxHeartbeats 4000000 in
theorem take_wait (B t : Nat) (m : Tab) (w : World) (vd : Valid m) (h : TRep B w t m) (txn page mode md : Int) (hm1 : 1 ≤ mode) (hm2 : mode ≤ 3)
    (hj : join (holds m.locks txn page) mode = md) (hne : md ≠ holds m.locks txn page) (ho : against m.locks ⟨txn, page, md⟩ ≠ []) :
    Calls Try.prog 9 #[.pointer (some ⟨t, 0, none⟩), .int .i64 txn, .int .i64 page, .int .i64 mode] w (WaitPost B t m w txn page md) := by
  obtain ⟨bp, bw, pg, wt, w1, hc1, hd1, hT, hfr⟩ := take_pre h txn
  have vd1 := valid_forget vd txn
  obtain ⟨mv, r1, r2, _⟩ := has_run hT vd1 txn page
  have hc0 : w1.cell? ⟨t, 0, none⟩ = some (.map (some bp)) := by rw [cell_blk hT.blk]; rfl
  have HJ := Lib.hid (fun W => join_c (holds m.locks txn page) mode W)
  dsimp only at r2
  rw [hj] at HJ
  have hTA := hT.below ((Below.refl w1.heap.size w1).alloc (Nat.le_refl _) (.cells #[.int .i64 page, .int .i64 md] 55))
  have hrepA : Hid (TRep B (w1.alloc (.cells #[.int .i64 page, .int .i64 md] 55)) t ⟨m.locks, forget m.waits txn⟩) := ⟨_, _, _, _, hTA⟩
  have HA := Lib.hid (fun W (hr : TRep B W t ⟨m.locks, forget m.waits txn⟩) => against_c B t _ W vd1 hr txn page md)
  have hsp := against_spec m.locks ⟨txn, page, md⟩
  have hal := against_len m.locks ⟨txn, page, md⟩
  have hsz := vd.size
  dsimp only at HA
  generalize holds m.locks txn page = hs at *
  generalize hst : against m.locks ⟨txn, page, md⟩ = start at *
  have hlk : Hid (∀ x ∈ start, x ∈ m.locks.map Lk.txn) := fun x hx => by obtain ⟨l, hl, _, rfl⟩ := (hsp.2 x).1 hx; exact List.mem_map.2 ⟨l, hl, rfl⟩
  have hst' := Lib.hid hst
  have hne' : (md == hs) = false := by simpa using hne
  have HO := Lib.hid ho
  have hTA' := Lib.hid hTA
  have hs1 := hfr.size
  clear hj h hT hst hsp ho hne hTA
  go_enter Try.func9, Try.ntmps9
  go_wp2_with (first
    | (at_delete; refine wpList_del rfl _ _ _ _ rfl rfl rfl hd1 ?_)
    | (go_at_call 20; refine (HJ.out _).mono ?_; rintro e w2 ⟨rfl, rfl⟩)
    | (go_at_call 21; refine (HA.out _ hrepA.out).mono ?_; rintro e w2 ⟨v2, rfl, hrd2, hbel2⟩; obtain ⟨b2, o2, c2, rfl, hlc2, hb2, hcell2⟩ := RdI.form hrd2 HO.out; have hpos : 0 < start.length := List.length_pos_iff.2 HO.out; clear hrd2)
    | (go_at_call 23; refine (Try.slices_Clone_int b2 o2 start.length c2 start w2 (Nat.le_refl _) (by omega) (fun j hj => by rw [hcell2 j hj]; simp [hj])).mono ?_; rintro e w3 ⟨v3, rfl, hown3, hnn3, hbel3⟩; obtain ⟨A3, c3, rfl⟩ := own_form hown3; rw [List.take_length] at hown3)
    | (go_at_call 22; go_loud (refine (circle_c B w2.heap.size t _ w3 vd1 ⟨_, _, _, _, (hTA'.out.below hbel2).below hbel3⟩ txn _ start hown3 hbel3.size hlk.out (by omega) ⟨_, _, rfl⟩).mono ?_; rintro e w4 ⟨bb, rfl, hbb, hfr4⟩; have hT4 := Lib.hid (((hTA'.out.below hbel2).below hbel3).tagkeep hfr4); have hF4 := Lib.hid ((((hfr.alloc _).trans (Fr.of_below hbel2)).trans (Fr.of_below hbel3)).transNew hfr4 (by have := hbel2.size; simp at this; omega)); have hw4 := Lib.hid (hfr4.keep _ _ ((hbel3.block _ (by have := hbel2.size; simp at this; omega)).trans ((hbel2.block _ (by simp)).trans (MapKept.heap_alloc w1 (.cells #[.int .i64 page, .int .i64 md] 55)).1)) (.inr rfl)); clear hown3 hnn3 hbel3 hfr4 hcell2 hbel2; cases bb)))
  · obtain ⟨w5, hu5, him5, hg5, _⟩ := run_update_im (P := Try.prog) Try.underlying46 Try.underlying3 hT4.out.drew.waits txn (.agg #[.int .i64 page, .int .i64 md])
    have hT5 := Lib.hid (hT4.out.drew.wait_put (fun l hl => by simpa [forget] using (List.mem_filter.1 hl).2) hg5 him5)
    have hF5 := Lib.hid (hF4.out.drew.stepIM hT4.out.drew.waits hT4.out.b2 hg5)
    have hd1' : w4.drew.cell? ⟨t, 1, none⟩ = some (.map (some bw)) := by rw [cell_blk hT4.out.drew.blk]; rfl
    have hd2' : w4.drew.cell? ⟨w1.heap.size, 0, none⟩ = some (.int .i64 page) := by rw [cell_blk (w := w4.drew) hw4.out]; rfl
    have hd3' : w4.drew.cell? ⟨w1.heap.size, 0 + 1, none⟩ = some (.int .i64 md) := by rw [cell_blk (w := w4.drew) hw4.out]; rfl
    have hnr : Hid (¬ Reach ⟨m.locks, forget m.waits txn⟩ start txn) := by intro h; have := hbb.2 h; cases this
    clear him5 hg5 hbb
    go_region
    go_wp2
    go_ret
    refine ⟨hF5.out, .inr ?_⟩
    rw [hst'.out]
    exact ⟨hnr.out, rfl, _, _, _, _, hT5.out⟩
  · have hr : Hid (Reach ⟨m.locks, forget m.waits txn⟩ start txn) := hbb.1 trivial
    clear hbb
    have hmi : (Instr.makeInterface 44 (.int .i64 18)).run Try.prog w4 = .ok (.iface 44 (.int .i64 18)) w4 := by kernel_rfl
    go_wp2
    simp only [hmi]
    go_wp2
    go_ret
    refine ⟨hF4.out, .inl ?_⟩
    rw [hst'.out]
    exact ⟨hr.out, rfl, _, _, _, _, hT4.out⟩
end Go.Proofs.Ytejpjibhpjgcjaa
