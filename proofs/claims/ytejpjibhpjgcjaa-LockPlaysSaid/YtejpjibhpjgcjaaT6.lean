/-
  The program's Release, walked.
  Conditions: those that each theorem names.
-/
import Derived.Test.YtejpjibhpjgcjaaT5
namespace Go.Proofs.Ytejpjibhpjgcjaa
open Go.RowKit Go.Sort

def RlLoop (B : Nat) (w : World) (t bp bw r : Nat) (txn : Int) (wt : List (Int × Int × Int)) (m : Tab) (v : Value) (wr : World) : Prop :=
  ∃ pgc rl n, n ≤ 256 ∧ v = .int .i64 (n : Nat) ∧ RelSt B wr t bp bw r txn wt m pgc rl n ∧ Fr B tagT w wr ∧ w.heap.size ≤ r

theorem pv_mem {rl : Pages} {k : Int} {v : Value} (h : (k, v) ∈ pv rl) : ∃ b l, v = .map (some b) ∧ (k, b, l) ∈ rl := by
  obtain ⟨⟨a, b, c⟩, h1, h2⟩ := List.mem_map.1 h
  simp only [Prod.mk.injEq] at h2
  obtain ⟨rfl, rfl⟩ := h2
  exact ⟨b, c, rfl, h1⟩
theorem wv_del (l : List (Int × Int × Int)) (k : Int) : del (wv l) k = wv (del l k) := by
  unfold del wv
  rw [List.filter_map]
  rfl
theorem delP_len {rl : Pages} {x : Int × Nat × List (Int × Int)} (h : x ∈ rl) : (delP rl x.1).length < rl.length := by
  unfold delP
  exact List.length_filter_lt_length_iff_exists.2 ⟨x, h, by simp⟩
/-- behind the loop: the count is written -/
theorem RelSt.done {B : Nat} {wr : World} {t bp bw r n : Nat} {txn : Int} {wt : List (Int × Int × Int)} {m : Tab} {pgc : Pages} (h : RelSt B wr t bp bw r txn wt m pgc [] n) (hB : B ≤ t ∧ B ≤ bp ∧ B ≤ bw ∧ bp ≠ bw)
    (hw : ∀ tx p md, (tx, p, md) ∈ wt ↔ (⟨tx, p, md⟩ : Lk) ∈ m.waits) :
    n = (m.locks.filter (fun l => l.txn == txn)).length ∧ TRep B (wr.setCell ⟨t, 2, none⟩ (.int .i64 ((m.locks.length : Int) - (n : Int)))) t (release m txn).2 := by
  have hc := h.count
  rw [cnt_nil, Nat.add_zero] at hc
  refine ⟨hc, bp, bw, pgc, del wt txn, ?_⟩
  have hkeep : ∀ b kv, IM wr b kv → IM (wr.setCell ⟨t, 2, none⟩ (.int .i64 ((m.locks.length : Int) - (n : Int)))) b kv := fun b kv hb =>
    hb.keep (Below.heap_setCell _ _ _ _ (fun e => im_ne_blk h.blk hb e.symm))
  have hcnt : ((m.locks.filter (fun l => l.txn != txn)).length : Int) = (m.locks.length : Int) - (n : Int) := by
    have := count_forget m.locks txn
    unfold forget at this
    omega
  refine ⟨hB.1, ?_, hB.2.1, hB.2.2.1, hB.2.2.2, hkeep _ _ h.it.im, hkeep _ _ h.waits, fun x hx => ?_, h.nodup, fun p tx md => ?_, fun tx p md => ?_⟩
  · have := heap_set_same (i := 2) h.blk (.int .i64 ((m.locks.length : Int) - (n : Int)))
    rw [this]
    simp only [release, hcnt]
    simp
  · obtain ⟨a1, a2, a3, a4, a5⟩ := h.inner x hx
    exact ⟨a1, a2, a3, hkeep _ _ a5⟩
  · rw [h.locks]
    simp only [release, List.mem_filter, bne_iff_ne, ne_eq]
    constructor
    · rintro ⟨h1, h2⟩
      exact ⟨h1, fun e => by have := h2 e; simp [rlHas] at this⟩
    · rintro ⟨h1, h2⟩
      exact ⟨h1, fun e => absurd e h2⟩
  · rw [mem_del, hw]
    simp only [release, forget, List.mem_filter, bne_iff_ne, ne_eq]

set_option maxRecDepth 100000 in
set_option maxHeartbeats 4000000 in
theorem release_c (B t : Nat) (m : Tab) (w : World) (vd : Valid m) (h : TRep B w t m) (txn : Int) :
    Calls Try.prog 6 #[.pointer (some ⟨t, 0, none⟩), .int .i64 txn] w fun e w' => e = .returned (.int .i64 (release m txn).1) ∧ TRep B w' t (release m txn).2 ∧ Fr B tagT w w' := by
  obtain ⟨bp, bw, pg, wt, h⟩ := h
  have hc0 : w.cell? ⟨t, 0, none⟩ = some (.map (some bp)) := by rw [cell_blk h.blk]; rfl
  have hc1 : w.cell? ⟨t, 1, none⟩ = some (.map (some bw)) := by rw [cell_blk h.blk]; rfl
  have hsz := vd.size
  -- the wait goes
  have hdel : ∀ ty, ∃ w', (Builtin.delete_ #[46, 3] ty #[.map (some bw), .int .i64 txn]).run Try.prog w = .ok (.tuple #[]) w' ∧ IM w' bw (del (wv wt) txn) ∧ w.grownBy w' (some bw) ∧ w'.heap.size = w.heap.size := fun ty => run_delete_im' Try.underlying46 Try.underlying3 h.waits txn ty 3
  obtain ⟨w1, hd1, him1, hg1, hs1⟩ := hdel 0
  have hd1' : ∀ ty, (Builtin.delete_ #[46, 3] ty #[.map (some bw), .int .i64 txn]).run Try.prog w = .ok (.tuple #[]) w1 := fun _ => hd1
  rw [wv_del] at him1
  have hblk1 : w1.heap[t]? = some (.cells #[.map (some bp), .map (some bw), .int .i64 m.locks.length] 48 (0, 0)) := (hg1.block t (lt_of_heap h.blk) (fun e => im_ne_blk h.blk h.waits (by injection e))).trans h.blk
  have hfr1 : Fr B tagT w w1 := (Fr.refl _ _ _).stepIM h.waits h.b2 hg1
  have hin1 : ∀ x ∈ pg, B ≤ x.2.1 ∧ x.2.1 ≠ bp ∧ x.2.1 ≠ bw ∧ IM w1 x.2.1 (hv x.2.2) := fun x hx => by
    obtain ⟨a1, a2, a3, a4⟩ := h.inner x hx
    exact ⟨a1, a2, a3, a4.grown hg1 (fun e => a3 (by injection e))⟩
  have hp1 : IM w1 bp (pv pg) := h.pages.grown hg1 (fun e => h.ne (by injection e))
  -- the range begins
  obtain ⟨w2, hr2, hit2, hg2, hsz2⟩ := run_range_im (P := Try.prog) Try.underlying45 hp1
  have hrr := hit2.lt
  generalize hr : w1.heap.size = r at *
  have hblk2 : w2.heap[t]? = some (.cells #[.map (some bp), .map (some bw), .int .i64 m.locks.length] 48 (0, 0)) := (hg2.block t (lt_of_heap hblk1) (by simp)).trans hblk1
  have hst0 : RelSt B w2 t bp bw r txn wt m pg pg 0 := by
    refine ⟨hblk2, hit2, him1.grown hg2 (by simp), fun x hx => ?_, h.nodup, fun _ h => h, fun p tx md => ?_, ?_⟩
    · obtain ⟨a1, a2, a3, a4⟩ := hin1 x hx
      exact ⟨a1, a2, a3, by have := a4.lt; omega, a4.grown hg2 (by simp)⟩
    · rw [h.locks]
      constructor
      · intro hm
        refine ⟨hm, fun e => ?_⟩
        obtain ⟨x, hx, hxp, _⟩ := (h.locks p tx md).2 hm
        unfold rlHas; rw [List.any_eq_true]; exact ⟨x, hx, by simp [hxp]⟩
      · exact fun hm => hm.1
    · rw [Nat.zero_add]
      unfold cntOf
      congr 1
      refine List.filter_congr fun l hl => ?_
      by_cases ht : l.txn = txn
      · obtain ⟨x, hx, hxp, _⟩ := (h.locks l.page l.txn l.mode).2 hl
        have : rlHas pg l.page = true := by unfold rlHas; rw [List.any_eq_true]; exact ⟨x, hx, by simp [hxp]⟩
        simp [this]
      · have : (l.txn == txn) = false := by rw [beq_eq_false_iff_ne]; exact ht
        rw [this]; rfl
  have hfr2 : Fr B tagT w w2 := hfr1.step hg2 (by simp)
  have hst0' := Lib.hid hst0
  have hc1' : w1.cell? ⟨t, 0, none⟩ = some (.map (some bp)) := by rw [cell_blk hblk1]; rfl
  have hBs : Hid (B ≤ t ∧ B ≤ bp ∧ B ≤ bw ∧ bp ≠ bw) := ⟨h.b0, h.b1, h.b2, h.ne⟩
  have hwt := Lib.hid h.wait
  have hrw : w.heap.size ≤ r := by rw [← hr]; exact hg1.size
  clear h hd1 him1 hg1 hs1 hblk1 hfr1 hin1 hp1 hit2 hg2 hsz2 hblk2 hst0 hc0 hdel hr
  go_enter Try.func6, Try.ntmps6
  go_wp2_with (at_delete; refine wpList_del rfl _ _ _ _ rfl rfl rfl hd1' ?_)
  go_loopw [5] (RlLoop B w t bp bw r txn wt m) (fun _ wr => restCount wr r bp)
  case atStart => exact ⟨pg, pg, 0, by omega, rfl, hst0'.out, hfr2, hrw⟩
  case round =>
    obtain ⟨pgc, rl, n, hn, rfl, hst, hfr, _⟩ := hrel
    have hcount := Lib.hid hst.it.count
    have hct : wr.cell? ⟨t, 0, none⟩ = some (.map (some bp)) := by rw [cell_blk hst.blk]; rfl
    have hct2 : wr.cell? ⟨t, 2, none⟩ = some (.int .i64 m.locks.length) := by rw [cell_blk hst.blk]; rfl
    have hcf : wr.frozen? ⟨t, 2, none⟩ = false := by simp [World.frozen?, hst.blk]
    have htot : (m.locks.filter (fun l => l.txn == txn)).length ≤ 256 := Nat.le_trans (List.length_filter_le _ _) hsz
    rcases run_next_im (P := Try.prog) hst.it 0 with ⟨h0, hrun⟩ | ⟨k, v, w3, hkm, hrun, hit3, hg3, hsz3, hen⟩
    · have hrun' : ∀ ty, (Instr.next (.pointer (some ⟨r, 0, none⟩)) false ty).run Try.prog wr = .ok (.tuple #[.bool false]) wr := fun _ => hrun
      have hrl : rl = [] := by simpa [pv] using h0
      subst hrl
      have hdone := Lib.hid (hst.done hBs.out hwt.out)
      have hfrE := Lib.hid (hfr.setCell (p := ⟨t, 2, none⟩) (.inr ⟨hBs.out.1, fun o ho => by
        cases hso : tagT o with
        | true => rfl
        | false =>
          have h1 := hfr.keep t o ho (.inr hso)
          rw [hst.blk] at h1; cases h1
          cases hso⟩) (.int .i64 ((m.locks.length : Int) - (n : Int))))
      clear hst hrun h0 hcount hst0'
      go_wp2_with fail
      go_ret
      refine ⟨?_, hdone.out.2, hfrE.out⟩
      have := hdone.out.1
      simp [release, this]
    · have hrun' : ∀ ty, (Instr.next (.pointer (some ⟨r, 0, none⟩)) false ty).run Try.prog wr = .ok (.tuple #[.bool true, .int .i64 k, v]) w3 := fun _ => hrun
      obtain ⟨b, l, rfl, hkl⟩ := pv_mem hkm
      rw [pv_del] at hit3
      obtain ⟨hb3, hw3, hi3⟩ := hst.stepped hg3
      obtain ⟨a1, a2, a3, a4, a5⟩ := hi3 _ (hst.sub _ hkl)
      dsimp only at a1 a2 a3 a4 a5
      have hcnt3 := Lib.hid hit3.count
      have hlt3 : (pv (delP rl k)).length < (pv rl).length := by simp only [pv, List.length_map]; exact delP_len hkl
      have hfr3 : Fr B tagT w w3 := hfr.step hg3 (fun j hj => by injection hj with hj; subst hj; exact .inl hrw)
      have r1 := run_lookup_im Try.underlying49 Try.underlying3 (z3 w3) a5 txn
      have hln : (l.map (·.1)).Nodup := by rw [← hv_keys]; exact a5.nodup
      have hvl : assoc (hv l) txn = (assoc l txn).map (fun x => Value.int .i64 x) := assoc_map (fun x : Int => Value.int .i64 x) l txn
      have hct3 : w3.cell? ⟨t, 0, none⟩ = some (.map (some bp)) := by rw [cell_blk hb3]; rfl
      rw [hvl] at r1
      cases ha : assoc l txn with
      | none =>
        rw [ha] at r1
        simp only [Option.map_none, Option.getD_none] at r1
        have hst3 := Lib.hid (hst.skip hkl (fun md => assoc_none ha md) hg3 hit3)
        clear hst hrun hit3 hg3 hsz3 hkm hb3 hw3 hi3 a5 hvl ha hct hct2 hcf
        go_wp2_with fail
        go_roundw
        case rel => exact ⟨pgc, _, n, hn, by go_num, hst3.out, hfr3, hrw⟩
        case measure => rw [hcnt3.out, hcount.out]; exact hlt3
      | some md =>
        rw [ha] at r1
        simp only [Option.map_some, Option.getD_some] at r1
        have hin := assoc_mem ha
        have hmd : md ≠ 0 := by
          have hlk := ((hst.locks k txn md).1 ⟨_, hst.sub _ hkl, rfl, hin⟩).1
          have := vd.modes _ hlk
          simp at this; omega
        have hmd1 : (md == 0) = false := by simpa using hmd
        obtain ⟨w4, hd4, him4, hg4, hsz4⟩ := run_delete_im' (P := Try.prog) Try.underlying49 Try.underlying3 a5 txn 0 3
        have hd4' : ∀ ty, (Builtin.delete_ #[49, 3] ty #[.map (some b), .int .i64 txn]).run Try.prog w3 = .ok (.tuple #[]) w4 := fun _ => hd4
        rw [hv_del] at him4
        have hst4 := hst.keep vd hkl hin hg3 hit3 hg4 him4
        have hfr4 : Fr B tagT w w4 := hfr3.stepIM a5 a1 hg4
        have hct4 : w4.cell? ⟨t, 0, none⟩ = some (.map (some bp)) := by rw [cell_blk hst4.blk]; rfl
        have hlen4 : ∀ ty, (Builtin.len_ #[49] ty #[.map (some b)]).run Try.prog w4 = .ok (.int .i64 ((del l txn).length : Nat)) w4 := fun ty => by
          have := run_len_im (P := Try.prog) Try.underlying49 him4 ty
          simpa [hv] using this
        have hcnt4 := Lib.hid hst4.it.count
        have hn1 : n + 1 ≤ 256 := by have := hst4.count; omega
        by_cases hemp : del l txn = []
        · rw [hemp] at hlen4 hst4
          have hpin := (mem_replace (l' := []) (hst.sub _ hkl)).2 (.inl rfl)
          have hnr : rlHas (delP rl k) k = false := by rw [rlHas_del]; simp
          obtain ⟨w5, hd5, hit5, hg5, hsz5⟩ := run_delete_it (P := Try.prog) Try.underlying45 Try.underlying3 hst4.it k 0 3
          have hd5' : ∀ ty, (Builtin.delete_ #[45, 3] ty #[.map (some bp), .int .i64 k]).run Try.prog w4 = .ok (.tuple #[]) w5 := fun _ => hd5
          have hdd : del (pv (delP rl k)) k = pv (delP rl k) := by
            rw [pv_del]
            congr 1
            unfold delP
            rw [List.filter_filter]
            refine List.filter_congr fun x _ => by simp
          rw [hdd, pv_del] at hit5
          have hst5 := Lib.hid (hst4.drop hpin hnr hg5 hit5)
          have hfr5 : Fr B tagT w w5 := hfr4.stepIM hst4.it.im hBs.out.2.1 hg5
          have hcnt5 := Lib.hid hit5.count
          simp only [List.length_nil] at hlen4
          clear hst hrun hit3 hg3 hsz3 hkm hb3 hw3 hi3 a5 hvl ha hct hct2 hcf hst4 hd4 him4 hg4 hsz4 hemp hpin hnr hd5 hit5 hg5 hsz5 hdd hct3 hcnt4 hin
          go_wp2_with (first
            | (at_delete; refine wpList_del rfl (.tmp 31) _ _ _ rfl rfl rfl hd4' ?_)
            | (at_len; refine wpList_len rfl _ _ rfl rfl hlen4 ?_)
            | (at_delete; refine wpList_del rfl (.tmp 39) _ _ _ rfl rfl rfl hd5' ?_))
          go_frame
          go_roundw
          case rel => exact ⟨_, _, n + 1, hn1, by go_num, hst5.out, hfr5, hrw⟩
          case measure => rw [hcnt5.out, hcount.out]; exact hlt3
        · have hst4' := Lib.hid hst4
          have hpos : 0 < (del l txn).length := List.length_pos_iff.2 hemp
          have hpos2 : (((del l txn).length : Int) == 0) = false := by rw [beq_eq_false_iff_ne]; omega
          clear hst hrun hit3 hg3 hsz3 hkm hb3 hw3 hi3 a5 hvl ha hct hct2 hcf hst4 hd4 him4 hg4 hsz4 hemp hct3 hin
          go_wp2_with (first
            | (at_delete; refine wpList_del rfl (.tmp 31) _ _ _ rfl rfl rfl hd4' ?_)
            | (at_len; refine wpList_len rfl _ _ rfl rfl hlen4 ?_))
          go_roundw
          case rel => exact ⟨_, _, n + 1, hn1, by go_num, hst4'.out, hfr4, hrw⟩
          case measure => rw [hcnt4.out, hcount.out]; exact hlt3
end Go.Proofs.Ytejpjibhpjgcjaa
