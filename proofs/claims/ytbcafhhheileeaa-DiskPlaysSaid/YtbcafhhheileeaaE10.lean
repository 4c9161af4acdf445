/-
  Part of the proofs of DiskPlays, SlotPlays: the document's device, New, walked.
  Conditions: those that each theorem names.
-/
import Derived.Test.YtbcafhhheileeaaE9
namespace Go.Proofs.Ytbcafhhheileeaa
open Go.RowKit
set_option maxRecDepth 100000

theorem E48 : ElemOk Try.prog 48 4 1 1 := ⟨Try.underlying48, ⟨.bool false, by kernel_rfl, rfl⟩, by omega, by omega⟩
theorem rnew_bad (n : Int) (w : World) (h : n < 1 ∨ 4096 < n) :
    Calls Try.prog 13 #[.int .i64 n] w fun e w' => e = .returned (.tuple #[.pointer none, .int .i64 1]) ∧ w = w' := by
  by_cases h1 : n < 1
  · go_enter Try.func13, Try.ntmps13
    go_wp2
    go_ret2
    exact ⟨rfl, rfl⟩
  · have h2 : 4096 < n := by omega
    go_enter Try.func13, Try.ntmps13
    go_wp2
    go_ret2
    exact ⟨rfl, rfl⟩
def RnRel (n : Int) (w : World) (g : Nat) (i : Value) (wr : World) : Prop :=
  ∃ k : Nat, (k : Int) ≤ n ∧ i = .int .i64 k ∧ (∃ vN vS vC, RNst w.heap.size wr g vN vS vC k k k) ∧ Below w.heap.size w wr

theorem kp_below' {X : Nat → Prop} {B : Nat} {w0 w w' : World} (h : Below B w0 w) (hk : Kp X w w') (hx : ∀ b, X b → B ≤ b) (hB : B ≤ w.heap.size) : Below B w0 w' := h.trans (hk.below hx hB)
theorem RNst.cells {B : Nat} {w : World} {g : Nat} {vN vS vC : Value} {kN kS kC : Nat} (h : RNst B w g vN vS vC kN kS kC) : w.cell? ⟨g, 0, none⟩ = some vN ∧ w.cell? ⟨g, 1, none⟩ = some vS ∧ w.cell? ⟨g, 2, none⟩ = some vC ∧ ∀ i, w.frozen? ⟨g, i, none⟩ = false := by
  refine ⟨?_, ?_, ?_, fun i => by simp [World.frozen?, h.blk]⟩ <;> rw [cell_blk h.blk] <;> rfl

set_option maxHeartbeats 4000000 in
theorem rnew_c (n : Int) (w : World) (hn : 1 ≤ n ∧ n ≤ 4096) :
    Calls Try.prog 13 #[.int .i64 n] w fun e w' => ∃ f : Foot, e = .returned (.tuple #[.pointer (some ⟨f.g, 0, none⟩), .int .i64 0]) ∧ RAt w.heap.size w' f (dev0 n) ∧ Below w.heap.size w w' := by
  have h1 : ¬ n < 1 := by omega
  have h2 : ¬ 4096 < n := by omega
  have hal : Below w.heap.size w (w.alloc (.cells (devCells (.slice none 0 0) (.slice none 0 0) (.slice none 0 0)) 50)) := (Below.refl _ _).alloc (Nat.le_refl _) _
  have h0 : Hid (RnRel n w w.heap.size (.int .i64 0) (w.alloc (.cells (devCells (.slice none 0 0) (.slice none 0 0) (.slice none 0 0)) 50))) :=
    ⟨0, by omega, rfl, ⟨.slice none 0 0, .slice none 0 0, .slice none 0 0, Nat.le_refl _, (MapKept.heap_alloc w _).1, ⟨[], World.ownsRow_nil _ _ _ _, by simp⟩, ⟨[], World.ownsRow_nil _ _ _ _, by simp⟩, World.ownsRow_nil _ _ _ _, fun b hb => by cases hb⟩, hal⟩
  clear hal
  unfold devCells at h0
  go_enter Try.func13, Try.ntmps13
  go_wp2
  go_loopw [5] (RnRel n w w.heap.size) (fun i _ => n.toNat - (intOf i).toNat)
  case atStart => exact h0.out
  case round =>
    clear h0
    obtain ⟨k, hk, rfl, ⟨vN, vS, vC, hst⟩, hbel⟩ := hrel
    have hstH := Lib.hid hst
    have hbelH := Lib.hid hbel
    clear hst hbel
    by_cases hlt : (k : Int) < n
    · obtain ⟨vs1, hn1, hn2⟩ := hstH.out.n
      obtain ⟨c0, c1, c2, cf⟩ := hstH.out.cells
      have hgl := lt_of_heap hstH.out.blk
      have hw := hbelH.out.size
      obtain ⟨g1, _, _⟩ := hstH.out.g_ne
      have hn1H := Lib.hid hn1
      have hn2H := Lib.hid hn2
      have c0H := Lib.hid c0
      have cfH := Lib.hid cf
      have g1H := Lib.hid g1
      clear hn1 hn2 c0 c1 c2 cf g1
      go_wp2
      refine regionRN7 wr.heap.size w.heap.size k vN vs1 w.heap.size wr rfl rfl rfl hgl hw (Below.refl _ _) c0H.out (cfH.out 0) hn1H.out g1H.out (by omega) ?_
      intro u W0 v b A c hv hg hown hby hbS hvg hor
      obtain ⟨hst1, hkp1⟩ := hstH.out.stepN hw hn1H.out hn2H.out hg hown hby hbS hvg hor
      have hB1 : Below w.heap.size w (W0.setCell ⟨w.heap.size, 0, none⟩ v) := kp_below' hbelH.out hkp1 (fun x hx => by
        rcases hx with rfl | hx
        · exact Nat.le_refl _
        · exact (hn1H.out.lt x hx).1) hw
      have hw1 := hB1.size
      generalize W0.setCell ⟨w.heap.size, 0, none⟩ v = w1 at *
      have hst1H := Lib.hid hst1
      have hB1H := Lib.hid hB1
      clear hst1 hkp1 hB1 hv hg hown hby hbS hvg hor c0H cfH g1H hn1H hn2H hstH hbelH
      obtain ⟨vs2, hs1, hs2⟩ := hst1H.out.s
      obtain ⟨c0, c1, c2, cf⟩ := hst1H.out.cells
      have hgl1 := lt_of_heap hst1H.out.blk
      obtain ⟨_, g2, _⟩ := hst1H.out.g_ne
      have hs1H := Lib.hid hs1
      have hs2H := Lib.hid hs2
      have c1H := Lib.hid c1
      have cfH := Lib.hid cf
      have g2H := Lib.hid g2
      clear hs1 hs2 c0 c1 c2 cf g2
      simp only [putAll, putOne, opsRN7, List.foldl, Act.put]
      go_frame
      go_wp2
      refine regionRN8 w1.heap.size w.heap.size k vS vs2 w.heap.size w1 rfl rfl rfl hgl1 hw1 (Below.refl _ _) c1H.out (cfH.out 1) hs1H.out g2H.out (by omega) ?_
      intro u2 W2 v2 b2 A2 cc2 hv2 hg2 hown2 hby2 hbS2 hvg2 hor2
      obtain ⟨hst2, hkp2⟩ := hst1H.out.stepS hw1 hs1H.out hs2H.out hg2 hown2 hby2 hbS2 hvg2 hor2
      have hB2 : Below w.heap.size w (W2.setCell ⟨w.heap.size, 1, none⟩ v2) := kp_below' hB1H.out hkp2 (fun x hx => by
        rcases hx with rfl | hx
        · exact Nat.le_refl _
        · exact (hs1H.out.lt x hx).1) hw1
      have hw2 := hB2.size
      generalize W2.setCell ⟨w.heap.size, 1, none⟩ v2 = w2 at *
      have hst2H := Lib.hid hst2
      have hB2H := Lib.hid hB2
      clear hst2 hkp2 hB2 hv2 hg2 hown2 hby2 hbS2 hvg2 hor2 c1H cfH g2H hs1H hs2H hst1H hB1H
      have hC := hst2H.out.c
      have hCH := Lib.hid hC
      obtain ⟨-, -, c2, cf⟩ := hst2H.out.cells
      obtain ⟨AC, cC, rfl⟩ := own_form hC
      have cf2 := cf 2
      clear hC cf
      have hkk : k + 1 ≤ 4097 := by omega
      simp only [putAll, putOne, opsRN8, List.foldl, Act.put]
      go_frame
      go_wp2_with (at_builtin; refine wpList_app1x w2 rfl _ _ _ rfl E48 rfl hCH.out rfl rfl (by simp; rfl) (by omega) hw2 ?_; intro A3 c3 w3 hown3 hg3 hor3; obtain ⟨hblk3, hst3, hkp3⟩ := hst2H.out.stepC hg3 hown3 hor3; have hst3H := Lib.hid hst3; have hkp3H := Lib.hid hkp3; clear hst3 hkp3 hg3 hown3 hor3; have d2 : w3.cell? ⟨w.heap.size, 2, none⟩ = some (.slice AC k cC) := (by rw [cell_blk hblk3]; rfl); have df2 : w3.frozen? ⟨w.heap.size, 2, none⟩ = false := (by simp [World.frozen?, hblk3]); clear hblk3)
      have hend : Hid (RnRel n w w.heap.size (.int .i64 ((k : Int) + 1)) (w3.setCell ⟨w.heap.size, 2, none⟩ (.slice A3 (k + 1) c3))) :=
        ⟨k + 1, by omega, by go_num, ⟨_, _, _, hst3H.out⟩, kp_below' hB2H.out hkp3H.out (fun x hx => by
          rcases hx with rfl | hx
          · exact Nat.le_refl _
          · exact (hCH.out.lt x hx).1) hw2⟩
      exact ⟨hend.out, by simp [intOf]; omega⟩
    · obtain rfl : n = (k : Int) := by omega
      have hd : Hid (∃ f : Foot, f.g = w.heap.size ∧ RAt w.heap.size wr f (dev0 (k : Int))) := by
        have h3 := hstH.out
        exact RNst.done (n := (k : Int)) (by simpa using h3) (by omega)
      clear hstH hlt
      go_wp2
      go_ret2
      obtain ⟨f, hf, hr⟩ := hd.out
      exact ⟨f, by rw [hf]; rfl, hr, hbelH.out⟩
end Go.Proofs.Ytbcafhhheileeaa
