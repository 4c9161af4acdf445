/-
  DiskPlays, walked: true, and nothing older has turned.
  Conditions: those that each theorem names.
-/
import Derived.Test.YtbcafhhheileeaaE19
namespace Go.Proofs.Ytbcafhhheileeaa
open Go.RowKit
set_option maxRecDepth 100000

theorem RAt.monoB {B B' : Nat} {w : World} {f : Foot} {D : Dev} (h : RAt B w f D) (hB : B' ≤ B) : RAt B' w f D := by
  have sec : ∀ {x : Option Nat} {b c n : Nat} {g : Int → List Int}, Sec B w x b c n g → Sec B' w x b c n g := fun hs => by
    obtain ⟨vs, h1, h2⟩ := hs
    refine ⟨vs, h1.mono hB, fun i hi => ?_⟩
    obtain ⟨v, hv, ho, hn⟩ := h2 i hi
    exact ⟨v, hv, ho.mono hB, hn⟩
  exact ⟨Nat.le_trans hB h.b0, h.blk, sec h.now, sec h.syn, h.chg.mono hB, h.ne⟩
theorem lo_dev0 (n : Int) : LOk 0 (dev0 n) := ⟨by show (-0 : Int) ≤ 0; omega, by show (0 : Int) ≤ _; omega⟩
theorem dplay_size (D : Dev) (o : OpS) : (dplay D o).size = D.size := by
  have hs := (step_facts D).1
  have hw : ∀ a b, (dwrite D a b).2.size = D.size := fun a b => by
    unfold dwrite
    split
    · rfl
    split
    · rfl
    split
    · exact hs
    · exact hs
  unfold dplay
  split
  · exact hw _ _
  split
  · exact hw _ _
  split
  · rfl
  split
  · unfold dsync
    split
    · exact hs
    · exact hs
  split
  · unfold darm
    split <;> rfl
  · rfl
structure PlsSt (B d : Nat) (f : Foot) (size : Int) (k : Nat) (D : Dev) (w wr : World) : Prop where
  sz : D.size = size
  dr : DRep B wr d D
  ra : RAt B wr f D
  ok : DOk k D
  lo : LOk k D
  bel : Below B w wr
def PlsRel (B d : Nat) (f : Foot) (size : Int) (n : Nat) (w : World) (i : Value) (wr : World) : Prop := ∃ (k : Nat) (D : Dev), k ≤ n ∧ i = .int .i64 k ∧ PlsSt B d f size k D w wr
def FinRel (B d : Nat) (f : Foot) (D : Dev) (n : Nat) (w : World) (i : Value) (wr : World) : Prop := ∃ k : Nat, k ≤ n ∧ k ≤ 64 ∧ i = .int .i64 k ∧ DRep B wr d D ∧ RAt B wr f D ∧ Below B w wr
/-- a call of the script may be played -/
theorem ScrD.playIn {B d : Nat} {f : Foot} {D : Dev} {M : Int} {w W : World} {v : Value} {xs : List OpS} (h : ScrD w v xs) (hs : small xs) (hB : B = w.heap.size) (o : OpS) (ho : o ∈ xs) (hb : Below B w W) (hd : DRep B W d D) (hr : RAt B W f D) (hok : DOk M D) (hlo : LOk M D) (hM : M ≤ 900000000) (hx : f.x = none) : PlayIn B d f D M o W := by
  obtain ⟨r1, r2, _⟩ := h.each o ho
  obtain ⟨s1, s2⟩ := hs.2 o ho
  have blk : ∀ {v : Value} {n : Nat} {ys : List Value}, RdV w 1 v n ys → ∀ b, v.ownBlock = some b → n ≠ 0 → b < B := fun hr b hb hn => by
    obtain ⟨_, A, c, rfl, _, h3⟩ := hr
    rcases h3 with h3 | ⟨b', o', rfl, h4, _⟩
    · exact absurd h3 hn
    · injection hb with hb
      subst hb
      rw [hB]; exact h4
  subst hB
  exact ⟨hd, hr, hok, hlo, hM, hb.size, RdV.below r1 hb, RdV.below r2 hb, blk r1, blk r2, s1, s2, hx⟩

set_option maxHeartbeats 8000000 in
theorem plays_c (size : Int) (v : Value) (xs : List OpS) (w : World) (h : ScrD w v xs) :
    Calls Try.prog 4 #[.int .i64 size, v] w fun e w' => e = .returned (.bool true) ∧ Below w.heap.size w w' := by
  obtain ⟨A, c, rfl⟩ := h.form
  have hH := Lib.hid h
  clear h
  by_cases hb : size < 1 ∨ 4096 < size
  · have hbH := Lib.hid hb
    clear hb
    go_enter Try.func4, Try.ntmps4
    go_wp2_with (first
      | (go_at_call 6; refine (alive_c w).mono ?_; rintro e w1 ⟨rfl, hb1⟩; have hb1H := Lib.hid hb1; clear hb1)
      | (go_at_call 7; refine (new_bad size w1 hbH.out).mono ?_; rintro e w2 ⟨rfl, rfl⟩)
      | (go_at_call 13; refine (rnew_bad size w1 hbH.out).mono ?_; rintro e w2 ⟨rfl, rfl⟩)
      | (go_at_call 14; refine (num_c 1 w1).mono ?_; rintro e w2 ⟨rfl, rfl⟩))
    go_ret
    exact ⟨rfl, hb1H.out⟩
  · have hsz : Hid (1 ≤ size ∧ size ≤ 4096) := by show _ ∧ _; omega
    clear hb
    go_enter Try.func4, Try.ntmps4
    go_wp2_with (first
      | (go_at_call 6; refine (alive_c w).mono ?_; rintro e w1 ⟨rfl, hb1⟩; have hb1H := Lib.hid hb1; clear hb1)
      | (go_at_call 7; refine (new_c size w1 w.heap.size hb1H.out.size hsz.out).mono ?_; rintro e w2 ⟨d, rfl, hd2, hb2⟩; have hd2H := Lib.hid hd2; have hb2H := Lib.hid (hb1H.out.trans (hb2.mono hb1H.out.size)); clear hd2 hb2)
      | (go_at_call 13; refine (rnew_c size w2 hsz.out).mono ?_; rintro e w3 ⟨f0, rfl, hr3, hb3⟩; have hr3H := Lib.hid (RAt.monoB hr3 hb2H.out.size); have hd3H := Lib.hid (hd2H.out.below hb3); have hb3H := Lib.hid (hb2H.out.trans (hb3.mono hb2H.out.size)); clear hr3 hb3)
      | (go_at_call 14; refine (num_c 0 w3).mono ?_; rintro e w4 ⟨rfl, rfl⟩))
    have hscr3 := Lib.hid (hH.out.below hb3H.out)
    go_at_call 15
    refine (long_c _ xs w3 hscr3.out).mono ?_
    rintro e w4 ⟨b, rfl, hsm, hb4⟩
    have hb4H := Lib.hid (hb3H.out.trans (hb4.mono hb3H.out.size))
    have hr4 := Lib.hid (hr3H.out.noX.below hb4)
    have hd4 := Lib.hid (hd3H.out.below hb4)
    have hsmH := Lib.hid hsm
    obtain ⟨f, hf⟩ : ∃ f : Foot, f = { f0 with x := none } := ⟨_, rfl⟩
    have hfg : f0.g = f.g := by rw [hf]
    have hfx : Hid (f.x = none) := by show _ = _; rw [hf]
    rw [← hf] at hr4
    rw [hfg]
    clear hb4 hsm hr3H hd3H hd2H hb2H hb3H hb1H hscr3 hf hfg
    cases b with
    | true =>
      go_wp2_with (go_at_call 14; refine (num_c 0 w4).mono ?_; rintro e w5 ⟨rfl, rfl⟩)
      go_ret
      exact ⟨rfl, hb4H.out⟩
    | false =>
      have hsm := Lib.hid (hsmH.out rfl)
      have hlen := hsm.out.1
      have h0 : Hid (PlsRel w.heap.size d f size xs.length w (.int .i64 0) w4) := ⟨0, dev0 size, Nat.zero_le _, rfl, rfl, hd4.out, hr4.out, ok_dev0 size hsz.out, lo_dev0 size, hb4H.out⟩
      clear hsmH hr4 hd4
      go_wp2
      go_loopw [51] (PlsRel w.heap.size d f size xs.length w) (fun i _ => xs.length - (intOf i).toNat)
      case atStart => exact h0.out
      case round =>
        clear h0
        obtain ⟨k, D, hk, rfl, hst⟩ := hrel
        have hstH := Lib.hid hst
        clear hst
        by_cases hlt : k < xs.length
        · have hh := hH.out.below hstH.out.bel
          obtain ⟨bb, o, c', hv, d1, d2, d3, d4, d5⟩ := hh.cells k hlt
          injection hv with e1 _ e3
          subst e1 e3
          have hmem : Hid (xs[k] ∈ xs) := List.getElem_mem hlt
          obtain ⟨r1, r2, _⟩ := hH.out.each _ hmem.out
          have hnk := Lib.hid ((hH.out.each _ hmem.out).2.2.2.2)
          obtain ⟨A1, c1, hv1⟩ := RdB.any r1
          obtain ⟨A2, c2, hv2, -⟩ := RdI.form r2
          have hx : ∃ p, xs[k] = p := ⟨_, rfl⟩
          obtain ⟨p, hx⟩ := hx
          rw [hx] at d1 d2 d3 d4 d5 hv1 hv2 hmem hnk
          have hop : Hid (opVals p = #[.int .i64 p.kind, .int .i64 p.at_, .int .i64 p.n, .slice A1 p.bytes.length c1, .slice A2 p.keep.length c2]) := by show _ = _; rw [opV_eq, hv1, hv2]
          rw [hv1] at d4
          rw [hv2] at d5
          have hbw := hstH.out.bel.size
          clear hh r1 r2 hx hv1 hv2
          have hwI := hstH.out.bel
          go_wp2
          have hW1 : Below wr.heap.size wr (wr.alloc (.cells #[.int .i64 p.kind, .int .i64 p.at_, .int .i64 p.n, .slice A1 p.bytes.length c1, .slice A2 p.keep.length c2] 45)) := (Below.refl _ _).alloc (Nat.le_refl _) _
          have hob : (wr.alloc (.cells #[.int .i64 p.kind, .int .i64 p.at_, .int .i64 p.n, .slice A1 p.bytes.length c1, .slice A2 p.keep.length c2] 45)).heap[wr.heap.size]? = some (.cells (opVals p) 45 (0, 0)) := by
            rw [hop.out]
            exact (MapKept.heap_alloc wr _).1
          have hok' := Lib.hid (ok_play hstH.out.ok p hnk.out)
          have hlo' := Lib.hid (lo_play hstH.out.lo (by omega) p hnk.out)
          have hwI2 : Below w.heap.size w (wr.alloc (.cells #[.int .i64 p.kind, .int .i64 p.at_, .int .i64 p.n, .slice A1 p.bytes.length c1, .slice A2 p.keep.length c2] 45)) := hwI.trans (hW1.mono hbw)
          refine regionD10 d wr.heap.size f p (dplay D p) w.heap.size D k _ rfl rfl rfl rfl rfl hok'.out (fun W hW hd hr => hH.out.playIn hsm.out rfl p hmem.out (hwI2.trans hW) hd hr hstH.out.ok hstH.out.lo (by omega) hfx.out)
            ⟨⟨hstH.out.dr.below hW1, hstH.out.ra.below hW1⟩, fun _ => hob, Below.refl _ _, Nat.le_trans hbw hW1.size⟩ ?_
          intro u w5 hu hd5 hr5 hb5
          have hend : Hid (PlsRel w.heap.size d f size xs.length w (.int .i64 ((k : Int) + 1)) w5) :=
            ⟨k + 1, dplay D p, hlt, by go_num, by rw [dplay_size]; exact hstH.out.sz, hd5, hr5, by have := hok'.out; simpa using this, by have := hlo'.out; simpa using this, hwI2.trans hb5⟩
          clear hd5 hr5 hb5 hwI hwI2 hW1 hob hok' hlo'
          simp only [putAll, putOne, opsD10, List.foldl, Act.put, hu]
          go_frame
          go_wp2
          exact ⟨hend.out, by simp [intOf]; omega⟩
        · obtain rfl : k = xs.length := by omega
          obtain ⟨c0, -, -, -, -, -, -, c7⟩ := hstH.out.ra.cell
          unfold slV at c0
          have hbel := Lib.hid hstH.out.bel
          by_cases hdn : D.down = true
          · rw [hdn] at c7
            clear c0 hlt hdn
            go_wp2
            go_ret
            exact ⟨rfl, hbel.out⟩
          · have hdn0 : D.down = false := by simpa using hdn
            have hdnH := Lib.hid hdn0
            rw [hdn0] at c7
            obtain ⟨n, hn⟩ : ∃ n, D.size.toNat = n := ⟨_, rfl⟩
            have hnH := Lib.hid hn
            have hn4 : n ≤ 4096 := by have := hstH.out.ok.size; omega
            rw [hn] at c0
            have hF0 : Hid (FinRel w.heap.size d f D n w (.int .i64 0) wr) := ⟨0, Nat.zero_le _, by omega, rfl, hstH.out.dr, hstH.out.ra, hbel.out⟩
            have hokH := Lib.hid hstH.out.ok
            clear hdn hdn0 hlt hn c0
            go_wp2
            go_loopw [11] (FinRel w.heap.size d f D n w) (fun i _ => n - (intOf i).toNat)
            case atStart => exact hF0.out
            case round =>
              clear hF0
              obtain ⟨j, hj, hj64, rfl, hdj, hrj, hbj⟩ := hrel
              have hdjH := Lib.hid hdj
              have hrjH := Lib.hid hrj
              have hbjH := Lib.hid hbj
              obtain ⟨c0, -⟩ := hrj.cell
              unfold slV at c0
              rw [hnH.out] at c0
              clear hdj hrj hbj c7
              by_cases hjn : j < n
              · by_cases hj6 : j < 64
                · have hj6' : (j : Int) < 64 := by omega
                  have hjs : Hid ((j : Int) < D.size) := by show _ < _; have := hnH.out; have := hokH.out.size; omega
                  have hR := Lib.hid (read_ok w.heap.size d D _ _ hokH.out hdjH.out j (by omega) hjs.out hdnH.out)
                  go_wp2_with (go_at_call 11; refine hR.out.mono ?_; rintro e w6 ⟨uu, rfl, hu6, hb6⟩; have hu6H := Lib.hid hu6; have hb6H := Lib.hid hb6; clear hu6 hb6)
                  have hr6 := hrjH.out.below hb6H.out
                  obtain ⟨vv, hvv, hov, -⟩ := hr6.cellN j (by rw [hnH.out]; exact hjn)
                  have hc6 := hr6.cell.1
                  rw [hnH.out] at hc6
                  refine regionD19 f n j uu vv (D.now j) rfl rfl rfl rfl rfl hjn hc6 hvv (RdV.of_own hu6H.out) (RdV.of_own hov) ?_
                  intro u7 hu7
                  have hend : Hid (FinRel w.heap.size d f D n w (.int .i64 ((j : Int) + 1)) w6.drew) := ⟨j + 1, hjn, by omega, by go_num, (hdjH.out.below hb6H.out).drew, hr6.drew, below_drewN (hbjH.out.trans (hb6H.out.mono hbjH.out.size)) 1⟩
                  clear hr6 hvv hov hc6
                  simp only [putAll, putOne, opsD19, List.foldl, Act.put, hu7]
                  go_frame
                  go_wp2
                  exact ⟨hend.out, by simp [intOf]; omega⟩
                · have hj6' : ¬ (j : Int) < 64 := by omega
                  go_wp2
                  go_ret
                  exact ⟨rfl, hbjH.out⟩
              · go_wp2
                go_ret
                exact ⟨rfl, hbjH.out⟩
end Go.Proofs.Ytbcafhhheileeaa
