/-
  Part of the proofs of DiskPlays, SlotPlays: the document's device, Write, Unsynced.
  Conditions: those that each theorem names.
-/
import Derived.Test.YtbcafhhheileeaaE6
namespace Go.Proofs.Ytbcafhhheileeaa
open Go.RowKit
set_option maxRecDepth 100000

theorem kp_below {X : Nat → Prop} {a w w' : World} {B : Nat} (h : Kp X a w) (hb : Below B w w') (hB : a.heap.size ≤ B) : Kp X a w' :=
  ⟨hb.os.trans h.os, hb.tape.trans h.tape, hb.output.trans h.output, Nat.le_trans h.size hb.size, fun b hlt hx => (hb.block b (by omega)).trans (h.keep b hlt hx)⟩

set_option maxHeartbeats 2000000 in
theorem rwrite_c (B : Nat) (f : Foot) (D : Dev) (N : Int) (w : World) (hok : DOk N D) (hl : LOk N D) (hN : N ≤ 1000000000) (h : RAt B w f D) (at_ : Int) (u : Value) (xs : List Int) (hu : RdB w u xs) (hub : ∀ b, u.ownBlock = some b → xs.length ≠ 0 → ¬ f.has b) (hfx : ∀ y, f.x = some y → y < w.heap.size) :
    Calls Try.prog 34 #[.pointer (some ⟨f.g, 0, none⟩), .int .i64 at_, u] w fun e w' => e = .returned (.int .i64 (dwrite D at_ xs).1) ∧ RAt B w' f (dwrite D at_ xs).2 ∧ Kp f.has w w' := by
  have hsz := hok.size
  obtain ⟨A, c, rfl⟩ := RdB.any hu
  by_cases hb : at_ < 0 ∨ D.size ≤ at_
  · have hI := Lib.hid (rin_c B f D w h hsz at_ false (by simp; omega))
    have hd : Hid (dwrite D at_ xs = (1, D)) := by show _ = _; unfold dwrite; rw [if_pos hb]
    have h' := Lib.hid h
    clear h hok hl hb hu hfx
    go_enter Try.func34, Try.ntmps34
    go_wp2_with (go_at_call 56; refine hI.out.mono ?_; rintro e w2 ⟨rfl, rfl⟩)
    go_ret
    rw [hd.out]
    exact ⟨rfl, h'.out, Kp.refl _ _⟩
  · have hI := Lib.hid (rin_c B f D w h hsz at_ true (by simp; omega))
    by_cases hx : xs.length = 512
    · have HS := Lib.hid (rstep_c B f D N w hok hl hN h)
      obtain ⟨i, rfl⟩ : ∃ i : Nat, at_ = i := ⟨at_.toNat, by omega⟩
      have hi : Hid (i < D.size.toNat) := by show _ < _; omega
      have hf := Lib.hid (step_facts D)
      have huH := Lib.hid hu
      have hubH := Lib.hid hub
      have hfxH := Lib.hid hfx
      have hx' := Lib.hid hx
      have hbH := Lib.hid hb
      by_cases hst : (dstep D).1 = 0
      · have hd : Hid (dwrite D i xs = (0, { (dstep D).2 with now := put D.now i xs, chg := putB D.chg i })) := by
          show _ = _
          unfold dwrite
          rw [if_neg hb, if_neg (by omega), if_neg (by omega)]
        rw [hst] at HS
        clear h hok hl hb hu hst hub hfx
        rw [hx]
        clear hx
        go_enter Try.func34, Try.ntmps34
        go_wp2_with (first
          | (go_at_call 56; refine hI.out.mono ?_; rintro e w2 ⟨rfl, rfl⟩)
          | (go_at_call 57; refine HS.out.mono ?_; rintro e w2 ⟨rfl, hr2, hk2⟩; have hr2' := Lib.hid hr2; have hk2' := Lib.hid hk2; clear hr2 hk2))
        have hr2 := hr2'.out
        obtain ⟨f1, f2, f3, f4, f5, f6⟩ := hf.out
        obtain ⟨g0, -⟩ := hr2.cell
        rw [f1] at g0
        have hiD : i < (dstep D).2.size.toNat := by rw [f1]; exact hi.out
        obtain ⟨uo, huo, _⟩ := hr2.now.cell i hiD
        have hu2 : RdB w2 (.slice A xs.length c) xs := RdV.kp huH.out hk2'.out hubH.out
        rw [hx'.out] at hu2
        refine regionRW7 f D.size.toNat i (.slice A 512 c) xs w2.heap.size w2 rfl rfl rfl rfl hi.out hx'.out rfl (Below.refl _ _) g0 ⟨uo, huo⟩ (hr2.fzN i) (hr2.lt _ (.inr (.inl rfl))) hu2 ?_
        intro u3 W0 y hb0 hown
        have hB : B ≤ w2.heap.size := Nat.le_trans hr2.b0 (Nat.le_of_lt (hr2.lt _ (.inl rfl)))
        have hnx : notX f.x y := fun b hb e => by
          have h1 := hfxH.out b e
          have h2 := (hown.lt b hb).1
          have h3 := hk2'.out.size
          omega
        have hr3 := (hr2.below hb0).putN i hiD y xs (hown.mono hB) hnx
        have hk3 : Kp f.has w (W0.setCell ⟨f.bN, i, none⟩ y) := (hk2'.out.trans (Kp.of_below hb0)).setCell (p := ⟨f.bN, i, none⟩) (.inr (.inr (.inl rfl))) y
        have hr4 := Lib.hid (hr3.putC i true)
        have hk4 := Lib.hid (hk3.setCell (p := ⟨f.bC, i, none⟩) (.inr (.inr (.inr (.inr rfl)))) (.bool true))
        have g2 := hr3.cell.2.2.1
        dsimp only at g2
        unfold slV at g2
        rw [f1] at g2
        have g3 := hr3.cellC i hiD
        have g4 := hr3.fzC i
        have hiN := hi.out
        clear hr3 hk3 hr2 g0 huo hu2 hb0 hown hI HS
        generalize W0.setCell ⟨f.bN, i, none⟩ y = W1 at *
        generalize D.size.toNat = n at *
        simp only [putAll, putOne, opsRW7, List.foldl, Act.put]
        go_frame
        go_wp2
        go_ret
        rw [hd.out]
        have e4 := hr4.out
        rw [f2, f4] at e4
        exact ⟨rfl, e4, hk4.out⟩
      · have hd : Hid (dwrite D i xs = dstep D) := by
          show _ = _
          unfold dwrite
          rw [if_neg hb, if_neg (by omega), if_pos hst]
        have hne : ((dstep D).1 == 0) = false := by simpa using hst
        clear h hok hl hb hu hst hub hfx
        rw [hx]
        clear hx
        generalize hxx : (dstep D).1 = x at *
        have hxx' := Lib.hid hxx
        clear hxx
        go_enter Try.func34, Try.ntmps34
        go_wp2_with (first
          | (go_at_call 56; refine hI.out.mono ?_; rintro e w2 ⟨rfl, rfl⟩)
          | (go_at_call 57; refine HS.out.mono ?_; rintro e w2 ⟨rfl, hr2, hk2⟩))
        go_ret
        rw [hd.out, hxx'.out]
        exact ⟨rfl, hr2, hk2⟩
    · have hd : Hid (dwrite D at_ xs = (2, D)) := by
        show _ = _
        unfold dwrite
        rw [if_neg hb, if_pos hx]
      have hne : ((xs.length : Int) == 512) = false := by rw [beq_eq_false_iff_ne]; omega
      have h' := Lib.hid h
      clear h hok hl hb hu hx hub hfx
      generalize xs.length = L at *
      go_enter Try.func34, Try.ntmps34
      go_wp2_with (go_at_call 56; refine hI.out.mono ?_; rintro e w2 ⟨rfl, rfl⟩)
      go_ret
      rw [hd.out]
      exact ⟨rfl, h'.out, Kp.refl _ _⟩

/-! ### Unsynced -/
theorem E43 : ElemOk Try.prog 43 3 1 8 := ⟨Try.underlying43, ⟨.int .i64 0, by kernel_rfl, rfl⟩, by omega, by omega⟩
def runs (D : Dev) (k : Nat) : List Int := ((List.range k).map (fun i : Nat => (i : Int))).filter (fun j => D.chg j)
theorem runs_uns (D : Dev) : runs D D.size.toNat = uns D := rfl
theorem runs_succ (D : Dev) (k : Nat) : runs D (k + 1) = if D.chg k = true then runs D k ++ [(k : Int)] else runs D k := by
  unfold runs
  rw [List.range_succ, List.map_append, List.filter_append]
  cases hc : D.chg k <;> simp [hc]
theorem runs_len (D : Dev) (k : Nat) : (runs D k).length ≤ k := by
  unfold runs
  refine Nat.le_trans (List.length_filter_le _ _) ?_
  simp
def ints (xs : List Int) : List Value := xs.map (Value.int .i64)
def RuRel (D : Dev) (n : Nat) (w : World) (out i : Value) (wr : World) : Prop :=
  ∃ k : Nat, k ≤ n ∧ i = .int .i64 k ∧ (∃ A c, out = .slice A (runs D k).length c) ∧ wr.ownsRow w.heap.size 3 1 out (runs D k).length (ints (runs D k)) ∧ Below w.heap.size w wr

set_option maxHeartbeats 2000000 in
theorem runsynced_c (B : Nat) (f : Foot) (D : Dev) (w : World) (h : RAt B w f D) (hs : 1 ≤ D.size ∧ D.size ≤ 4096) :
    Calls Try.prog 22 #[.pointer (some ⟨f.g, 0, none⟩)] w fun e w' => ∃ u, e = .returned u ∧ RdI w' u (uns D) ∧ Below w.heap.size w w' := by
  have hsz : D.size.toNat ≤ 4096 := by omega
  have hru := Lib.hid (runs_uns D)
  have h0 : Hid (RuRel D D.size.toNat w (.slice none 0 0) (.int .i64 0) w) := ⟨0, Nat.zero_le _, rfl, ⟨_, _, rfl⟩, World.ownsRow_nil _ _ _ _, Below.refl _ _⟩
  have hH := Lib.hid h
  obtain ⟨n, hn⟩ : ∃ n, D.size.toNat = n := ⟨_, rfl⟩
  have hn' := Lib.hid hn
  rw [hn] at hsz h0
  clear h hn
  go_enter Try.func22, Try.ntmps22
  go_wp2
  go_loopw [3, 4] (RuRel D n w) (fun _ i _ => n - (intOf i).toNat)
  case atStart => exact h0.out
  case round =>
    obtain ⟨k, hk, rfl, ⟨A, c, rfl⟩, hown, hbel⟩ := hrel
    have hr := hH.out.below hbel
    obtain ⟨c0, -, c2, -⟩ := hr.cell
    unfold slV at c0 c2
    rw [hn'.out] at c0 c2
    have hownH := Lib.hid hown
    have hbelH := Lib.hid hbel
    by_cases hlt : k < n
    · have hkn : k < D.size.toNat := by rw [hn'.out]; exact hlt
      have hcc := hr.cellC k hkn
      have hsc := runs_succ D k
      have hrl := runs_len D k
      clear hr hown hbel
      cases hc : D.chg k with
      | true =>
        rw [hc] at hcc hsc
        rw [if_pos rfl] at hsc
        have hsc' := Lib.hid hsc
        clear hsc hc
        have hBw : Hid (w.heap.size ≤ wr.heap.size) := hbelH.out.size
        go_wp2_with (at_builtin; refine wpList_app1 wr rfl _ _ _ rfl E43 rfl hownH.out rfl rfl (by simp; rfl) (by omega) hBw.out ?_; intro A1 c1 w1 hown1 hg1)
        refine ⟨⟨k + 1, hlt, by go_num, ?_, ?_, ?_⟩, by simp [intOf]; omega⟩
        · rw [hsc'.out, List.length_append]; exact ⟨_, _, rfl⟩
        · rw [hsc'.out, List.length_append]
          unfold ints
          rw [List.map_append]
          exact hown1
        · exact below_grown hbelH.out hownH.out hBw.out hg1
      | false =>
        rw [hc] at hcc hsc
        rw [if_neg (by simp)] at hsc
        have hsc' := Lib.hid hsc
        clear hsc hc
        go_wp2
        refine ⟨⟨k + 1, hlt, by go_num, ?_, ?_, hbelH.out⟩, by simp [intOf]; omega⟩
        · rw [hsc'.out]; exact ⟨_, _, rfl⟩
        · rw [hsc'.out]; exact hownH.out
    · obtain rfl : k = n := by omega
      clear hr hown hbel
      go_wp2
      go_ret
      refine ⟨_, rfl, ?_, hbelH.out⟩
      have h2 := RdV.of_own hownH.out
      rw [← hru.out, hn'.out]
      exact h2
end Go.Proofs.Ytbcafhhheileeaa
