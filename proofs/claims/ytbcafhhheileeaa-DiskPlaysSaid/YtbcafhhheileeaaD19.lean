/-
  Part of the proofs of DiskOwns, DiskPlays, SlotPlays: contracts of the device and what they need.
  Conditions: those that each theorem names.
-/
import Derived.Test.YtbcafhhheileeaaD18
namespace Go.Proofs.Ytbcafhhheileeaa
open Go.RowKit
set_option maxRecDepth 100000

/-- what may have turned: the blocks of X -/
structure Kp (X : Nat → Prop) (w w' : World) : Prop where
  os : w'.os = w.os
  tape : w'.tape = w.tape
  output : w'.output = w.output
  size : w.heap.size ≤ w'.heap.size
  keep : ∀ b, b < w.heap.size → ¬ X b → w'.heap[b]? = w.heap[b]?
theorem Kp.refl (X : Nat → Prop) (w : World) : Kp X w w := ⟨rfl, rfl, rfl, Nat.le_refl _, fun _ _ _ => rfl⟩
theorem Kp.trans {X : Nat → Prop} {a b c : World} (h : Kp X a b) (k : Kp X b c) : Kp X a c :=
  ⟨k.os.trans h.os, k.tape.trans h.tape, k.output.trans h.output, Nat.le_trans h.size k.size, fun i hi hx => (k.keep i (Nat.lt_of_lt_of_le hi h.size) hx).trans (h.keep i hi hx)⟩
theorem Kp.mono {X Y : Nat → Prop} {w w' : World} (h : Kp X w w') (hx : ∀ b, b < w.heap.size → X b → Y b) : Kp Y w w' :=
  ⟨h.os, h.tape, h.output, h.size, fun b hb hy => h.keep b hb fun hX => hy (hx b hb hX)⟩
theorem Kp.of_below {X : Nat → Prop} {w w' : World} (h : Below w.heap.size w w') : Kp X w w' := ⟨h.os, h.tape, h.output, h.size, fun b hb _ => h.block b hb⟩
theorem Kp.of_grown {X : Nat → Prop} {w w' : World} {row : Option Nat} (h : w.grownBy w' row) (hr : ∀ b, row = some b → b < w.heap.size → X b) : Kp X w w' :=
  ⟨h.os, h.tape, h.output, h.size, fun b hb hx => h.block b hb fun e => hx (hr b e.symm hb)⟩
/-- two steps: the second one may turn what is newer -/
theorem Kp.step {X Y : Nat → Prop} {a b c : World} (h : Kp X a b) (k : Kp Y b c) (hy : ∀ i, i < a.heap.size → Y i → X i) : Kp X a c :=
  ⟨k.os.trans h.os, k.tape.trans h.tape, k.output.trans h.output, Nat.le_trans h.size k.size, fun i hi hx => (k.keep i (Nat.lt_of_lt_of_le hi h.size) (fun e => hx (hy i hi e))).trans (h.keep i hi hx)⟩
theorem Kp.below {X : Nat → Prop} {B : Nat} {w w' : World} (h : Kp X w w') (hx : ∀ b, X b → B ≤ b) (hB : B ≤ w.heap.size) : Below B w w' :=
  ⟨h.os, h.tape, h.output, h.size, fun b hb => h.keep b (by omega) fun hX => by have := hx b hX; omega⟩
theorem Kp.alloc {X : Nat → Prop} {a w : World} (h : Kp X a w) (o : Obj) : Kp X a (w.alloc o) := h.trans (Kp.of_below ((Below.refl _ _).alloc (Nat.le_refl _) o))
theorem Kp.drew {X : Nat → Prop} {a w : World} (h : Kp X a w) : Kp X a w.drew := ⟨h.os, h.tape, h.output, h.size, h.keep⟩
theorem Kp.drewN {X : Nat → Prop} {a w : World} (h : Kp X a w) (n : Nat) : Kp X a (w.drewN n) := ⟨h.os, h.tape, h.output, h.size, h.keep⟩
theorem Kp.setCell {X : Nat → Prop} {a w : World} (h : Kp X a w) {p : Addr} (hp : a.heap.size ≤ p.block ∨ X p.block) (u : Value) : Kp X a (w.setCell p u) :=
  ⟨h.os, h.tape, h.output, by have := h.size; simpa [World.setCell] using this, fun b hb hx => by
    rw [Below.heap_setCell _ _ _ _ (fun e => by
      subst e
      rcases hp with hp | hp
      · omega
      · exact hx hp)]
    exact h.keep b hb hx⟩
theorem DRep.kp {X : Nat → Prop} {B d : Nat} {D : Dev} {w w' : World} (h : DRep B w d D) (hk : Kp X w w') (hx : ∀ b o, X b → w.heap[b]? = some o → tagD o = false) : DRep B w' d D := by
  obtain ⟨bn, bs, bc, kn, ks, kc, lf, h⟩ := h
  refine ⟨_, _, _, _, _, _, _, h.keep fun k o ho ht => (hk.keep k (lt_of_heap ho) fun hX => ?_).trans ho⟩
  rw [hx k o hX ho] at ht
  cases ht
theorem RdV.kp {X : Nat → Prop} {w w' : World} {sz : Nat} {v : Value} {n : Nat} {xs : List Value} (h : RdV w sz v n xs) (hk : Kp X w w') (hx : ∀ b, v.ownBlock = some b → n ≠ 0 → ¬ X b) : RdV w' sz v n xs :=
  h.keep (fun b hb hn hlt => hk.keep b hlt (hx b hb hn)) hk.size
theorem own_kp {X : Nat → Prop} {w w' : World} {B : Nat} {e : TypeId} {sz : Nat} {v : Value} {n : Nat} {xs : List Value} (h : w.ownsRow B e sz v n xs) (hk : Kp X w w') (hx : ∀ b, v.ownBlock = some b → ¬ X b) : w'.ownsRow B e sz v n xs := by
  refine ⟨h.1, ?_⟩
  rcases h.2 with h2 | ⟨g, cap, cur, rfl, h3, h4, h5⟩
  · exact .inl h2
  · exact .inr ⟨g, cap, cur, rfl, h3, (hk.keep g (lt_of_heap h4) (hx g rfl)).trans h4, h5⟩

def aD : Nat → Dev
  | 0 => a0
  | 1 => a1
  | 2 => a2
  | 3 => a3
  | 4 => a4
  | _ => a5
theorem write1 {B d b : Nat} {D D' : Dev} {N n at_ : Int} {w0 W : World} (hok : DOk N D) (hN : N ≤ 1000000000) (hs : dwrite D at_ (fl n) = (0, D')) (hd : DRep B W d D) (hf : Fr B tagD w0 W) (hB : B ≤ w0.heap.size) (hb : BytesAt W b (fl n)) :
    Calls Try.prog 9 #[.pointer (some ⟨d, 0, none⟩), .int .i64 at_, .slice (some ⟨W.heap.size, 0, none⟩) 1 1] (W.alloc (.cells #[.slice (some ⟨b, 0, none⟩) 512 512] 28)) fun e w' => e = .returned .nilIface ∧ DRep B w' d D' ∧ Fr B tagD w0 w' := by
  have hl := fl_len n
  have hal : Below W.heap.size W (W.alloc (.cells #[.slice (some ⟨b, 0, none⟩) 512 512] 28)) := (Below.refl _ _).alloc (Nat.le_refl _) _
  have h := write_c B d D N (W.alloc (.cells #[.slice (some ⟨b, 0, none⟩) 512 512] 28)) hok hN (hd.below hal) (Nat.le_trans hB (Nat.le_trans hf.size hal.size)) at_ (.slice (some ⟨W.heap.size, 0, none⟩) 1 1) [(.slice (some ⟨b, 0, none⟩) 512 512, fl n)]
    (fun w' hw => by
      have h1 := parts1 W b (fl n) hb B w'
      rw [hl] at h1
      exact h1 hw) (by rw [cat1, hl]; omega) (by simp)
  rw [cat1, hs] at h
  refine h.mono ?_
  rintro e w' ⟨rfl, h1, h2⟩
  exact ⟨rfl, h1, (hf.trans (Fr.of_below hal)).trans h2⟩

theorem alive_c (w : World) : Calls Try.prog 6 #[] w fun e w' => e = .returned (.bool true) ∧ Below w.heap.size w w' := by
  refine (alive_walk w (fun i d W => DRep w.heap.size W d (aD i) ∧ Fr w.heap.size tagD w W)
    (fun i d b W => (DRep w.heap.size W d (aD i) ∧ Fr w.heap.size tagD w W) ∧ BytesAt W b (fl (match i with | 0 => 1 | 2 => 2 | _ => 3)))
    (fun d u W => DRep w.heap.size W d a5 ∧ Fr w.heap.size tagD w W ∧ RdB W u (fl 1))
    (fun d u v W => JA w.heap.size d a5 u v (fl 1) (fl 3) w W) ?_ ?_ ?_ ?_ ?_ ?_ ?_ ?_ ?_ ?_ ?_ ?_).mono ?_
  · refine (new_c 4 w w.heap.size (Nat.le_refl _) (by omega)).mono ?_
    rintro e w1 ⟨d, rfl, h1, h2⟩
    exact ⟨d, rfl, h1, Fr.of_below h2⟩
  · intro d W h
    refine (full_c 1 W).mono ?_
    rintro e w1 ⟨rfl, h1, h2⟩
    exact ⟨_, rfl, ⟨h.1.below h2, h.2.trans (Fr.of_below h2)⟩, h1⟩
  · intro d b W h
    exact write1 o0 (by omega) s1 h.1.1 h.1.2 (Nat.le_refl _) h.2
  · intro d W h
    refine (sync_c _ d a1 1 W o1 (by omega) h.1).mono ?_
    rintro e w1 ⟨rfl, h1, h2⟩
    rw [s2] at h1 ⊢
    exact ⟨rfl, h1, h.2.trans h2⟩
  · intro d W h
    refine (full_c 2 W).mono ?_
    rintro e w1 ⟨rfl, h1, h2⟩
    exact ⟨_, rfl, ⟨h.1.below h2, h.2.trans (Fr.of_below h2)⟩, h1⟩
  · intro d b W h
    exact write1 o2 (by omega) s3 h.1.1 h.1.2 (Nat.le_refl _) h.2
  · intro d W h
    refine (full_c 3 W).mono ?_
    rintro e w1 ⟨rfl, h1, h2⟩
    exact ⟨_, rfl, ⟨h.1.below h2, h.2.trans (Fr.of_below h2)⟩, h1⟩
  · intro d b W h
    exact write1 o3 (by omega) s4 h.1.1 h.1.2 (Nat.le_refl _) h.2
  · intro d W h
    have hal : Below W.heap.size W (W.alloc (.cells #[.int .i64 2] 3)) := (Below.refl _ _).alloc (Nat.le_refl _) _
    refine (crash_c _ d a4 4 _ o4 (h.1.below hal) _ [2] ?_ (by simp)).mono ?_
    · have := RdV.lit W #[.int .i64 2] 3 1 1 rfl
      exact this
    · rintro e w1 ⟨rfl, h1, h2⟩
      exact ⟨rfl, h1, (h.2.trans (Fr.of_below hal)).trans h2⟩
  · intro d W h
    refine (read_ok _ d a5 4 W o5 h.1 1 (by omega) (by decide) rfl).mono ?_
    rintro e w1 ⟨u, rfl, h1, h2⟩
    rw [n1] at h1
    exact ⟨u, rfl, h.1.below h2, h.2.trans (Fr.of_below h2), RdV.of_own h1⟩
  · intro d u W h
    refine (read_ok _ d a5 4 W o5 h.1 2 (by omega) (by decide) rfl).mono ?_
    rintro e w1 ⟨v, rfl, h1, h2⟩
    rw [n2] at h1
    exact ⟨v, rfl, h.1.below h2, RdV.below h.2.2 h2, RdV.of_own h1, h.2.1.trans (Fr.of_below h2)⟩
  · intro d va vb W h a Q hs h1 h2 h3 h4 h5 hend
    refine regionA7 d va vb (fl 1) (fl 3) w.heap.size a5 hs h1 h2 h3 h4 h5 rfl rfl rfl rfl ⟨h.dr, h.a, h.b, Fr.refl _ _ _⟩ ?_
    intro u w' hu hj
    exact hend u w' hu ⟨hj.dr, hj.a, hj.b, h.fr.trans hj.fr⟩
  · rintro e w' ⟨d, va, vb, rfl, h⟩
    exact ⟨rfl, h.fr.below (Nat.le_refl _)⟩
end Go.Proofs.Ytbcafhhheileeaa
