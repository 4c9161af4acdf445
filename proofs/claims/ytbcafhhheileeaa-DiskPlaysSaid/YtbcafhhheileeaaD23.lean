/-
  Part of the proofs of DiskOwns, DiskPlays, SlotPlays: contracts of the device and what they need.
  Conditions: those that each theorem names.
-/
import Derived.Test.YtbcafhhheileeaaD22
namespace Go.Proofs.Ytbcafhhheileeaa
open Go.RowKit
set_option maxRecDepth 100000

theorem owns_walk (n : Int) (w : World) (Q0 : World → Prop) (Q1 : Nat → World → Prop) (Q2 Q3 Q4 : Nat → Nat → World → Prop) (Q5 : Nat → Nat → Nat → Nat → World → Prop) (Q6 : Nat → Nat → Nat → Nat → Nat → Nat → World → Prop) (Q7 : Nat → World → Prop) (Q8 : Value → World → Prop) (Q9 : World → Prop)
    (C0 : Calls Try.prog 6 #[] w fun e w' => e = .returned (.bool true) ∧ Q0 w')
    (C1 : ∀ W, Q0 W → Calls Try.prog 7 #[.int .i64 2] W fun e w' => ∃ d, e = .returned (.tuple #[.pointer (some ⟨d, 0, none⟩), .nilIface]) ∧ Q1 d w')
    (C2 : ∀ d W, Q1 d W → Calls Try.prog 8 #[.int .i64 n] W fun e w' => ∃ b, e = .returned (.slice (some ⟨b, 0, none⟩) 512 512) ∧ Q2 d b w')
    (C3 : ∀ d b W, Q2 d b W → Calls Try.prog 9 #[.pointer (some ⟨d, 0, none⟩), .int .i64 1, .slice (some ⟨W.heap.size, 0, none⟩) 1 1] (W.alloc (.cells #[.slice (some ⟨b, 0, none⟩) 512 512] 28)) fun e w' => e = .returned .nilIface ∧ Q3 d b w')
    (C4 : ∀ d b W, Q3 d b W → Calls Try.prog 10 #[.slice (some ⟨b, 0, none⟩) 512 512] W fun e w' => e = .returned (.tuple #[]) ∧ Q4 d b w')
    (C5 : ∀ d b W, Q4 d b W → Calls Try.prog 11 #[.pointer (some ⟨d, 0, none⟩), .int .i64 1] W fun e w' => ∃ gx cx, e = .returned (.tuple #[.slice (some ⟨gx, 0, none⟩) 512 cx, .nilIface]) ∧ Q5 d b gx cx w')
    (C6 : ∀ d b gx cx W, Q5 d b gx cx W → Calls Try.prog 11 #[.pointer (some ⟨d, 0, none⟩), .int .i64 1] W fun e w' => ∃ gy cy, e = .returned (.tuple #[.slice (some ⟨gy, 0, none⟩) 512 cy, .nilIface]) ∧ Q6 d b gx cx gy cy w')
    (R10 : ∀ d b gx cx gy cy W, Q6 d b gx cx gy cy W → ∀ (a : Act) (Q : Exit → Act → World → Prop), a.tmps.size = 80 → a.tmps.getD 0 undef = .int .i64 n → a.tmps.getD 4 undef = .nilIface → a.tmps.getD 5 undef = .slice (some ⟨b, 0, none⟩) 512 512 →
      a.tmps.getD 6 undef = .slice (some ⟨gx, 0, none⟩) 512 cx → a.tmps.getD 7 undef = .slice (some ⟨gy, 0, none⟩) 512 cy → a.tmps.getD 8 undef = .nilIface →
      (∀ (u : Nat → Value) w', u 64 = .bool false → Q7 d w' → Q .normal (putAll opsO10 u a) w') → (Code.region 10 opsO10 true).wp Try.prog Q a W)
    (C8 : ∀ d W, Q7 d W → Calls Try.prog 11 #[.pointer (some ⟨d, 0, none⟩), .int .i64 1] W fun e w' => ∃ z, e = .returned (.tuple #[z, .nilIface]) ∧ Q8 z w')
    (R13 : ∀ z W, Q8 z W → ∀ (a : Act) (Q : Exit → Act → World → Prop), a.tmps.size = 80 → a.tmps.getD 0 undef = .int .i64 n → a.tmps.getD 4 undef = .nilIface → a.tmps.getD 9 undef = z →
      (∀ (u : Nat → Value) w', u 2 = .bool true → Q9 w' → Q .normal (putAll opsO13 u a) w') → (Code.region 13 opsO13 true).wp Try.prog Q a W) :
    Calls Try.prog 3 #[.int .i64 n] w fun e w' => e = .returned (.bool true) ∧ Q9 w' := by
  have C0H := Lib.hid C0
  have C1H := Lib.hid C1
  have C2H := Lib.hid C2
  have C3H := Lib.hid C3
  have C4H := Lib.hid C4
  have C5H := Lib.hid C5
  have C6H := Lib.hid C6
  have R10H := Lib.hid R10
  have C8H := Lib.hid C8
  have R13H := Lib.hid R13
  clear C0 C1 C2 C3 C4 C5 C6 R10 C8 R13
  go_enter Try.func3, Try.ntmps3
  go_wp2_with (first
    | (go_at_call 6; refine C0H.out.mono ?_; rintro e w0 ⟨rfl, h0⟩; clear C0H)
    | (go_at_call 7; refine (C1H.out _ h0).mono ?_; rintro e w1 ⟨d, rfl, h1⟩; clear C1H h0)
    | (go_at_call 8; refine (C2H.out _ _ h1).mono ?_; rintro e w2 ⟨b, rfl, h2⟩; clear C2H h1)
    | (go_at_call 9; refine (C3H.out _ _ _ h2).mono ?_; rintro e w3 ⟨rfl, h3⟩; clear C3H h2)
    | (go_at_call 10; refine (C4H.out _ _ _ h3).mono ?_; rintro e w4 ⟨rfl, h4⟩; clear C4H h3)
    | (go_at_call 11; refine (C5H.out _ _ _ h4).mono ?_; rintro e w5 ⟨gx, cx, rfl, h5⟩; clear C5H h4)
    | (go_at_call 11; refine (C6H.out _ _ _ _ _ h5).mono ?_; rintro e w6 ⟨gy, cy, rfl, h6⟩; clear C6H h5))
  refine R10H.out _ _ _ _ _ _ _ h6 _ _ rfl rfl rfl rfl rfl rfl rfl ?_
  intro u w7 hu h7
  simp only [putAll, putOne, opsO10, List.foldl, Act.put, hu]
  clear R10H h6
  go_frame
  go_wp2_with (go_at_call 11; refine (C8H.out _ _ h7).mono ?_; rintro e w8 ⟨z, rfl, h8⟩; clear C8H h7)
  refine R13H.out _ _ h8 _ _ rfl rfl rfl rfl ?_
  intro u2 w9 hu2 h9
  simp only [putAll, putOne, opsO13, List.foldl, Act.put, hu2]
  clear R13H h8
  go_frame
  go_wp2
  go_ret
  exact ⟨rfl, h9⟩

def p0 : Dev := dev0 2
def p1 (n : Int) : Dev := { p0 with left := -1, steps := 1, now := put p0.now 1 (fl n), chg := putB p0.chg 1 }
theorem ps1 (n : Int) : dwrite p0 1 (fl n) = (0, p1 n) := dwrite_up rfl rfl (by decide) (by decide) (fl_len n)
theorem po1 (n : Int) : DOk 1 (p1 n) := by have := ok_write (ok_dev0 2 (by omega)) 1 (fl n); rw [show dev0 2 = p0 from rfl, ps1] at this; exact this
theorem pn1 (n : Int) : (p1 n).now 1 = fl n := by
  show put p0.now 1 (fl n) 1 = fl n
  unfold put
  rw [if_pos rfl]
/-- what is read lies in a row of its own -/
theorem read_row {B d : Nat} {D : Dev} {N : Int} {w : World} (hok : DOk N D) (h : DRep B w d D) (hB : B ≤ w.heap.size) (at_ : Int) (h1 : 0 ≤ at_) (h2 : at_ < D.size) (hd : D.down = false) :
    Calls Try.prog 11 #[.pointer (some ⟨d, 0, none⟩), .int .i64 at_] w fun e w' => ∃ g c, e = .returned (.tuple #[.slice (some ⟨g, 0, none⟩) 512 c, .nilIface]) ∧ Row1 B w' g c 512 (D.now at_) ∧ w.heap.size ≤ g ∧ Below w.heap.size w w' := by
  refine (read_ok B d D N w hok h at_ h1 h2 hd).mono ?_
  rintro e w' ⟨u, rfl, hown, hb⟩
  have hl := hok.lnow at_
  have hown' := hown
  unfold OwnB at hown'
  rw [hl] at hown'
  rcases hown'.2 with ⟨_, h0⟩ | ⟨g, c, cur, rfl, hg, _⟩
  · cases h0
  · exact ⟨g, c, rfl, hown'.mono hB, hg, hb⟩
theorem row_kp0 {B g c m : Nat} {w w' : World} {xs : List Int} (h : Row1 B w g c m xs) (hb : Below w.heap.size w w') : Row1 B w' g c m xs := h.kp (X := fun _ => False) (Kp.of_below hb) (fun h => h)

theorem owns_c (n : Int) (w : World) : Calls Try.prog 3 #[.int .i64 n] w fun e w' => e = .returned (.bool true) ∧ Below w.heap.size w w' := by
  refine owns_walk n w (fun W => Below w.heap.size w W) (fun d W => DRep w.heap.size W d p0 ∧ Below w.heap.size w W)
    (fun d b W => DRep w.heap.size W d p0 ∧ Below w.heap.size w W ∧ BytesAt W b (fl n) ∧ w.heap.size ≤ b)
    (fun d b W => DRep w.heap.size W d (p1 n) ∧ Below w.heap.size w W ∧ BytesAt W b (fl n) ∧ w.heap.size ≤ b)
    (fun d b W => DRep w.heap.size W d (p1 n) ∧ Below w.heap.size w W ∧ ∃ ys, Row1 w.heap.size W b 512 512 ys)
    (fun d b gx cx W => DRep w.heap.size W d (p1 n) ∧ Below w.heap.size w W ∧ (∃ ys, Row1 w.heap.size W b 512 512 ys) ∧ Row1 w.heap.size W gx cx 512 (fl n) ∧ gx ≠ b)
    (fun d b gx cx gy cy W => DRep w.heap.size W d (p1 n) ∧ Below w.heap.size w W ∧ (∃ ys, Row1 w.heap.size W b 512 512 ys) ∧ Row1 w.heap.size W gx cx 512 (fl n) ∧ gx ≠ b ∧ Row1 w.heap.size W gy cy 512 (fl n) ∧ gx ≠ gy ∧ gy ≠ b)
    (fun d W => DRep w.heap.size W d (p1 n) ∧ Below w.heap.size w W)
    (fun z W => RdB W z (fl n) ∧ Below w.heap.size w W) (fun W => Below w.heap.size w W) ?_ ?_ ?_ ?_ ?_ ?_ ?_ ?_ ?_ ?_
  · exact alive_c w
  · intro W h
    refine (new_c 2 W w.heap.size h.size (by omega)).mono ?_
    rintro e w1 ⟨d, rfl, h1, h2⟩
    exact ⟨d, rfl, h1, h.trans (h2.mono h.size)⟩
  · intro d W h
    refine (full_c n W).mono ?_
    rintro e w1 ⟨rfl, h1, h2⟩
    exact ⟨_, rfl, h.1.below h2, h.2.trans (h2.mono h.2.size), h1, h.2.size⟩
  · intro d b W h
    have hal : Below W.heap.size W (W.alloc (.cells #[.slice (some ⟨b, 0, none⟩) 512 512] 28)) := (Below.refl _ _).alloc (Nat.le_refl _) _
    refine (write1 (w0 := W) (ok_dev0 2 (by omega)) (by omega) (ps1 n) h.1 (Fr.refl _ _ _) h.2.1.size h.2.2.1).mono ?_
    rintro e w1 ⟨rfl, h1, h2⟩
    refine ⟨rfl, h1, h.2.1.trans (h2.below h.2.1.size), h2.keep _ _ h.2.2.1 (.inr rfl), h.2.2.2⟩
  · intro d b W h
    have hl := fl_len n
    have hown := h.2.2.1.own h.2.2.2 (by rw [hl]; simp [maxLen])
    rw [hl] at hown
    refine (over_c w.heap.size _ (fl n) W hown (by rw [hl]; omega)).mono ?_
    rintro e w1 ⟨rfl, ⟨ys, hy1, hy2⟩, hg⟩
    rw [hl] at hy2
    refine ⟨rfl, ?_, h.2.1.trans (grown_below hg h.2.1.size (fun k hk => by injection hk with hk; subst hk; exact h.2.2.2)), ys, hy2⟩
    exact h.1.kp (Kp.of_grown (X := fun k => k = b) hg (fun k hk _ => by injection hk with hk; exact hk.symm)) (fun k o hk ho => by
      subst hk
      rw [h.2.2.1] at ho
      injection ho with ho
      subst ho
      rfl)
  · intro d b W h
    refine (read_row (po1 n) h.1 h.2.1.size 1 (by omega) (by show (1 : Int) < 2; omega) rfl).mono ?_
    rintro e w1 ⟨g, c, rfl, h1, h2, h3⟩
    obtain ⟨ys, hys⟩ := h.2.2
    rw [pn1] at h1
    exact ⟨g, c, rfl, h.1.below h3, h.2.1.trans (h3.mono h.2.1.size), ⟨ys, row_kp0 hys h3⟩, h1, by have := hys.lt.1; omega⟩
  · intro d b gx cx W h
    refine (read_row (po1 n) h.1 h.2.1.size 1 (by omega) (by show (1 : Int) < 2; omega) rfl).mono ?_
    rintro e w1 ⟨g, c, rfl, h1, h2, h3⟩
    obtain ⟨ys, hys⟩ := h.2.2.1
    rw [pn1] at h1
    exact ⟨g, c, rfl, h.1.below h3, h.2.1.trans (h3.mono h.2.1.size), ⟨ys, row_kp0 hys h3⟩, row_kp0 h.2.2.2.1 h3, h.2.2.2.2, h1, by have := h.2.2.2.1.lt.1; omega, by have := hys.lt.1; omega⟩
  · rintro d b gx cx gy cy W ⟨h1, h2, ⟨ys, h3⟩, h4, h5, h6, h7, h8⟩ a Q hs e0 e4 e5 e6 e7 e8 hend
    refine regionO10 W.heap.size d n gx cx gy cy b w.heap.size (p1 n) w hs e0 e4 e5 e6 e7 e8 h4.lt.1 h6.lt.1 h3.lt.1 h7 h5 h8 ⟨h1, h2, Nat.le_refl _, h2.size, fun _ => ⟨h4, h6, ys, h3⟩⟩ ?_
    intro u w' hu hr hb
    exact hend u w' hu ⟨hr, hb⟩
  · intro d W h
    refine (read_row (po1 n) h.1 h.2.size 1 (by omega) (by show (1 : Int) < 2; omega) rfl).mono ?_
    rintro e w1 ⟨g, c, rfl, h1, h2, h3⟩
    rw [pn1] at h1
    have h4 := RdV.of_own h1
    refine ⟨_, rfl, ?_, h.2.trans (h3.mono h.2.size)⟩
    unfold RdB
    rw [fl_len]
    exact h4
  · intro z W h a Q hs e0 e4 e9 hend
    exact regionO13 n z w.heap.size w hs e0 e4 e9 h.1 h.2 h.2.size hend
end Go.Proofs.Ytbcafhhheileeaa
