/-
  LockPlays, walked: true, and nothing older has turned.
  Conditions: those that each theorem names.
-/
import Derived.Test.YtejpjibhpjgcjaaL5
namespace Go.Proofs.Ytejpjibhpjgcjaa
open Go.RowKit
set_option maxRecDepth 100000

/-- a script's step -/
structure St where
  kind : Int
  txn : Int
  page : Int
  mode : Int
def stCells (s : St) : List Value := [.int .i64 s.kind, .int .i64 s.txn, .int .i64 s.page, .int .i64 s.mode]
/-- the script in memory -/
def Script (w : World) (v : Value) (xs : List St) : Prop :=
  (∃ A c, v = .slice A xs.length c) ∧ (xs ≠ [] → ∃ b o c, v = .slice (some ⟨b, o, none⟩) xs.length c ∧ b < w.heap.size ∧
    ∀ (k : Nat) (hk : k < xs.length), w.cell? ⟨b, o + k * 4, none⟩ = some (.int .i64 xs[k].kind) ∧ w.cell? ⟨b, o + k * 4 + 1, none⟩ = some (.int .i64 xs[k].txn) ∧
      w.cell? ⟨b, o + k * 4 + 2, none⟩ = some (.int .i64 xs[k].page) ∧ w.cell? ⟨b, o + k * 4 + 3, none⟩ = some (.int .i64 xs[k].mode))

theorem Both.here {B t g ob : Nat} {mt mm : Tab} {kind txn page mode : Int} {w0 w : World} (h : Both B t g ob mt mm kind txn page mode w0 w) : Both B t g ob mt mm kind txn page mode w w :=
  ⟨h.T, h.M, h.o, Below.refl _ _, h.size⟩
def PlRel (B : Nat) (w : World) (t g : Nat) (n : Nat) (i : Value) (wr : World) : Prop :=
  ∃ (k : Nat) (m : Tab), k ≤ n ∧ i = .int .i64 k ∧ TRep B wr t m ∧ MRep B wr g m ∧ Valid m ∧ m.waits.length ≤ k ∧ Below B w wr

theorem z29 (w : World) : (zeroValue 29).run Try.prog w = .ok (.agg #[.slice none 0 0, .slice none 0 0]) w := by kernel_rfl
theorem mrep_new (w : World) (B : Nat) (hB : B ≤ w.heap.size) : MRep B (w.alloc (.cells #[.slice none 0 0, .slice none 0 0] 29)) w.heap.size ⟨[], []⟩ := by
  exact ⟨.slice none 0 0, .slice none 0 0, hB, (MapKept.heap_alloc w _).1, World.ownsRow_nil _ _ _ _, World.ownsRow_nil _ _ _ _, ⟨none, 0, rfl⟩, ⟨none, 0, rfl⟩, .inl rfl⟩

set_option maxHeartbeats 4000000 in
theorem plays_c (v : Value) (xs : List St) (w : World) (hv : Script w v xs) (hwf : ∀ x ∈ xs, (Lit.int .i64 x.txn).wf = true) :
    Calls Try.prog 3 #[v] w fun e w' => e = .returned (.bool true) ∧ Below w.heap.size w w' := by
  obtain ⟨⟨A, c, rfl⟩, hcell⟩ := hv
  by_cases hl : (400 : Int) < xs.length
  · go_enter Try.func3, Try.ntmps3
    go_wp2_with (go_at_call 4; refine (alive_c w).mono ?_; rintro e w1 ⟨rfl, hb1⟩)
    go_ret
    exact ⟨rfl, hb1⟩
  · have z := z29
    go_enter Try.func3, Try.ntmps3
    go_wp2_with (first
      | (go_at_call 4; refine (alive_c w).mono ?_; rintro e w1 ⟨rfl, hb1⟩)
      | (go_at_call 5; refine (new_c w1 w.heap.size hb1.size).mono ?_; rintro e w2 ⟨t, rfl, hr2, hb2⟩))
    have hB2 : w.heap.size ≤ w2.heap.size := Nat.le_trans hb1.size hb2.size
    have hm := mrep_new w2 w.heap.size hB2
    have hr3 := hr2.below ((Below.refl w2.heap.size w2).alloc (Nat.le_refl _) (.cells #[.slice none 0 0, .slice none 0 0] 29))
    have hb3 : Below w.heap.size w (w2.alloc (.cells #[.slice none 0 0, .slice none 0 0] 29)) := (hb1.trans (hb2.mono hb1.size)).alloc hB2 _
    generalize hgg : w2.heap.size = g at *
    have hm' := Lib.hid hm
    have hr3' := Lib.hid hr3
    have hb3' := Lib.hid hb3
    clear hm hr3 hb3 hb1 hb2 hr2
    go_loopw [17] (PlRel w.heap.size w t g xs.length) (fun i _ => xs.length - (intOf i).toNat)
    case atStart => exact ⟨0, ⟨[], []⟩, Nat.zero_le _, rfl, hr3'.out, hm'.out, valid_nil, Nat.le_refl _, hb3'.out⟩
    case round =>
      obtain ⟨k, m, hk, rfl, hrt, hrm, hvm, hwl, hbel⟩ := hrel
      have hrt := Lib.hid hrt
      have hrm := Lib.hid hrm
      have hvm := Lib.hid hvm
      clear hr3' hm' hb3' z
      by_cases hlt : k < xs.length
      · obtain ⟨b, o, c', hsl, hb, hcells⟩ := hcell (fun e => by rw [e] at hlt; cases hlt)
        injection hsl with hA _ hc'
        subst hA hc'
        obtain ⟨c1, c2, c3, c4⟩ := hcells k hlt
        have d1 : wr.cell? ⟨b, o + k * 4, none⟩ = some (.int .i64 xs[k].kind) := by rw [hbel.cell hb]; exact c1
        have d2 : wr.cell? ⟨b, o + k * 4 + 1, none⟩ = some (.int .i64 xs[k].txn) := by rw [hbel.cell hb]; exact c2
        have d3 : wr.cell? ⟨b, o + k * 4 + 2, none⟩ = some (.int .i64 xs[k].page) := by rw [hbel.cell hb]; exact c3
        have d4 : wr.cell? ⟨b, o + k * 4 + 3, none⟩ = some (.int .i64 xs[k].mode) := by rw [hbel.cell hb]; exact c4
        have hwft := hwf _ (List.getElem_mem hlt)
        clear c1 c2 c3 c4 hcells hcell hwf
        generalize xs[k].kind = kk at *
        generalize xs[k].txn = txn at *
        generalize xs[k].page = page at *
        generalize xs[k].mode = mode at *
        have hbw := hbel.size
        have hBoth : Both w.heap.size t g wr.heap.size m m kk txn page mode (wr.alloc (.cells #[.int .i64 kk, .int .i64 txn, .int .i64 page, .int .i64 mode] 31)) (wr.alloc (.cells #[.int .i64 kk, .int .i64 txn, .int .i64 page, .int .i64 mode] 31)) :=
          ⟨hrt.out.below ((Below.refl _ _).alloc (Nat.le_refl _) _), hrm.out.below ((Below.refl _ _).alloc (Nat.le_refl _) _), (MapKept.heap_alloc _ _).1, Below.refl _ _, by simp; omega⟩
        have hbW := Lib.hid (hbel.alloc hbw (.cells #[.int .i64 kk, .int .i64 txn, .int .i64 page, .int .i64 mode] 31))
        have hBoth := Lib.hid hBoth
        by_cases hk1 : kk = 1
        · subst hk1
          go_wp2
          refine region10 w.heap.size t g wr.heap.size m 1 txn page mode rfl rfl rfl rfl hvm.out hBoth.out ?_
          intro u w2 hu hB2
          have hB2 := Lib.hid hB2
          simp only [putAll, putOne, ops10, List.foldl, Act.put, hu]
          have hv2 := (valid_release hvm.out txn)
          go_frame
          go_wp2
          refine region14 w.heap.size t g wr.heap.size (release m txn).2 1 txn page mode rfl rfl rfl rfl hv2.1 hB2.out.here ?_
          intro u3 w3 hu3 hB3
          have hB3 := Lib.hid hB3
          simp only [putAll, putOne, ops14, List.foldl, Act.put, hu3]
          go_frame
          go_wp2
          go_roundw
          case rel => exact ⟨k + 1, (release m txn).2, hlt, by go_num, hB3.out.T, hB3.out.M, hv2.1, by omega, (hbW.out.trans hB2.out.bel).trans hB3.out.bel⟩
          case measure => simp [intOf]; omega
        · have hk1' : (kk == 1) = false := by simpa using hk1
          go_wp2
          refine region12 w.heap.size t g wr.heap.size m kk txn page mode rfl rfl rfl rfl hvm.out hBoth.out ?_
          intro u w2 hu hB2
          have hB2 := Lib.hid hB2
          simp only [putAll, putOne, ops12, List.foldl, Act.put, hu]
          have hv2 := (valid_take (page := page) (mode := mode) hvm.out (by omega) hwft)
          go_frame
          go_wp2
          refine region14 w.heap.size t g wr.heap.size (take m txn page mode).2 kk txn page mode rfl rfl rfl rfl hv2.1 hB2.out.here ?_
          intro u3 w3 hu3 hB3
          have hB3 := Lib.hid hB3
          simp only [putAll, putOne, ops14, List.foldl, Act.put, hu3]
          go_frame
          go_wp2
          go_roundw
          case rel => exact ⟨k + 1, (take m txn page mode).2, hlt, by go_num, hB3.out.T, hB3.out.M, hv2.1, by omega, (hbW.out.trans hB2.out.bel).trans hB3.out.bel⟩
          case measure => simp [intOf]; omega
      · have hk' : k = xs.length := by omega
        subst hk'
        go_wp2
        go_ret
        exact ⟨rfl, hbel⟩
end Go.Proofs.Ytejpjibhpjgcjaa
