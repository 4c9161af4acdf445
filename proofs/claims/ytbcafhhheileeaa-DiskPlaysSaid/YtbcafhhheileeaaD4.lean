/-
  Part of the proofs of DiskOwns, DiskPlays, SlotPlays: contracts of the device and what they need.
  Conditions: those that each theorem names.
-/
import Derived.Test.YtbcafhhheileeaaD3
import Derived.Great.Walk
namespace Go.Proofs.Ytbcafhhheileeaa
open Go.RowKit
set_option maxRecDepth 100000

theorem BytesAt.own {w : World} {b B : Nat} {xs : List Int} (h : BytesAt w b xs) (hB : B ≤ b) (hl : xs.length ≤ maxLen) : OwnB w B (.slice (some ⟨b, 0, none⟩) xs.length xs.length) xs :=
  ⟨by simp [byt], .inr ⟨b, xs.length, _, rfl, hB, h, Nat.le_refl _, hl, by simp [byt], by rw [List.take_of_length_le (by simp [byt])]⟩⟩
theorem own_set {w : World} {B g n c : Nat} {xs : List Int} (h : w.ownsRow B 5 1 (.slice (some ⟨g, 0, none⟩) n c) n (byt xs)) (j : Nat) (y : Int) : (w.setCell ⟨g, j, none⟩ (.int .u8 y)).ownsRow B 5 1 (.slice (some ⟨g, 0, none⟩) n c) n (byt (xs.set j y)) := by
  have := (h.stored j (.int .u8 y)).1
  simpa [byt, List.map_set] using this
theorem grown_set {w : World} {g j : Nat} {u : Value} {row : Option Nat} {w0 : World} (h : w0.grownBy w row) (hr : row = some g) : w0.grownBy (w.setCell ⟨g, j, none⟩ u) row :=
  ⟨h.os, h.tape, h.output, by have := h.size; simpa [World.setCell] using this, fun k hk hne => by
    rw [Below.heap_setCell _ _ _ _ (fun e => hne (by rw [hr, e]))]
    exact h.block k hk hne⟩

def OvRel (B : Nat) (w : World) (v : Value) (n : Nat) (i : Value) (wr : World) : Prop := ∃ (k : Nat) (ys : List Int), k ≤ n ∧ i = .int .i64 k ∧ ys.length = n ∧ wr.ownsRow B 5 1 v n (byt ys) ∧ w.grownBy wr v.ownBlock
theorem over_c (B : Nat) (v : Value) (xs : List Int) (w : World) (h : OwnB w B v xs) (hl : xs.length ≤ 1000000000) :
    Calls Try.prog 10 #[v] w fun e w' => e = .returned (.tuple #[]) ∧ (∃ ys : List Int, ys.length = xs.length ∧ w'.ownsRow B 5 1 v xs.length (byt ys)) ∧ w.grownBy w' v.ownBlock := by
  by_cases hx : xs.length = 0
  · obtain ⟨A, c, rfl⟩ := own_form h
    rw [hx] at h ⊢
    have h' := Lib.hid h
    clear h
    go_enter Try.func10, Try.ntmps10
    go_wp2
    refine wp_loop_rounds 1 ?_
    rw [rounds_succ]
    go_wp2
    refine Go.Great.bodyPost_end0 rfl rfl ?_
    have h2 : w.ownsRow B 5 1 (.slice A 0 c) xs.length (byt xs) := h'.out
    rw [hx] at h2
    exact ⟨rfl, ⟨xs, hx, h2⟩, World.grownBy.refl _ _⟩
  · rcases h.2 with ⟨rfl, h0⟩ | ⟨g, c, cur, rfl, _⟩
    · exact absurd h0 hx
    have h' := Lib.hid h
    clear h
    go_enter Try.func10, Try.ntmps10
    go_wp2
    go_loopw [5] (OvRel B w (.slice (some ⟨g, 0, none⟩) xs.length c) xs.length) (fun i _ => xs.length - (intOf i).toNat)
    case atStart => exact ⟨0, xs, by omega, rfl, rfl, h'.out, World.grownBy.refl _ _⟩
    case round =>
      obtain ⟨k, ys, hk, rfl, hyl, hown, hg⟩ := hrel
      by_cases hlt : k < xs.length
      · have hc := hown.cellAt k (by omega)
        have hf := hown.frozenAt k
        have hyk : (byt ys)[k]? = some (.int .u8 ys[k]) := by simp [byt, hyl, hlt]
        rw [hyk] at hc
        have hown' := Lib.hid hown
        have hg' := Lib.hid hg
        clear hown hg hyk
        generalize ys[k] = y at *
        go_wp2
        exact ⟨⟨k + 1, ys.set k (bits BinOp.xor IntKind.u8 y 255), hlt, by go_num, by simp [hyl], own_set hown'.out k _, grown_set hg'.out rfl⟩, by simp [intOf]; omega⟩
      · have hk' : k = xs.length := by omega
        subst hk'
        go_wp2
        refine Go.Great.bodyPost_end0 rfl rfl ?_
        exact ⟨rfl, ⟨ys, hyl, hown⟩, hg⟩

/-- slices.Clone on bytes -/
theorem clone_c (v : Value) (xs : List Int) (w : World) (h : RdB w v xs) (hl : xs.length ≤ 1000000000) :
    Calls Try.prog 31 #[v] w fun e w' => ∃ u, e = .returned u ∧ OwnB w' w.heap.size u xs ∧ Below w.heap.size w w' := by
  obtain ⟨A, c, rfl⟩ := h.any
  have q28 : ∀ (w : World) (a : Option Addr) (n c n' c' : Nat), (binOp .eql 28 (.slice a n c) (.slice none n' c')).run Try.prog w = .ok (.bool a.isNone) w := fun w a n c n' c' => Lib.run_eql_slice_nil w _ _ a n c n' c' Try.underlying28
  have h' := Lib.hid h
  clear h
  cases A with
  | none =>
    have hx : xs = [] := by
      rcases h'.out with ⟨h1, A', c', e, _, h3⟩
      rcases h3 with h3 | ⟨b, o, rfl, _⟩
      · exact List.eq_nil_of_length_eq_zero h3
      · cases e
    subst hx
    go_enter Try.func31, Try.ntmps31
    go_wp2
    go_ret
    exact ⟨_, rfl, World.ownsRow_nil _ _ _ _, Below.refl _ _⟩
  | some ad =>
    go_enter Try.func31, Try.ntmps31
    go_wp2_with (at_builtin; refine wpList_app _ rfl _ _ _ rfl E28 rfl (World.ownsRow_made w #[] 0 (Nat.le_refl _) (Nat.zero_le _) rfl) rfl (h'.out.below ((Below.refl _ _).alloc (Nat.le_refl _) _)) (byt_one xs) (by omega) (by simp) ?_; intro A1 c1 w1 hown1 hg1)
    go_ret
    refine ⟨_, rfl, by simpa using hown1, ?_⟩
    exact ((Below.refl _ w).alloc (Nat.le_refl _) _).grown hg1 (by simp) (by intro k hk; injection hk with hk; simp at hk; omega)

/-- a blank sector -/
theorem blank_c (w : World) :
    Calls Try.prog 32 #[] w fun e w' => e = .returned (.slice (some ⟨w.heap.size, 0, none⟩) 512 512) ∧ BytesAt w' w.heap.size zsec ∧ Below w.heap.size w w' := by
  have hmk : (Instr.makeSlice 28 (.int .i64 512) (.int .i64 512)).run Try.prog w = .ok (.slice (some ⟨w.heap.size, 0, none⟩) 512 512) (w.alloc (.cells (madeCells #[.int .u8 0] 512) 5)) := run_make_row' (P := Try.prog) 28 5 (.int .u8 0) 1 Try.underlying28 (by kernel_rfl) rfl .i64 .i64 512 (by omega) (by omega) w
  rw [madeBytes] at hmk
  have h0 : Hid (BytesAt (w.alloc (.cells (byt (List.replicate 512 0)).toArray 5)) w.heap.size zsec) := (MapKept.heap_alloc w _).1
  have hb0 := Lib.hid ((Below.refl w.heap.size w).alloc (Nat.le_refl _) (.cells (byt (List.replicate 512 0)).toArray 5))
  generalize hwm : w.alloc (.cells (byt (List.replicate 512 0)).toArray 5) = wm at *
  go_enter Try.func32, Try.ntmps32
  go_wp2
  go_ret
  exact ⟨rfl, h0.out, hb0.out⟩
end Go.Proofs.Ytbcafhhheileeaa
