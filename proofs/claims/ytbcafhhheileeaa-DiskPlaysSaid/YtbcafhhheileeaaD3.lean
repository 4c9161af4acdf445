/-
  Part of the proofs of DiskOwns, DiskPlays, SlotPlays: contracts of the device and what they need.
  Conditions: those that each theorem names.
-/
import Derived.Test.YtbcafhhheileeaaD2
import Derived.Deep.OwnRows
namespace Go.Proofs.Ytbcafhhheileeaa
open Go.RowKit

/-! ### rows of bytes -/
def byt (xs : List Int) : List Value := xs.map (Value.int .u8)
theorem byt_one (xs : List Int) : ∀ u ∈ byt xs, u.oneCell' = true := by
  intro u hu
  obtain ⟨x, _, rfl⟩ := List.mem_map.1 hu
  rfl
theorem E28 : ElemOk Try.prog 28 5 1 1 := ⟨Try.underlying28, ⟨.int .u8 0, by kernel_rfl, rfl⟩, by omega, by omega⟩
abbrev RdB (w : World) (v : Value) (xs : List Int) : Prop := RdV w 1 v xs.length (byt xs)
abbrev OwnB (w : World) (B : Nat) (v : Value) (xs : List Int) : Prop := w.ownsRow B 5 1 v xs.length (byt xs)
theorem RdB.form {w : World} {v : Value} {xs : List Int} (h : RdB w v xs) (hne : xs ≠ []) : ∃ b o c, v = .slice (some ⟨b, o, none⟩) xs.length c ∧ xs.length ≤ c ∧ b < w.heap.size ∧ ∀ i (hi : i < xs.length), w.cell? ⟨b, o + i, none⟩ = some (.int .u8 xs[i]) := by
  obtain ⟨_, A, c, rfl, hc, h3⟩ := h
  rcases h3 with h3 | ⟨b, o, rfl, hb, h4⟩
  · exact absurd (List.eq_nil_of_length_eq_zero h3) hne
  · exact ⟨b, o, c, rfl, hc, hb, fun i hi => h4 i _ (by simp [byt, hi])⟩
theorem RdB.any {w : World} {v : Value} {xs : List Int} (h : RdB w v xs) : ∃ A c, v = .slice A xs.length c := by
  obtain ⟨_, A, c, rfl, _⟩ := h; exact ⟨A, c, rfl⟩
theorem own_form {v : Value} {w : World} {B : Nat} {e : TypeId} {sz k : Nat} {ys : List Value} (h : w.ownsRow B e sz v k ys) : ∃ A c, v = .slice A k c := by
  rcases h.2 with ⟨rfl, rfl⟩ | ⟨g, cap, cur, rfl, _⟩
  · exact ⟨none, 0, rfl⟩
  · exact ⟨_, _, rfl⟩

/-- a block that holds just these bytes -/
def BytesAt (w : World) (b : Nat) (xs : List Int) : Prop := w.heap[b]? = some (.cells (byt xs).toArray 5 (0, 0))
theorem BytesAt.lt {w : World} {b : Nat} {xs : List Int} (h : BytesAt w b xs) : b < w.heap.size := lt_of_heap h
theorem BytesAt.cell {w : World} {b : Nat} {xs : List Int} (h : BytesAt w b xs) (i : Nat) (hi : i < xs.length) : w.cell? ⟨b, i, none⟩ = some (.int .u8 xs[i]) := by
  rw [cell_blk h]; simp [byt, hi]
theorem BytesAt.fz {w : World} {b : Nat} {xs : List Int} (h : BytesAt w b xs) (i : Nat) : w.frozen? ⟨b, i, none⟩ = false := by simp [World.frozen?, show w.heap[b]? = _ from h]
theorem BytesAt.set {w : World} {b : Nat} {xs : List Int} (h : BytesAt w b xs) (i : Nat) (x : Int) : BytesAt (w.setCell ⟨b, i, none⟩ (.int .u8 x)) b (xs.set i x) := by
  unfold BytesAt
  rw [heap_set_same h]
  simp [byt, List.map_set]
theorem BytesAt.rd {w : World} {b : Nat} {xs : List Int} (h : BytesAt w b xs) : RdB w (.slice (some ⟨b, 0, none⟩) xs.length xs.length) xs :=
  ⟨by simp [byt], _, _, rfl, Nat.le_refl _, .inr ⟨b, 0, rfl, h.lt, fun j u hj => by rw [cell_blk h]; simpa using hj⟩⟩
theorem BytesAt.keep {w w' : World} {b : Nat} {xs : List Int} (h : BytesAt w b xs) (he : w'.heap[b]? = w.heap[b]?) : BytesAt w' b xs := he.trans h

def b8 (n : Int) : Int := IntKind.u8.wrap n
theorem madeBytes (n : Nat) : madeCells #[Value.int .u8 0] n = (byt (List.replicate n 0)).toArray := by
  unfold madeCells byt
  apply Array.ext
  · simp
  · intro i h1 h2
    simp [Nat.mod_one]

theorem rep_set (n k : Nat) (b z : Int) (h : k < n) : (List.replicate k b ++ List.replicate (n - k) z).set k b = List.replicate (k + 1) b ++ List.replicate (n - (k + 1)) z := by
  apply List.ext_getElem
  · simp; omega
  · intro i h1 h2
    simp only [List.getElem_set, List.getElem_append, List.getElem_replicate, List.length_replicate]
    by_cases h3 : k = i
    · subst h3; simp
    · by_cases h4 : i < k
      · have h5 : i < k + 1 := by omega
        simp [h3, h4, h5]
      · have h5 : ¬ i < k + 1 := by omega
        simp [h3, h4, h5]
set_option maxRecDepth 100000
def FuRel (b : Int) (w : World) (i : Value) (wr : World) : Prop := ∃ k : Nat, k ≤ 512 ∧ i = .int .i64 k ∧ BytesAt wr w.heap.size (List.replicate k b ++ List.replicate (512 - k) 0) ∧ Below w.heap.size w wr
theorem full_c (n : Int) (w : World) :
    Calls Try.prog 8 #[.int .i64 n] w fun e w' => e = .returned (.slice (some ⟨w.heap.size, 0, none⟩) 512 512) ∧ BytesAt w' w.heap.size (List.replicate 512 (b8 n)) ∧ Below w.heap.size w w' := by
  have hmk : (Instr.makeSlice 28 (.int .i64 512) (.int .i64 512)).run Try.prog w = .ok (.slice (some ⟨w.heap.size, 0, none⟩) 512 512) (w.alloc (.cells (madeCells #[.int .u8 0] 512) 5)) := run_make_row' (P := Try.prog) 28 5 (.int .u8 0) 1 Try.underlying28 (by kernel_rfl) rfl .i64 .i64 512 (by omega) (by omega) w
  rw [madeBytes] at hmk
  have h0 : Hid (BytesAt (w.alloc (.cells (byt (List.replicate 512 0)).toArray 5)) w.heap.size (List.replicate 512 0)) := (MapKept.heap_alloc w _).1
  have hb0 := Lib.hid ((Below.refl w.heap.size w).alloc (Nat.le_refl _) (.cells (byt (List.replicate 512 0)).toArray 5))
  generalize hwm : w.alloc (.cells (byt (List.replicate 512 0)).toArray 5) = wm at *
  go_enter Try.func8, Try.ntmps8
  go_wp2
  go_loopw [8] (FuRel (b8 n) w) (fun i _ => 512 - (intOf i).toNat)
  case atStart => exact ⟨0, by omega, rfl, by simpa using h0.out, hb0.out⟩
  case round =>
    obtain ⟨k, hk, rfl, hba, hbel⟩ := hrel
    by_cases hlt : k < 512
    · have hfz := hba.fz k
      have hn : Hid (BytesAt (wr.setCell ⟨w.heap.size, k, none⟩ (.int .u8 (b8 n))) w.heap.size (List.replicate (k + 1) (b8 n) ++ List.replicate (512 - (k + 1)) 0)) := by
        have h1 := hba.set k (b8 n)
        have e := rep_set 512 k (b8 n) 0 hlt
        rw [e] at h1
        exact h1
      have hc := hba.cell k (by simp; omega)
      have hb8 : IntKind.u8.wrap n = b8 n := rfl
      clear hba
      go_wp2
      exact ⟨⟨k + 1, by omega, by go_num, hn.out, hbel.setCell (by simp) _⟩, by simp [intOf]; omega⟩
    · have hk' : k = 512 := by omega
      subst hk'
      go_wp2
      go_ret
      exact ⟨rfl, by simpa using hba, hbel⟩
end Go.Proofs.Ytbcafhhheileeaa
