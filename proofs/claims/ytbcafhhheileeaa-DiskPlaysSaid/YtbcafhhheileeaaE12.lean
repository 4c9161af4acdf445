/-
  Part of the proofs of DiskPlays, SlotPlays: Kept, long, and the script.
  Conditions: those that each theorem names.
-/
import Derived.Test.YtbcafhhheileeaaE11
namespace Go.Proofs.Ytbcafhhheileeaa
open Go.RowKit
set_option maxRecDepth 100000

theorem Row1.pre {B g c : Nat} {w : World} {xs : List Int} (h : Row1 B w g c (xs.length + 2) (marked xs)) : RdB w (.slice (some ⟨g, 0, none⟩) xs.length c) xs := by
  have h1 := own_prefix h (m := xs.length) (by omega)
  have e : (byt (marked xs)).take xs.length = byt xs := by
    unfold byt marked
    rw [← List.map_take, List.take_left]
  rw [e] at h1
  exact RdV.of_own h1
theorem kept_c (B g c : Nat) (u : Value) (xs : List Int) (w : World) (h : Row1 B w g c (xs.length + 2) (marked xs)) (hu : RdB w u xs) (hl : xs.length ≤ 1000000000) :
    Calls Try.prog 35 #[.slice (some ⟨g, 0, none⟩) xs.length c, u] w fun e w' => e = .returned (.bool true) ∧ w = w' := by
  have hc1 := conv_b h.pre
  have hc2 := conv_b hu
  obtain ⟨A, c', rfl⟩ := RdB.any hu
  have hle := h.le
  have e1 : w.cell? ⟨g, xs.length, none⟩ = some (.int .u8 165) := by
    have := h.cell xs.length (by omega)
    simpa [marked] using this
  have e2 : w.cell? ⟨g, xs.length + 1, none⟩ = some (.int .u8 90) := by
    have := h.cell (xs.length + 1) (by omega)
    simpa [marked] using this
  have hle1 : ¬ ((c : Int) < (xs.length : Int) + 2) := by omega
  have hle2 : xs.length + 2 ≤ c := hle
  clear h hu hle
  generalize strOfNums xs = S at *
  generalize xs.length = n at *
  go_enter Try.func35, Try.ntmps35
  go_wp2
  go_ret
  exact ⟨rfl, rfl⟩

/-! ### the script -/
structure OpS where
  kind : Int
  at_ : Int
  n : Int
  bv : Value
  bytes : List Int
  kv : Value
  keep : List Int
def opVals (o : OpS) : Array Value := #[.int .i64 o.kind, .int .i64 o.at_, .int .i64 o.n, o.bv, o.kv]
structure ScrD (w : World) (v : Value) (xs : List OpS) : Prop where
  form : ∃ A c, v = .slice A xs.length c
  cells : ∀ k (hk : k < xs.length), ∃ b o c, v = .slice (some ⟨b, o, none⟩) xs.length c ∧ w.cell? ⟨b, o + k * 5, none⟩ = some (.int .i64 xs[k].kind) ∧ w.cell? ⟨b, o + k * 5 + 1, none⟩ = some (.int .i64 xs[k].at_) ∧
    w.cell? ⟨b, o + k * 5 + 2, none⟩ = some (.int .i64 xs[k].n) ∧ w.cell? ⟨b, o + k * 5 + 3, none⟩ = some xs[k].bv ∧ w.cell? ⟨b, o + k * 5 + 4, none⟩ = some xs[k].kv
  each : ∀ o ∈ xs, RdB w o.bv o.bytes ∧ RdI w o.kv o.keep ∧ o.bytes.length ≤ 9223372036854775807 ∧ o.keep.length ≤ 9223372036854775807 ∧ o.n ≤ 9223372036854775807
theorem ScrD.below {w w' : World} {v : Value} {xs : List OpS} (h : ScrD w v xs) (hb : Below w.heap.size w w') : ScrD w' v xs := by
  refine ⟨h.form, fun k hk => ?_, fun o ho => ?_⟩
  · obtain ⟨b, o, c, h0, h1, h2, h3, h4, h5⟩ := h.cells k hk
    have hlt : b < w.heap.size := World.block_lt_of_cell? _ _ h1
    exact ⟨b, o, c, h0, (hb.cell (p := ⟨b, o + k * 5, none⟩) hlt).trans h1, (hb.cell (p := ⟨b, o + k * 5 + 1, none⟩) hlt).trans h2, (hb.cell (p := ⟨b, o + k * 5 + 2, none⟩) hlt).trans h3, (hb.cell (p := ⟨b, o + k * 5 + 3, none⟩) hlt).trans h4, (hb.cell (p := ⟨b, o + k * 5 + 4, none⟩) hlt).trans h5⟩
  · obtain ⟨h1, h2, h3⟩ := h.each o ho
    exact ⟨RdV.below h1 hb, RdV.below h2 hb, h3⟩
def small (xs : List OpS) : Prop := xs.length ≤ 400 ∧ ∀ o ∈ xs, o.bytes.length ≤ 65536 ∧ o.keep.length ≤ 6415
def LongPost (w : World) (xs : List OpS) (e : Ending) (w' : World) : Prop := ∃ b : Bool, e = .returned (.bool b) ∧ (b = false → small xs) ∧ Below w.heap.size w w'
def LgRel (w : World) (xs : List OpS) (s i : Value) (wr : World) : Prop :=
  ∃ (k m : Nat), k ≤ xs.length ∧ i = .int .i64 k ∧ s = .int .i64 m ∧ m ≤ 400 ∧ k ≤ m ∧ (∀ j (hj : j < xs.length), j < k → xs[j].bytes.length ≤ 65536 ∧ xs[j].keep.length ≤ 6415) ∧ Below w.heap.size w wr

set_option maxHeartbeats 4000000 in
theorem long_c (v : Value) (xs : List OpS) (w : World) (h : ScrD w v xs) : Calls Try.prog 15 #[v] w (LongPost w xs) := by
  obtain ⟨A, c, rfl⟩ := h.form
  have hH := Lib.hid h
  clear h
  go_enter Try.func15, Try.ntmps15
  go_wp2
  go_loopw [3, 8] (LgRel w xs) (fun _ i _ => xs.length - (intOf i).toNat)
  case atStart => exact ⟨0, 0, Nat.zero_le _, rfl, rfl, by omega, Nat.le_refl _, fun j hj h => by omega, Below.refl _ _⟩
  case round =>
    obtain ⟨k, m, hk, rfl, rfl, hm, hkm, hall, hbel⟩ := hrel
    have hallH := Lib.hid hall
    have hbelH := Lib.hid hbel
    clear hall
    by_cases hlt : k < xs.length
    · have hh := hH.out.below hbel
      obtain ⟨b, o, c', hv, d1, d2, d3, d4, d5⟩ := hh.cells k hlt
      injection hv with e1 _ e3
      subst e1 e3
      obtain ⟨r1, r2, l1, l2, _⟩ := hh.each _ (List.getElem_mem hlt)
      obtain ⟨A1, c1, hv1⟩ := RdB.any r1
      obtain ⟨A2, c2, hv2, -⟩ := RdI.form r2
      rw [hv1] at d4
      rw [hv2] at d5
      have hx : ∃ p, xs[k] = p := ⟨_, rfl⟩
      obtain ⟨p, hx⟩ := hx
      have hxH := Lib.hid hx
      rw [hx] at d1 d2 d3 d4 d5 l1 l2
      clear hv1 hv2 r1 r2 hh hx hbel
      generalize hL1 : p.bytes.length = L1 at *
      generalize hL2 : p.keep.length = L2 at *
      have hL1H := Lib.hid hL1
      have hL2H := Lib.hid hL2
      clear hL1 hL2
      have hbw := hbelH.out.size
      by_cases hbig : (400 : Int) < (m : Int) + (1 + (L1 : Int) / 512 + (L2 : Int) / 16)
      · go_wp2
        go_ret
        exact ⟨true, rfl, (fun h => by cases h), hbelH.out.alloc hbw _⟩
      · by_cases hb2 : (65536 : Int) < (L1 : Int)
        · go_wp2
          go_ret
          exact ⟨true, rfl, (fun h => by cases h), hbelH.out.alloc hbw _⟩
        · have hend : Hid (∀ O : Obj, LgRel w xs (.int .i64 ((m : Int) + (1 + (L1 : Int) / 512 + (L2 : Int) / 16))) (.int .i64 ((k : Int) + 1)) (wr.alloc O)) := fun O => by
            refine ⟨k + 1, m + (1 + L1 / 512 + L2 / 16), hlt, by go_num, by congr 1, by omega, by omega, fun j hj hjk => ?_, hbelH.out.alloc hbw O⟩
            by_cases hj2 : j = k
            · subst hj2
              rw [hxH.out, hL1H.out, hL2H.out]
              exact ⟨by omega, by omega⟩
            · exact hallH.out j hj (by omega)
          go_wp2
          exact ⟨hend.out _, by simp [intOf]; omega⟩
    · obtain rfl : k = xs.length := by omega
      have hsm : Hid (small xs) := ⟨by omega, fun o ho => by
        obtain ⟨j, hj, rfl⟩ := List.getElem_of_mem ho
        exact hallH.out j hj hj⟩
      clear hlt
      go_wp2
      go_ret
      exact ⟨false, rfl, fun _ => hsm.out, hbelH.out⟩
end Go.Proofs.Ytbcafhhheileeaa
