/-
  Part of the proofs of DiskOwns, DiskPlays, SlotPlays: contracts of the device and what they need.
  Conditions: those that each theorem names.
-/
import Derived.Test.YtbcafhhheileeaaRule
import Derived.Test.YtbcafhhheileeaaChecked
import Derived.Laws.LoneSync
import Derived.IntWalk
namespace Go.Proofs.Ytbcafhhheileeaa
open Go.RowKit

/-! ### a device, plain -/
structure Dev where
  size : Int
  now : Int → List Int
  synced : Int → List Int
  chg : Int → Bool
  steps : Int
  syncs : Int
  left : Int
  armed : Bool
  down : Bool

def zsec : List Int := List.replicate 512 0
def secV (s : List Int) : Value := .agg (s.map (Value.int .u8)).toArray
def sv (l : List (Int × List Int)) : List (Int × Value) := l.map fun x => (x.1, secV x.2)
def ones (S : List Int) : List (Int × Value) := S.map fun x => (x, .int .i64 1)

def tagD : Obj → Bool
  | .cells _ e _ => e == 77
  | .map _ _ => true
  | _ => false

/-- the program's device in memory -/
structure DAt (B : Nat) (w : World) (d bn bs bc : Nat) (kn ks : List (Int × List Int)) (kc : List Int) (lf : Int) (D : Dev) : Prop where
  b0 : B ≤ d
  blk : w.heap[d]? = some (.cells #[.int .i64 D.steps, .int .i64 D.syncs, .int .i64 lf, .bool D.armed, .bool D.down, .int .i64 D.size, .map (some bn), .map (some bs), .map (some bc)] 77 (0, 0))
  left : D.armed = true → lf = D.left
  bb : B ≤ bn ∧ B ≤ bs ∧ B ≤ bc
  ne : bn ≠ bs ∧ bn ≠ bc ∧ bs ≠ bc
  now : IM w bn (sv kn)
  syn : IM w bs (sv ks)
  chg : IM w bc (ones kc)
  vnow : ∀ k, (assoc kn k).getD zsec = D.now k
  vsyn : ∀ k, (assoc ks k).getD zsec = D.synced k
  vchg : ∀ k, k ∈ kc ↔ D.chg k = true
def DRep (B : Nat) (w : World) (d : Nat) (D : Dev) : Prop := ∃ bn bs bc kn ks kc lf, DAt B w d bn bs bc kn ks kc lf D

structure DOk (N : Int) (D : Dev) : Prop where
  size : 1 ≤ D.size ∧ D.size ≤ 4096
  lnow : ∀ k, (D.now k).length = 512
  lsyn : ∀ k, (D.synced k).length = 512
  chg : ∀ k, D.chg k = true → 0 ≤ k ∧ k < D.size
  same : ∀ k, D.chg k = false → D.now k = D.synced k
  left : D.armed = true → 0 ≤ D.left ∧ D.left ≤ 9223372036854775807
  steps : 0 ≤ D.steps ∧ D.steps ≤ N
  syncs : 0 ≤ D.syncs ∧ D.syncs ≤ N

theorem cell_blk {w : World} {g : Nat} {cs : Array Value} {e : TypeId} {z : Nat × Nat} (h : w.heap[g]? = some (.cells cs e z)) (i : Nat) : w.cell? ⟨g, i, none⟩ = cs[i]? := by
  simp [World.cell?, h]

section
variable {B d bn bs bc : Nat} {w : World} {kn ks : List (Int × List Int)} {kc : List Int} {lf : Int} {D : Dev}
theorem DAt.c0 (h : DAt B w d bn bs bc kn ks kc lf D) : w.cell? ⟨d, 0, none⟩ = some (.int .i64 D.steps) := by rw [cell_blk h.blk]; rfl
theorem DAt.c1 (h : DAt B w d bn bs bc kn ks kc lf D) : w.cell? ⟨d, 1, none⟩ = some (.int .i64 D.syncs) := by rw [cell_blk h.blk]; rfl
theorem DAt.c2 (h : DAt B w d bn bs bc kn ks kc lf D) : w.cell? ⟨d, 2, none⟩ = some (.int .i64 lf) := by rw [cell_blk h.blk]; rfl
theorem DAt.c3 (h : DAt B w d bn bs bc kn ks kc lf D) : w.cell? ⟨d, 3, none⟩ = some (.bool D.armed) := by rw [cell_blk h.blk]; rfl
theorem DAt.c4 (h : DAt B w d bn bs bc kn ks kc lf D) : w.cell? ⟨d, 4, none⟩ = some (.bool D.down) := by rw [cell_blk h.blk]; rfl
theorem DAt.c5 (h : DAt B w d bn bs bc kn ks kc lf D) : w.cell? ⟨d, 5, none⟩ = some (.int .i64 D.size) := by rw [cell_blk h.blk]; rfl
theorem DAt.c6 (h : DAt B w d bn bs bc kn ks kc lf D) : w.cell? ⟨d, 6, none⟩ = some (.map (some bn)) := by rw [cell_blk h.blk]; rfl
theorem DAt.c7 (h : DAt B w d bn bs bc kn ks kc lf D) : w.cell? ⟨d, 7, none⟩ = some (.map (some bs)) := by rw [cell_blk h.blk]; rfl
theorem DAt.c8 (h : DAt B w d bn bs bc kn ks kc lf D) : w.cell? ⟨d, 8, none⟩ = some (.map (some bc)) := by rw [cell_blk h.blk]; rfl
theorem DAt.fz (h : DAt B w d bn bs bc kn ks kc lf D) (i : Nat) : w.frozen? ⟨d, i, none⟩ = false := by simp [World.frozen?, h.blk]
end

theorem size_c (B d : Nat) (D : Dev) (w : World) (h : DRep B w d D) :
    Calls Try.prog 23 #[.pointer (some ⟨d, 0, none⟩)] w fun e w' => e = .returned (.int .i64 D.size) ∧ w = w' := by
  obtain ⟨bn, bs, bc, kn, ks, kc, lf, h⟩ := h
  have c5 := h.c5
  clear h
  go_enter Try.func23, Try.ntmps23
  go_wp2
  go_ret
  exact ⟨rfl, rfl⟩
theorem down_c (B d : Nat) (D : Dev) (w : World) (h : DRep B w d D) :
    Calls Try.prog 19 #[.pointer (some ⟨d, 0, none⟩)] w fun e w' => e = .returned (.bool D.down) ∧ w = w' := by
  obtain ⟨bn, bs, bc, kn, ks, kc, lf, h⟩ := h
  have c4 := h.c4
  clear h
  go_enter Try.func19, Try.ntmps19
  go_wp2
  go_ret
  exact ⟨rfl, rfl⟩
theorem load_c (d i : Nat) (x : Int) (w : World) (h : w.cell? ⟨d, i, none⟩ = some (.int .i64 x)) :
    Calls Try.prog 40 #[.pointer (some ⟨d, i, none⟩)] w fun e w' => e = .returned (.int .i64 x) ∧ w = w' := by
  have hl := run_call_load (P := Try.prog) Try.func59 (by kernel_rfl) (by kernel_rfl) (by kernel_rfl) .i64 (by kernel_rfl) h
  go_enter Try.func40, Try.ntmps40
  go_wp2
  go_ret
  exact ⟨rfl, rfl⟩
theorem add_c (d i : Nat) (x : Int) (w : World) (h : w.cell? ⟨d, i, none⟩ = some (.int .i64 x)) (hf : w.frozen? ⟨d, i, none⟩ = false) (hx : 0 ≤ x ∧ x ≤ 1000000000) :
    Calls Try.prog 52 #[.pointer (some ⟨d, i, none⟩), .int .i64 1] w fun e w' => e = .returned (.int .i64 (x + 1)) ∧ w' = w.setCell ⟨d, i, none⟩ (.int .i64 (x + 1)) := by
  have hl := run_call_add (P := Try.prog) Try.func69 (by kernel_rfl) (by kernel_rfl) (by kernel_rfl) .i64 (by kernel_rfl) (y := 1) (s := x + 1) h hf (by simp [go_sem]; exact IntWalk.i64_in _ (by omega))
  go_enter Try.func52, Try.ntmps52
  go_wp2
  go_ret
  exact ⟨rfl, rfl⟩
theorem steps_c (B d : Nat) (D : Dev) (w : World) (h : DRep B w d D) :
    Calls Try.prog 17 #[.pointer (some ⟨d, 0, none⟩)] w fun e w' => e = .returned (.int .i64 D.steps) ∧ w = w' := by
  obtain ⟨bn, bs, bc, kn, ks, kc, lf, h⟩ := h
  have c0 := Lib.hid h.c0
  clear h
  go_enter Try.func17, Try.ntmps17
  go_wp2_with (go_at_call 40; refine (load_c _ _ _ _ c0.out).mono ?_; rintro e w2 ⟨rfl, rfl⟩)
  go_ret
  exact ⟨rfl, rfl⟩
theorem syncs_c (B d : Nat) (D : Dev) (w : World) (h : DRep B w d D) :
    Calls Try.prog 18 #[.pointer (some ⟨d, 0, none⟩)] w fun e w' => e = .returned (.int .i64 D.syncs) ∧ w = w' := by
  obtain ⟨bn, bs, bc, kn, ks, kc, lf, h⟩ := h
  have c1 := Lib.hid h.c1
  clear h
  go_enter Try.func18, Try.ntmps18
  go_wp2_with (go_at_call 40; refine (load_c _ _ _ _ c1.out).mono ?_; rintro e w2 ⟨rfl, rfl⟩)
  go_ret
  exact ⟨rfl, rfl⟩
end Go.Proofs.Ytbcafhhheileeaa
