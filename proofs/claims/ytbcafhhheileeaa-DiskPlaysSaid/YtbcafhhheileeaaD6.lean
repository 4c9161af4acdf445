/-
  Part of the proofs of DiskOwns, DiskPlays, SlotPlays: contracts of the device and what they need.
  Conditions: those that each theorem names.
-/
import Derived.Test.YtbcafhhheileeaaD5
import Derived.Deep.WholeRow
import Derived.Deep.Onto
namespace Go.Proofs.Ytbcafhhheileeaa
open Go.RowKit
set_option maxRecDepth 100000

theorem z78 (w : World) : (zeroValue 78).run Try.prog w = .ok (secV zsec) w := by kernel_rfl

theorem assoc_map {α β : Type} (f : α → β) (kv : List (Int × α)) (k : Int) : assoc (kv.map fun x => (x.1, f x.2)) k = (assoc kv k).map f := by
  unfold assoc
  induction kv with
  | nil => rfl
  | cons x kv ih =>
    rw [List.map_cons, List.find?_cons, List.find?_cons]
    cases (x.1 == k) with
    | true => rfl
    | false => exact ih
theorem assoc_sv (kn : List (Int × List Int)) (k : Int) : assoc (sv kn) k = (assoc kn k).map secV := assoc_map secV kn k
section
variable {P : Program} {ops : Array Oper} {rest : List Oper} {o : Oper} {a : Act} {Q : Exit → Act → World → Prop} {w w' : World}
theorem wpList_store (hg : o.guard = none) (t : TypeId) (p v : Operand) (ho : o.op = .store t p v) {pv vv : Value} (hp : a.eval p = pv) (hv : a.eval v = vv) (h : (Instr.storeAt t pv vv).run P w = .ok () w')
    (hK : wpList P ops Q rest (a.put o.dst undef) w') : wpList P ops Q (o :: rest) a w := by
  refine wpList_plain hg fun K hK' => ?_
  unfold Oper.wp execOp
  simp only [ho, hp, hv, Sem.run_bind, Sem.run_pure, h, Result.andThen_ok]
  exact hK' _ _ hK
theorem wpList_load (hg : o.guard = none) (t : TypeId) (p : Operand) (ho : o.op = .load t p) {pv vv : Value} (hp : a.eval p = pv) (h : (Instr.loadAt t pv).run P w = .ok vv w')
    (hK : wpList P ops Q rest (a.put o.dst vv) w') : wpList P ops Q (o :: rest) a w := by
  refine wpList_plain hg fun K hK' => ?_
  unfold Oper.wp execOp
  simp only [ho, hp, Sem.run_bind, Sem.run_pure, h, Result.andThen_ok]
  exact hK' _ _ hK
end
theorem zc78 : Try.zeroCells78.size = 512 := by kernel_rfl
theorem sz78 : (Try.prog.info? 78).map (·.size) = some 512 := by kernel_rfl
theorem byt_size (s : List Int) : (byt s).toArray.size = s.length := by simp [byt]
/-- a sector is laid into the block made last -/
theorem store_sec (w : World) (s : List Int) (hs : s.length = 512) : (Instr.storeAt 78 (.pointer (some ⟨w.heap.size, 0, none⟩)) (secV s)).run Try.prog (w.alloc (.cells Try.zeroCells78 78)) = .ok () (w.alloc (.cells (byt s).toArray 78)) :=
  run_storeAt_new w 78 Try.zeroCells78 (byt s).toArray (by rw [byt_size, hs]; exact sz78) (by rw [byt_size, hs]; exact zc78) (by
    rw [Array.all_eq_true']
    intro x hx
    exact byt_one s x (by simpa using hx))

theorem read_bad (B d : Nat) (D : Dev) (w : World) (h : DRep B w d D) (at_ : Int) (hb : at_ < 0 ∨ D.size ≤ at_) :
    Calls Try.prog 11 #[.pointer (some ⟨d, 0, none⟩), .int .i64 at_] w fun e w' => e = .returned (.tuple #[.slice none 0 0, errV 1]) ∧ w = w' := by
  by_cases h1 : at_ < 0
  · go_enter Try.func11, Try.ntmps11
    go_wp2
    go_ret2
    exact ⟨rfl, rfl⟩
  · have h2 : D.size ≤ at_ := by omega
    have h3 : Hid (DRep B w d D) := h
    clear h hb
    go_enter Try.func11, Try.ntmps11
    go_wp2_with (go_at_call 23; refine (size_c B d D w h3.out).mono ?_; rintro e w2 ⟨rfl, rfl⟩)
    go_ret2
    exact ⟨rfl, rfl⟩
theorem read_down (B d : Nat) (D : Dev) (w : World) (h : DRep B w d D) (at_ : Int) (h1 : 0 ≤ at_) (h2 : at_ < D.size) (hd : D.down = true) :
    Calls Try.prog 11 #[.pointer (some ⟨d, 0, none⟩), .int .i64 at_] w fun e w' => e = .returned (.tuple #[.slice none 0 0, errV 3]) ∧ w = w' := by
  have h3 : Hid (DRep B w d D) := h
  obtain ⟨bn, bs, bc, kn, ks, kc, lf, h⟩ := h
  have c4 := h.c4
  rw [hd] at c4
  clear h
  go_enter Try.func11, Try.ntmps11
  go_wp2_with (go_at_call 23; refine (size_c B d D w h3.out).mono ?_; rintro e w2 ⟨rfl, rfl⟩)
  go_ret2
  exact ⟨rfl, rfl⟩
theorem read_ok (B d : Nat) (D : Dev) (N : Int) (w : World) (hok : DOk N D) (h : DRep B w d D) (at_ : Int) (h1 : 0 ≤ at_) (h2 : at_ < D.size) (hd : D.down = false) :
    Calls Try.prog 11 #[.pointer (some ⟨d, 0, none⟩), .int .i64 at_] w fun e w' => ∃ u, e = .returned (.tuple #[u, .nilIface]) ∧ OwnB w' w.heap.size u (D.now at_) ∧ Below w.heap.size w w' := by
  have h3 : Hid (DRep B w d D) := h
  obtain ⟨bn, bs, bc, kn, ks, kc, lf, h⟩ := h
  have c4 := h.c4
  have c6 := h.c6
  have r1 := run_lookup_im (P := Try.prog) Try.underlying67 Try.underlying3 (z78 w) h.now at_
  have hv : (assoc (sv kn) at_).getD (secV zsec) = secV (D.now at_) := by
    rw [← h.vnow at_]
    rw [assoc_sv]
    cases assoc kn at_ <;> rfl
  rw [hv] at r1
  rw [hd] at c4
  have hlen := hok.lnow at_
  clear h hv
  generalize D.now at_ = s at *
  have hst := store_sec w s hlen
  have hrd : Hid (RdB (w.alloc (.cells (byt s).toArray 78)) (.slice (some ⟨w.heap.size, 0, none⟩) 512 512) s) := by
    have h5 := RdV.lit w (byt s).toArray 78 1 512 (by rw [byt_size, hlen])
    show RdV _ 1 _ s.length (byt s)
    rw [hlen]
    simpa using h5
  go_enter Try.func11, Try.ntmps11
  go_wp2_with (first
    | (go_at_call 23; refine (size_c B d D w h3.out).mono ?_; rintro e w2 ⟨rfl, rfl⟩)
    | (refine wpList_store rfl 78 _ _ rfl rfl rfl hst ?_)
    | (go_at_call 31; refine (clone_c _ s _ hrd.out (by omega)).mono ?_; rintro e w2 ⟨u, rfl, hown, hbel⟩))
  go_ret2
  exact ⟨_, rfl, by have h5 := hown.mono (base' := w.heap.size) (by simp); exact h5, ((Below.refl _ _).alloc (Nat.le_refl _) _).trans (hbel.mono (by simp))⟩
end Go.Proofs.Ytbcafhhheileeaa
