/-
  Part of the proofs of DiskOwns, DiskPlays, SlotPlays: contracts of the device and what they need.
  Conditions: those that each theorem names.
-/
import Derived.Test.YtbcafhhheileeaaD13
import Derived.Test.YtbcafhhheileeaaShelf
namespace Go.Proofs.Ytbcafhhheileeaa
open Go.RowKit Go.Maps Go.Sort Go.Shelf
set_option maxRecDepth 100000

def Sorted (xs : List Int) : Prop := xs.Pairwise (· < ·)
theorem sorted_ext : ∀ {xs ys : List Int}, Sorted xs → Sorted ys → (∀ a, a ∈ xs ↔ a ∈ ys) → xs = ys
  | [], [], _, _, _ => rfl
  | [], y :: ys, _, _, h => by have := (h y).2 (by simp); simp at this
  | x :: xs, [], _, _, h => by have := (h x).1 (by simp); simp at this
  | x :: xs, y :: ys, hx, hy, h => by
    obtain ⟨hx1, hx2⟩ := List.pairwise_cons.1 hx
    obtain ⟨hy1, hy2⟩ := List.pairwise_cons.1 hy
    have exy : x = y := by
      rcases List.mem_cons.1 ((h x).1 (by simp)) with e | hm
      · exact e
      · rcases List.mem_cons.1 ((h y).2 (by simp)) with e | hm'
        · exact e.symm
        · have := hy1 x hm; have := hx1 y hm'; omega
    subst exy
    rw [sorted_ext hx2 hy2 (fun a => ?_)]
    constructor
    · intro ha
      rcases List.mem_cons.1 ((h a).1 (by simp [ha])) with e | hm
      · subst e; exact absurd (hx1 a ha) (by omega)
      · exact hm
    · intro ha
      rcases List.mem_cons.1 ((h a).2 (by simp [ha])) with e | hm
      · subst e; exact absurd (hy1 a ha) (by omega)
      · exact hm

/-- a map of ints, in the library's words -/
theorem im_owns {P : Program} {k : TypeId} (hk : P.underlying k = some (.int .i64)) {w : World} {b : Nat} {kv : List (Int × Value)} (h : IM w b kv) (hn : kv.length ≤ 1000000) (hw : ∀ x ∈ kv, (Lit.int .i64 x.1).wf = true) :
    ∃ D0 : DataW Unit, w.ownsMap P k (fun _ => some (.nil, [])) b kv.length D0 ∧ Maps.size D0 = kv.length ∧ (intKeys D0).Perm (kv.map Prod.fst) := by
  obtain ⟨es, c, hb, hs, he⟩ := h
  have hlen : es.size = kv.length := by have := congrArg List.length he; simpa using this
  have hkey : ∀ x ∈ es.toList, ∃ y ∈ kv, x.key = .int .i64 y.1 := by
    intro x hx
    have : entryOf x ∈ kv.map pairOf := by rw [← he]; exact List.mem_map.2 ⟨x, hx, rfl⟩
    obtain ⟨y, hy, hyx⟩ := List.mem_map.1 this
    exact ⟨y, hy, (congrArg Prod.fst hyx).symm⟩
  have hrd : ∀ x ∈ es.toList, ∃ y, y ∈ kv ∧ x.key = .int .i64 y.1 ∧ Go.WideElems.rd P k (fun _ => some ((.nil : DataW Unit), [])) x = some (.int .i64 y.1, .nil) := by
    intro x hx
    obtain ⟨y, hy, hyx⟩ := hkey x hx
    refine ⟨y, hy, hyx, ?_⟩
    have := hw y hy
    simp [Go.WideElems.rd, hyx, keyOf, hk, mapKey, this]
  refine ⟨.map ((es.toList.map (Go.WideElems.rg P k (fun _ => some (.nil, [])))).foldr DataW.insert []), ⟨es, c, hb, ⟨by simp only [maxLen]; omega, hs, fun x hx => by obtain ⟨y, _, _, h⟩ := hrd x hx; exact ⟨_, h⟩⟩, by omega, rfl⟩, ?_, ?_⟩
  · have := (WideShapes.sorted_perm (es.toList.map (Go.WideElems.rg P k (fun _ => some ((.nil : DataW Unit), []))))).length_eq
    simp [Maps.size, this, hlen]
  · have hp := (WideShapes.sorted_perm (es.toList.map (Go.WideElems.rg P k (fun _ => some ((.nil : DataW Unit), [])))))
    refine (hp.map (fun p => Go.intOf p.1)).trans ?_
    have : (es.toList.map (Go.WideElems.rg P k (fun _ => some ((.nil : DataW Unit), [])))).map (fun p => Go.intOf p.1) = kv.map Prod.fst := by
      have h1 : es.toList.map (fun x => Go.intOf (Go.WideElems.rg P k (fun _ => some ((.nil : DataW Unit), [])) x).1) = es.toList.map (fun x => match (entryOf x).1 with | .int _ a => a | _ => 0) := by
        refine List.map_congr_left fun x hx => ?_
        obtain ⟨y, _, hyx, hy⟩ := hrd x hx
        simp [Go.WideElems.rg, hy, Go.intOf, entryOf, hyx]
      rw [List.map_map]
      have h2 : es.toList.map (fun x => match (entryOf x).1 with | .int _ a => a | _ => 0) = (es.toList.map entryOf).map (fun p => match p.1 with | .int _ a => a | _ => 0) := by rw [List.map_map]; rfl
      have h3 : (kv.map pairOf).map (fun p => match p.1 with | .int _ a => a | _ => 0) = kv.map Prod.fst := by rw [List.map_map]; rfl
      rw [show (fun p => Go.intOf p.1) ∘ Go.WideElems.rg P k (fun _ => some ((.nil : DataW Unit), [])) = fun x => Go.intOf (Go.WideElems.rg P k (fun _ => some ((.nil : DataW Unit), [])) x).1 from rfl, h1, h2, he, h3]
    rw [this]

theorem sort_eq {ss ks l : List Int} (h : ss.Perm ks) (hn : ks.Nodup) (hs : Sorted l) (hm : ∀ a, a ∈ ks ↔ a ∈ l) : ss.mergeSort (fun x y => decide (x ≤ y)) = l := by
  have tr : ∀ a b c : Int, leI a b = true → leI b c = true → leI a c = true := fun a b c h1 h2 => by simp only [leI, decide_eq_true_eq] at *; omega
  have to : ∀ a b : Int, (leI a b || leI b a) = true := fun a b => by simp only [leI, Bool.or_eq_true, decide_eq_true_eq]; omega
  have hp := List.mergeSort_perm ss leI
  have h1 := List.pairwise_mergeSort tr to ss
  have h2 : (ss.mergeSort leI).Nodup := hp.nodup_iff.2 (h.nodup_iff.2 hn)
  refine sorted_ext (xs := ss.mergeSort leI) ?_ hs (fun a => ?_)
  · refine List.Pairwise.imp₂ (fun a b h3 h4 => ?_) h1 h2
    simp only [leI, decide_eq_true_eq] at h3
    have : a ≠ b := h4
    omega
  · rw [hp.mem_iff, h.mem_iff]; exact hm a

theorem Try.sortsA (m : Nat) : AnyZI.SortsIn Try.prog Try.sortedA_ren Fence.wide m :=
  ⟨fun blk off cap ss W hH hblk hsz => callsIn_wide.2 (Try.slices_Sort_int blk off cap ss W hH hblk hsz),
   fun p cap W => callsIn_wide.2 (Try.slices_Sort_int_none p cap W)⟩

theorem nodup_sub_len' {l k : List Int} (hn : l.Nodup) (h : ∀ x ∈ l, x ∈ k) : l.length ≤ k.length := by
  induction l generalizing k with
  | nil => simp
  | cons a l ih =>
    rw [List.nodup_cons] at hn
    have ha := h a (by simp)
    have := ih (k := k.erase a) hn.2 (fun x hx => (List.mem_erase_of_ne (by rintro rfl; exact hn.1 hx)).2 (h x (by simp [hx])))
    rw [List.length_erase_of_mem ha] at this
    have := List.length_pos_of_mem ha
    simp; omega


abbrev RdI (w : World) (v : Value) (xs : List Int) : Prop := RdV w 1 v xs.length (xs.map (Value.int .i64))
/-- the sectors that were written since -/
def uns (D : Dev) : List Int := ((List.range D.size.toNat).map (fun i : Nat => (i : Int))).filter (fun k => D.chg k)
theorem uns_sorted (D : Dev) : Sorted (uns D) := by
  unfold uns Sorted
  refine List.Pairwise.filter _ ?_
  rw [List.pairwise_map]
  exact (List.pairwise_lt_range).imp fun h => by omega
theorem uns_mem {D : Dev} {N : Int} (hok : DOk N D) (k : Int) : k ∈ uns D ↔ D.chg k = true := by
  unfold uns
  rw [List.mem_filter, List.mem_map]
  constructor
  · exact fun h => h.2
  · intro h
    obtain ⟨h1, h2⟩ := hok.chg k h
    exact ⟨⟨k.toNat, List.mem_range.2 (by omega), by omega⟩, h⟩
theorem uns_len (D : Dev) (h : D.size ≤ 4096) : (uns D).length ≤ 4096 := by
  unfold uns
  refine Nat.le_trans (List.length_filter_le _ _) ?_
  simp; omega

set_option maxHeartbeats 1000000 in
/-- Unsynced -/
theorem unsynced_c (B d : Nat) (D : Dev) (N : Int) (w : World) (hok : DOk N D) (h : DRep B w d D) :
    Calls Try.prog 21 #[.pointer (some ⟨d, 0, none⟩)] w fun e w' => ∃ u, e = .returned u ∧ RdI w' u (uns D) ∧ Below w.heap.size w w' := by
  obtain ⟨bn, bs, bc, kn, ks, kc, lf, h⟩ := h
  have hc := h.c8
  refine (callsIn_wide (n := 6)).1 ?_
  have cK : ∀ mb W, CallsIn Fence.wide 5 Try.prog 42 #[.map mb] W fun e w' => e = .returned (.func (.func 62) #[] #[.pointer (some ⟨W.heap.size, 0, none⟩)]) ∧ w' = W.alloc (.cells #[.map mb] 68) := fun mb W => AnyZI.keys_in Try.keysA Fence.wide 5 trivial rfl mb W
  have hfK : Fence.wide.fn 42 := trivial
  have hfS : Fence.wide.fn 41 := trivial
  have hi := h.chg
  have hnd : kc.Nodup := by have := hi.nodup; rwa [ones_keys] at this
  have hll : kc.length ≤ 4096 := Nat.le_trans (nodup_sub_len' hnd (k := uns D) fun x hx => (uns_mem hok x).2 ((h.vchg x).1 hx)) (uns_len D hok.size.2)
  have hwf : ∀ x ∈ ones kc, (Lit.int .i64 x.1).wf = true := fun x hx => by
    have h1 : x.1 ∈ kc := by
      have := List.mem_map_of_mem (f := Prod.fst) hx
      rwa [ones_keys] at this
    obtain ⟨h2, h3⟩ := hok.chg _ ((h.vchg _).1 h1)
    have := hok.size.2
    have hm : IntKind.i64.min = -9223372036854775808 := by decide
    simp [Lit.wf, hm]
    omega
  have hol : (ones kc).length = kc.length := by simp [ones]
  obtain ⟨D0, hown, hds, hdk⟩ := im_owns Try.underlying3 hi (by rw [hol]; omega) hwf
  rw [ones_keys] at hdk
  have hdl : Maps.size D0 ≤ 4096 := by rw [hds, hol]; exact hll
  have hseq : SeqGives Fence.wide 2 Try.prog 62 #[.pointer (some ⟨w.heap.size, 0, none⟩)] encZ (fun ss => ss.Perm (intKeys D0)) (Maps.size D0) (w.alloc (.cells #[.map (some bc)] 68)) :=
    AnyZI.keys_gives (ρ := Try.keysA_ren) { Try.keysA with } Fence.wide _ trivial rfl (by omega) w.heap.size bc _ D0 _ (by simp) (by simp) (hown.alloc _)
  have cS := AnyZI.sorted_in Try.sortedA Fence.wide 5 trivial trivial trivial trivial rfl (by omega) (Try.sortsA _) (enters_of Try.func61 (by kernel_rfl) rfl) 62 #[.pointer (some ⟨w.heap.size, 0, none⟩)] trivial (enters_of Try.func62 (by kernel_rfl) rfl) _ _ (by simp only [maxLen]; omega) (by omega) _ hseq
  change CallsIn _ _ Try.prog 41 _ _ _ at cS
  have hfin : ∀ ss : List Int, ss.Perm (intKeys D0) → ss.mergeSort (fun x y => decide (x ≤ y)) = uns D := fun ss hss => by
    refine sort_eq (hss.trans hdk) hnd (uns_sorted D) (fun a => ?_)
    rw [uns_mem hok, h.vchg]
  have hfin' := Lib.hid hfin
  clear h hi hown hds hdk hwf hfin hnd hll hol
  refine callsIn_of_wp Try.func21 rfl trivial ?_ rfl
  simp only [Try.ntmps21, List.size_toArray, List.length_cons, List.length_nil, Nat.reduceAdd, Nat.reduceSub, Array.replicate_succ, Array.replicate_zero, List.push_toArray, List.append_toArray, List.nil_append, List.cons_append]
  gi_wp2_with (first
    | (gi_at_call 42; refine (cK _ _).mono ?_; rintro e w' ⟨rfl, rfl⟩)
    | (gi_at_call 41; refine cS.mono ?_; rintro e w' ⟨v, ss, rfl, hS, hrow, hnil, hb⟩))
  go_ret
  refine ⟨v, rfl, ?_, ((Below.refl _ w).alloc (Nat.le_refl _) _).trans (hb.mono (by simp))⟩
  have h1 := RdV.of_own hrow
  have h2 : (ss.mergeSort (fun x y => decide (x ≤ y))).length = ss.length := List.length_mergeSort ss
  rw [← h2, hfin'.out ss hS] at h1
  exact h1
end Go.Proofs.Ytbcafhhheileeaa
