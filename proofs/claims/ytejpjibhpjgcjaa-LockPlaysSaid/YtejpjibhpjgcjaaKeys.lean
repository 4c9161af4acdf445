/-
  The program's Holders: the keys of a map, sorted.
  Conditions: those that each theorem names.
-/
import Derived.Test.YtejpjibhpjgcjaaShelf
import Derived.Test.YtejpjibhpjgcjaaM2
import Derived.Test.YtejpjibhpjgcjaaT
namespace Go.Proofs.Ytejpjibhpjgcjaa
open Go.RowKit Go.Maps Go.Sort Go.Shelf

/-- a map of ints, in the library's words -/
theorem im_owns {P : Program} {k : TypeId} (hk : P.underlying k = some (.int .i64)) {w : World} {b : Nat} {kv : List (Int × Value)} (h : IM w b kv) (hn : kv.length ≤ 1000000) (hw : ∀ x ∈ kv, (Lit.int .i64 x.1).wf = true) :
    ∃ D0 : DataW Unit, w.ownsMap P k (fun _ => some (.nil, [])) b kv.length D0 ∧ Maps.size D0 = kv.length ∧ (intKeys D0).Perm (kv.map Prod.fst) := by
  obtain ⟨es, c, hb, hs, he⟩ := h
  have hlen : es.size = kv.length := by have := congrArg List.length he; simpa using this
  have hkey : ∀ x ∈ es.toList, ∃ y ∈ kv, x.key = .int .i64 y.1 := by
    intro x hx
    have : entryOf x ∈ kv.map pairOf := by rw [← he]; exact List.mem_map.2 ⟨x, hx, rfl⟩
    obtain ⟨y, hy, hyx⟩ := List.mem_map.1 this
    exact ⟨y, hy, (congrArg Prod.fst hyx).symm⟩
  have hrd : ∀ x ∈ es.toList, ∃ y, y ∈ kv ∧ x.key = .int .i64 y.1 ∧ Go.WideElems.rd P k (fun _ => some ((.nil : DataW Unit), [])) x = some (.int .i64 y.1, .nil) := by
    intro x hx
    obtain ⟨y, hy, hyx⟩ := hkey x hx
    refine ⟨y, hy, hyx, ?_⟩
    have := hw y hy
    simp [Go.WideElems.rd, hyx, keyOf, hk, mapKey, this]
  refine ⟨.map ((es.toList.map (Go.WideElems.rg P k (fun _ => some (.nil, [])))).foldr DataW.insert []), ⟨es, c, hb, ⟨by simp only [maxLen]; omega, hs, fun x hx => by obtain ⟨y, _, _, h⟩ := hrd x hx; exact ⟨_, h⟩⟩, by omega, rfl⟩, ?_, ?_⟩
  · have := (WideShapes.sorted_perm (es.toList.map (Go.WideElems.rg P k (fun _ => some ((.nil : DataW Unit), []))))).length_eq
    simp [Maps.size, this, hlen]
  · have hp := (WideShapes.sorted_perm (es.toList.map (Go.WideElems.rg P k (fun _ => some ((.nil : DataW Unit), [])))))
    refine (hp.map (fun p => Go.intOf p.1)).trans ?_
    have : (es.toList.map (Go.WideElems.rg P k (fun _ => some ((.nil : DataW Unit), [])))).map (fun p => Go.intOf p.1) = kv.map Prod.fst := by
      have h1 : es.toList.map (fun x => Go.intOf (Go.WideElems.rg P k (fun _ => some ((.nil : DataW Unit), [])) x).1) = es.toList.map (fun x => match (entryOf x).1 with | .int _ a => a | _ => 0) := by
        refine List.map_congr_left fun x hx => ?_
        obtain ⟨y, _, hyx, hy⟩ := hrd x hx
        simp [Go.WideElems.rg, hy, Go.intOf, entryOf, hyx]
      rw [List.map_map]
      have h2 : es.toList.map (fun x => match (entryOf x).1 with | .int _ a => a | _ => 0) = (es.toList.map entryOf).map (fun p => match p.1 with | .int _ a => a | _ => 0) := by rw [List.map_map]; rfl
      have h3 : (kv.map pairOf).map (fun p => match p.1 with | .int _ a => a | _ => 0) = kv.map Prod.fst := by rw [List.map_map]; rfl
      rw [show (fun p => Go.intOf p.1) ∘ Go.WideElems.rg P k (fun _ => some ((.nil : DataW Unit), [])) = fun x => Go.intOf (Go.WideElems.rg P k (fun _ => some ((.nil : DataW Unit), [])) x).1 from rfl, h1, h2, he, h3]
    rw [this]

theorem sort_eq {ss ks l : List Int} (h : ss.Perm ks) (hn : ks.Nodup) (hs : Sorted l) (hm : ∀ a, a ∈ ks ↔ a ∈ l) : ss.mergeSort (fun x y => decide (x ≤ y)) = l := by
  have tr : ∀ a b c : Int, leI a b = true → leI b c = true → leI a c = true := fun a b c h1 h2 => by simp only [leI, decide_eq_true_eq] at *; omega
  have to : ∀ a b : Int, (leI a b || leI b a) = true := fun a b => by simp only [leI, Bool.or_eq_true, decide_eq_true_eq]; omega
  have hp := List.mergeSort_perm ss leI
  have h1 := List.pairwise_mergeSort tr to ss
  have h2 : (ss.mergeSort leI).Nodup := hp.nodup_iff.2 (h.nodup_iff.2 hn)
  refine sorted_ext (xs := ss.mergeSort leI) ?_ hs (fun a => ?_)
  · refine List.Pairwise.imp₂ (fun a b h3 h4 => ?_) h1 h2
    simp only [leI, decide_eq_true_eq] at h3
    have : a ≠ b := h4
    omega
  · rw [hp.mem_iff, h.mem_iff]; exact hm a

theorem Try.sortsA (m : Nat) : AnyZI.SortsIn Try.prog Try.sortedA_ren Fence.wide m :=
  ⟨fun blk off cap ss W hH hblk hsz => callsIn_wide.2 (Try.slices_Sort_int blk off cap ss W hH hblk hsz),
   fun p cap W => callsIn_wide.2 (Try.slices_Sort_int_none p cap W)⟩

theorem nodup_sub_len' {l k : List Int} (hn : l.Nodup) (h : ∀ x ∈ l, x ∈ k) : l.length ≤ k.length := by
  induction l generalizing k with
  | nil => simp
  | cons a l ih =>
    rw [List.nodup_cons] at hn
    have ha := h a (by simp)
    have := ih (k := k.erase a) hn.2 (fun x hx => (List.mem_erase_of_ne (by rintro rfl; exact hn.1 hx)).2 (h x (by simp [hx])))
    rw [List.length_erase_of_mem ha] at this
    have := List.length_pos_of_mem ha
    simp; omega

set_option maxHeartbeats 1000000 in
/-- the keys of a map, sorted -/
theorem holders_c (B t : Nat) (m : Tab) (w : World) (v : Valid m) (h : TRep B w t m) (page : Int) :
    Calls Try.prog 15 #[.pointer (some ⟨t, 0, none⟩), .int .i64 page] w fun e w' => ∃ u, e = .returned u ∧ RdI w' u (holdersOf m.locks page) ∧ Below w.heap.size w w' := by
  obtain ⟨bp, bw, pg, wt, h⟩ := h
  have hc : w.cell? ⟨t, 0, none⟩ = some (.map (some bp)) := by rw [cell_blk h.blk]; rfl
  have r1 := run_lookup_im Try.underlying45 Try.underlying3 (z49 w) h.pages page
  refine (callsIn_wide (n := 6)).1 ?_
  have cK : ∀ mb W, CallsIn Fence.wide 5 Try.prog 27 #[.map mb] W fun e w' => e = .returned (.func (.func 32) #[] #[.pointer (some ⟨W.heap.size, 0, none⟩)]) ∧ w' = W.alloc (.cells #[.map mb] 49) := fun mb W => AnyZI.keys_in Try.keysA Fence.wide 5 trivial rfl mb W
  have hfK : Fence.wide.fn 27 := trivial
  have hfS : Fence.wide.fn 26 := trivial
  have hsz := v.size
  rcases h.page page with ⟨ha, hno⟩ | ⟨b, l, hmem, ha, hi, hn, hl⟩
  · rw [ha] at r1
    simp only [Option.getD_none] at r1
    have hempty : holdersOf m.locks page = [] := by
      have hs := holdersOf_spec m.locks page
      cases hh : holdersOf m.locks page with
      | nil => rfl
      | cons x xs =>
        rw [hh] at hs
        obtain ⟨⟨a, b, c⟩, hl, hp, rfl⟩ := (hs.2 x).1 (by simp)
        dsimp only at hp
        subst hp
        exact absurd hl (hno _ _)
    have hseq : SeqGives Fence.wide 2 Try.prog 32 #[.pointer (some ⟨w.heap.size, 0, none⟩)] encZ (fun ss : List Int => ss = []) 0 (w.alloc (.cells #[.map none] 49)) :=
      AnyZI.keys_gives_nil (ρ := Try.keysA_ren) { Try.keysA with } Fence.wide _ trivial rfl w.heap.size _ (by simp) (by simp)
    have cS := AnyZI.sorted_in Try.sortedA Fence.wide 5 trivial trivial trivial trivial rfl (by omega) (Try.sortsA _) (enters_of Try.func29 (by kernel_rfl) rfl) 32 #[.pointer (some ⟨w.heap.size, 0, none⟩)] trivial (enters_of Try.func32 (by kernel_rfl) rfl) _ 0 (Nat.zero_le _) (by omega) _ hseq
    change CallsIn _ _ Try.prog 26 _ _ _ at cS
    clear h ha hno
    refine callsIn_of_wp Try.func15 rfl trivial ?_ rfl
    simp only [Try.ntmps15, List.size_toArray, List.length_cons, List.length_nil, Nat.reduceAdd, Nat.reduceSub, Array.replicate_succ, Array.replicate_zero, List.push_toArray, List.append_toArray, List.nil_append, List.cons_append]
    gi_wp2_with (first
      | (gi_at_call 27; refine (cK _ _).mono ?_; rintro e w' ⟨rfl, rfl⟩)
      | (gi_at_call 26; refine cS.mono ?_; rintro e w' ⟨v, ss, rfl, rfl, hrow, hnil, hb⟩; obtain rfl : v = .slice none 0 0 := hnil.2 rfl))
    go_ret
    rw [hempty]
    exact ⟨_, rfl, RdV.nil _ _, ((Below.refl _ w).alloc (Nat.le_refl _) _).trans (hb.mono (by simp))⟩
  · rw [ha] at r1
    simp only [Option.getD_some] at r1
    have hll : l.length ≤ 256 := by
      have h1 : (l.map Prod.fst).length ≤ (m.locks.map Lk.txn).length := nodup_sub_len' hn (fun x hx => by
        obtain ⟨⟨a, c⟩, hy, rfl⟩ := List.mem_map.1 hx
        exact List.mem_map.2 ⟨_, (hl _ _).1 hy, rfl⟩)
      simp at h1; omega
    have hwf : ∀ x ∈ hv l, (Lit.int .i64 x.1).wf = true := fun x hx => by
      obtain ⟨⟨a, c⟩, hy, rfl⟩ := List.mem_map.1 hx
      exact v.lwf _ ((hl _ _).1 hy)
    obtain ⟨D0, hown, hds, hdk⟩ := im_owns Try.underlying3 hi (by simp [hv]; omega) hwf
    have hdl : Maps.size D0 ≤ 256 := by rw [hds]; simp [hv]; exact hll
    have hseq : SeqGives Fence.wide 2 Try.prog 32 #[.pointer (some ⟨w.heap.size, 0, none⟩)] encZ (fun ss => ss.Perm (intKeys D0)) (Maps.size D0) (w.alloc (.cells #[.map (some b)] 49)) :=
      AnyZI.keys_gives (ρ := Try.keysA_ren) { Try.keysA with } Fence.wide _ trivial rfl (by omega) w.heap.size b _ D0 _ (by simp) (by simp) (hown.alloc _)
    have cS := AnyZI.sorted_in Try.sortedA Fence.wide 5 trivial trivial trivial trivial rfl (by omega) (Try.sortsA _) (enters_of Try.func29 (by kernel_rfl) rfl) 32 #[.pointer (some ⟨w.heap.size, 0, none⟩)] trivial (enters_of Try.func32 (by kernel_rfl) rfl) _ _ (by simp only [maxLen]; omega) (by omega) _ hseq
    change CallsIn _ _ Try.prog 26 _ _ _ at cS
    have hfin : ∀ ss : List Int, ss.Perm (intKeys D0) → ss.mergeSort (fun x y => decide (x ≤ y)) = holdersOf m.locks page := fun ss hss => by
      refine sort_eq (hss.trans hdk) (by rw [hv_keys]; exact hn) (holdersOf_spec _ _).1 (fun a => ?_)
      rw [(holdersOf_spec m.locks page).2, hv_keys]
      constructor
      · intro ha
        obtain ⟨⟨x, c⟩, hy, rfl⟩ := List.mem_map.1 ha
        exact ⟨_, (hl _ _).1 hy, rfl, rfl⟩
      · rintro ⟨⟨x, p, c⟩, hy, rfl, rfl⟩
        exact List.mem_map.2 ⟨(x, c), (hl _ _).2 hy, rfl⟩
    have hfin' := Lib.hid hfin
    clear h ha hl hn hi hmem hown hds hdk hwf hfin
    refine callsIn_of_wp Try.func15 rfl trivial ?_ rfl
    simp only [Try.ntmps15, List.size_toArray, List.length_cons, List.length_nil, Nat.reduceAdd, Nat.reduceSub, Array.replicate_succ, Array.replicate_zero, List.push_toArray, List.append_toArray, List.nil_append, List.cons_append]
    gi_wp2_with (first
      | (gi_at_call 27; refine (cK _ _).mono ?_; rintro e w' ⟨rfl, rfl⟩)
      | (gi_at_call 26; refine cS.mono ?_; rintro e w' ⟨v, ss, rfl, hS, hrow, hnil, hb⟩))
    go_ret
    refine ⟨v, rfl, ?_, ((Below.refl _ w).alloc (Nat.le_refl _) _).trans (hb.mono (by simp))⟩
    have h1 := RdV.of_own hrow
    have h2 : (ss.mergeSort (fun x y => decide (x ≤ y))).length = ss.length := List.length_mergeSort ss
    rw [← h2, hfin'.out ss hS] at h1
    exact h1
end Go.Proofs.Ytejpjibhpjgcjaa
