/-
  Part of the proofs of DiskOwns, DiskPlays, SlotPlays: contracts of the device and what they need.
  Conditions: those that each theorem names.
-/
import Derived.Test.YtbcafhhheileeaaD10
namespace Go.Proofs.Ytbcafhhheileeaa
open Go.RowKit
set_option maxRecDepth 100000

def put (f : Int → List Int) (k : Int) (v : List Int) : Int → List Int := fun j => if j = k then v else f j
def putB (f : Int → Bool) (k : Int) : Int → Bool := fun j => if j = k then true else f j
def dwrite (D : Dev) (at_ : Int) (bs : List Int) : Int × Dev :=
  if at_ < 0 ∨ D.size ≤ at_ then (1, D) else if bs.length ≠ 512 then (2, D) else
  if (dstep D).1 ≠ 0 then dstep D else (0, { (dstep D).2 with now := put D.now at_ bs, chg := putB D.chg at_ })

theorem assoc_keyed {α : Type} (f : Int × α → Int × α) (hf : ∀ x, (f x).1 = x.1) (l : List (Int × α)) (j : Int) : assoc (l.map f) j = (l.find? (fun x => x.1 == j)).map fun x => (f x).2 := by
  unfold assoc
  induction l with
  | nil => rfl
  | cons x l ih =>
    rw [List.map_cons, List.find?_cons, List.find?_cons, hf]
    cases (x.1 == j) with
    | true => rfl
    | false => exact ih
theorem assoc_upd {α : Type} (l : List (Int × α)) (k : Int) (v : α) (j : Int) : assoc (upd l k v) j = if j = k then some v else assoc l j := by
  unfold upd
  by_cases h : l.any (fun x => x.1 == k) = true
  · rw [if_pos h, assoc_keyed _ (fun x => by split <;> simp_all)]
    by_cases hj : j = k
    · subst hj
      rw [if_pos rfl]
      cases hx : l.find? (fun x => x.1 == j) with
      | none =>
        rw [List.find?_eq_none] at hx
        obtain ⟨x, hx1, hx2⟩ := List.any_eq_true.1 h
        exact absurd hx2 (hx x hx1)
      | some x =>
        have := List.find?_some hx
        simp only [Option.map_some]
        rw [if_pos this]
    · rw [if_neg hj]
      unfold assoc
      cases hx : l.find? (fun x => x.1 == j) with
      | none => rfl
      | some x =>
        have h1 := List.find?_some hx
        have h2 : ¬ (x.1 == k) = true := by
          simp only [beq_iff_eq] at h1 ⊢
          omega
        simp only [Option.map_some]
        rw [if_neg h2]
  · rw [if_neg h]
    have hno : l.find? (fun x => x.1 == k) = none := by
      rw [List.find?_eq_none]
      intro x hx hk
      exact h (List.any_eq_true.2 ⟨x, hx, hk⟩)
    unfold assoc
    rw [List.find?_append]
    by_cases hj : j = k
    · subst hj
      rw [if_pos rfl, hno]
      simp
    · rw [if_neg hj]
      have : ((k, v) : Int × α).1 ≠ j := fun e => hj e.symm
      cases l.find? (fun x => x.1 == j) <;> simp [this]
theorem sv_upd (l : List (Int × List Int)) (k : Int) (bs : List Int) : upd (sv l) k (secV bs) = sv (upd l k bs) := by
  unfold upd sv
  have h1 : (l.map fun x => (x.1, secV x.2)).any (fun x => x.1 == k) = l.any (fun x => x.1 == k) := by rw [List.any_map]; rfl
  rw [h1]
  split
  · rw [List.map_map, List.map_map]
    refine List.map_congr_left fun x _ => ?_
    simp only [Function.comp]
    split <;> rfl
  · simp
theorem ones_upd (S : List Int) (k : Int) : ∃ S', upd (ones S) k (.int .i64 1) = ones S' ∧ ∀ j, j ∈ S' ↔ j = k ∨ j ∈ S := by
  by_cases h : k ∈ S
  · refine ⟨S, ?_, fun j => ⟨.inr, fun h' => h'.elim (fun e => e ▸ h) id⟩⟩
    unfold upd
    have hany : (ones S).any (fun x => x.1 == k) = true := List.any_eq_true.2 ⟨(k, .int .i64 1), List.mem_map.2 ⟨k, h, rfl⟩, beq_self_eq_true k⟩
    rw [if_pos hany]
    unfold ones
    rw [List.map_map]
    refine List.map_congr_left fun x _ => ?_
    simp only [Function.comp]
    split
    · rename_i he
      rw [beq_iff_eq.1 he]
    · rfl
  · refine ⟨S ++ [k], ?_, fun j => by simp [or_comm]⟩
    unfold upd
    rw [if_neg (fun hh => by
      obtain ⟨x, hx, he⟩ := List.any_eq_true.1 hh
      obtain ⟨y, hy, rfl⟩ := List.mem_map.1 hx
      exact h (beq_iff_eq.1 he ▸ hy))]
    simp [ones]
section
variable {B d bn bs bc : Nat} {w w' : World} {kn ks : List (Int × List Int)} {kc : List Int} {lf : Int} {D : Dev}
theorem DAt.keep (h : DAt B w d bn bs bc kn ks kc lf D) (hk : ∀ (k : Nat) (o : Obj), w.heap[k]? = some o → tagD o = true → w'.heap[k]? = some o) : DAt B w' d bn bs bc kn ks kc lf D := by
  have im : ∀ b kv, IM w b kv → IM w' b kv := fun b kv him => by
    obtain ⟨es, c, hb, r⟩ := him
    exact ⟨es, c, hk b _ hb rfl, r⟩
  exact { h with blk := hk d _ h.blk rfl, now := im _ _ h.now, syn := im _ _ h.syn, chg := im _ _ h.chg }
theorem DAt.below (h : DAt B w d bn bs bc kn ks kc lf D) (hb : Below w.heap.size w w') : DAt B w' d bn bs bc kn ks kc lf D :=
  h.keep fun _ _ ho _ => (hb.block _ (lt_of_heap ho)).trans ho
theorem Fr.stepIM {S : Obj → Bool} {a : World} {b : Nat} {kv : List (Int × Value)} (hS : ∀ es c, S (.map es c) = true) (h : Fr B S a w) (him : IM w b kv) (hB : B ≤ b) (hg : w.grownBy w' (some b)) : Fr B S a w' :=
  ⟨hg.os.trans h.os, hg.tape.trans h.tape, hg.output.trans h.output, Nat.le_trans h.size hg.size, fun k _ hk hs => by
    have h1 := h.keep k _ hk hs
    refine (hg.block k (lt_of_heap h1) (fun e => ?_)).trans h1
    injection e with e
    subst e
    obtain ⟨es, c, hb, _⟩ := him
    rw [hb] at h1
    cases h1
    rcases hs with hs | hs
    · omega
    · rw [hS] at hs; cases hs⟩
/-- a sector is written: both maps -/
theorem DAt.wrote (h : DAt B w d bn bs bc kn ks kc lf D) {w5 w6 : World} {at_ : Int} {sec : List Int} (him5 : IM w5 bn (upd (sv kn) at_ (secV sec))) (hg5 : w.grownBy w5 (some bn)) (him6 : IM w6 bc (upd (ones kc) at_ (.int .i64 1))) (hg6 : w5.grownBy w6 (some bc)) :
    ∃ kc', DAt B w6 d bn bs bc (upd kn at_ sec) ks kc' lf { D with now := put D.now at_ sec, chg := putB D.chg at_ } := by
  obtain ⟨S', e1, e2⟩ := ones_upd kc at_
  obtain ⟨n1, n2, n3⟩ := h.ne
  have hb5 := (hg5.block d (lt_of_heap h.blk) (fun e => im_ne_blk h.blk h.now (by injection e))).trans h.blk
  have hc5 := h.chg.grown hg5 (fun e => n2 (by injection e with e; exact e.symm))
  have hs5 := h.syn.grown hg5 (fun e => n1 (by injection e with e; exact e.symm))
  refine ⟨S', h.b0, (hg6.block d (lt_of_heap hb5) (fun e => im_ne_blk hb5 hc5 (by injection e))).trans hb5, h.left, h.bb, h.ne, ?_, hs5.grown hg6 (fun e => n3 (by injection e)), by rw [← e1]; exact him6, fun k => ?_, h.vsyn, fun k => ?_⟩
  · rw [sv_upd] at him5
    exact him5.grown hg6 (fun e => n2 (by injection e))
  · rw [assoc_upd]
    show _ = put D.now at_ sec k
    unfold put
    split
    · rfl
    · exact h.vnow k
  · rw [e2, h.vchg]
    show _ ↔ putB D.chg at_ k = true
    unfold putB
    by_cases hk : k = at_ <;> simp [hk]
end

theorem write_bad (B d : Nat) (D : Dev) (w : World) (h : DRep B w d D) (at_ : Int) (v : Value) (hb : at_ < 0 ∨ D.size ≤ at_) :
    Calls Try.prog 9 #[.pointer (some ⟨d, 0, none⟩), .int .i64 at_, v] w fun e w' => e = .returned (errV 1) ∧ w = w' := by
  by_cases h1 : at_ < 0
  · go_enter Try.func9, Try.ntmps9
    go_wp2
    go_ret
    exact ⟨rfl, rfl⟩
  · have h2 : D.size ≤ at_ := by omega
    have h3 : Hid (DRep B w d D) := h
    clear h hb
    go_enter Try.func9, Try.ntmps9
    go_wp2_with (go_at_call 23; refine (size_c B d D w h3.out).mono ?_; rintro e w2 ⟨rfl, rfl⟩)
    go_ret
    exact ⟨rfl, rfl⟩

/-- behind the loop that adds the lengths up -/
theorem write_loop (B d : Nat) (D : Dev) (N : Int) (w : World) (hok : DOk N D) (hN : N ≤ 1000000000) (h : DRep B w d D) (hB : B ≤ w.heap.size) (at_ : Int) (h1 : 0 ≤ at_) (h2 : at_ < D.size) (v : Value) (ps : Parts)
    (hp : ∀ w', Fr B tagD w w' → RdP w' v ps) (hl : (cat ps).length ≤ 1000000000) (hn : ps.length ≤ 1000000) :
    Calls Try.prog 9 #[.pointer (some ⟨d, 0, none⟩), .int .i64 at_, v] w fun e w' => e = .returned (errV (dwrite D at_ (cat ps)).1) ∧ DRep B w' d (dwrite D at_ (cat ps)).2 ∧ Fr B tagD w w' := by
  have h3 : Hid (DRep B w d D) := h
  have hp' := Lib.hid hp
  have hh := hp w (Fr.refl _ _ _)
  obtain ⟨A, c, rfl⟩ : ∃ A c, v = .slice A ps.length c := by
    obtain ⟨_, A, c, rfl, _⟩ := hh.row
    exact ⟨A, c, rfl⟩
  have hh' := Lib.hid hh
  have hle := Lib.hid (cat_le ps)
  clear h hp hh
  go_enter Try.func9, Try.ntmps9
  go_wp2_with (go_at_call 23; refine (size_c B d D w h3.out).mono ?_; rintro e w2 ⟨rfl, rfl⟩)
  go_loopw [7, 23] (C1Rel w ps) (fun _ i _ => ps.length - (intOf i).toNat)
  case atStart => exact ⟨0, Nat.zero_le _, rfl, rfl, rfl⟩
  case round =>
    obtain ⟨k, hk, rfl, rfl, rfl⟩ := hrel
    by_cases hlt : k < ps.length
    · obtain ⟨_, A', c', he, _, hrow⟩ := hh'.out.row
      injection he with hA _ _
      subst hA
      rcases hrow with hrow | ⟨b, o, rfl, hb, hcell⟩
      · omega
      have d1 := hcell k ps[k].1 (by simp [hlt])
      obtain ⟨A2, c2, he2⟩ := RdB.any (hh'.out.each _ (List.getElem_mem hlt))
      rw [he2] at d1
      have h5 := cat_succ hlt
      have h6 := hle.out (k + 1)
      have h7 : ((cat (ps.take (k + 1))).length : Int) = (cat (ps.take k)).length + ps[k].2.length := by rw [h5, List.length_append]; omega
      have h4 : (cat (ps.take k)).length + ps[k].2.length ≤ 1000000000 := by rw [h5, List.length_append] at h6; omega
      have h7' := Lib.hid h7
      clear h5 h6 h7 he2 hcell
      generalize ps[k].2.length = m at *
      generalize (cat (ps.take k)).length = t at *
      go_wp2
      exact ⟨⟨k + 1, hlt, by go_num, by rw [h7'.out], rfl⟩, by simp [intOf]; omega⟩
    · have hk' : k = ps.length := by omega
      subst hk'
      rw [List.take_length]
      by_cases h512 : (cat ps).length = 512
      · have HS := Lib.hid (step_c B d D N wr hok hN h3.out)
        by_cases hst : (dstep D).1 = 0
        · have hd : Hid (dwrite D at_ (cat ps) = (0, { (dstep D).2 with now := put D.now at_ (cat ps), chg := putB D.chg at_ })) := by
            show _ = _
            unfold dwrite
            rw [if_neg (by omega), if_neg (by omega), if_neg (by omega)]
          have hD1 : Hid ((dstep D).2.now = D.now ∧ (dstep D).2.chg = D.chg) := by
            show _ ∧ _
            unfold dstep
            split <;> exact ⟨rfl, rfl⟩
          have hBw : Hid (B ≤ wr.heap.size) := hB
          rw [hst] at HS
          have h512' := Lib.hid h512
          rw [h512]
          clear hst
          go_wp2_with (go_at_call 29; refine HS.out.mono ?_; rintro e w2 ⟨rfl, hr2, hfr2⟩; simp only [errV, if_true])
          obtain ⟨bn, bs, bc, kn, ks, kc, lf, hA⟩ := hr2
          refine region15 w2.heap.size _ ps w2 rfl rfl rfl h512'.out hn (MapKept.heap_alloc w2 _).1 rfl ((Below.refl _ _).alloc (Nat.le_refl _) _) (hp'.out w2 hfr2) ?_
          intro u4 w4 hb4 hbel4
          have hA4 := hA.below hbel4
          have hfr4 : Fr B tagD wr w4 := hfr2.trans (Fr.of_below hbel4)
          obtain ⟨w5, hu5, him5, hg5, _⟩ := run_update_im (P := Try.prog) (w := w4.drew) Try.underlying67 Try.underlying3 hA4.now at_ (secV (cat ps))
          have hblk5 := (hg5.block d (lt_of_heap hA4.blk) (fun e => im_ne_blk hA4.blk hA4.now (by injection e))).trans hA4.blk
          have hc5 : w5.cell? ⟨d, 6, none⟩ = some (.map (some bn)) := by rw [cell_blk hblk5]; rfl
          have hb5 : w5.heap[w2.heap.size]? = some (.cells (byt (cat ps)).toArray 78 (0, 0)) := (hg5.block _ (lt_of_heap hb4) (fun e => im_ne_blk hb4 hA4.now (by injection e))).trans hb4
          have hfr5 := hfr4.drew.stepIM (w := w4.drew) (fun _ _ => rfl) hA4.now hA4.bb.1 hg5
          have him5c : IM w5 bc (ones kc) := hA4.chg.grown (w := w4.drew) hg5 (fun e => hA4.ne.2.1 (by injection e with e; exact e.symm))
          obtain ⟨w6, hu6, him6, hg6, _⟩ := run_update_im (P := Try.prog) Try.underlying68 Try.underlying3 him5c at_ (.int .i64 1)
          have hfr6 := Lib.hid (hfr5.stepIM (fun _ _ => rfl) him5c hA4.bb.2.2 hg6)
          have hc8 : w5.cell? ⟨d, 8, none⟩ = some (.map (some bc)) := by rw [cell_blk hblk5]; rfl
          have hA6 : Hid (∃ kc', DAt B w6 d bn bs bc (upd kn at_ (cat ps)) ks kc' lf { (dstep D).2 with now := put (dstep D).2.now at_ (cat ps), chg := putB (dstep D).2.chg at_ }) := DAt.wrote (w := w4.drew) (hA4.keep (w' := w4.drew) fun _ _ h _ => h) him5 hg5 him6 hg6
          have hc6 := hA4.c6
          simp only [putAll, putOne, ops15, List.foldl, Act.put]
          clear him5 hg5 him6 hg6 him5c hblk5 hfr5 hfr4 hA4 hA hfr2
          go_frame
          go_wp2
          refine region16 d bn w2.heap.size at_ (cat ps) rfl rfl rfl rfl h512'.out hc6 hb4 hu5 hc5 hb5 ?_
          intro u6
          simp only [putAll, putOne, ops16, List.foldl, Act.put]
          go_frame
          go_wp2
          go_ret
          rw [hd.out]
          obtain ⟨kc', hA6⟩ := hA6.out
          rw [hD1.out.1, hD1.out.2] at hA6
          exact ⟨rfl, ⟨_, _, _, _, _, _, _, hA6⟩, hfr6.out⟩
        · have hd : Hid (dwrite D at_ (cat ps) = dstep D) := by
            show _ = _
            unfold dwrite
            rw [if_neg (by omega), if_neg (by omega), if_pos hst]
          have he3 : errV (dstep D).1 = .iface 66 (.int .i64 (dstep D).1) := by simp [errV, hst]
          have he3' := Lib.hid he3
          rw [he3] at HS
          rw [h512]
          clear hst he3
          go_wp2_with (go_at_call 29; refine HS.out.mono ?_; rintro e w2 ⟨rfl, hr2, hfr2⟩)
          go_ret
          rw [hd.out]
          exact ⟨congrArg Ending.returned he3'.out.symm, hr2, hfr2⟩
      · have h513 : (((cat ps).length : Int) == 512) = false := by rw [beq_eq_false_iff_ne]; omega
        have hd : dwrite D at_ (cat ps) = (2, D) := by
          unfold dwrite
          rw [if_neg (by omega), if_pos h512]
        have hd' := Lib.hid hd
        clear hd h512
        generalize ((cat ps).length : Int) = L at *
        go_wp2
        go_ret
        rw [hd'.out]
        exact ⟨rfl, h3.out, Fr.refl _ _ _⟩
end Go.Proofs.Ytbcafhhheileeaa
