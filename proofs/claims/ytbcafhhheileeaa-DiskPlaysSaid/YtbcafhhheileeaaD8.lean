/-
  Part of the proofs of DiskOwns, DiskPlays, SlotPlays: contracts of the device and what they need.
  Conditions: those that each theorem names.
-/
import Derived.Test.YtbcafhhheileeaaD7
namespace Go.Proofs.Ytbcafhhheileeaa
open Go.RowKit
set_option maxRecDepth 100000

/-! ### slices.Concat on rows of bytes -/
abbrev Parts := List (Value × List Int)
def cat (ps : Parts) : List Int := ps.flatMap (·.2)
structure RdP (w : World) (v : Value) (ps : Parts) : Prop where
  row : RdV w 1 v ps.length (ps.map Prod.fst)
  each : ∀ p ∈ ps, RdB w p.1 p.2
theorem RdP.below {w w' : World} {v : Value} {ps : Parts} (h : RdP w v ps) (hb : Below w.heap.size w w') : RdP w' v ps :=
  ⟨h.row.below hb, fun p hp => (h.each p hp).below hb⟩
theorem cat_succ {ps : Parts} {k : Nat} (h : k < ps.length) : cat (ps.take (k + 1)) = cat (ps.take k) ++ ps[k].2 := by
  unfold cat
  rw [List.take_succ_eq_append_getElem h, List.flatMap_append]
  simp
theorem cat_le (ps : Parts) (k : Nat) : (cat (ps.take k)).length ≤ (cat ps).length := by
  conv => rhs; rw [← List.take_append_drop k ps]
  unfold cat
  rw [List.flatMap_append, List.length_append]
  omega

def C1Rel (w : World) (ps : Parts) (s i : Value) (wr : World) : Prop := ∃ k : Nat, k ≤ ps.length ∧ i = .int .i64 k ∧ s = .int .i64 (cat (ps.take k)).length ∧ wr = w
def C2Rel (w : World) (ps : Parts) (u i : Value) (wr : World) : Prop := ∃ k : Nat, k ≤ ps.length ∧ i = .int .i64 k ∧ (∃ A c, u = .slice A (cat (ps.take k)).length c) ∧ OwnB wr w.heap.size u (cat (ps.take k)) ∧ Below w.heap.size w wr

set_option maxHeartbeats 2000000 in
theorem concat_c (v : Value) (ps : Parts) (w : World) (h : RdP w v ps) (hl : (cat ps).length ≤ 1000000000) (hn : ps.length ≤ 1000000) :
    Calls Try.prog 30 #[v] w fun e w' => ∃ u, e = .returned u ∧ OwnB w' w.heap.size u (cat ps) ∧ Below w.heap.size w w' := by
  by_cases hp : ps = []
  · subst hp
    obtain ⟨A, c, rfl⟩ : ∃ A c, v = .slice A 0 c := by
      obtain ⟨_, A, c, rfl, _⟩ := h.row
      exact ⟨A, c, rfl⟩
    clear h
    go_enter Try.func30, Try.ntmps30
    go_wp2
    refine wp_loop_rounds 1 ?_
    rw [rounds_succ]
    go_wp2_with (go_at_call 55; refine (grow_c 0 w (by omega)).mono ?_; rintro e w2 ⟨u, rfl, hown, hbel⟩; obtain ⟨A2, c2, rfl⟩ := own_form hown)
    refine wp_loop_rounds 1 ?_
    rw [rounds_succ]
    go_wp2
    go_ret
    exact ⟨_, rfl, hown, hbel⟩
  · obtain ⟨b, o, c, rfl, hb, hcell⟩ : ∃ b o c, v = .slice (some ⟨b, o, none⟩) ps.length c ∧ b < w.heap.size ∧ ∀ (k : Nat) (hk : k < ps.length), w.cell? ⟨b, o + k, none⟩ = some ps[k].1 := by
      obtain ⟨_, A, c, rfl, _, h3⟩ := h.row
      rcases h3 with h3 | ⟨b, o, rfl, hb, h4⟩
      · exact absurd (List.eq_nil_of_length_eq_zero h3) hp
      · exact ⟨b, o, c, rfl, hb, fun k hk => h4 k _ (by simp [hk])⟩
    have hcell' := Lib.hid hcell
    have hh := Lib.hid h
    have hle := Lib.hid (cat_le ps)
    clear h hcell
    go_enter Try.func30, Try.ntmps30
    go_wp2
    go_loopw [3, 11] (C1Rel w ps) (fun _ i _ => ps.length - (intOf i).toNat)
    case atStart => exact ⟨0, Nat.zero_le _, rfl, rfl, rfl⟩
    case round =>
      obtain ⟨k, hk, rfl, rfl, rfl⟩ := hrel
      by_cases hlt : k < ps.length
      · have d1 := hcell'.out k hlt
        obtain ⟨A, c2, he⟩ := (hh.out.each _ (List.getElem_mem hlt)).any
        rw [he] at d1
        have h1 := cat_succ hlt
        have h2 := hle.out (k + 1)
        have h3 : ((cat (ps.take (k + 1))).length : Int) = (cat (ps.take k)).length + ps[k].2.length := by rw [h1, List.length_append]; omega
        have h4 : (cat (ps.take k)).length + ps[k].2.length ≤ 1000000000 := by rw [h1, List.length_append] at h2; omega
        have h3' := Lib.hid h3
        clear h1 h2 h3 he
        generalize ps[k].2.length = m at *
        generalize (cat (ps.take k)).length = t at *
        go_wp2
        exact ⟨⟨k + 1, hlt, by go_num, by rw [h3'.out], rfl⟩, by simp [intOf]; omega⟩
      · have hk' : k = ps.length := by omega
        subst hk'
        rw [List.take_length]
        have hG := Lib.hid (grow_c (cat ps).length wr hl)
        go_wp2_with (go_at_call 55; refine hG.out.mono ?_; rintro e w2 ⟨u, rfl, hown, hbel⟩; obtain ⟨A2, c2, rfl⟩ := own_form hown)
        have hown' := Lib.hid hown
        have hbel' := Lib.hid hbel
        clear hown hbel
        go_loopw [6, 27] (C2Rel wr ps) (fun _ i _ => ps.length - (intOf i).toNat)
        case atStart => exact ⟨0, Nat.zero_le _, rfl, ⟨_, _, rfl⟩, hown'.out, hbel'.out⟩
        case round =>
          obtain ⟨k, hk, rfl, ⟨A3, c3, rfl⟩, hown, hbel⟩ := hrel
          by_cases hlt : k < ps.length
          · have d1 := hcell'.out k hlt
            have d2 := (hbel.cell hb).trans d1
            have hel : RdB _ ps[k].1 ps[k].2 := (hh.out.each _ (List.getElem_mem hlt)).below hbel
            obtain ⟨A, c2, he⟩ := RdB.any hel
            rw [he] at d2 hel
            have h1 := cat_succ hlt
            have h2 := hle.out (k + 1)
            have h4 : (cat (ps.take k)).length + ps[k].2.length ≤ 1000000000 := by rw [h1, List.length_append] at h2; omega
            have hel' := Lib.hid hel
            have h1' := Lib.hid h1
            have hown' := Lib.hid hown
            have hbel' := Lib.hid hbel
            clear h1 h2 hel he d1 hown hbel
            generalize ps[k].2 = xs at *
            generalize cat (ps.take k) = t at *
            go_wp2_with (at_builtin; refine wpList_app _ rfl _ _ _ rfl E28 rfl hown'.out rfl hel'.out (byt_one xs) (by omega) (by have := hbel'.out.size; omega) ?_; intro A1 c1 w1 hown1 hg1)
            refine ⟨⟨k + 1, hlt, by go_num, ?_, ?_, ?_⟩, by simp [intOf]; omega⟩
            · rw [h1'.out, List.length_append]; exact ⟨_, _, rfl⟩
            · rw [h1'.out]
              show World.ownsRow _ _ _ _ _ (t ++ xs).length (byt (t ++ xs))
              rw [List.length_append]
              simpa [byt] using hown1
            · exact below_grown hbel'.out hown'.out (by have := hbel'.out.size; omega) hg1
          · have hk' : k = ps.length := by omega
            subst hk'
            rw [List.take_length] at hown ⊢
            have hown := Lib.hid hown
            go_wp2
            go_ret
            exact ⟨_, rfl, hown.out, hbel⟩
end Go.Proofs.Ytbcafhhheileeaa
