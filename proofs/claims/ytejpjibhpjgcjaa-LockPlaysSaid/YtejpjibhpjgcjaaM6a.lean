/-
  The document's table: Take where it must wait, first case.
  Conditions: those that each theorem names.
-/
import Derived.Test.YtejpjibhpjgcjaaM5
namespace Go.Proofs.Ytejpjibhpjgcjaa
open Go.RowKit
set_option maxRecDepth 100000

set_option maxHeartbeats 4000000 in
/-- others stand against it -/
theorem rtake_wait0 (B g : Nat) (m : Tab) (w : World) (vd : Valid m) (h : MRep B w g m) (hB : B ≤ w.heap.size) (txn page mode md : Int) (hm1 : 1 ≤ mode) (hm2 : mode ≤ 3)
    (hc : holds m.locks txn page = 0 ∧ md = mode)
    (ho : against m.locks ⟨txn, page, md⟩ ≠ []) :
    Calls Try.prog 10 #[.pointer (some ⟨g, 0, none⟩), .int .i64 txn, .int .i64 page, .int .i64 mode] w fun e w' =>
      Fr B tagM w w' ∧ ((Reach ⟨m.locks, forget m.waits txn⟩ (against m.locks ⟨txn, page, md⟩) txn ∧ e = .returned (.int .i64 18) ∧ MRep B w' g ⟨m.locks, forget m.waits txn⟩) ∨
        (¬ Reach ⟨m.locks, forget m.waits txn⟩ (against m.locks ⟨txn, page, md⟩) txn ∧ e = .returned (.int .i64 17) ∧ MRep B w' g ⟨m.locks, forget m.waits txn ++ [⟨txn, page, md⟩]⟩)) := by
  have HF := Lib.hid (rforget_c B g m w vd h txn hB)
  have vd1 := valid_forget vd txn
  have HH := fun W (hr : MRep B W g ⟨m.locks, forget m.waits txn⟩) => rholds_c B g _ W vd1 hr txn page
  have HA := Lib.hid (fun W (hr : MRep B W g ⟨m.locks, forget m.waits txn⟩) => ragainst_c B g _ W vd1 hr ⟨txn, page, md⟩)
  dsimp only at HH
  have hsz := vd.size
  have hlen := against_len m.locks ⟨txn, page, md⟩
  have HO := Lib.hid ho
  generalize hst : against m.locks ⟨txn, page, md⟩ = start at *
  have HST := Lib.hid hst
  clear hst ho
  generalize holds m.locks txn page = hs at *
  have HH' := Lib.hid HH
  clear HH
  obtain ⟨rfl, rfl⟩ := hc
  · have hx : ¬ (0 : Int) = md := by omega
    go_enter Try.func10, Try.ntmps10
    go_wp2_with (first
      | (go_at_call 19; refine (HF.out).mono ?_; rintro e w1 ⟨rfl, hrep, hfr⟩)
      | (go_at_call 13; refine (HH'.out _ hrep).mono ?_; rintro e w2 ⟨rfl, rfl⟩)
      | (go_at_call 24; refine (HA.out _ (hrep.below ((Below.refl _ _).alloc (Nat.le_refl _) _))).mono ?_; rintro e w3 ⟨v3, rfl, hrd3, hbel3⟩; obtain ⟨b3, o3, c3, rfl, hlc3, hb3, hcell3⟩ := RdI.form hrd3 HO.out; have hpos3 : 0 < start.length := List.length_pos_iff.2 HO.out))
    have hs1 := hfr.size
    have hs3 := hbel3.size
    simp only [World.size_alloc] at hs3
    have hrepA := hrep.below ((Below.refl w1.heap.size w1).alloc (Nat.le_refl _) (.cells #[.int .i64 txn, .int .i64 page, .int .i64 md] 52))
    have hrep3 := hrepA.below hbel3
    have hA3 : Below w1.heap.size w1 w3 := ((Below.refl w1.heap.size w1).alloc (Nat.le_refl _) _).trans (hbel3.mono (by simp))
    have l0 : w3.cell? ⟨w1.heap.size, 0, none⟩ = some (.int .i64 txn) := by rw [hbel3.cell (by simp)]; simp
    have l1 : w3.cell? ⟨w1.heap.size, 1, none⟩ = some (.int .i64 page) := by rw [hbel3.cell (by simp)]; simp
    have l2 : w3.cell? ⟨w1.heap.size, 2, none⟩ = some (.int .i64 md) := by rw [hbel3.cell (by simp)]; simp
    have hclos0 : Clos ⟨m.locks, forget m.waits txn⟩ start start := by
      have hsp := against_spec m.locks ⟨txn, page, md⟩
      rw [HST.out] at hsp
      exact ⟨hsp.1, fun x hx => hx, fun x hx => .base hx, fun x hx => by obtain ⟨l, hl, _, rfl⟩ := (hsp.2 x).1 hx; exact List.mem_map.2 ⟨l, hl, rfl⟩⟩
    have hA3' := Lib.hid hA3
    have hrep' := Lib.hid hrep
    clear hrepA hrep hA3
    go_loopw [12, 13] (OutRel w3 ⟨m.locks, forget m.waits txn⟩ start) (fun v b _ => 2 * (256 - lenOfV v) + (if boolOfV b then 1 else 0))
    case atStart => exact ⟨start, true, rfl, ⟨_, _, rfl⟩, hrd3, Below.refl _ _, hclos0, by simp⟩
    case round =>
      obtain ⟨all, bb, rfl, ⟨A, cA, rfl⟩, hrd, hbel, hclos, hdone⟩ := hrel
      have hal := hclos.len vd1
      clear hcell3 hclos0
      cases bb with
      | true =>
        clear hdone
        obtain ⟨wo, rfl⟩ : ∃ wo : World, wo = wr := ⟨_, rfl⟩
        go_wp2_with fail
        go_loopw [12, 13, 14] (MidRel w3 ⟨m.locks, forget m.waits txn⟩ start all) (fun _ _ i _ => 257 - (intOf i).toNat)
        case atStart => exact ⟨all, false, 0, by omega, rfl, rfl, ⟨_, _, rfl⟩, hrd, hbel, ⟨hclos, Nat.le_refl _, by simp, fun _ => ⟨rfl, by simp⟩⟩⟩
        case round =>
          obtain ⟨all1, bb, k, hk, rfl, rfl, ⟨A1, cA1, rfl⟩, hrd1, hbel1, hpass⟩ := hrel
          have hal1 := hpass.clos.len vd1
          clear hrd
          by_cases hlt : k < all1.length
          · have hne1 : all1 ≠ [] := by intro e; simp [e] at hlt
            obtain ⟨b1, o1, c1, hA1, hlc1, hb1, hcell1⟩ := RdI.form hrd1 hne1
            injection hA1 with hA1 _ hc1
            subst hA1
            subst hc1
            have hck := hcell1 k hlt
            have hrk : Reach ⟨m.locks, forget m.waits txn⟩ start all1[k] := hpass.clos.reach _ (List.getElem_mem hlt)
            have hk0 : bb = false → ∀ (hi : k < all.length), all[k] = all1[k] := fun hb hi => by have := (hpass.no hb).1; subst this; rfl
            have hfl := forW_len ⟨m.locks, forget m.waits txn⟩ all1[k]
            clear hcell1
            generalize all1[k] = x at *
            have HFW := Lib.hid (fun W hr => rfor_c B g ⟨m.locks, forget m.waits txn⟩ W vd1 hr x)
            generalize hfw : forW ⟨m.locks, forget m.waits txn⟩ x = fw at *
            have hfw' := Lib.hid hfw
            clear hfw
            obtain ⟨wm, rfl⟩ : ∃ wm : World, wm = wr := ⟨_, rfl⟩
            go_wp2_with (go_at_call 18; refine (HFW.out _ (hrep3.below hbel1)).mono ?_; rintro e w4 ⟨v4, rfl, hrd4, hbel4⟩)
            have hs41 := hbel1.size
            have hs4 := hbel4.size
            obtain ⟨A4, c4, rfl⟩ := RdI.any hrd4
            have hbase4 := Lib.hid (hbel1.trans (hbel4.mono hs41))
            go_loopw [12, 13, 16] (InRel w4 ⟨m.locks, forget m.waits txn⟩ start all fw k bb) (fun _ _ i _ => fw.length - (intOf i).toNat)
            case atStart => exact ⟨all1, bb, 0, by omega, rfl, rfl, ⟨_, _, rfl⟩, hrd1.below hbel4, Below.refl _ _, hpass, by simp, id⟩
            case round =>
              obtain ⟨all2, b2, j, hj, rfl, rfl, ⟨A2, cA2, rfl⟩, hrd2, hbel2, hpass2, hin, hmb⟩ := hrel
              have hal2 := hpass2.clos.len vd1
              have hs42 := hbel2.size
              clear hrd1 hpass hck
              by_cases hlj : j < fw.length
              · obtain ⟨b4, o4, c4', hA4, _, hb4, hcell4⟩ := RdI.form hrd4 (by intro e; simp [e] at hlj)
                injection hA4 with hA4 _ hc4
                subst hA4
                subst hc4
                have hck4 := hcell4 j hlj
                have hmem : fw[j] ∈ forW ⟨m.locks, forget m.waits txn⟩ x := by rw [hfw'.out]; exact List.getElem_mem hlj
                have hck5 : wr.cell? ⟨b4, o4 + j, none⟩ = some (.int .i64 fw[j]) := by rw [hbel2.cell hb4]; exact hck4
                have htk : ∀ y, y ∈ fw.take (j + 1) → y ∈ fw.take j ∨ y = fw[j] := by
                  rw [List.take_succ_eq_append_getElem hlj]
                  intro y hy
                  rcases List.mem_append.1 hy with h | h
                  · exact .inl h
                  · simp only [List.mem_singleton] at h; exact .inr h
                have htk' := Lib.hid htk
                clear hcell4 hck4 htk hrd4
                generalize fw[j] = y at *
                have HI := Lib.hid (insert_c (.slice A2 all2.length cA2) all2 y wr (by omega) hrd2)
                have hst1 := Lib.hid (fun h => hpass2.stay (y := y) hrk hmem h)
                have hst2 := Lib.hid (fun h => hpass2.grow (y := y) hrk hmem h)
                have hno2 := Lib.hid hpass2.no
                clear hpass2 hrd2
                cases b2 with
                | true =>
                  have hst3 := Lib.hid (hst1.out (.inl rfl))
                  clear hst1 hst2 hno2
                  go_wp2_with (go_at_call 25; refine (HI.out).mono ?_; rintro e w5 ⟨v5, rfl, hrd5, hbel5⟩; obtain ⟨A5, c5, rfl⟩ := RdI.any hrd5)
                  go_roundw
                  case rel => exact ⟨_, true, j + 1, hlj, by go_num, rfl, ⟨_, _, rfl⟩, hrd5, hbel2.trans (hbel5.mono hs42), hst3.out, by simp, fun _ => rfl⟩
                  case measure => simp [intOf]; omega
                | false =>
                  by_cases hin2 : y ∈ all2
                  · have hst3 := Lib.hid (hst1.out (.inr hin2))
                    have hins : ins all2 y = all2 := ins_in hin2
                    have HI' := HI.out
                    rw [hins] at HI'
                    have HI2 := Lib.hid HI'
                    rw [hins] at hst3
                    have hin' : ∀ z ∈ fw.take (j + 1), z ∈ all := fun z hz => by
                      rcases htk'.out z hz with h | rfl
                      · exact hin rfl z h
                      · have := (hno2.out rfl).1; rw [← this]; exact hin2
                    have hin'' := Lib.hid hin'
                    clear hst1 hst2 HI HI' hins hin2 hin' hno2
                    go_wp2_with (go_at_call 25; refine (HI2.out).mono ?_; rintro e w5 ⟨v5, rfl, hrd5, hbel5⟩; obtain ⟨A5, c5, rfl⟩ := RdI.any hrd5)
                    go_roundw
                    case rel => exact ⟨_, false, j + 1, hlj, by go_num, rfl, ⟨_, _, rfl⟩, hrd5, hbel2.trans (hbel5.mono hs42), hst3.out, fun _ => hin''.out, hmb⟩
                    case measure => simp [intOf]; omega
                  · have hst3 := Lib.hid (hst2.out hin2)
                    have hil : all2.length < (ins all2 y).length := by rw [ins_out_len hin2]; omega
                    clear hst1 hst2 hin2 hno2
                    go_wp2_with (go_at_call 25; refine (HI.out).mono ?_; rintro e w5 ⟨v5, rfl, hrd5, hbel5⟩; obtain ⟨A5, c5, rfl⟩ := RdI.any hrd5)
                    go_roundw
                    case rel => exact ⟨_, true, j + 1, hlj, by go_num, rfl, ⟨_, _, rfl⟩, hrd5, hbel2.trans (hbel5.mono hs42), hst3.out, by simp, fun _ => rfl⟩
                    case measure => simp [intOf]; omega
              · obtain rfl : j = fw.length := by omega
                have hnx : Hid (Pass ⟨m.locks, forget m.waits txn⟩ start all all2 b2 (k + 1)) := hpass2.next (fun hb hi y hy => by
                  have h7 := hk0 (by cases bb with | false => rfl | true => rw [hmb rfl] at hb; cases hb) hi
                  rw [h7, hfw'.out] at hy
                  exact hin hb y (by rw [List.take_length]; exact hy))
                have hbf := Lib.hid (hbase4.out.trans (hbel2.mono (hbase4.out.size)))
                clear hpass2 hrd4
                go_wp2
                go_roundw
                case rel => exact ⟨all2, b2, k + 1, by omega, by go_num, rfl, ⟨_, _, rfl⟩, hrd2, hbf.out, hnx.out⟩
                case measure => simp [intOf]; omega
          · have hpn := hpass.no
            have hcl := hpass.clos
            have hpy := hpass.yes
            have hfin : bb = false → ∀ x ∈ all1, ∀ y ∈ forW ⟨m.locks, forget m.waits txn⟩ x, y ∈ all1 := fun hb x hx => by
              obtain ⟨e, h⟩ := hpn hb
              subst e
              obtain ⟨i, hi, rfl⟩ := List.mem_iff_getElem.1 hx
              exact h i hi (by omega)
            have hfin' := Lib.hid hfin
            have hpl := hpass.le
            clear hfin hpass hpn
            go_wp2
            go_roundw
            case rel => exact ⟨all1, bb, rfl, ⟨_, _, rfl⟩, hrd1, hbel1, hcl, hfin'.out⟩
            case measure =>
              cases bb with
              | true => have := hpy rfl; simp [lenOfV, boolOfV]; omega
              | false => simp [lenOfV, boolOfV]; omega
      | false =>
        have hcl := Lib.hid (hclos.done (hdone rfl) txn)
        have hsa := hclos.sub
        have hne : all ≠ [] := by
          intro e
          have := HO.out
          cases hst : start with
          | nil => exact this hst
          | cons x l => have := hsa x (by simp [hst]); simp [e] at this
        obtain ⟨b5, o5, c5, hA5, hlc5, hb5, hcell5⟩ := RdI.form hrd hne
        injection hA5 with hA5 _ hc5
        subst hA5
        subst hc5
        clear hdone hclos hsa hne
        have HM3 := Lib.hid hrep3
        obtain ⟨vL, vW, hM⟩ := hrep3.below hbel
        have hgb := lt_of_heap hM.blk
        have e0 : wr.cell? ⟨g, 1, none⟩ = some vW := by rw [cell_blkM hM.blk]; rfl
        have ef : wr.frozen? ⟨g, 1, none⟩ = false := by simp [World.frozen?, hM.blk]
        have k0 : wr.cell? ⟨w1.heap.size, 0, none⟩ = some (.int .i64 txn) := by rw [hbel.cell (by simp; omega)]; exact l0
        have k1 : wr.cell? ⟨w1.heap.size, 1, none⟩ = some (.int .i64 page) := by rw [hbel.cell (by simp; omega)]; exact l1
        have k2 : wr.cell? ⟨w1.heap.size, 2, none⟩ = some (.int .i64 md) := by rw [hbel.cell (by simp; omega)]; exact l2
        obtain ⟨wo, rfl⟩ : ∃ wo : World, wo = wr := ⟨_, rfl⟩
        have HM := Lib.hid hM
        have hbw := hbel.size
        clear hM l0 l1 l2
        go_wp2_with fail
        go_loop [18] (fun i => ∃ k : Nat, k ≤ all.length ∧ i = .int .i64 k ∧ ∀ x ∈ all.take k, ¬ x = txn) (fun i => all.length - (intOf i).toNat)
        case atStart => exact ⟨0, by omega, rfl, by simp⟩
        case round =>
          obtain ⟨k, hk, rfl, hno⟩ := hrel
          by_cases hlt : k < all.length
          · have hck := hcell5 k hlt
            have hmem := Lib.hid (List.getElem_mem hlt)
            have hno' := Lib.hid (fun h => take_no (p := fun x => x = txn) hlt hno h)
            clear hcell5 hno
            generalize all[k] = y at *
            by_cases hy : y = txn
            · subst hy
              have hR := hcl.out.1 hmem.out
              have hR' := Lib.hid hR
              clear hR
              go_wp2_with fail
              go_ret
              exact ⟨hfr.trans (Fr.of_below (hA3'.out.trans (hbel.mono (by omega)))), .inl ⟨hR'.out, rfl, HM3.out.below hbel⟩⟩
            · have hno2 := Lib.hid (hno'.out hy)
              clear hno'
              go_wp2_with fail
              go_round
              case rel => exact ⟨k + 1, hlt, by go_num, hno2.out⟩
              case measure => simp [intOf]; omega
          · obtain rfl : k = all.length := by omega
            have hR : ¬ Reach ⟨m.locks, forget m.waits txn⟩ start txn := by
              rw [← hcl.out]
              intro hm
              rw [List.take_length] at hno
              exact hno txn hm rfl
            have hR' := Lib.hid hR
            clear hno hR hcell5
            obtain ⟨AW, cW, rfl⟩ := HM.out.wform
            have hown := HM.out.waits
            have hwl := vd1.wsize
            go_wp2_with fail
            have hown' : wo.drew.ownsRow B 52 3 (.slice AW (forget m.waits txn).length cW) (forget m.waits txn).length (rowL (forget m.waits txn)) := hown
            have hBw : B ≤ wo.drew.heap.size := by have := hfr.size; simp; omega
            have hgne := own_ne hown HM.out.blk (by decide)
            have hgbd : g < wo.drew.heap.size := hgb
            go_region_law (refine step_app1 wo.drew rfl (.tmp 106) (.tmp 108) 27 rfl E27 rfl hown' rfl rfl (by simp [Value.oneCell']) (by omega) hBw ?_; intro A6 c6 w6 hown6 hg6 hat6; have e6 : w6.cell? ⟨g, 1, none⟩ = some (.slice AW (forget m.waits txn).length cW) := hg6.cell (w := wo.drew) e0 hgne; have f6 : w6.frozen? ⟨g, 1, none⟩ = false := by (rw [grown_frozen hg6 hgbd hgne]; exact ef))
            all_goals
              go_wp2_with fail
              go_ret
              have hown7 : OwnL w6 B (.slice A6 (forget m.waits txn ++ ([⟨txn, page, md⟩] : List Lk)).length c6) (forget m.waits txn ++ ([⟨txn, page, md⟩] : List Lk)) := by
                unfold OwnL
                rw [rowL_snoc, List.length_append]
                exact hown6
              have hpush := MAt.pushW (W := forget m.waits txn ++ ([⟨txn, page, md⟩] : List Lk)) HM.out.drew hg6 hown7 ⟨_, _, rfl⟩ (by rw [List.length_append]; exact hat6)
              rw [List.length_append] at hpush
              exact ⟨(hfr.trans (Fr.of_below (hA3'.out.trans (hbel.mono (by omega))))).trans (Fr.drew (Fr.refl _ _ _) |>.trans hpush.2), .inr ⟨hR'.out, rfl, ⟨_, _, hpush.1⟩⟩⟩
end Go.Proofs.Ytejpjibhpjgcjaa
