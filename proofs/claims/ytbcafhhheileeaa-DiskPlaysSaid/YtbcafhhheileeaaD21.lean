/-
  Part of the proofs of DiskOwns, DiskPlays, SlotPlays: contracts of the device and what they need.
  Conditions: those that each theorem names.
-/
import Derived.Test.YtbcafhhheileeaaD20
import Derived.Deep.QuietTactic
import Derived.BigQuiet
namespace Go.Proofs.Ytbcafhhheileeaa
open Go.RowKit
set_option maxRecDepth 100000

/-- the first loop: row k is marked -/
def Ap1 (B n : Nat) (S : Spots) (w : World) (i : Value) (wr : World) : Prop :=
  ∃ k : Nat, k ≤ n ∧ i = .int .i64 k ∧ (∀ j (hj : j < S.length), ∃ xs, Row1 B wr S[j].1 S[j].2 512 xs ∧ (j < k → xs = marks j 512)) ∧ Kp (isRow S) w wr
def Ap1b (B g c k : Nat) (w0 : World) (i : Value) (wr : World) : Prop :=
  ∃ j : Nat, j ≤ 512 ∧ i = .int .i64 j ∧ (∃ ys, Row1 B wr g c 512 ys ∧ ∀ i, i < j → ys[i]? = some (mk k i)) ∧ Kp (fun b => b = g) w0 wr
/-- the second loop: row k is grown -/
def Ap2 (B n : Nat) (S : Spots) (w : World) (G i : Value) (wr : World) : Prop :=
  ∃ (k : Nat) (T : Spots), k ≤ n ∧ i = .int .i64 k ∧ T.length = k ∧ (∀ j (hj : j < S.length), Row1 B wr S[j].1 S[j].2 512 (marks j 512)) ∧
    (∀ j (hj : j < T.length), Row1 B wr T[j].1 T[j].2 524 (marks j 524) ∧ ∀ j' (hj' : j' < S.length), j' ≠ j → T[j].1 ≠ S[j'].1) ∧
    (∃ A c, G = .slice A k c) ∧ wr.ownsRow w.heap.size 28 1 G k (T.map (rowV 524)) ∧ Kp (isRow S) w wr
def Ap2b (B g c k : Nat) (w0 : World) (l : Value) (wr : World) : Prop :=
  ∃ m A c', 512 ≤ m ∧ m ≤ 524 ∧ l = .slice (some ⟨A, 0, none⟩) m c' ∧ Row1 B wr A c' m (marks k m) ∧ Row1 B wr g c 512 (marks k 512) ∧ Kp (fun b => b = g) w0 wr ∧ ((A = g ∧ c' = c) ∨ w0.heap.size ≤ A)

def Ap3 (n : Nat) (w0 : World) (i : Value) (wr : World) : Prop := ∃ k : Nat, k ≤ n ∧ i = .int .i64 k ∧ Kp (fun _ => False) w0 wr
theorem kp0 {w0 w : World} (h : Kp (fun _ => False) w0 w) {b o : Nat} {v : Value} (hc : w0.cell? ⟨b, o, none⟩ = some v) : w.cell? ⟨b, o, none⟩ = some v := by
  rw [World.cell?_of_block (h.keep b (World.block_lt_of_cell? _ _ hc) (fun h => h))]
  exact hc
theorem Row1.mark {B g c m k : Nat} {w : World} (h : Row1 B w g c m (marks k m)) (j : Nat) (hj : j < m) : w.cell? ⟨g, j, none⟩ = some (.int .u8 (mk k j)) := by
  have := h.cell j hj
  rw [marks_get k m j hj] at this
  exact this

set_option maxHeartbeats 8000000 in
theorem apart_c (B vb vo vc n : Nat) (S : Spots) (w : World) (hn : S.length = n) (hn0 : n ≤ 1000) (hvb : vb < w.heap.size)
    (hv : ∀ i (hi : i < S.length), w.cell? ⟨vb, vo + i, none⟩ = some (rowV 512 S[i])) (hne : ¬ isRow S vb)
    (hrow : ∀ j (hj : j < S.length), ∃ xs, Row1 B w S[j].1 S[j].2 512 xs) (hdis : ∀ i j (hi : i < S.length) (hj : j < S.length), i ≠ j → S[i].1 ≠ S[j].1) :
    Calls Try.prog 12 #[.slice (some ⟨vb, vo, none⟩) n vc] w fun e w' => e = .returned (.bool true) ∧ Kp (isRow S) w w' := by
  have hvH := Lib.hid hv
  have hrowH := Lib.hid hrow
  have hdisH := Lib.hid hdis
  have hnH := Lib.hid hn
  clear hv hrow hdis hn
  go_enter Try.func12, Try.ntmps12
  go_wp2
  go_loopw [15] (Ap1 B n S w) (fun i _ => n - (intOf i).toNat)
  case atStart => exact ⟨0, Nat.zero_le _, rfl, fun j hj => by obtain ⟨xs, h⟩ := hrowH.out j hj; exact ⟨xs, h, fun h => by omega⟩, Kp.refl _ _⟩
  case round =>
    obtain ⟨k, hk, rfl, hr, hkp⟩ := hrel
    by_cases hlt : k < n
    · have hkS : k < S.length := by rw [hnH.out]; exact hlt
      have c1 : wr.cell? ⟨vb, vo + k, none⟩ = some (rowV 512 S[k]) := by rw [World.cell?_of_block (hkp.keep vb hvb hne)]; exact hvH.out k hkS
      have hri := Lib.hid (hr k hkS)
      have hr' := Lib.hid hr
      have hkp' := Lib.hid hkp
      have hmem : Hid (S[k] ∈ S) := List.getElem_mem hkS
      have hsk : ∃ p, S[k] = p := ⟨_, rfl⟩
      obtain ⟨⟨g, c⟩, hsk⟩ := hsk
      have hskh := Lib.hid hsk
      rw [hsk] at c1 hri hmem
      simp only [rowV] at c1
      clear hr hkp hsk
      obtain ⟨wo, rfl⟩ : ∃ wo : World, wo = wr := ⟨_, rfl⟩
      go_wp2
      go_loopw [22] (Ap1b B g c k wo) (fun i _ => 512 - (intOf i).toNat)
      case atStart =>
        obtain ⟨xs, h1, _⟩ := hri.out
        exact ⟨0, Nat.zero_le _, rfl, ⟨xs, h1, fun i hi => by omega⟩, Kp.refl _ _⟩
      case round =>
        obtain ⟨j, hj, rfl, ⟨ys, hys, hyk⟩, hk2⟩ := hrel
        by_cases hj5 : j < 512
        · have hce := hys.cellE j hj5
          obtain ⟨y2, c2⟩ := hce
          have f2 := hys.fz j
          have hb8 : IntKind.u8.wrap (31 * (k : Int) + 7 * (j : Int) + 1) = mk k j := rfl
          have hnew : Hid (Ap1b B g c k wo (.int .i64 ((j : Int) + 1)) (wr.setCell ⟨g, j, none⟩ (.int .u8 (mk k j)))) :=
            ⟨j + 1, hj5, by go_num, ⟨_, hys.set j (mk k j), fun i hi => by
              rw [List.getElem?_set]
              by_cases hij : j = i
              · subst hij; rw [if_pos rfl, if_pos (by rw [hys.len]; exact hj5)]
              · rw [if_neg hij]; exact hyk i (by omega)⟩, hk2.setCell (.inr rfl) _⟩
          clear hys hyk hk2
          go_wp2
          exact ⟨hnew.out, by simp [intOf]; omega⟩
        · have hj6 : j = 512 := by omega
          subst hj6
          have hmk : ys = marks k 512 := by
            apply List.ext_getElem?
            intro i
            by_cases hi : i < 512
            · rw [hyk i hi, List.getElem?_eq_getElem (by rw [marks_len]; exact hi), marks_get k 512 i hi]
            · rw [List.getElem?_eq_none (by rw [hys.len]; omega), List.getElem?_eq_none (by rw [marks_len]; omega)]
          have hend : Hid (Ap1 B n S w (.int .i64 ((k : Int) + 1)) wr) := by
            refine ⟨k + 1, hlt, by go_num, fun i hi => ?_, hkp'.out.step hk2 (fun b _ hb => ⟨_, hmem.out, by rw [hb]⟩)⟩
            by_cases hik : i = k
            · subst hik
              rw [hskh.out]
              exact ⟨ys, hys, fun _ => hmk⟩
            · obtain ⟨xs, h1, h2⟩ := hr'.out i hi
              exact ⟨xs, h1.kp hk2 (fun e => hdisH.out i k hi hkS hik (by rw [hskh.out]; exact e)), fun h => h2 (by omega)⟩
          clear hys hyk hk2 hmk
          go_wp2
          exact ⟨hend.out, by simp [intOf]; omega⟩
    · obtain rfl : n = k := by omega
      have hm : ∀ j (hj : j < S.length), Row1 B wr S[j].1 S[j].2 512 (marks j 512) := fun j hj => by
        obtain ⟨xs, h1, h2⟩ := hr j hj
        rw [← h2 (by rw [← hnH.out]; exact hj)]
        exact h1
      have hal : Below wr.heap.size wr (wr.alloc (.cells #[] 28)) := (Below.refl _ _).alloc (Nat.le_refl _) _
      have hw1 := hkp.size
      have h20 : Hid (Ap2 B n S w (.slice (some ⟨wr.heap.size, 0, none⟩) 0 0) (.int .i64 0) (wr.alloc (.cells #[] 28))) :=
        ⟨0, [], Nat.zero_le _, rfl, rfl, fun j hj => (hm j hj).kp (X := fun _ => False) (Kp.of_below hal) (fun h => h), fun j hj => by simp at hj, ⟨_, _, rfl⟩, World.ownsRow_made wr #[] 0 hw1 (Nat.zero_le _) rfl, hkp.alloc _⟩
      clear hr hkp hm hal
      go_wp2
      go_loopw [6, 40] (Ap2 B n S w) (fun _ i _ => n - (intOf i).toNat)
      case atStart => exact h20.out
      case round =>
        clear h20
        obtain ⟨k, T, hk, rfl, hT, hS, hTr, ⟨GA, Gc, rfl⟩, hG, hkp⟩ := hrel
        by_cases hlt2 : k < n
        · have hkS : k < S.length := by rw [hnH.out]; exact hlt2
          have c1 : wr.cell? ⟨vb, vo + k, none⟩ = some (rowV 512 S[k]) := by rw [World.cell?_of_block (hkp.keep vb hvb hne)]; exact hvH.out k hkS
          have hri := Lib.hid (hS k hkS)
          have hS' := Lib.hid hS
          have hTr' := Lib.hid hTr
          have hG' := Lib.hid hG
          have hT' := Lib.hid hT
          have hkp' := Lib.hid hkp
          have hmem : Hid (S[k] ∈ S) := List.getElem_mem hkS
          have hsk : ∃ p, S[k] = p := ⟨_, rfl⟩
          obtain ⟨⟨g, c⟩, hsk⟩ := hsk
          have hskh := Lib.hid hsk
          rw [hsk] at c1 hri hmem
          simp only [rowV] at c1
          clear hS hTr hG hT hkp hsk
          obtain ⟨wo, rfl⟩ : ∃ wo : World, wo = wr := ⟨_, rfl⟩
          go_wp2
          go_loopw [8] (Ap2b B g c k wo) (fun l _ => 524 - (match l with | .slice _ m _ => m | _ => 0))
          case atStart => exact ⟨512, g, c, Nat.le_refl _, by omega, rfl, hri.out, hri.out, Kp.refl _ _, .inl ⟨rfl, rfl⟩⟩
          case round =>
            obtain ⟨m, A, c', hm1, hm2, rfl, hl, hg5, hk2, hor⟩ := hrel
            have hl' := Lib.hid hl
            have hg5' := Lib.hid hg5
            have hk2' := Lib.hid hk2
            have hor' := Lib.hid hor
            clear hl hg5 hk2 hor
            by_cases hm5 : m < 524
            · have hb8 : IntKind.u8.wrap (31 * (k : Int) + 7 * (m : Int) + 1) = mk k m := rfl
              have hBw : Hid (B ≤ wr.heap.size) := Nat.le_trans hl'.out.lt.2 (Nat.le_of_lt hl'.out.lt.1)
              go_wp2_with (at_builtin; refine wpList_app1_two wr rfl _ _ _ rfl E28 rfl hl'.out rfl rfl (by omega) hBw.out ?_; intro A1 c1 w1 hown1 hg1)
              refine ⟨⟨m + 1, A1, c1, by omega, by omega, rfl, ?_, ?_, ?_, ?_⟩, by simp; omega⟩
              · unfold Row1
                rw [marks_succ]
                simpa [byt] using hown1
              · rcases hg1 with ⟨rfl, rfl, hg1⟩ | ⟨hA1, hg1⟩
                · rcases hor'.out with ⟨rfl, rfl⟩ | hA
                  · have := own_prefix hown1 (m := 512) (by omega)
                    unfold Row1
                    have e : (byt (marks k m) ++ [Value.int .u8 (mk k m)]).take 512 = byt (marks k 512) := by
                      have : byt (marks k m) ++ [Value.int .u8 (mk k m)] = byt (marks k (m + 1)) := by rw [marks_succ]; simp [byt]
                      rw [this]
                      unfold byt
                      rw [← List.map_take, marks_take k (m + 1) 512 (by omega)]
                    rw [e] at this
                    exact this
                  · exact hg5'.out.kp (Kp.of_grown (X := fun b => b = A1) hg1 (fun b hb _ => by injection hb with hb; exact hb.symm)) (fun e => by have := hri.out.lt.1; omega)
                · exact hg5'.out.kp (X := fun _ => False) (Kp.of_below hg1) (fun h => h)
              · rcases hg1 with ⟨rfl, rfl, hg1⟩ | ⟨hA1, hg1⟩
                · refine hk2'.out.step (Kp.of_grown (X := fun b => b = A1) hg1 (fun b hb _ => by injection hb with hb; exact hb.symm)) (fun i hi he => ?_)
                  rcases hor'.out with ⟨rfl, rfl⟩ | hA
                  · exact he
                  · omega
                · exact hk2'.out.trans (Kp.of_below hg1)
              · rcases hg1 with ⟨rfl, rfl, hg1⟩ | ⟨hA1, hg1⟩
                · exact hor'.out
                · exact .inr (Nat.le_trans hk2'.out.size hA1)
            · obtain rfl : m = 524 := by omega
              have hBw : Hid (w.heap.size ≤ wr.heap.size) := Nat.le_trans hkp'.out.size hk2'.out.size
              have hGn := Lib.hid (hri.out.ne hG'.out)
              have hGr : Hid (wr.ownsRow w.heap.size 28 1 (.slice GA k Gc) k (T.map (rowV 524))) := own_kp hG'.out hk2'.out (fun b hb e => hGn.out (by rw [hb, e]))
              go_wp2_with (at_builtin; refine wpList_app1 wr rfl _ _ _ rfl E35 rfl hGr.out rfl rfl (by simp; rfl) (by omega) hBw.out ?_; intro A1 c1 w1 hown1 hg1)
              have hX : ∀ b, (Value.slice GA k Gc).ownBlock = some b → b < w.heap.size → False := fun b hb hlt => by
                have := (hGr.out.lt b hb).1
                omega
              have hkeepRow : ∀ {g2 c2 m2 : Nat} {xs : List Int}, Row1 B wr g2 c2 m2 xs → Row1 B w1 g2 c2 m2 xs := fun {g2 c2 m2 xs} h =>
                h.kp (X := fun b => (Value.slice GA k Gc).ownBlock = some b) (Kp.of_grown hg1 (fun b hb _ => hb)) (fun e => h.ne hGr.out e)
              refine ⟨⟨k + 1, T ++ [(A, c')], hlt2, by go_num, by simp [hT'.out], ?_, ?_, ⟨_, _, rfl⟩, ?_, ?_⟩, by simp [intOf]; omega⟩
              · intro j hj
                refine hkeepRow ?_
                by_cases hjk : j = k
                · subst hjk
                  rw [hskh.out]
                  exact hg5'.out
                · exact (hS'.out j hj).kp hk2'.out (fun e => hdisH.out j k hj hkS hjk (by rw [hskh.out]; exact e))
              · intro j hj
                by_cases hjk : j < T.length
                · rw [List.getElem_append_left hjk]
                  obtain ⟨h1, h2⟩ := hTr'.out j hjk
                  have hjk' : k ≠ j := by have := hT'.out; omega
                  exact ⟨hkeepRow (h1.kp hk2'.out (fun e => h2 k hkS hjk' (by rw [hskh.out]; exact e))), h2⟩
                · have hjT : j = T.length := by simp at hj; omega
                  subst hjT
                  rw [List.getElem_append_right (Nat.le_refl _)]
                  simp only [Nat.sub_self, List.getElem_cons_zero]
                  rw [hT'.out]
                  refine ⟨hkeepRow hl'.out, fun j' hj' hne' => ?_⟩
                  rcases hor'.out with ⟨rfl, rfl⟩ | hA
                  · have := hdisH.out j' k hj' hkS hne'
                    rw [hskh.out] at this
                    exact fun e => this e.symm
                  · have := (hS'.out j' hj').lt.1
                    omega
              · rw [List.map_append]
                exact hown1
              · refine (hkp'.out.step hk2'.out (fun b _ hb => ⟨_, hmem.out, by rw [hb]⟩)).step (Kp.of_grown (X := fun b => (Value.slice GA k Gc).ownBlock = some b) hg1 (fun b hb _ => hb)) (fun i hi he => (hX i he hi).elim)
        · obtain rfl : n = k := by omega
          have hkp' := Lib.hid hkp
          have hT' := Lib.hid hT
          have hcv : Hid (∀ i (hi : i < S.length), wr.cell? ⟨vb, vo + i, none⟩ = some (rowV 512 S[i])) := fun i hi => by
            rw [World.cell?_of_block (hkp.keep vb hvb hne)]; exact hvH.out i hi
          have hcr : Hid (∀ i (hi : i < S.length) j, j < 512 → wr.cell? ⟨S[i].1, j, none⟩ = some (.int .u8 (mk i j))) := fun i hi j hj => (hS i hi).mark j hj
          have hct : Hid (∀ i (hi : i < T.length) j, j < 524 → wr.cell? ⟨T[i].1, j, none⟩ = some (.int .u8 (mk i j))) := fun i hi j hj => (hTr i hi).1.mark j hj
          have hcg : Hid (∀ i (hi : i < T.length), ∃ b o, GA = some ⟨b, o, none⟩ ∧ wr.cell? ⟨b, o + i, none⟩ = some (rowV 524 T[i])) := fun i hi => by
            obtain ⟨_, A, c, he, _, h3⟩ := RdV.of_own hG
            injection he with he1 _ _
            subst he1
            rcases h3 with h3 | ⟨b, o, h3, _, h4⟩
            · omega
            · exact ⟨b, o, h3, h4 i _ (by rw [List.getElem?_map, List.getElem?_eq_getElem hi]; rfl)⟩
          clear hS hTr hG hkp hT
          obtain ⟨wE, rfl⟩ : ∃ wE : World, wE = wr := ⟨_, rfl⟩
          go_wp2
          go_loopw [70] (Ap3 n wE) (fun i _ => n - (intOf i).toNat)
          case atStart => exact ⟨0, Nat.zero_le _, rfl, Kp.refl _ _⟩
          case round =>
            obtain ⟨k, hk, rfl, hkp⟩ := hrel
            by_cases hlt3 : k < n
            · have hkS : k < S.length := by rw [hnH.out]; exact hlt3
              have hkT : k < T.length := by rw [hT'.out]; exact hlt3
              have hcg2 := hcg.out k hkT
              obtain ⟨gb, go, rfl, cg⟩ := hcg2
              have cg := kp0 hkp cg
              have hkpH := Lib.hid hkp
              have hst : ∃ p, T[k] = p := ⟨_, rfl⟩
              obtain ⟨⟨tg, tc⟩, hst⟩ := hst
              have hsth := Lib.hid hst
              rw [hst] at cg
              simp only [rowV] at cg
              clear hst hkp
              obtain ⟨wo, rfl⟩ : ∃ wo : World, wo = wr := ⟨_, rfl⟩
              go_wp2
              go_loopw [77] (Ap3 524 wo) (fun i _ => 524 - (intOf i).toNat)
              case atStart => exact ⟨0, Nat.zero_le _, rfl, Kp.refl _ _⟩
              case round =>
                obtain ⟨j, hj, rfl, hkq⟩ := hrel
                have hkqH := Lib.hid hkq
                clear hkq
                by_cases hj5 : j < 524
                · have hb8 : IntKind.u8.wrap (31 * (k : Int) + 7 * (j : Int) + 1) = mk k j := rfl
                  have ct := kp0 hkpH.out (hct.out k hkT j hj5)
                  have ct := kp0 hkqH.out ct
                  have cv := kp0 hkqH.out (kp0 hkpH.out (hcv.out k hkS))
                  rw [hsth.out] at ct
                  have hss : ∃ p, S[k] = p := ⟨_, rfl⟩
                  obtain ⟨⟨sg, sc⟩, hss⟩ := hss
                  rw [hss] at cv
                  simp only [rowV] at cv
                  dsimp only at ct
                  by_cases hj1 : j < 512
                  · have cr := kp0 hkqH.out (kp0 hkpH.out (hcr.out k hkS j hj1))
                    rw [hss] at cr
                    dsimp only at cr
                    have hd : decide ((j : Int) < 512) = true := by simp; omega
                    clear hss
                    go_wp2
                    go_quiet (fail)
                    go_wp2
                    exact ⟨⟨j + 1, hj5, by go_num, hkqH.out.drewN _⟩, by simp [intOf]; omega⟩
                  · have hd : decide ((j : Int) < 512) = false := by simp; omega
                    clear hss
                    go_wp2
                    go_quiet (fail)
                    go_wp2
                    exact ⟨⟨j + 1, hj5, by go_num, hkqH.out.drewN _⟩, by simp [intOf]; omega⟩
                · have hkpq := Lib.hid (hkpH.out.trans hkqH.out)
                  go_wp2
                  exact ⟨⟨k + 1, hlt3, by go_num, hkpq.out⟩, by simp [intOf]; omega⟩
            · have hkpE := Lib.hid (hkp'.out.trans (hkp.mono (fun _ _ h => h.elim)))
              go_wp2
              go_ret
              exact ⟨rfl, hkpE.out⟩
end Go.Proofs.Ytbcafhhheileeaa
