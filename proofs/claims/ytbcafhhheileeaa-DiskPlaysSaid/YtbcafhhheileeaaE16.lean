/-
  Part of the proofs of DiskPlays, SlotPlays: play, the call that writes a copy.
  Conditions: those that each theorem names.
-/
import Derived.Test.YtbcafhhheileeaaE15
namespace Go.Proofs.Ytbcafhhheileeaa
open Go.RowKit
set_option maxRecDepth 100000

def Foot.at_ (f : Foot) (y : Option Nat) : Foot := { f with x := y }
theorem foot_none {f : Foot} (h : f.x = none) : f.at_ none = f := by cases f; cases h; rfl
def cutK (n : Int) (l : Nat) : Nat := if n < 0 then 0 else if (l : Int) < n then l else n.toNat
theorem cutK_le (n : Int) (l : Nat) : cutK n l ≤ l := by unfold cutK; split; omega; split <;> omega

theorem JP.copied {B S0 d ob : Nat} {f : Foot} {kd at_ n : Int} {bv kv : Value} {Dd Dm : Dev} {wI w w2 : World} {cg cc : Nat} {xs : List Int} (h : JP false B S0 d ob f 0 0 [] kd at_ n bv kv Dd Dm wI w)
    (hrow : Row1 w.heap.size w2 cg cc (xs.length + 2) (marked xs)) (hb : Below w.heap.size w w2) : JP true B w2.heap.size d ob (f.at_ (some cg)) cg cc xs kd at_ n bv kv Dd Dm wI w2 := by
  have hlt := hrow.lt
  have h2 := h.below hb
  exact ⟨h2.dr, (h.ra.reX cg hlt.2).below hb, h2.ob, fun _ => World.ownsRow.mono hrow h.base, h2.bel, h2.bI, h2.base, Nat.le_refl _, fun b hf => h2.ra.lt b hf, fun y hy => by
    have : some cg = some y := hy
    injection this with this
    omega⟩

theorem play0 (B d : Nat) (f : Foot) (D : Dev) (M : Int) (o : OpS) (w : World) (h : PlayIn B d f D M o w) (hk : o.kind = 0) :
    Calls Try.prog 16 #[.pointer (some ⟨d, 0, none⟩), .pointer (some ⟨f.g, 0, none⟩), .agg (opVals o)] w (PlayPost B d f (dwrite D o.at_ o.bytes).2 w) := by
  rw [opV_eq]
  have hJ := Lib.hid h.boxed
  have hH := Lib.hid h
  have hok := Lib.hid h.ok
  have hlo := Lib.hid h.lo
  have hm := Lib.hid h.m
  have hnx := Lib.hid h.nx
  obtain ⟨A1, c1, hv1⟩ := RdB.any h.bv
  obtain ⟨A2, c2, hv2, -⟩ := RdI.form h.kv
  have hbl := h.bl
  rw [hv1, hv2, hk] at hJ
  have hbv := Lib.hid h.bv
  have hbvb := Lib.hid h.bvb
  have hbI := Lib.hid (hJ.out.rd (show RdB w (.slice A1 o.bytes.length c1) o.bytes by rw [← hv1]; exact h.bv) (by rw [← hv1]; exact h.bvb))
  rw [hv1] at hbv hbvb
  rw [hv1, hv2, hk]
  clear h hv1 hv2
  clear hH
  generalize o.bytes = xs at *
  generalize o.at_ = at_ at *
  generalize o.n = n at *
  generalize o.keep.length = L2 at *
  have hcp := Lib.hid (copy_c _ xs _ hbI.out (by omega))
  go_enter Try.func16, Try.ntmps16
  go_wp2_with (go_at_call 33; refine hcp.out.mono ?_; rintro e w2 ⟨cg, cc, rfl, hrow, hb2⟩; have hrowH := Lib.hid hrow; have hb2H := Lib.hid hb2; have hle := hrow.le; have hJ2 := Lib.hid (hJ.out.copied hrow hb2); have q1 := hJ2.out.c0.2.1; have q2 := hJ2.out.c0.2.2.1; have q3 := hJ2.out.c0.2.2.2.1; clear hrow hb2)
  have hkk : ∃ k : Nat, min (max n 0) (xs.length : Int) = (k : Int) ∧ k ≤ xs.length := ⟨(min (max n 0) (xs.length : Int)).toNat, by omega, by omega⟩
  obtain ⟨k, hkk, hkl⟩ := hkk
  rw [hkk]
  clear hkk
  refine regionP5 d w.heap.size cg cc k w2.heap.size (f.at_ (some cg)) at_ (.slice A1 xs.length c1) xs D B 0 n (.slice A2 L2 c2) M w rfl rfl rfl rfl rfl rfl hkl (by omega) hm.out hok.out ⟨hlo.out.lo, hlo.out.hi⟩ hbv.out hbvb.out hle hJ2.out ?_
  intro u w3 hu hJ3
  have hJ3H := Lib.hid hJ3
  clear hJ3 hJ2 hJ
  have hown : Hid (OwnB w3 B (.slice (some ⟨cg, 0, none⟩) xs.length cc) xs) := by
    show OwnB _ _ _ _
    have h1 := own_prefix (hJ3H.out.row rfl) (m := xs.length) (by omega)
    have e : (byt (marked xs)).take xs.length = byt xs := by
      unfold byt marked
      rw [← List.map_take, List.take_left]
    rw [e] at h1
    exact h1
  have hO := Lib.hid (over_c B _ xs w3 hown.out (by omega))
  simp only [putAll, putOne, opsP5, List.foldl, Act.put, hu]
  go_frame
  go_wp2_with (go_at_call 10; refine hO.out.mono ?_; rintro e w4 ⟨rfl, -, hg4⟩; have hg4H := Lib.hid hg4; clear hg4)
  go_ret
  have hk4 : Kp (fun b => b = cg) w3 w4 := Kp.of_grown hg4H.out (fun b hb _ => by injection hb with hb; exact hb.symm)
  have hrow := hJ3H.out.row rfl
  have hcgf : ¬ f.has cg := fun hf => by
    obtain ⟨cur, hc⟩ := own_ty hrow (b := cg) rfl
    exact hJ3H.out.ra.not5 cg cur _ hf hc
  have hd4 := hJ3H.out.dr.kp hk4 (fun b o hb ho => by
    subst hb
    exact row_tag hrow o ho)
  have hr4 := hJ3H.out.ra.turn (y := cg) rfl hcgf hk4
  have hr5 := hr4.noX
  have hff : ({ f.at_ (some cg) with x := none } : Foot) = f := by rw [← foot_none hnx.out]; rfl
  rw [hff] at hr5
  exact ⟨rfl, hd4, hr5, hJ3H.out.bel.trans (hk4.below (fun b hb => by subst hb; exact hrow.lt.2) hJ3H.out.base)⟩
end Go.Proofs.Ytbcafhhheileeaa
