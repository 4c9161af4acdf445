/-
  Num and Ints, walked.
  Conditions: those that each theorem names.
-/
import Derived.Test.YtejpjibhpjgcjaaT13
import Derived.Test.YtejpjibhpjgcjaaM8
import Derived.Test.YtejpjibhpjgcjaaKeys
namespace Go.Proofs.Ytejpjibhpjgcjaa
open Go.RowKit

theorem num_c (n : Int) (w : World) : Calls Try.prog 8 #[errV n] w fun e w' => e = .returned (.int .i64 n) ∧ w = w' := by
  unfold errV
  by_cases h : n = 0
  · subst h
    rw [if_pos rfl]
    go_enter Try.func8, Try.ntmps8
    go_wp2
    go_ret
    exact ⟨rfl, rfl⟩
  · rw [if_neg h]
    have h0 : (n == 0) = false := by simpa using h
    go_enter Try.func8, Try.ntmps8
    have hta : (Instr.typeAssert (.iface 44 (.int .i64 n)) 35 44 true).run Try.prog w = .ok (.tuple #[.int .i64 n, .bool true]) w := by kernel_rfl
    go_wp2
    go_ret
    exact ⟨rfl, rfl⟩

def IntsRel (w : World) (n : Nat) (i : Value) (wr : World) : Prop := ∃ k : Nat, k ≤ n ∧ i = .int .i64 k ∧ Below w.heap.size w wr
theorem ints_c (v u : Value) (xs : List Int) (w : World) (hl : xs.length ≤ 1000000) (h1 : RdI w v xs) (h2 : RdI w u xs) :
    Calls Try.prog 14 #[v, u] w fun e w' => e = .returned (.bool true) ∧ Below w.heap.size w w' := by
  by_cases hx0 : xs = []
  · subst hx0
    obtain ⟨A, c, rfl⟩ := h1.empty
    obtain ⟨A', c', rfl⟩ := h2.empty
    go_enter Try.func14, Try.ntmps14
    go_wp2
    refine wp_loop_rounds 1 ?_
    rw [rounds_succ]
    go_wp2
    go_ret
    exact ⟨rfl, Below.refl _ _⟩
  · obtain ⟨b, o, c, rfl, hlc, hb, hc⟩ := h1.form hx0
    obtain ⟨b', o', c', rfl, hlc', hb', hc'⟩ := h2.form hx0
    have hcc := Lib.hid hc
    have hcc' := Lib.hid hc'
    clear hc hc' h1 h2
    go_enter Try.func14, Try.ntmps14
    go_wp2
    go_loopw [13] (IntsRel w xs.length) (fun i _ => xs.length - (intOf i).toNat)
    case atStart => exact ⟨0, Nat.zero_le _, rfl, Below.refl _ _⟩
    case round =>
      obtain ⟨k, hk, rfl, hbel⟩ := hrel
      have hbs := hbel.size
      by_cases hlt : k < xs.length
      · have d1 : wr.drew.cell? ⟨b, o + k, none⟩ = some (.int .i64 xs[k]) := by rw [← hcc.out k hlt]; exact hbel.cell hb
        have d2 : wr.drew.cell? ⟨b', o' + k, none⟩ = some (.int .i64 xs[k]) := by rw [← hcc'.out k hlt]; exact hbel.cell hb'
        generalize xs[k] = x at *
        go_wp2
        go_region
        go_wp2
        go_roundw
        case rel => exact ⟨k + 1, hlt, by go_num, below_drewN hbel 1⟩
        case measure => simp [intOf]; omega
      · have hk' : k = xs.length := by omega
        subst hk'
        go_wp2
        go_ret
        exact ⟨rfl, hbel⟩
end Go.Proofs.Ytejpjibhpjgcjaa
