/-
  The table of locks as plain lists, what Take and Release do to it; no program in sight.
  Conditions: those that each theorem names.
-/
import Derived.Test.YtejpjibhpjgcjaaBase
namespace Go.Proofs.Ytejpjibhpjgcjaa
/-! ### the table of locks, as lists (plain) -/
structure Lk where
  txn : Int
  page : Int
  mode : Int
  deriving DecidableEq
structure Tab where
  locks : List Lk
  waits : List Lk

def Along (a b : Int) : Bool := (a == 1 && b == 1) || (a == 2 && b == 2)
def holds (L : List Lk) (txn page : Int) : Int := match L.find? (fun l => l.txn == txn && l.page == page) with
  | some l => l.mode
  | none => 0
/-- a number in its place, once: after k rounds -/
def insSt (xs : List Int) (n : Int) (k : Nat) : List Int × Bool :=
  (xs.take k).foldl (fun p x => if !p.2 && decide (n < x) then (p.1 ++ [n, x], true) else (p.1 ++ [x], p.2)) ([], false)
def ins (xs : List Int) (n : Int) : List Int :=
  if n ∈ xs then xs else if (insSt xs n xs.length).2 then (insSt xs n xs.length).1 else (insSt xs n xs.length).1 ++ [n]
def againstP (w : Lk) (l : Lk) : Bool := l.page == w.page && (l.txn != w.txn) && !Along l.mode w.mode
def against (L : List Lk) (w : Lk) : List Int := L.foldl (fun out l => if againstP w l then ins out l.txn else out) []
def forW (m : Tab) (txn : Int) : List Int := match m.waits.find? (fun l => l.txn == txn) with
  | some w => against m.locks w
  | none => []
def forget (W : List Lk) (txn : Int) : List Lk := W.filter (fun l => l.txn != txn)
def holdersOf (L : List Lk) (page : Int) : List Int := L.foldl (fun out l => if l.page == page then ins out l.txn else out) []

/-- who is reached from a list, going from one that waits to those it waits for -/
inductive Reach (m : Tab) (start : List Int) : Int → Prop
  | base {x : Int} : x ∈ start → Reach m start x
  | step {x y : Int} : Reach m start x → y ∈ forW m x → Reach m start y

structure Valid (m : Tab) : Prop where
  nodup : m.locks.Pairwise (fun a b => ¬ (a.txn = b.txn ∧ a.page = b.page))
  modes : ∀ l ∈ m.locks, 1 ≤ l.mode ∧ l.mode ≤ 3
  wnodup : m.waits.Pairwise (fun a b => a.txn ≠ b.txn)
  wmodes : ∀ l ∈ m.waits, 1 ≤ l.mode ∧ l.mode ≤ 3
  size : m.locks.length ≤ 256
  wsize : m.waits.length ≤ 100000
  lwf : ∀ l ∈ m.locks, (Lit.int .i64 l.txn).wf = true

open Classical in
/-- what Take answers, and what is behind it -/
noncomputable def take (m0 : Tab) (txn page mode : Int) : Int × Tab :=
  if mode < 1 ∨ mode > 3 then (2, m0) else
  let m : Tab := ⟨m0.locks, forget m0.waits txn⟩
  let has := holds m.locks txn page
  let md := if has ≠ 0 ∧ has ≠ mode then 3 else mode
  if has = md then (0, m) else
  let others := against m.locks ⟨txn, page, md⟩
  if others ≠ [] then (if Reach m others txn then (18, m) else (17, ⟨m.locks, m.waits ++ [⟨txn, page, md⟩]⟩)) else
  if has ≠ 0 then (0, ⟨m.locks.map (fun l => if l.txn == txn && l.page == page then ⟨txn, page, md⟩ else l), m.waits⟩) else
  if m.locks.length ≥ 256 then (15, m) else (0, ⟨m.locks ++ [⟨txn, page, md⟩], m.waits⟩)
def release (m : Tab) (txn : Int) : Int × Tab :=
  (((m.locks.filter (fun l => l.txn == txn)).length : Int), ⟨m.locks.filter (fun l => l.txn != txn), forget m.waits txn⟩)

/-! ### sorted lists without repetitions -/
def Sorted (xs : List Int) : Prop := xs.Pairwise (· < ·)
theorem sorted_ext : ∀ {xs ys : List Int}, Sorted xs → Sorted ys → (∀ a, a ∈ xs ↔ a ∈ ys) → xs = ys
  | [], [], _, _, _ => rfl
  | [], y :: ys, _, _, h => by have := (h y).2 (by simp); simp at this
  | x :: xs, [], _, _, h => by have := (h x).1 (by simp); simp at this
  | x :: xs, y :: ys, hx, hy, h => by
    obtain ⟨hx1, hx2⟩ := List.pairwise_cons.1 hx
    obtain ⟨hy1, hy2⟩ := List.pairwise_cons.1 hy
    have exy : x = y := by
      rcases List.mem_cons.1 ((h x).1 (by simp)) with e | hm
      · exact e
      · rcases List.mem_cons.1 ((h y).2 (by simp)) with e | hm'
        · exact e.symm
        · have := hy1 x hm; have := hx1 y hm'; omega
    subst exy
    rw [sorted_ext hx2 hy2 (fun a => ?_)]
    constructor
    · intro ha
      rcases List.mem_cons.1 ((h a).1 (by simp [ha])) with e | hm
      · subst e; exact absurd (hx1 a ha) (by omega)
      · exact hm
    · intro ha
      rcases List.mem_cons.1 ((h a).2 (by simp [ha])) with e | hm
      · subst e; exact absurd (hy1 a ha) (by omega)
      · exact hm

theorem insSt_succ (xs : List Int) (n : Int) (k : Nat) (h : k < xs.length) :
    insSt xs n (k + 1) = if !(insSt xs n k).2 && decide (n < xs[k]) then ((insSt xs n k).1 ++ [n, xs[k]], true) else ((insSt xs n k).1 ++ [xs[k]], (insSt xs n k).2) := by
  unfold insSt
  rw [List.take_succ_eq_append_getElem h, List.foldl_append]
  rfl
theorem insSt_len (xs : List Int) (n : Int) : ∀ k, k ≤ xs.length → (insSt xs n k).1.length = k + (if (insSt xs n k).2 then 1 else 0)
  | 0, _ => by simp [insSt]
  | k + 1, h => by
    have ih := insSt_len xs n k (by omega)
    rw [insSt_succ xs n k (by omega)]
    split
    · rename_i hc
      simp only [Bool.and_eq_true, Bool.not_eq_true'] at hc
      rw [hc.1] at ih
      simp at ih ⊢; omega
    · simp; split at ih <;> simp_all
/-- of a sorted list: what ins makes of it -/
theorem insSt_spec (xs : List Int) (n : Int) (hs : Sorted xs) (hn : n ∉ xs) : ∀ k, k ≤ xs.length →
    Sorted (insSt xs n k).1 ∧ (∀ a, a ∈ (insSt xs n k).1 ↔ a ∈ xs.take k ∨ ((insSt xs n k).2 = true ∧ a = n)) ∧ ((insSt xs n k).2 = false → ∀ a ∈ xs.take k, a < n) ∧ ((insSt xs n k).2 = true → ∃ a ∈ xs.take k, n < a)
  | 0, _ => by simp [insSt, Sorted]
  | k + 1, h => by
    obtain ⟨h1, h2, h3, h4⟩ := insSt_spec xs n hs hn k (by omega)
    have hk : k < xs.length := by omega
    have hlt : ∀ a ∈ xs.take k, a < xs[k] := by
      intro a ha
      obtain ⟨i, hi, rfl⟩ := List.mem_iff_getElem.1 ha
      rw [List.getElem_take]
      exact List.pairwise_iff_getElem.1 hs i k (by simp at hi; omega) hk (by simp at hi; omega)
    have hne : xs[k] ≠ n := fun e => hn (e ▸ List.getElem_mem hk)
    rw [insSt_succ xs n k hk, List.take_succ_eq_append_getElem hk]
    generalize hT : xs.take k = T at *
    generalize hy : xs[k] = y at *
    generalize insSt xs n k = st at *
    obtain ⟨o, d⟩ := st
    dsimp only at *
    clear hT hy hs hn
    split
    · rename_i hc
      simp only [Bool.and_eq_true, Bool.not_eq_true', decide_eq_true_eq] at hc
      obtain ⟨rfl, hc2⟩ := hc
      have h3' := h3 rfl
      refine ⟨?_, ?_, by simp, fun _ => ⟨y, by simp, hc2⟩⟩
      · unfold Sorted at h1 ⊢
        rw [List.pairwise_append]
        refine ⟨h1, by simp [hc2], ?_⟩
        intro a ha b hb
        have ha' : a ∈ T := by simpa using (h2 a).1 ha
        have := h3' a ha'; have := hlt a ha'
        simp at hb; omega
      · intro a
        simp only [List.mem_append, h2, List.mem_cons, List.not_mem_nil, or_false, Bool.false_eq_true, false_and]
        constructor
        · rintro (h | h | h)
          · exact .inl (.inl h)
          · exact .inr ⟨trivial, h⟩
          · exact .inl (.inr h)
        · rintro ((h | h) | h)
          · exact .inl h
          · exact .inr (.inr h)
          · exact .inr (.inl h.2)
    · rename_i hc
      refine ⟨?_, ?_, ?_, fun hd => (h4 hd).imp fun a ha => ⟨by simp [ha.1], ha.2⟩⟩
      · unfold Sorted at h1 ⊢
        rw [List.pairwise_append]
        refine ⟨h1, by simp, ?_⟩
        intro a ha b hb
        simp at hb; subst hb
        rcases (h2 a).1 ha with ha' | ⟨hd, rfl⟩
        · exact hlt a ha'
        · obtain ⟨z, hz, hlt'⟩ := h4 hd
          have := hlt z hz; omega
      · intro a
        simp only [List.mem_append, h2, List.mem_singleton]
        constructor
        · rintro ((h | h) | h)
          · exact .inl (.inl h)
          · exact .inr h
          · exact .inl (.inr h)
        · rintro ((h | h) | h)
          · exact .inl (.inl h)
          · exact .inr h
          · exact .inl (.inr h)
      · intro hd a ha
        simp only [List.mem_append, List.mem_singleton] at ha
        rcases ha with ha | rfl
        · exact h3 hd a ha
        · have hd' : d = false := hd
          subst hd'
          simp at hc; omega

theorem ins_sorted {xs : List Int} {n : Int} (hs : Sorted xs) : Sorted (ins xs n) ∧ ∀ a, a ∈ ins xs n ↔ a ∈ xs ∨ a = n := by
  unfold ins
  split
  · rename_i hn
    exact ⟨hs, fun a => ⟨.inl, fun h => h.elim id (fun e => e ▸ hn)⟩⟩
  · rename_i hn
    obtain ⟨h1, h2, h3, h4⟩ := insSt_spec xs n hs hn xs.length (Nat.le_refl _)
    rw [List.take_length] at h2 h3
    split
    · rename_i hd
      exact ⟨h1, fun a => by rw [h2]; simp [hd]⟩
    · rename_i hd
      have hd' : (insSt xs n xs.length).2 = false := by simpa using hd
      rw [hd'] at h2
      refine ⟨?_, fun a => by simp [h2]⟩
      unfold Sorted at h1 ⊢
      rw [List.pairwise_append]
      refine ⟨h1, by simp, ?_⟩
      intro a ha b hb
      simp at hb; subst hb
      exact h3 hd' a (by simpa using (h2 a).1 ha)
theorem foldl_ins {α : Type} (p : α → Bool) (f : α → Int) : ∀ (L : List α) (xs : List Int), Sorted xs →
    Sorted (L.foldl (fun out l => if p l then ins out (f l) else out) xs) ∧ ∀ a, a ∈ L.foldl (fun out l => if p l then ins out (f l) else out) xs ↔ a ∈ xs ∨ ∃ l ∈ L, p l = true ∧ f l = a
  | [], xs, h => ⟨h, fun a => by simp⟩
  | l :: L, xs, h => by
    simp only [List.foldl_cons]
    by_cases hp : p l = true
    · rw [if_pos hp]
      obtain ⟨h1, h2⟩ := ins_sorted (n := f l) h
      obtain ⟨h3, h4⟩ := foldl_ins p f L _ h1
      refine ⟨h3, fun a => ?_⟩
      rw [h4, h2]
      constructor
      · rintro ((h | rfl) | ⟨l', h5, h6⟩)
        · exact .inl h
        · exact .inr ⟨l, by simp, hp, rfl⟩
        · exact .inr ⟨l', by simp [h5], h6⟩
      · rintro (h | ⟨l', h5, h6, h7⟩)
        · exact .inl (.inl h)
        · rcases List.mem_cons.1 h5 with rfl | h5
          · exact .inl (.inr h7.symm)
          · exact .inr ⟨l', h5, h6, h7⟩
    · rw [if_neg hp]
      obtain ⟨h3, h4⟩ := foldl_ins p f L xs h
      refine ⟨h3, fun a => ?_⟩
      rw [h4]
      constructor
      · rintro (h | ⟨l', h5, h6⟩)
        · exact .inl h
        · exact .inr ⟨l', by simp [h5], h6⟩
      · rintro (h | ⟨l', h5, h6, h7⟩)
        · exact .inl h
        · rcases List.mem_cons.1 h5 with rfl | h5
          · exact absurd h6 hp
          · exact .inr ⟨l', h5, h6, h7⟩
theorem against_spec (L : List Lk) (w : Lk) : Sorted (against L w) ∧ ∀ a, a ∈ against L w ↔ ∃ l ∈ L, againstP w l = true ∧ l.txn = a := by
  obtain ⟨h1, h2⟩ := foldl_ins (againstP w) Lk.txn L [] (by simp [Sorted])
  exact ⟨h1, fun a => by unfold against; rw [h2]; simp⟩
theorem holdersOf_spec (L : List Lk) (page : Int) : Sorted (holdersOf L page) ∧ ∀ a, a ∈ holdersOf L page ↔ ∃ l ∈ L, l.page = page ∧ l.txn = a := by
  obtain ⟨h1, h2⟩ := foldl_ins (fun l : Lk => l.page == page) Lk.txn L [] (by simp [Sorted])
  exact ⟨h1, fun a => by unfold holdersOf; rw [h2]; simp⟩
theorem holds_some {L : List Lk} (hn : L.Pairwise (fun a b => ¬ (a.txn = b.txn ∧ a.page = b.page))) {txn page md : Int} (h : (⟨txn, page, md⟩ : Lk) ∈ L) : holds L txn page = md := by
  induction L with
  | nil => simp at h
  | cons l L ih =>
    obtain ⟨h1, h2⟩ := List.pairwise_cons.1 hn
    unfold holds
    rw [List.find?_cons]
    rcases List.mem_cons.1 h with rfl | h
    · simp
    · have : (l.txn == txn && l.page == page) = false := by
        have := h1 _ h
        simp at this ⊢; exact this
      rw [this]
      exact ih h2 h
theorem holds_none {L : List Lk} {txn page : Int} (h : ∀ md, (⟨txn, page, md⟩ : Lk) ∉ L) : holds L txn page = 0 := by
  unfold holds
  have : L.find? (fun l => l.txn == txn && l.page == page) = none := by
    rw [List.find?_eq_none]
    intro l hl
    simp only [Bool.and_eq_true, beq_iff_eq]
    rintro ⟨rfl, rfl⟩
    exact h l.mode hl
  rw [this]
theorem holds_mem {L : List Lk} {txn page : Int} (h : holds L txn page ≠ 0) : (⟨txn, page, holds L txn page⟩ : Lk) ∈ L := by
  unfold holds at h ⊢
  cases hf : L.find? (fun l => l.txn == txn && l.page == page) with
  | none => rw [hf] at h; simp at h
  | some l =>
    have h1 := List.find?_some hf
    have h2 := List.mem_of_find?_eq_some hf
    simp only [Bool.and_eq_true, beq_iff_eq] at h1
    obtain ⟨rfl, rfl⟩ := h1
    exact h2
theorem holds_range {m : Tab} (v : Valid m) (txn page : Int) : 0 ≤ holds m.locks txn page ∧ holds m.locks txn page ≤ 3 := by
  by_cases h : holds m.locks txn page = 0
  · omega
  · have := v.modes _ (holds_mem h); simp at this; omega
end Go.Proofs.Ytejpjibhpjgcjaa
