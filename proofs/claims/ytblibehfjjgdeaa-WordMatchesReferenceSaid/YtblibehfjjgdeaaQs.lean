/-
  Lassos: the normal lasso exists, is the least one, and is formed if there is a formed one.
-/
import Derived.Test.YtblibehfjjgdeaaQr
namespace Go.Proofs.Ytblibehfjjgdeaa
open Go.RowKit Word

namespace Word
theorem nf_from {s l : List Int} {n : Nat} (hn : 0 < n) (hle : n ≤ l.length) (hR : Rep l n) (hmin : ∀ m, 0 < m → m < n → ¬ Rep l m) : ∀ (k e : Nat), k ≤ s.length → (∀ j, k ≤ j → wat s l j = rep (l.take n) (j - k + e)) →
    ∃ p q : List Int, Nf p q ∧ (∀ i, wat p q i = wat s l i) ∧ p.length ≤ s.length ∧ q.length ≤ l.length := by
  intro k
  have fin : ∀ k e : Nat, k ≤ s.length → (∀ j, k ≤ j → wat s l j = rep (l.take n) (j - k + e)) → (k = 0 ∨ s.getD (k - 1) 0 ≠ rep (l.take n) (n - 1 + e)) →
      ∃ p q : List Int, Nf p q ∧ (∀ i, wat p q i = wat s l i) ∧ p.length ≤ s.length ∧ q.length ≤ l.length := by
    intro k e hk hinv hlast
    have ht : ((List.range n).map fun i => rep (l.take n) (i + e)).length = n := by simp
    obtain ⟨h1, h2⟩ := nf_end (t := (List.range n).map fun i => rep (l.take n) (i + e)) hn hle hR hmin hk hinv hlast ht fun i hi => by simp [List.getD_eq_getElem?_getD, hi]
    exact ⟨_, _, h1, h2, by rw [List.length_take]; omega, by rw [ht]; exact hle⟩
  induction k with
  | zero => exact fun e hk hinv => fin 0 e hk hinv (.inl rfl)
  | succ k ih =>
    intro e hk hinv
    by_cases h : s.getD (k + 1 - 1) 0 = rep (l.take n) (n - 1 + e)
    · exact ih (n - 1 + e) (by omega) (nf_step hle (by omega) hk hinv (by
        have : n - 1 + e + 1 = e + n := by omega
        rw [this, Nat.add_mod_right]) h)
    · exact fin (k + 1) e hk hinv (.inr h)
theorem nf_exists {s l : List Int} (hl : l ≠ []) : ∃ p q : List Int, Nf p q ∧ (∀ i, wat p q i = wat s l i) ∧ p.length ≤ s.length ∧ q.length ≤ l.length := by
  obtain ⟨n, h1, h2, h3, h4⟩ := least_rep hl
  exact nf_from h1 h2 h3 h4 s.length 0 (Nat.le_refl _) (nf_start h1 h2 h3 0 (Nat.zero_mod _))
end Word
theorem nfD_spec {w : lassoT.T} (hl : w.2.1 ≠ []) : Nf (nfD w).1 (nfD w).2.1 ∧ (∀ i, wat (nfD w).1 (nfD w).2.1 i = wat w.1 w.2.1 i) ∧ (nfD w).1.length ≤ w.1.length ∧ (nfD w).2.1.length ≤ w.2.1.length := by
  obtain ⟨p, q, h1, h2, h3, h4⟩ := nf_exists (s := w.1) hl
  have e := nfD_eq (w := w) (p := (p, q, ())) h1 h2
  rw [e]
  exact ⟨h1, h2, h3, h4⟩
/-- the same letters: the same normal lasso -/
theorem nfD_congr {a b : lassoT.T} (ha : a.2.1 ≠ []) (h : ∀ i, wat a.1 a.2.1 i = wat b.1 b.2.1 i) : nfD b = nfD a := by
  obtain ⟨h1, h2, _⟩ := nfD_spec ha
  exact nfD_eq h1 fun i => (h2 i).trans (h i)
theorem nfD_idem {w : lassoT.T} (hl : w.2.1 ≠ []) : nfD (nfD w) = nfD w := by
  obtain ⟨h1, h2, _⟩ := nfD_spec hl
  exact nfD_eq h1 fun i => rfl
theorem nfD_iff {a b : lassoT.T} (ha : a.2.1 ≠ []) (hb : b.2.1 ≠ []) : nfD a = nfD b ↔ ∀ i, wat a.1 a.2.1 i = wat b.1 b.2.1 i := by
  constructor
  · intro h i
    rw [← (nfD_spec ha).2.1 i, ← (nfD_spec hb).2.1 i, h]
  · intro h
    exact (nfD_congr ha h).symm
theorem formed_loop {w : lassoT.T} (h : formedD w = true) : w.2.1 ≠ [] := (short_of h).1
theorem formed_of {w : lassoT.T} (h1 : w.1.length ≤ 60) (h2 : w.2.1 ≠ []) (h3 : w.2.1.length ≤ 40) (h : ∀ i, letterD (wat w.1 w.2.1 i) = true) : formedD w = true := by
  have l0 := List.length_pos_iff.2 h2
  unfold formedD
  rw [decide_eq_true h1, decide_eq_true l0, decide_eq_true h3, all_at (s := w.1) fun j hj => ?_, all_at (s := w.2.1) fun j hj => ?_]
  · rfl
  · have := h (w.1.length + j)
    rwa [wat_loop, rep_lt hj] at this
  · have := h j
    rwa [wat_stem hj] at this
/-- a word of a formed lasso has a formed normal one -/
theorem formed_nf {a b : lassoT.T} (ha : a.2.1 ≠ []) (hb : formedD b = true) (h : ∀ i, wat a.1 a.2.1 i = wat b.1 b.2.1 i) : formedD (nfD a) = true := by
  obtain ⟨l1, l2, l3, _⟩ := formed_parts hb
  have e := nfD_congr ha h
  obtain ⟨h1, h2, h3, h4⟩ := nfD_spec (formed_loop hb)
  rw [e] at h1 h2 h3 h4
  exact formed_of (by omega) h1.loop (by omega) fun i => by rw [h2]; exact wat_letter hb i
theorem formed_nfD {w : lassoT.T} (h : formedD w = true) : formedD (nfD w) = true := formed_nf (formed_loop h) h fun _ => rfl
theorem atD_nat {w : lassoT.T} (h : formedD w = true) (i : Nat) : atD w (i : Int) = wat w.1 w.2.1 i := by
  unfold atD
  rw [if_neg (by rw [h]; simp), Int.toNat_natCast]
theorem normD_formed {w : lassoT.T} (h : formedD w = true) : normD w = nfD w := by unfold normD; rw [if_pos h]
theorem keptD_formed {w : lassoT.T} (h : formedD w = true) : keptD w = w := by unfold keptD; rw [if_pos h]
theorem sameD_formed {a b : lassoT.T} (ha : formedD a = true) (hb : formedD b = true) : sameD a b = decide (nfD a = nfD b) := by unfold sameD; rw [ha, hb]; rfl
theorem sameD_iff {a b : lassoT.T} (ha : formedD a = true) (hb : formedD b = true) : sameD a b = true ↔ ∀ i, wat a.1 a.2.1 i = wat b.1 b.2.1 i := by
  rw [sameD_formed ha hb, decide_eq_true_iff]
  exact nfD_iff (formed_loop ha) (formed_loop hb)
/-- the letters of a lasso without the first ones -/
theorem wat_drop {s l : List Int} {n : Nat} (hn : n ≤ s.length) (i : Nat) : wat (s.drop n) l i = wat s l (n + i) := by
  rcases Nat.lt_or_ge (n + i) s.length with h | h
  · rw [wat_stem h, wat_stem (by rw [List.length_drop]; omega)]
    simp [List.getD_eq_getElem?_getD]
  · have e1 : i = (s.drop n).length + (n + i - s.length) := by rw [List.length_drop]; omega
    have e2 : n + i = s.length + (n + i - s.length) := by omega
    conv => lhs; rw [e1]
    conv => rhs; rw [e2]
    rw [wat_loop, wat_loop]
theorem wat_turn {s l : List Int} (hl : l ≠ []) {n : Nat} (hn : s.length ≤ n) (i : Nat) : wat [] (l.drop ((n - s.length) % l.length) ++ l.take ((n - s.length) % l.length)) i = wat s l (n + i) := by
  have l0 := List.length_pos_iff.2 hl
  have hm := Nat.mod_lt (n - s.length) l0
  have e2 : n + i = s.length + ((n - s.length) + i) := by omega
  rw [e2, wat_loop]
  have hlen : (l.drop ((n - s.length) % l.length) ++ l.take ((n - s.length) % l.length)).length = l.length := by
    rw [List.length_append, List.length_drop, List.length_take]; omega
  have e3 : i = ([] : List Int).length + i := by simp
  conv => lhs; rw [e3]
  rw [wat_loop]
  have h1 := (rep_per (l := l.drop ((n - s.length) % l.length) ++ l.take ((n - s.length) % l.length))).mod i
  rw [hlen] at h1
  have hi := Nat.mod_lt i l0
  rw [h1, rep_lt (by rw [hlen]; exact hi), turn_at (Nat.le_of_lt hm) hi, rep_per.mod (i % l.length + (n - s.length) % l.length), rep_per.mod (n - s.length + i), ← Nat.add_mod, Nat.add_comm]
/-- the word without its first letters -/
theorem sufD_spec {w : lassoT.T} (h : formedD w = true) (n : Nat) : ∃ q : lassoT.T, sufD w (n : Int) = nfD q ∧ formedD q = true ∧ ∀ i, wat q.1 q.2.1 i = wat w.1 w.2.1 (n + i) := by
  obtain ⟨l1, l2, l3, _⟩ := formed_parts h
  have hl := formed_loop h
  unfold sufD
  rw [if_neg (by rw [h]; simp), Int.toNat_natCast]
  by_cases hn : (w.1.length : Int) < (n : Int)
  · rw [if_pos hn]
    have hw := fun i => wat_turn (s := w.1) hl (n := n) (by omega) i
    have hm := Nat.mod_lt (n - w.1.length) l2
    have hlen : (w.2.1.drop ((n - w.1.length) % w.2.1.length) ++ w.2.1.take ((n - w.1.length) % w.2.1.length)).length = w.2.1.length := by
      rw [List.length_append, List.length_drop, List.length_take]; omega
    refine ⟨_, rfl, formed_of (by show ([] : List Int).length ≤ 60; simp) (fun h0 => ?_) ?_ fun i => ?_, hw⟩
    · have : (w.2.1.drop ((n - w.1.length) % w.2.1.length) ++ w.2.1.take ((n - w.1.length) % w.2.1.length)).length = 0 := congrArg List.length h0
      omega
    · show (w.2.1.drop ((n - w.1.length) % w.2.1.length) ++ w.2.1.take ((n - w.1.length) % w.2.1.length)).length ≤ 40
      omega
    · rw [hw i]; exact wat_letter h _
  · rw [if_neg hn]
    have hw := fun i => wat_drop (l := w.2.1) (show n ≤ w.1.length by omega) i
    refine ⟨_, rfl, formed_of ?_ hl l3 fun i => ?_, hw⟩
    · show (w.1.drop n).length ≤ 60
      rw [List.length_drop]; omega
    · rw [hw i]; exact wat_letter h _
theorem sufD_formed {w : lassoT.T} (h : formedD w = true) (n : Nat) : formedD (sufD w n) = true ∧ (∀ i, wat (sufD w n).1 (sufD w n).2.1 i = wat w.1 w.2.1 (n + i)) ∧ nfD (sufD w n) = sufD w n := by
  obtain ⟨q, e, hq, hw⟩ := sufD_spec h n
  rw [e]
  exact ⟨formed_nfD hq, fun i => ((nfD_spec (formed_loop hq)).2.1 i).trans (hw i), nfD_idem (formed_loop hq)⟩
theorem sufD_bad {w : lassoT.T} {n : Int} (h : n < 0 ∨ formedD w = false) : sufD w n = ([], [], ()) := by unfold sufD; rw [if_pos h]
theorem wat_app {a s l : List Int} (i : Nat) : wat (a ++ s) l i = if i < a.length then a.getD i 0 else wat s l (i - a.length) := by
  by_cases h : i < a.length
  · rw [if_pos h, wat_stem (by rw [List.length_append]; omega)]
    simp [List.getD_eq_getElem?_getD, List.getElem?_append_left h]
  · rw [if_neg h]
    have := wat_drop (s := a ++ s) (l := l) (n := a.length) (by rw [List.length_append]; omega) (i - a.length)
    rw [List.drop_left] at this
    rw [this]
    congr 1; omega
theorem takeD_get {u : lassoT.T} {n i : Nat} (h : i < n) : (takeD u n).getD i 0 = wat u.1 u.2.1 i := takeD_at h
theorem takeD_letters {u : lassoT.T} (h : formedD u = true) (n : Nat) : (takeD u n).all letterD = true := all_at fun j hj => by
  rw [takeD_len] at hj
  rw [takeD_at hj]; exact wat_letter h j
theorem list_of_wat {l : List Int} {u : lassoT.T} {n : Nat} (hl : l.length = n) (h : ∀ i, i < n → wat u.1 u.2.1 i = l.getD i 0) : takeD u n = l := by
  refine list_eq_at (by rw [takeD_len, hl]) fun j hj => ?_
  rw [takeD_len] at hj
  rw [takeD_at hj, h j hj]
end Go.Proofs.Ytblibehfjjgdeaa
