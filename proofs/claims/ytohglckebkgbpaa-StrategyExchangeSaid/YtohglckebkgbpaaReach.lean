/-
  Plain laws: what the search of strategy.lost finds: a cycle.
-/
import Derived.Test.YtohglckebkgbpaaWins
namespace Go.Proofs.Ytohglckebkgbpaa

def prioAt (g : Game) (x : Int) : Int := g.prio.getD x.toNat 0
/-- a move with the strategy, to a position of at least the priority of a start -/
def Step (g : Game) (player : Int) (s : List Int) (start : Int) (x y : Int) : Prop := y ∈ movesS g player s x.toNat ∧ prioAt g start ≤ prioAt g y

section
variable {g : Game} {player : Int} {s : List Int} {start : Int} {D : Int → Prop} {n : Nat}

def Cl (g : Game) (player : Int) (s : List Int) (start : Int) (T : List Int) (x : Int) : Prop := ∀ y ∈ movesS g player s x.toNat, y ≠ start ∧ (prioAt g start ≤ prioAt g y → y ∈ T)
theorem Cl.mono {T T' : List Int} {x : Int} (h : Cl g player s start T x) (hs : T ⊆ T') : Cl g player s start T' x := fun y hy => ⟨(h y hy).1, fun hp => hs ((h y hy).2 hp)⟩

theorem find_false {f : Nat} {visit : Int → List Int → Bool × List Int} (hcl : ∀ x, D x → ∀ y ∈ movesS g player s x.toNat, D y)
    (ih : ∀ i S, D i → LGood D n f S → (visit i S).1 = false → S ⊆ (visit i S).2 ∧ LGood D n f (visit i S).2 ∧ Cl g player s start (visit i S).2 i ∧ ∀ x ∈ (visit i S).2, x ∉ S → Cl g player s start (visit i S).2 x) :
    ∀ (l : List Int) (S : List Int) (k : Nat), (∀ y ∈ l, D y) → LGood D n (f + 1) S → (findS (lostStep g start visit) l S k).1 < 0 →
      S ⊆ (findS (lostStep g start visit) l S k).2 ∧ LGood D n (f + 1) (findS (lostStep g start visit) l S k).2 ∧ (∀ y ∈ l, y ≠ start ∧ (prioAt g start ≤ prioAt g y → y ∈ (findS (lostStep g start visit) l S k).2)) ∧
        ∀ x ∈ (findS (lostStep g start visit) l S k).2, x ∉ S → Cl g player s start (findS (lostStep g start visit) l S k).2 x
  | [], S, k, _, hS, _ => ⟨fun _ h => h, hS, by simp, fun x hx hn => absurd hx hn⟩
  | y :: l, S, k, hD, hS, h => by
    have hyD := hD y (by simp)
    have hlD : ∀ z ∈ l, D z := fun z hz => hD z (by simp [hz])
    simp only [findS] at h ⊢
    by_cases h1 : y = start
    · have e : lostStep g start visit S y = (true, S) := by simp [lostStep, h1]
      rw [e] at h
      simp at h
      omega
    · by_cases h2 : prioAt g y < prioAt g start ∨ y ∈ S
      · have e : lostStep g start visit S y = (false, S) := by
          unfold lostStep
          rw [if_neg (by simpa using h1), if_pos (by simpa [prioAt] using h2)]
        rw [e] at h ⊢
        simp only [Bool.false_eq_true, if_false] at h ⊢
        obtain ⟨a1, a2, a3, a4⟩ := find_false hcl ih l S (k + 1) hlD hS h
        refine ⟨a1, a2, fun z hz => ?_, a4⟩
        rcases List.mem_cons.1 hz with rfl | hz
        · refine ⟨h1, fun hp => ?_⟩
          rcases h2 with h2 | h2
          · omega
          · exact a1 h2
        · exact a3 z hz
      · have hp : prioAt g start ≤ prioAt g y := by
          have := fun hh => h2 (.inl hh); omega
        have hyS : y ∉ S := fun hh => h2 (.inr hh)
        have e : lostStep g start visit S y = visit y (S ++ [y]) := by
          unfold lostStep
          rw [if_neg (by simpa using h1), if_neg (by simpa [prioAt] using h2)]
        rw [e] at h ⊢
        have hg : LGood D n f (S ++ [y]) := by
          refine ⟨fun x hx => ?_, ?_, ?_⟩
          · rcases List.mem_append.1 hx with hx | hx
            · exact hS.1 x hx
            · rw [List.mem_singleton.1 hx]; exact hyD
          · exact List.nodup_append.2 ⟨hS.2.1, by simp, fun a ha b hb e => hyS (by rw [List.mem_singleton.1 hb] at e; exact e ▸ ha)⟩
          · have := hS.2.2
            simp; omega
        by_cases hv : (visit y (S ++ [y])).1 = true
        · rw [if_pos hv] at h
          simp at h
          omega
        · have hv' : (visit y (S ++ [y])).1 = false := by simpa using hv
          rw [if_neg hv] at h ⊢
          obtain ⟨b1, b2, b3, b4⟩ := ih y (S ++ [y]) hyD hg hv'
          have b2' : LGood D n (f + 1) (visit y (S ++ [y])).2 := ⟨b2.1, b2.2.1, by have := b2.2.2; omega⟩
          obtain ⟨a1, a2, a3, a4⟩ := find_false hcl ih l _ (k + 1) hlD b2' h
          refine ⟨fun x hx => a1 (b1 (List.mem_append.2 (.inl hx))), a2, fun z hz => ?_, fun x hx hn => ?_⟩
          · rcases List.mem_cons.1 hz with rfl | hz
            · exact ⟨h1, fun _ => a1 (b1 (by simp))⟩
            · exact a3 z hz
          · by_cases hx1 : x ∈ (visit y (S ++ [y])).2
            · by_cases hxy : x = y
              · subst hxy; exact b3.mono a1
              · exact (b4 x hx1 (by simp [hn, hxy])).mono a1
            · exact a4 x hx hx1

theorem visit_false (hcl : ∀ x, D x → ∀ y ∈ movesS g player s x.toNat, D y) (hD : ∀ x, D x → 0 ≤ x ∧ x < n) : ∀ (f : Nat) (i : Int) (S : List Int), D i → LGood D n f S → (visitF g player s start f i S).1 = false →
    S ⊆ (visitF g player s start f i S).2 ∧ LGood D n f (visitF g player s start f i S).2 ∧ Cl g player s start (visitF g player s start f i S).2 i ∧ ∀ x ∈ (visitF g player s start f i S).2, x ∉ S → Cl g player s start (visitF g player s start f i S).2 x
  | 0, i, S, _, hS, _ => by
    have h1 := nodup_le n S hS.2.1 (fun x hx => hD x (hS.1 x hx))
    have h2 := hS.2.2
    omega
  | f + 1, i, S, hi, hS, h => by
    simp only [visitF, decide_eq_false_iff_not, Int.not_le] at h ⊢
    exact find_false hcl (fun i S => visit_false hcl hD f i S) _ S 0 (hcl i hi) hS h

theorem find_true {visit : Int → List Int → Bool × List Int} (ih : ∀ i S, (visit i S).1 = true → Relation.TransGen (Step g player s start) i start) :
    ∀ (l : List Int) (S : List Int) (k : Nat), 0 ≤ (findS (lostStep g start visit) l S k).1 → ∃ y ∈ l, y = start ∨ (prioAt g start ≤ prioAt g y ∧ Relation.TransGen (Step g player s start) y start)
  | [], S, k, h => by simp [findS] at h
  | y :: l, S, k, h => by
    simp only [findS] at h
    by_cases h0 : (lostStep g start visit S y).1 = true
    · refine ⟨y, by simp, ?_⟩
      by_cases h1 : y = start
      · exact .inl h1
      · right
        unfold lostStep at h0
        rw [if_neg (by simpa using h1)] at h0
        by_cases h2 : (decide (g.prio.getD y.toNat 0 < g.prio.getD start.toNat 0) || decide (y ∈ S)) = true
        · rw [if_pos h2] at h0; cases h0
        · rw [if_neg h2] at h0
          simp only [Bool.or_eq_true, decide_eq_true_eq, not_or] at h2
          exact ⟨by unfold prioAt; omega, ih _ _ h0⟩
    · rw [if_neg h0] at h
      obtain ⟨z, hz, hh⟩ := find_true ih l _ (k + 1) h
      exact ⟨z, by simp [hz], hh⟩

theorem visit_true : ∀ (f : Nat) (i : Int) (S : List Int), (visitF g player s start f i S).1 = true → Relation.TransGen (Step g player s start) i start
  | 0, i, S, h => by simp [visitF] at h
  | f + 1, i, S, h => by
    simp only [visitF, decide_eq_true_eq] at h
    obtain ⟨y, hy, hh⟩ := find_true (fun i S => visit_true f i S) _ S 0 h
    rcases hh with rfl | ⟨hp, ht⟩
    · exact .single ⟨hy, Int.le_refl _⟩
    · exact (Relation.TransGen.single ⟨hy, hp⟩).trans ht

/-- the search says yes exactly if a cycle is possible -/
theorem lost_iff (hcl : ∀ x, D x → ∀ y ∈ movesS g player s x.toNat, D y) (hD : ∀ x, D x → 0 ≤ x ∧ x < g.owner.length) (hst : D start) :
    lostS g player s start = true ↔ Relation.TransGen (Step g player s start) start start := by
  constructor
  · exact visit_true _ _ _
  · intro ht
    by_cases h : lostS g player s start = true
    · exact h
    · exfalso
      have h' : (visitF g player s start (g.owner.length + 1) start []).1 = false := by simpa [lostS] using h
      obtain ⟨_, _, h3, h4⟩ := visit_false (n := g.owner.length) hcl hD _ _ _ hst ⟨by simp, by simp, by simp⟩ h'
      have key : ∀ y, Relation.TransGen (Step g player s start) start y → y ≠ start ∧ y ∈ (visitF g player s start (g.owner.length + 1) start []).2 := by
        intro y hy
        induction hy with
        | single h => exact ⟨(h3 _ h.1).1, (h3 _ h.1).2 h.2⟩
        | tail _ h ih => exact ⟨(h4 _ ih.2 (by simp) _ h.1).1, (h4 _ ih.2 (by simp) _ h.1).2 h.2⟩
      exact (key start ht).1 rfl
end
end Go.Proofs.Ytohglckebkgbpaa
