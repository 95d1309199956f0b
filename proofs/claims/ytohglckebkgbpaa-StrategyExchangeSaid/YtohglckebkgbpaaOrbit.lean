/-
  Plain laws: following one map, positions come again; a least one among them. Two winning strategies of different players have no position in common.
-/
import Derived.Test.YtohglckebkgbpaaReach
namespace Go.Proofs.Ytohglckebkgbpaa

def it (f : Int → Int) : Nat → Int → Int
  | 0, x => x
  | k + 1, x => f (it f k x)
theorem it_add (f : Int → Int) (a b : Nat) (x : Int) : it f (a + b) x = it f a (it f b x) := by
  induction a with
  | zero => simp [it]
  | succ a ih => rw [Nat.add_right_comm, it, ih, it]

theorem orbit_again (f : Int → Int) (n : Nat) (x : Int) (h : ∀ k, 0 ≤ it f k x ∧ it f k x < n) : ∃ p L, 0 < L ∧ p + L ≤ n ∧ it f (p + L) x = it f p x := by
  by_cases hc : ∃ p L, 0 < L ∧ p + L ≤ n ∧ it f (p + L) x = it f p x
  · exact hc
  · exfalso
    have hn : ((List.range (n + 1)).map (fun k => it f k x)).Nodup := by
      rw [List.Nodup, List.pairwise_map]
      refine List.Pairwise.imp_of_mem ?_ List.pairwise_lt_range
      intro a b ha hb hab e
      have hb' : b < n + 1 := by simpa using hb
      exact hc ⟨a, b - a, by omega, by omega, by rw [show a + (b - a) = b by omega]; exact e.symm⟩
    have := nodup_le n _ hn (fun y hy => by
      obtain ⟨k, _, rfl⟩ := List.mem_map.1 hy
      exact h k)
    simp at this
    omega

theorem argmin (P : Nat → Int) : ∀ L, 0 < L → ∃ m, m < L ∧ ∀ k, k < L → P m ≤ P k
  | 0, h => by omega
  | 1, _ => ⟨0, by omega, fun k hk => by have : k = 0 := by omega
                                         subst this; exact Int.le_refl _⟩
  | L + 2, _ => by
    obtain ⟨m, hm, h⟩ := argmin P (L + 1) (by omega)
    by_cases hc : P m ≤ P (L + 1)
    · refine ⟨m, by omega, fun k hk => ?_⟩
      by_cases e : k = L + 1
      · subst e; exact hc
      · exact h k (by omega)
    · refine ⟨L + 1, by omega, fun k hk => ?_⟩
      by_cases e : k = L + 1
      · subst e; exact Int.le_refl _
      · have := h k (by omega); omega

theorem it_period (f : Int → Int) (L : Nat) (c : Int) (hc : it f L c = c) : ∀ k, it f k c = it f (k % L) c := by
  intro k
  induction k using Nat.strongRecOn with
  | _ k ih =>
    by_cases hk : k < L
    · rw [Nat.mod_eq_of_lt hk]
    · by_cases h0 : L = 0
      · subst h0; simp
      · have this : it f k c = it f (k - L) c := by
          have h := it_add f (k - L) L c
          rw [show k - L + L = k by omega, hc] at h
          exact h
        rw [this, ih (k - L) (by omega), Nat.mod_eq_sub_mod (show k ≥ L by omega)]

/-- a position from which on the map comes back, and of the least value among those on the way -/
theorem orbit_least (f P : Int → Int) (n : Nat) (x : Int) (h : ∀ k, 0 ≤ it f k x ∧ it f k x < n) : ∃ a L, 0 < L ∧ it f L (it f a x) = it f a x ∧ ∀ k, P (it f a x) ≤ P (it f k (it f a x)) := by
  obtain ⟨p, L, hL, _, hp⟩ := orbit_again f n x h
  have hc : it f L (it f p x) = it f p x := by rw [← it_add, Nat.add_comm, hp]
  obtain ⟨m, hm, hmin⟩ := argmin (fun k => P (it f k (it f p x))) L hL
  have e : it f (m + p) x = it f m (it f p x) := it_add f m p x
  refine ⟨m + p, L, hL, ?_, fun k => ?_⟩
  · rw [e, ← it_add, Nat.add_comm, it_add, hc]
  · rw [e, ← it_add f k m]
    rw [it_period f L _ hc (k + m)]
    exact hmin _ (Nat.mod_lt _ hL)

theorem trans_it {f : Int → Int} {R : Int → Int → Prop} {c : Int} (h : ∀ k, R (it f k c) (it f (k + 1) c)) : ∀ k, Relation.TransGen R c (it f (k + 1) c)
  | 0 => .single (h 0)
  | k + 1 => (trans_it h k).tail (h (k + 1))
theorem trans_cycle {f : Int → Int} {R : Int → Int → Prop} {c : Int} (h : ∀ k, R (it f k c) (it f (k + 1) c)) {L : Nat} (hL : 0 < L) (hc : it f L c = c) : Relation.TransGen R c c := by
  have := trans_it h (L - 1)
  rw [show L - 1 + 1 = L by omega, hc] at this
  exact this

theorem wins_parts {g : Game} {player : Int} {set : List Bool} {s : List Int} (h : winsS g player set s = true) : validS g player set s = true ∧ ∀ i, i < set.length → lostAt g player set s i = false := by
  simp only [winsS, Bool.and_eq_true] at h
  refine ⟨h.1, fun i hi => ?_⟩
  by_cases hh : lostAt g player set s i = true
  · rw [winTo_false hh _ hi] at h; exact absurd h.2 (by simp)
  · simpa using hh
theorem valid_head {g : Game} {player : Int} {set : List Bool} {s : List Int} (h : validS g player set s = true) : g.valid = true ∧ (0 ≤ player ∧ player ≤ 1) ∧ set.length = g.owner.length ∧ s.length = g.owner.length ∧ ∀ i, i < g.owner.length → okAt g player set s i = true := by
  simp only [validS, headS, Bool.and_eq_true, decide_eq_true_eq] at h
  exact ⟨h.1.1.1.1, h.1.1.1.2, h.1.1.2, h.1.2, okTo_at h.2⟩
theorem owner_01 {g : Game} (hv : g.valid = true) {i : Nat} (hi : i < g.owner.length) : g.owner.getD i 0 = 0 ∨ g.owner.getD i 0 = 1 := by
  have := (valid_parts hv).2.2.2.1 _ (List.getElem_mem hi)
  rw [List.getD_eq_getElem?_getD, List.getElem?_eq_getElem hi]
  simp only [Option.getD_some]
  omega
theorem prio_nonneg {g : Game} (hv : g.valid = true) (x : Int) : 0 ≤ prioAt g x := by
  unfold prioAt
  by_cases hi : x.toNat < g.prio.length
  · rw [List.getD_eq_getElem?_getD, List.getElem?_eq_getElem hi]
    exact ((valid_parts hv).2.2.2.2.1 _ (List.getElem_mem hi)).1
  · rw [List.getD_eq_getElem?_getD, List.getElem?_eq_none (by omega)]
    simp

/-- a winning strategy allows no cycle whose least priority is the other player's -/
theorem wins_no_cycle {g : Game} {player : Int} {set : List Bool} {s : List Int} (h : winsS g player set s = true) {c : Int} (hc : inSet g set c) (ht : Relation.TransGen (Step g player s c) c c) : prioAt g c % 2 = player := by
  obtain ⟨hv, hl⟩ := wins_parts h
  have hh := valid_head hv
  have hlt : c.toNat < set.length := by have := hc.2.1; have := hc.1; have := hh.2.2.1; omega
  have h1 := hl c.toNat hlt
  have hlost := (lost_iff (closed_of_valid hv) (fun x hx => ⟨hx.1, hx.2.1⟩) hc).2 ht
  have e : ((c.toNat : Nat) : Int) = c := by have := hc.1; omega
  simp only [lostAt, hc.2.2, Bool.true_and, e, hlost, Bool.and_true] at h1
  simpa [prioAt] using h1

theorem one_law {g : Game} {a b : List Bool} {s t : List Int} (h1 : winsS g 0 a s = true) (h2 : winsS g 1 b t = true) (x : Int) (ha : inSet g a x) (hb : inSet g b x) : False := by
  have v1 := (wins_parts h1).1
  have v2 := (wins_parts h2).1
  obtain ⟨hv, _, _, _, ok1⟩ := valid_head v1
  obtain ⟨_, _, _, _, ok2⟩ := valid_head v2
  let f : Int → Int := fun x => if g.owner.getD x.toNat 0 == 0 then s.getD x.toNat 0 else t.getD x.toNat 0
  have hmove : ∀ y, inSet g a y → inSet g b y → f y ∈ movesS g 0 s y.toNat ∧ f y ∈ movesS g 1 t y.toNat := by
    intro y ya yb
    have hi : y.toNat < g.owner.length := by have := ya.1; have := ya.2.1; omega
    have o1 := ok1 _ hi
    have o2 := ok2 _ hi
    simp only [okAt, ya.2.2, yb.2.2, Bool.true_and] at o1 o2
    rcases owner_01 hv hi with ho | ho
    · simp only [ho] at o1
      simp only [f, movesS, ho]
      simp at o1 ⊢
      exact o1.1
    · simp only [ho] at o2
      simp only [f, movesS, ho]
      simp at o2 ⊢
      exact o2.1
  have hstay : ∀ k, inSet g a (it f k x) ∧ inSet g b (it f k x) := by
    intro k
    induction k with
    | zero => exact ⟨ha, hb⟩
    | succ k ih =>
      have hm := hmove _ ih.1 ih.2
      exact ⟨closed_of_valid v1 _ ih.1 _ hm.1, closed_of_valid v2 _ ih.2 _ hm.2⟩
  obtain ⟨p, L, hL, hc, hmin⟩ := orbit_least f (prioAt g) g.owner.length x (fun k => ⟨(hstay k).1.1, (hstay k).1.2.1⟩)
  have hst : ∀ k, inSet g a (it f k (it f p x)) ∧ inSet g b (it f k (it f p x)) := fun k => by rw [← it_add]; exact hstay _
  have t1 : Relation.TransGen (Step g 0 s (it f p x)) (it f p x) (it f p x) := trans_cycle (fun k => ⟨(hmove _ (hst k).1 (hst k).2).1, hmin (k + 1)⟩) hL hc
  have t2 : Relation.TransGen (Step g 1 t (it f p x)) (it f p x) (it f p x) := trans_cycle (fun k => ⟨(hmove _ (hst k).1 (hst k).2).2, hmin (k + 1)⟩) hL hc
  have e1 := wins_no_cycle h1 (hst 0).1 t1
  have e2 := wins_no_cycle h2 (hst 0).2 t2
  omega
end Go.Proofs.Ytohglckebkgbpaa
