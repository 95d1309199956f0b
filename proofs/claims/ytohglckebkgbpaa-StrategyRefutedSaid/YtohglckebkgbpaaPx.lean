/-
  Plain laws of chapter 25: plays against any strategy of the other player; what refutes a strategy.
-/
import Derived.Test.YtohglckebkgbpaaPw
namespace Go.Proofs.Ytohglckebkgbpaa

/-- the strategies of both, in the order of the players -/
def fst (p : Int) (s t : List Int) : List Int := if p = 0 then s else t
def snd (p : Int) (s t : List Int) : List Int := if p = 0 then t else s
/-- a strategy of the other player, at all positions -/
def Legal (g : Game) (p : Int) (t : List Int) : Prop := t.length = g.owner.length ∧ ∀ i, i < g.owner.length → g.owner.getD i 0 ≠ p → t.getD i 0 ∈ g.succ.getD i []
theorem step_player {g : Game} {p : Int} {s t : List Int} (hv : g.valid = true) (hp : 0 ≤ p ∧ p ≤ 1) {y : Int} (hy : 0 ≤ y ∧ y < g.owner.length) : playTo g (fst p s t) (snd p s t) y = if g.owner.getD y.toNat 0 = p then s.getD y.toNat 0 else t.getD y.toNat 0 := by
  have ho := owner_01 hv (i := y.toNat) (by omega)
  have hp' : p = 0 ∨ p = 1 := by omega
  unfold playTo fst snd
  rcases hp' with rfl | rfl <;> rcases ho with h | h <;> rw [h] <;> rfl
section
variable {g : Game} {p : Int} {set : List Bool} {s t : List Int}
theorem step_moves (hvs : validS g p set s = true) (ht : Legal g p t) {y : Int} (hy : inSet g set y) : playTo g (fst p s t) (snd p s t) y ∈ movesS g p s y.toNat ∧ playTo g (fst p s t) (snd p s t) y ∈ g.succ.getD y.toNat [] := by
  obtain ⟨hv, hp, h1, h2, h3⟩ := valid_head hvs
  have hyn : y.toNat < g.owner.length := by have := hy.1; have := hy.2.1; omega
  rw [step_player hv hp ⟨hy.1, hy.2.1⟩]
  have hok := h3 _ hyn
  simp only [okAt, hy.2.2, Bool.true_and] at hok
  unfold movesS
  by_cases ho : g.owner.getD y.toNat 0 = p
  · have hb : (g.owner.getD y.toNat 0 == p) = true := by simpa using ho
    rw [if_pos hb] at hok
    simp only [Bool.and_eq_true, decide_eq_true_eq] at hok
    rw [if_pos ho, if_pos hb]
    exact ⟨by simp, hok.1⟩
  · have hb : ¬ (g.owner.getD y.toNat 0 == p) = true := by simpa using ho
    rw [if_neg ho, if_neg hb]
    exact ⟨ht.2 _ hyn ho, ht.2 _ hyn ho⟩
theorem step_in (hvs : validS g p set s = true) (ht : Legal g p t) {y : Int} (hy : inSet g set y) : inSet g set (playTo g (fst p s t) (snd p s t) y) := closed_of_valid hvs y hy _ (step_moves hvs ht hy).1
/-- a play from a position of the set -/
theorem play_in (hvs : validS g p set s = true) (ht : Legal g p t) {x : Int} (hx : inSet g set x) :
    ∃ m q, q < m ∧ m ≤ g.owner.length ∧ it (playTo g (fst p s t) (snd p s t)) m x = it (playTo g (fst p s t) (snd p s t)) q x ∧ (∀ k, inSet g set (it (playTo g (fst p s t) (snd p s t)) k x)) ∧
      playS g (fst p s t) (snd p s t) x = ⟨(way (playTo g (fst p s t) (snd p s t)) x m).take q, (way (playTo g (fst p s t) (snd p s t)) x m).drop q⟩ := by
  obtain ⟨hv, hp, h1, h2, h3⟩ := valid_head hvs
  refine playS_way ?_ (fun y hy => ⟨hy.1, hy.2.1⟩) (fun y hy => ⟨step_in hvs ht hy, (step_moves hvs ht hy).2⟩) hx
  have e1 : (fst p s t).length = g.owner.length := by unfold fst; split; exact h2; exact ht.1
  have e2 : (snd p s t).length = g.owner.length := by unfold snd; split; exact ht.1; exact h2
  simp only [playHead, hv, e1, e2, decide_true, Bool.true_and, Bool.and_true, Bool.and_eq_true, decide_eq_true_eq]
  exact ⟨hx.1, hx.2.1⟩
theorem plays_law (hvs : validS g p set s = true) (ht : Legal g p t) {x : Int} (hx : inSet g set x) :
    (playS g (fst p s t) (snd p s t) x).loop ≠ [] ∧ ((playS g (fst p s t) (snd p s t) x).stem ++ (playS g (fst p s t) (snd p s t) x).loop).length ≤ g.owner.length ∧
    ((playS g (fst p s t) (snd p s t) x).stem ++ (playS g (fst p s t) (snd p s t) x).loop).getD 0 0 = x ∧ (∀ y ∈ (playS g (fst p s t) (snd p s t) x).stem ++ (playS g (fst p s t) (snd p s t) x).loop, inSet g set y) ∧
    0 ≤ winnerS g (playS g (fst p s t) (snd p s t) x) ∧ (winsS g p set s = true → winnerS g (playS g (fst p s t) (snd p s t) x) = p) := by
  obtain ⟨hv, hp, h1, h2, h3⟩ := valid_head hvs
  obtain ⟨m, q, k1, k2, k3, k4, k5⟩ := play_in hvs ht hx
  obtain ⟨c, c1, c2, c3, c4⟩ := winner_way hv k1 k3 (fun k => ⟨(k4 k).1, (k4 k).2.1⟩) (fun k => (step_moves hvs ht (k4 k)).2)
  rw [k5]
  have e : List.take q (way (playTo g (fst p s t) (snd p s t)) x m) ++ List.drop q (way (playTo g (fst p s t) (snd p s t)) x m) = way (playTo g (fst p s t) (snd p s t)) x m := List.take_append_drop _ _
  refine ⟨?_, ?_, ?_, ?_, ?_, ?_⟩
  · intro h
    have := congrArg List.length h
    simp [way_len] at this
    omega
  · simp only [e, way_len]; exact k2
  · simp only [e]; rw [way_getD _ _ _ _ (by omega)]; rfl
  · intro y hy
    simp only [e] at hy
    obtain ⟨k, _, rfl⟩ := mem_way.1 hy
    exact k4 k
  · rw [c4]; exact Int.emod_nonneg _ (by omega)
  · intro hw
    rw [c4]
    generalize hc : it (playTo g (fst p s t) (snd p s t)) c x = z at *
    have hz : inSet g set z := by rw [← hc]; exact k4 c
    have hit : ∀ k, it (playTo g (fst p s t) (snd p s t)) k z = it (playTo g (fst p s t) (snd p s t)) (k + c) x := fun k => by rw [it_add, hc]
    have hper : it (playTo g (fst p s t) (snd p s t)) (m - q) z = z := by
      have e1 : it (playTo g (fst p s t) (snd p s t)) (m - q) (it (playTo g (fst p s t) (snd p s t)) q x) = it (playTo g (fst p s t) (snd p s t)) q x := by
        rw [← it_add, show m - q + q = m by omega]; exact k3
      have e2 : it (playTo g (fst p s t) (snd p s t)) c x = it (playTo g (fst p s t) (snd p s t)) (c - q) (it (playTo g (fst p s t) (snd p s t)) q x) := by
        rw [← it_add, show c - q + q = c by omega]
      rw [← hc, e2, ← it_add, Nat.add_comm, it_add, e1]
    have hmin : ∀ k, prioAt g z ≤ prioAt g (it (playTo g (fst p s t) (snd p s t)) k z) := by
      intro k
      rw [it_period _ _ _ hper k, hit]
      have hlt : k % (m - q) < m - q := Nat.mod_lt _ (by omega)
      by_cases hk : k % (m - q) + c < m
      · exact c3 _ (by omega) hk
      · have e1 : it (playTo g (fst p s t) (snd p s t)) (k % (m - q) + c) x = it (playTo g (fst p s t) (snd p s t)) (k % (m - q) + c - (m - q)) x := by
          have := it_add (playTo g (fst p s t) (snd p s t)) (k % (m - q) + c - m) m x
          rw [show k % (m - q) + c - m + m = k % (m - q) + c by omega] at this
          rw [this, k3, ← it_add]
          congr 1
          omega
        rw [e1]
        exact c3 _ (by omega) (by omega)
    refine wins_no_cycle hw hz (trans_cycle (f := playTo g (fst p s t) (snd p s t)) (fun k => ⟨?_, hmin _⟩) (L := m - q) (by omega) hper)
    have hin : inSet g set (it (playTo g (fst p s t) (snd p s t)) k z) := by rw [hit]; exact k4 _
    exact (step_moves hvs ht hin).1

/-- so many steps lead from y to c -/
def ReachN (R : Int → Int → Prop) (c : Int) : Nat → Int → Prop
  | 0, y => y = c
  | k + 1, y => ∃ z, R y z ∧ ReachN R c k z
theorem reach_snoc {R : Int → Int → Prop} {b c : Int} (h : R b c) : ∀ (k : Nat) (y : Int), ReachN R b k y → ReachN R c (k + 1) y
  | 0, y, e => by
    have e : y = b := e
    subst e
    exact ⟨c, h, rfl⟩
  | k + 1, y, ⟨z, h1, h2⟩ => ⟨z, h1, reach_snoc h k z h2⟩
theorem reach_of_trans {R : Int → Int → Prop} {c y : Int} (h : Relation.TransGen R y c) : ∃ k, ReachN R c (k + 1) y := by
  induction h with
  | single h => exact ⟨0, _, h, rfl⟩
  | tail _ h ih => obtain ⟨k, hk⟩ := ih; exact ⟨k + 1, reach_snoc h _ _ hk⟩
theorem least_nat {P : Nat → Prop} : ∀ n, P n → ∃ m, P m ∧ ∀ k, P k → m ≤ k := by
  classical
  intro n
  induction n using Nat.strongRecOn with
  | _ n ih =>
    intro hn
    by_cases h : ∃ k, k < n ∧ P k
    · obtain ⟨k, h1, h2⟩ := h; exact ih k h1 h2
    · refine ⟨n, hn, fun k hk => ?_⟩
      by_cases hkn : k < n
      · exact absurd ⟨k, hkn, hk⟩ h
      · omega
theorem it_front (f : Int → Int) (k : Nat) (x : Int) : it f (k + 1) x = it f k (f x) := it_add f k 1 x
/-- a way that comes back, taken by one map -/
theorem back_map {R : Int → Int → Prop} {c : Int} (h : Relation.TransGen R c c) : ∃ f : Int → Int, ∃ L, 0 < L ∧ it f L c = c ∧ ∀ k, R (it f k c) (it f (k + 1) c) := by
  classical
  let S : Int → Prop := fun y => ∃ k, ReachN R c (k + 1) y
  have hex : ∀ y, S y → ∃ m, ReachN R c (m + 1) y ∧ ∀ k, ReachN R c (k + 1) y → m ≤ k := fun y hy => by
    obtain ⟨k, hk⟩ := hy
    exact least_nat (P := fun k => ReachN R c (k + 1) y) k hk
  let d : Int → Nat := fun y => if hy : S y then Classical.choose (hex y hy) else 0
  have hd : ∀ y, S y → ReachN R c (d y + 1) y := fun y hy => by
    have := (Classical.choose_spec (hex y hy)).1
    simpa only [d, hy, dif_pos] using this
  have hdm : ∀ y k, ReachN R c (k + 1) y → d y ≤ k := fun y k hk => by
    have hy : S y := ⟨k, hk⟩
    have := (Classical.choose_spec (hex y hy)).2 k hk
    simpa only [d, hy, dif_pos] using this
  let f : Int → Int := fun y => if hy : S y then Classical.choose (hd y hy) else y
  have hf : ∀ y, S y → R y (f y) ∧ ReachN R c (d y) (f y) := fun y hy => by
    have := Classical.choose_spec (hd y hy)
    simpa only [f, hy, dif_pos] using this
  have key : ∀ n y, S y → d y = n → ∃ L, 0 < L ∧ it f L y = c ∧ ∀ k, k < L → R (it f k y) (it f (k + 1) y) := by
    intro n
    induction n using Nat.strongRecOn with
    | _ n ih =>
      intro y hy hn
      obtain ⟨h1, h2⟩ := hf y hy
      cases n with
      | zero =>
        rw [hn] at h2
        refine ⟨1, by omega, h2, fun k hk => ?_⟩
        have : k = 0 := by omega
        subst this
        exact h1
      | succ n =>
        rw [hn] at h2
        obtain ⟨L, l1, l2, l3⟩ := ih (d (f y)) (by have := hdm _ _ h2; omega) (f y) ⟨n, h2⟩ rfl
        refine ⟨L + 1, by omega, by rw [it_front]; exact l2, fun k hk => ?_⟩
        cases k with
        | zero => exact h1
        | succ k => rw [it_front, it_front]; exact l3 k (by omega)
  obtain ⟨L, l1, l2, l3⟩ := key _ c (reach_of_trans h) rfl
  refine ⟨f, L, l1, l2, fun k => ?_⟩
  have e1 := it_period f L c l2 k
  have e2 : it f (k + 1) c = it f (k % L + 1) c := by
    show f (it f k c) = f (it f (k % L) c)
    rw [e1]
  rw [e1, e2]
  exact l3 _ (Nat.mod_lt _ l1)
/-- a strategy that does not win is refuted by choices of the other player -/
theorem refute_law (hvs : validS g p set s = true) (hw : winsS g p set s = false) : ∃ x, inSet g set x ∧ ∃ c : Nat → Int, (∀ i, i < g.owner.length → c i ∈ g.succ.getD i []) ∧
    ∀ t, t.length = g.owner.length → (∀ i, i < g.owner.length → g.owner.getD i 0 ≠ p → t.getD i 0 = c i) → winnerS g (playS g (fst p s t) (snd p s t) x) = 1 - p := by
  obtain ⟨hv, hp, h1, h2, h3⟩ := valid_head hvs
  obtain ⟨v1, v2, v3, v4, v5, v6⟩ := valid_parts hv
  have hlost : ∃ i, i < set.length ∧ lostAt g p set s i = true := by
    by_cases hc : ∃ i, i < set.length ∧ lostAt g p set s i = true
    · exact hc
    · exfalso
      have : winTo g p set s set.length = true := by
        have all : ∀ n, n ≤ set.length → winTo g p set s n = true := by
          intro n
          induction n with
          | zero => intro _; rfl
          | succ n ih =>
            intro hn
            have hl : lostAt g p set s n = false := by
              cases hq : lostAt g p set s n with
              | false => rfl
              | true => exact absurd ⟨n, by omega, hq⟩ hc
            simp only [winTo, ih (by omega), hl, Bool.not_false, Bool.and_self]
        exact all _ (Nat.le_refl _)
      simp [winsS, hvs, this] at hw
  obtain ⟨i, hi, hl⟩ := hlost
  simp only [lostAt, Bool.and_eq_true, bne_iff_ne, ne_eq] at hl
  obtain ⟨⟨l1, l2⟩, l3⟩ := hl
  have hx : inSet g set (i : Int) := ⟨by omega, by omega, by simpa using l1⟩
  have ht := (lost_iff (closed_of_valid hvs) (fun x hx => ⟨hx.1, hx.2.1⟩) hx).1 l3
  obtain ⟨f, L, f1, f2, f3⟩ := back_map ht
  have hrow : ∀ j, j < g.owner.length → g.succ.getD j [] ≠ [] := by
    intro j hj
    rw [List.getD_eq_getElem?_getD, List.getElem?_eq_getElem (by omega)]
    exact (v6 _ (List.getElem_mem _)).1
  refine ⟨i, hx, fun j => if f j ∈ g.succ.getD j [] then f j else (g.succ.getD j []).headD 0, fun j hj => ?_, fun t t1 t2 => ?_⟩
  · show (if f j ∈ g.succ.getD j [] then f j else (g.succ.getD j []).headD 0) ∈ _
    split
    · assumption
    · have := hrow j hj
      cases hq : g.succ.getD j [] with
      | nil => exact absurd hq this
      | cons a l => simp
  · have hleg : Legal g p t := ⟨t1, fun j hj ho => by
      rw [t2 j hj ho]
      show (if f j ∈ g.succ.getD j [] then f j else (g.succ.getD j []).headD 0) ∈ _
      split
      · assumption
      · have := hrow j hj
        cases hq : g.succ.getD j [] with
        | nil => exact absurd hq this
        | cons a l => simp⟩
    have same : ∀ k, it (playTo g (fst p s t) (snd p s t)) k i = it f k i ∧ inSet g set (it f k i) := by
      intro k
      induction k with
      | zero => exact ⟨rfl, hx⟩
      | succ k ih =>
        obtain ⟨e1, e2⟩ := ih
        have hst := (f3 k).1
        have hin : inSet g set (it f (k + 1) i) := closed_of_valid hvs _ e2 _ hst
        refine ⟨?_, hin⟩
        show playTo g (fst p s t) (snd p s t) (it (playTo g (fst p s t) (snd p s t)) k i) = f (it f k i)
        have hst' : f (it f k i) ∈ movesS g p s (it f k i).toNat := hst
        rw [e1]
        generalize it f k i = y at e2 hst' ⊢
        have hyn : y.toNat < g.owner.length := by have := e2.1; have := e2.2.1; omega
        have hyy : ((y.toNat : Nat) : Int) = y := by have := e2.1; omega
        rw [step_player hv hp ⟨e2.1, e2.2.1⟩]
        unfold movesS at hst'
        by_cases ho : g.owner.getD y.toNat 0 = p
        · rw [if_pos ho]
          rw [if_pos (by simpa using ho)] at hst'
          exact (List.mem_singleton.1 hst').symm
        · rw [if_neg ho]
          rw [if_neg (by simpa using ho)] at hst'
          rw [t2 _ hyn ho]
          show (if f ((y.toNat : Nat) : Int) ∈ g.succ.getD y.toNat [] then f ((y.toNat : Nat) : Int) else _) = _
          rw [hyy, if_pos hst']
    obtain ⟨m, q, k1, k2, k3, k4, k5⟩ := play_in hvs hleg hx
    obtain ⟨c, c1, c2, c3, c4⟩ := winner_way hv k1 k3 (fun k => ⟨(k4 k).1, (k4 k).2.1⟩) (fun k => (step_moves hvs hleg (k4 k)).2)
    rw [k5, c4]
    -- i lies on the loop
    have hloop : ∃ k, q ≤ k ∧ k < m ∧ it f k i = i := by
      have e1 : it f (m - q) (it f q i) = it f q i := by
        rw [← it_add, show m - q + q = m by omega, ← (same m).1, ← (same q).1]; exact k3
      have e2 : it f (L * q) (i : Int) = i := by
        rw [it_period f L _ f2, Nat.mul_mod_right]; rfl
      have hLq : q ≤ L * q := Nat.le_mul_of_pos_left q f1
      refine ⟨(L * q - q) % (m - q) + q, by omega, ?_, ?_⟩
      · have := Nat.mod_lt (L * q - q) (show m - q > 0 by omega); omega
      · rw [it_add, ← it_period f (m - q) _ e1, ← it_add, show L * q - q + q = L * q by omega]; exact e2
    obtain ⟨k, d1, d2, d3⟩ := hloop
    have a1 := c3 k d1 d2
    rw [(same k).1, d3] at a1
    have a2 : prioAt g i ≤ prioAt g (it (playTo g (fst p s t) (snd p s t)) c i) := by
      rw [(same c).1]
      cases c with
      | zero => exact Int.le_refl _
      | succ c => exact (f3 c).2
    have e : prioAt g (it (playTo g (fst p s t) (snd p s t)) c i) = prioAt g i := by omega
    rw [e]
    have l2' : ¬ prioAt g i % 2 = p := by simpa [prioAt] using l2
    omega
end
end Go.Proofs.Ytohglckebkgbpaa
