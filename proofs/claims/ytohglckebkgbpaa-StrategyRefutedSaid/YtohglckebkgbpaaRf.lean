/-
  StrategyRefuted on plain data.
-/
import Derived.Test.YtohglckebkgbpaaPz
namespace Go.Proofs.Ytohglckebkgbpaa
open Go.RowKit

theorem refuted_not {g : gameT.T} {P : Int} {set : List Bool} {s t : List Int} {x : Int} (hP : 0 ≤ P ∧ P ≤ 1) (hvs : validS (gameD g) P set s = true) (ht : Legal (gameD g) P t) (hx : inSet (gameD g) set x) (h : winnerS (gameD g) (playS (gameD g) (fst P s t) (snd P s t) x) = 1 - P) : winsS (gameD g) P set s = false := by
  cases hw : winsS (gameD g) P set s with
  | false => rfl
  | true =>
    have := (plays_law hvs ht hx).2.2.2.2.2 hw
    omega
/-- no play against the strategy with number N refutes -/
def Clear (g : gameT.T) (P : Int) (set : List Bool) (s : List Int) (N : Int) (k : Int) : Prop := ∀ i : Nat, (i : Int) < k → set.getD i false = true → ¬ winnerS (gameD g) (playS (gameD g) (fst P s (ofTo g (1 - P) N g.1.length).1) (snd P s (ofTo g (1 - P) N g.1.length).1) i) = 1 - P
theorem cp_Refuted (g : gameT.T) (second : Bool) (set : List Bool) (s : List Int) : CallP Try.prog tT 5 [.d gameT g, .d .bool second, .d boolsT set, .d intsT s] .bool true := by
  refine of5 g second set s true fun R hR _ _ _ _ => ?_
  have hP : 0 ≤ playerS second ∧ playerS second ≤ 1 := by cases second <;> decide
  have hpl := cp_player tT second
  generalize playerS second = P at hP hpl
  have hT : R true := (hR _).2 rfl
  refine ⟨true, cp_head tT, P, hpl, rightS (gameD g) set s, cp_right tT g set s, validS (gameD g) P set s, fun h => ⟨by simp only [h, and_self], cp_Valid tT g P set s⟩, ?_⟩
  have hin : inK .i64 (1 - P) := inK64 (by omega) (by omega)
  cases hr : rightS (gameD g) set s with
  | false => exact ⟨by simp, by simp, by simp [selB], 0, by simp [selB], by simp [selB], by simp [selB], fun _ => hT, by simp [selB]⟩
  | true =>
    obtain ⟨hg, l1, l2⟩ := right_parts hr
    cases hv : validS (gameD g) P set s with
    | false => exact ⟨by simp, by simp, by simp [selB], 0, by simp [selB], by simp [selB], by simp [selB], fun _ => hT, by simp [selB]⟩
    | true =>
      have hcp := cp_count g (1 - P) 200 ⟨by omega, by omega⟩ hg
      generalize hcnt : countTo g (1 - P) 200 g.1.length 0 1 = cnt at hcp
      refine ⟨by simp, by simp, fun h => ⟨h, hin⟩, cnt, fun h => ⟨⟨h, h⟩, hcp⟩, fun h => h, by simp [selB], fun _ => hT, fun hc => ?_⟩
      have hle : cnt ≤ 200 := by
        simp only [selB, Bool.not_true, cond_false, decide_eq_false_iff_not] at hc
        omega
      have hn := hg.n
      refine ⟨fun x => 0 ≤ x.2.1 ∧ (x.1 = true → winsS (gameD g) P set s = false) ∧ (x.1 = false → ∀ N : Int, 0 ≤ N → N < x.2.1 → Clear g P set s N set.length), fun x => (cnt - x.2.1).toNat, ⟨Int.le_refl 0, by simp, fun _ N h1 h2 => by simp at h2; omega⟩, ?_⟩
      rintro ⟨rf, N, u⟩ _ ⟨i1, i2, i3⟩
      simp only at i1 i2 i3
      refine ⟨hin, cnt, hcp, fun h => h, fun h => h, fun hgo => ?_, fun hstop => ?_⟩
      · have hgo' : N < cnt ∧ rf = false := by
          simp only [selB] at hgo
          by_cases h : N < cnt
          · simp only [h, decide_true, cond_true, Bool.not_eq_true'] at hgo; exact ⟨h, hgo⟩
          · simp only [h, decide_false, cond_false] at hgo; simp at hgo
        obtain ⟨hN, rfl⟩ := hgo'
        have hleg := ofTo_legal hg hP N
        have hof := cp_strategyOf g (1 - P) N i1 hg
        refine ⟨hin, (ofTo g (1 - P) N g.1.length).1, hof, fun y => ∃ i : Nat, i ≤ set.length ∧ y.2.1 = i ∧ (y.1 = true → winsS (gameD g) P set s = false) ∧ (y.1 = false → Clear g P set s N i), fun y => set.length - y.2.1.toNat, ⟨0, by omega, rfl, by simp, fun _ i h1 => by omega⟩, ?_⟩
        rintro ⟨rf, iz, u⟩ _ ⟨i, j1, j2, j3, j4⟩
        simp only at j2 j3 j4
        subst j2
        simp only [Int.toNat_natCast, decide_eq_true_eq, decide_eq_false_iff_not]
        refine ⟨fun hlt => ?_, fun hge => ⟨inK64 (by omega) (by omega), ⟨by omega, j3, fun h M h1 h2 => ?_⟩, by omega⟩⟩
        · have hlt' : i < set.length := by omega
          have hcond : ((!rf) && set.getD i false) = true → rf = false ∧ inSet (gameD g) set (i : Int) := by
            intro h
            simp only [Bool.and_eq_true, Bool.not_eq_true'] at h
            exact ⟨h.1, by omega, by show (i : Int) < (g.1.length : Nat); omega, by simpa using h.2⟩
          refine ⟨fun h => ⟨⟨h, h⟩, by omega, by omega⟩, fun h => h, fun h => h, pathE (playS (gameD g) (fst P s (ofTo g (1 - P) N g.1.length).1) (snd P s (ofTo g (1 - P) N g.1.length).1) i), fun h => ⟨⟨h, h, h, h, h⟩, cp_play g P s _ i⟩, winnerS (gameD g) (playS (gameD g) (fst P s (ofTo g (1 - P) N g.1.length).1) (snd P s (ofTo g (1 - P) N g.1.length).1) i), fun h => ⟨⟨h, h⟩, cp_win hg hv hleg (hcond h).2⟩, fun h => ⟨h, hin⟩, fun h => ⟨h, h⟩, fun h => ⟨h, fun h2 => by rw [h, h2]; rfl⟩, fun h => by rw [h]; rfl, inK64 (by omega) (by omega), ⟨i + 1, by omega, by omega, fun h => ?_, fun h => ?_⟩, by omega⟩
          · simp only [selB] at h
            cases hrf : rf with
            | true => exact j3 hrf
            | false =>
              rw [hrf] at h
              cases hs : set.getD i false with
              | false => rw [hs] at h; simp at h
              | true =>
                rw [hs] at h
                simp only [cond_false, cond_true, decide_eq_true_eq] at h
                exact refuted_not hP hv hleg (hcond (by rw [hrf, hs]; rfl)).2 h
          · simp only [selB] at h
            cases hrf : rf with
            | true => rw [hrf] at h; simp at h
            | false =>
              rw [hrf] at h
              intro k hk hks
              by_cases e : k = i
              · subst e
                rw [hks] at h
                simpa using h
              · exact j4 hrf k (by omega) hks
        · by_cases e : M = N
          · subst e
            have := j4 h
            intro k hk hks
            exact this k (by omega) hks
          · exact i3 rfl M h1 (by omega)
      · refine ⟨winsS (gameD g) P set s, fun h => ⟨by simp, cp_Wins tT g P set s⟩, by simp, by simp, by simp, (hR _).2 ?_⟩
        simp only [selB, cond_true]
        cases hrf : rf with
        | true => rw [i2 hrf]; rfl
        | false =>
          have hge : ¬ N < cnt := by
            intro h
            simp only [selB, h, decide_true, cond_true, hrf] at hstop
            simp at hstop
          cases hw : winsS (gameD g) P set s with
          | true => rfl
          | false =>
            exfalso
            obtain ⟨x, hx, c, c1, c2⟩ := refute_law hv hw
            obtain ⟨M, m1, m2, m3⟩ := all_choices (g := g) (pl := 1 - P) (by rw [hcnt]; exact hle) c c1
            have hxx : ((x.toNat : Nat) : Int) = x := by have := hx.1; omega
            have hcl := i3 hrf M m1 (by omega) x.toNat (by have := hx.2.1; have h5 : x < (g.1.length : Nat) := this; omega) hx.2.2
            rw [hxx] at hcl
            refine hcl (c2 _ (ofTo_len g _ _ _) fun i hi ho => m3 i hi ?_)
            have key : ∀ z : Int, (z = 0 ∨ z = 1) → ¬ z = P → z = 1 - P := by intro z; omega
            exact key _ (owner_01 hg.v hi) ho
end Go.Proofs.Ytohglckebkgbpaa
