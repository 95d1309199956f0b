/-
  StrategyPlays on plain data.
-/
import Derived.Test.YtohglckebkgbpaaPz
namespace Go.Proofs.Ytohglckebkgbpaa
open Go.RowKit

theorem someD_legal {g : gameT.T} (hg : GFacts g) {p : Int} (hp : 0 ≤ p ∧ p ≤ 1) (picks : List Int) : Legal (gameD g) p (someD g (1 - p) picks g.1.length) := by
  refine ⟨someD_len g _ _ _, fun i hi ho => ?_⟩
  have hi' : i < g.1.length := hi
  have key : ∀ z : Int, (z = 0 ∨ z = 1) → ¬ z = p → z = 1 - p := by intro z; omega
  have ho' : g.1.getD i 0 = 1 - p := key _ (owner_01 hg.v hi) ho
  have e : (someD g (1 - p) picks g.1.length).getD i 0 = someAt g (1 - p) picks i := by simp [someD, List.getD_eq_getElem?_getD, hi']
  rw [e]
  simp only [someAt, ho', if_true]
  have hr := hg.row i hi'
  have h1 : pickK picks i % ((g.2.2.1.getD i []).length : Int) < (g.2.2.1.getD i []).length := Int.emod_lt_of_pos _ (by omega)
  have h0 : 0 ≤ pickK picks i % ((g.2.2.1.getD i []).length : Int) := Int.emod_nonneg _ (by omega)
  exact getD_mem ((Int.toNat_lt h0).2 h1)
theorem cp_Plays (g : gameT.T) (second : Bool) (set : List Bool) (s picks : List Int) : CallP Try.prog tT 4 [.d gameT g, .d .bool second, .d boolsT set, .d intsT s, .d (.sl (.int .u8)) picks] .bool true := by
  refine of4 g second set s picks true fun R hR _ _ _ _ _ => ?_
  have hP : 0 ≤ playerS second ∧ playerS second ≤ 1 := by cases second <;> decide
  have hpl := cp_player tT second
  generalize playerS second = P at hP hpl
  have hT : R true := (hR _).2 rfl
  have hin : inK .i64 (1 - P) := inK64 (by omega) (by omega)
  refine ⟨true, cp_head tT, rightS (gameD g) set s, cp_right tT g set s, fun _ => hT, fun hr => ⟨P, hpl, validS (gameD g) P set s, cp_Valid tT g P set s, fun hv => ⟨winsS (gameD g) P set s, fun _ => ⟨by simp, cp_Wins tT g P set s⟩, by simp, by simp, ?_⟩, fun hv => ⟨winsS (gameD g) P set s, cp_Wins tT g P set s, ?_⟩⟩⟩
  · refine (hR _).2 ?_
    have hv' : validS (gameD g) P set s = false := by simpa using hv
    simp [selB, winsS, hv']
  · have hr' : rightS (gameD g) set s = true := by simpa using hr
    have hv' : validS (gameD g) P set s = true := by simpa using hv
    obtain ⟨hg, l1, l2⟩ := right_parts hr'
    have hn := hg.n
    have hleg := someD_legal hg hP picks
    have hsome := cp_some g (1 - P) picks hg
    generalize someD g (1 - P) picks g.1.length = t at hleg hsome
    refine ⟨fun x => ∃ i : Nat, i ≤ set.length ∧ x.1 = i, fun x => set.length - x.1.toNat, ⟨0, by omega, rfl⟩, ?_⟩
    rintro ⟨iz, u⟩ _ ⟨i, hi, h1⟩
    simp only at h1
    subst h1
    simp only [Int.toNat_natCast]
    have next : ∀ {q : Prop}, q → (i : Int) < set.length → inK .i64 ((i : Int) + 1) ∧ (∃ j : Nat, j ≤ set.length ∧ ((i : Int) + 1) = j) ∧ set.length - ((i : Int) + 1).toNat < set.length - i := fun _ h => ⟨inK64 (by omega) (by omega), ⟨i + 1, by omega, by omega⟩, by omega⟩
    refine ⟨fun hlt => ?_, fun _ => hT⟩
    have hlt : (i : Int) < set.length := of_decide_eq_true hlt
    refine ⟨⟨by omega, hlt⟩, fun _ => next trivial hlt, fun hset => ⟨hin, t, hsome, pathE (playS (gameD g) (fst P s t) (snd P s t) i), cp_play g P s t i, ?_⟩⟩
    have hx : inSet (gameD g) set (i : Int) := ⟨by omega, by show (i : Int) < (g.1.length : Nat); omega, by simpa using hset⟩
    obtain ⟨f1, f2, f3, f4, f5, f6⟩ := plays_law hv' hleg hx
    have hwin := cp_win hg hv' hleg hx
    generalize hw0 : winnerS (gameD g) (playS (gameD g) (fst P s t) (snd P s t) i) = wn at f5 f6 hwin
    obtain ⟨r6, e6⟩ : ∃ r6 : List Int × (List Int × Unit), r6 = pathE (playS (gameD g) (fst P s t) (snd P s t) i) := ⟨_, rfl⟩
    have hwin : CallP Try.prog tT 18 [.d gameT g, .d pathT (r6.1, (r6.2.1, ()))] (.int .i64) wn := by rw [e6]; exact hwin
    have f1 : r6.2.1 ≠ [] := by rw [e6]; exact f1
    have f2 : (([] ++ r6.1) ++ r6.2.1).length ≤ g.1.length := by rw [e6]; exact f2
    have f3 : (([] ++ r6.1) ++ r6.2.1).getD 0 0 = (i : Int) := by rw [e6]; exact f3
    have f4 : ∀ y ∈ ([] ++ r6.1) ++ r6.2.1, inSet (gameD g) set y := by rw [e6]; exact f4
    rw [← e6]
    clear e6
    have g0 : 0 < r6.2.1.length := List.length_pos_iff.2 f1
    have g1 : (([] ++ r6.1) ++ r6.2.1).length = r6.1.length + r6.2.1.length := by simp
    have g2 : (([] : List Int) ++ r6.1).length = r6.1.length := by simp
    have d0 : decide (((r6.2.1.length : Nat) : Int) = 0) = false := decide_eq_false (by omega)
    have d1 : decide (((set.length : Nat) : Int) < (((([] ++ r6.1) ++ r6.2.1).length : Nat) : Int)) = false := decide_eq_false (by omega)
    have d2 : decide ((([] ++ r6.1) ++ r6.2.1).getD (Int.toNat 0) 0 = (i : Int)) = true := decide_eq_true f3
    refine ⟨by rw [List.length_nil]; omega, by omega, ?_⟩
    rw [d0]
    refine ⟨fun h => h, fun h => h, fun h => ⟨h, h⟩, fun h => by rw [h]; rfl, ?_⟩
    simp only [selB, cond_false]
    rw [d1]
    refine ⟨fun h => ⟨h, by omega, by omega⟩, fun h => h, fun h => ⟨h, h⟩, fun h => by rw [h]; rfl, ?_⟩
    simp only [cond_false]
    rw [d2]
    refine ⟨fun h => by simp at h, fun _ => ?_⟩
    refine ⟨fun x => x.1 = ([] ++ r6.1) ++ r6.2.1 ∧ ∃ k : Nat, k ≤ (([] ++ r6.1) ++ r6.2.1).length ∧ x.2.1 = k, fun x => (([] ++ r6.1) ++ r6.2.1).length - x.2.1.toNat, ⟨rfl, 0, by omega, rfl⟩, ?_⟩
    rintro ⟨l, kz, u⟩ _ ⟨e1, k, hk, e2⟩
    simp only at e1 e2
    subst e2
    simp only [Int.toNat_natCast]
    rw [← e1] at f4 hk g1 f2
    refine ⟨fun hkl => ?_, fun hkl => ?_⟩
    · have hkl1 : (k : Int) < l.length := of_decide_eq_true hkl
      have hm := f4 _ (getD_mem (show k < l.length by omega))
      have y1 : l.getD k 0 < (g.1.length : Nat) := hm.2.1
      have q0 : decide (l.getD k 0 < 0) = false := decide_eq_false (by have := hm.1; omega)
      have q1 : decide (((set.length : Nat) : Int) ≤ l.getD k 0) = false := decide_eq_false (by omega)
      refine ⟨⟨by omega, by omega⟩, ?_⟩
      rw [q0]
      refine ⟨fun h => ⟨⟨h, h⟩, by omega, by omega⟩, fun h => h, fun h => h, fun h => ⟨h, h⟩, fun h => by rw [h]; rfl, ?_⟩
      simp only [cond_false]
      rw [q1]
      refine ⟨fun h => ⟨⟨h, h⟩, by omega, by omega⟩, fun h => h, fun h => ⟨⟨h, h⟩, hm.1, by omega⟩, fun h => h, fun h => h, fun h => by rw [h]; rfl, ?_⟩
      simp only [cond_false]
      rw [hm.2.2]
      exact ⟨fun h => by simp at h, fun _ => ⟨inK64 (by omega) (by omega), ⟨e1, k + 1, by rw [← e1]; omega, by omega⟩, by rw [← e1]; omega⟩⟩
    · have q0 : decide (wn < 0) = false := decide_eq_false (by omega)
      refine ⟨wn, hwin, fun h => h, wn, fun h => ⟨⟨h, h⟩, hwin⟩, fun h => ⟨h, h⟩, fun h => ⟨h, fun h2 => by rw [h, h2]; rfl⟩, fun h => by rw [h]; rfl, fun h => ?_, fun h => next trivial hlt⟩
      exfalso
      rw [q0] at h
      simp only [cond_false] at h
      cases hw : winsS (gameD g) P set s with
      | false => rw [hw] at h; simp at h
      | true =>
        rw [hw] at h
        simp only [cond_true, f6 hw, decide_true] at h
        simp at h
end Go.Proofs.Ytohglckebkgbpaa
