/-
  Contracts on plain data of what the laws of chapter 25 call.
-/
import Derived.Test.YtohglckebkgbpaaBr
namespace Go.Proofs.Ytohglckebkgbpaa
open Go.RowKit

theorem ints_in {F : Mem} {v : Value} {xs : List Int} (h : RepV F intsT v xs) : ∀ x ∈ xs, inK .i64 x := by
  obtain ⟨ad, cap, e, h1, h2, h3⟩ := h
  intro x hx
  obtain ⟨i, hi, rfl⟩ := List.getElem_of_mem hx
  obtain ⟨b, off, us, _, _, e3⟩ := h3 i hi
  exact e3.2
theorem cp_head (T : Tab) : CallP Try.prog T 9 [] .bool true :=
  callP_ret ⟨fun _ _ => by kernel_rfl⟩ (fun _ => rfl) fun F w vs hs hr => by
    have := hr.nil; subst this; exact head_calls w
theorem cp_right (T : Tab) (g : gameT.T) (set : List Bool) (s : List Int) : CallP Try.prog T 20 [.d gameT g, .d boolsT set, .d intsT s] .bool (rightS (gameD g) set s) :=
  callP_ret ⟨fun _ _ => by kernel_rfl⟩ (fun _ => rfl) fun F w vs hs hr => by
    obtain ⟨v1, r1, rfl, h1, hr⟩ := hr.cons
    obtain ⟨v2, r2, rfl, h2, hr⟩ := hr.cons
    obtain ⟨v3, r3, rfl, h3, hr⟩ := hr.cons
    have := hr.nil; subst this
    exact right_calls w v1 v2 v3 _ _ _ ((game_of h1).mono hs) ((bools_of h2).mono hs) ((ints_of h3).mono hs)
theorem cp_player (T : Tab) (b : Bool) : CallP Try.prog T 21 [.d .bool b] (.int .i64) (playerS b) :=
  callP_ret (v := .int .i64 (playerS b)) ⟨fun _ _ => by kernel_rfl⟩ (fun _ => ⟨rfl, by cases b <;> decide⟩) fun F w vs hs hr => by
    obtain ⟨v1, r1, rfl, h1, hr⟩ := hr.cons
    have := hr.nil; subst this
    have := bool_of h1; subst this
    exact player_calls w b
theorem cp_Valid (T : Tab) (g : gameT.T) (player : Int) (set : List Bool) (s : List Int) : CallP Try.prog T 13 [.d gameT g, .d (.int .i64) player, .d boolsT set, .d intsT s] .bool (validS (gameD g) player set s) :=
  callP_ret ⟨fun _ _ => by kernel_rfl⟩ (fun _ => rfl) fun F w vs hs hr => by
    obtain ⟨v1, r1, rfl, h1, hr⟩ := hr.cons
    obtain ⟨v0, r0, rfl, h0, hr⟩ := hr.cons
    obtain ⟨v2, r2, rfl, h2, hr⟩ := hr.cons
    obtain ⟨v3, r3, rfl, h3, hr⟩ := hr.cons
    have := hr.nil; subst this
    have := int_of h0; subst this
    exact strategy_Valid w v1 v2 v3 _ player _ _ ((game_of h1).mono hs) ((bools_of h2).mono hs) ((ints_of h3).mono hs)
theorem cp_Wins (T : Tab) (g : gameT.T) (player : Int) (set : List Bool) (s : List Int) : CallP Try.prog T 15 [.d gameT g, .d (.int .i64) player, .d boolsT set, .d intsT s] .bool (winsS (gameD g) player set s) :=
  callP_ret ⟨fun _ _ => by kernel_rfl⟩ (fun _ => rfl) fun F w vs hs hr => by
    obtain ⟨v1, r1, rfl, h1, hr⟩ := hr.cons
    obtain ⟨v0, r0, rfl, h0, hr⟩ := hr.cons
    obtain ⟨v2, r2, rfl, h2, hr⟩ := hr.cons
    obtain ⟨v3, r3, rfl, h3, hr⟩ := hr.cons
    have := hr.nil; subst this
    have := int_of h0; subst this
    exact strategy_Wins w v1 v2 v3 _ player _ _ ((game_of h1).mono hs) ((bools_of h2).mono hs) ((ints_of h3).mono hs)
theorem cp_Winner (T : Tab) (g : gameT.T) (p : pathT.T) (hlen : p.1.length + p.2.1.length ≤ 1000000) (hin : inK .i64 (winnerS (gameD g) (pathD p))) : CallP Try.prog T 18 [.d gameT g, .d pathT p] (.int .i64) (winnerS (gameD g) (pathD p)) :=
  callP_ret (v := .int .i64 (winnerS (gameD g) (pathD p))) ⟨fun _ _ => by kernel_rfl⟩ (fun _ => ⟨rfl, hin⟩) fun F w vs hs hr => by
    obtain ⟨v1, r1, rfl, h1, hr⟩ := hr.cons
    obtain ⟨v2, r2, rfl, h2, hr⟩ := hr.cons
    have := hr.nil; subst this
    exact strategy_Winner w v1 v2 _ _ ((game_of h1).mono hs) ((path_of h2).mono hs) hlen
theorem playF_all {Pr : Int → Prop} {g : Game} {a b : List Int} (hp : ∀ j, Pr (playTo g a b j)) : ∀ (f : Nat) (l : List Int) (i : Int) (l' : List Int) (i' : Int), (∀ x ∈ l, Pr x) → Pr i → playF g a b f l i = some (l', i') → ∀ x ∈ l', Pr x
  | 0, _, _, _, _, _, _, h => by simp [playF] at h
  | f + 1, l, i, l', i', hl, hi, h => by
    simp only [playF] at h
    split at h
    · simp only [Option.some.injEq, Prod.mk.injEq] at h
      rw [← h.1]; exact hl
    · split at h
      · refine playF_all hp f _ _ l' i' ?_ (hp i) h
        intro x hx
        rcases List.mem_append.1 hx with hx | hx
        · exact hl x hx
        · simp only [List.mem_singleton] at hx; subst hx; exact hi
      · simp at h
theorem playS_all {Pr : Int → Prop} {g : Game} {a b : List Int} {start : Int} (hp : ∀ j, Pr (playTo g a b j)) (hi : Pr start) : (∀ x ∈ (playS g a b start).stem, Pr x) ∧ ∀ x ∈ (playS g a b start).loop, Pr x := by
  unfold playS
  split
  · split
    · rename_i l i h
      have := playF_all hp _ _ _ _ _ (by simp) hi h
      exact ⟨fun x hx => this x (List.mem_of_mem_take hx), fun x hx => this x (List.mem_of_mem_drop hx)⟩
    · simp
  · simp
theorem getD_in {l : List Int} {n : Nat} (h : ∀ x ∈ l, inK .i64 x) : inK .i64 (l.getD n 0) := by
  rw [List.getD_eq_getElem?_getD]
  cases hx : l[n]? with
  | none => decide
  | some x => exact h x (List.mem_of_getElem? hx)
theorem cp_Play (T : Tab) (g : gameT.T) (a b : List Int) (start : Int) : CallP Try.prog T 11 [.d gameT g, .d intsT a, .d intsT b, .d (.int .i64) start] pathT (pathE (playS (gameD g) a b start)) :=
  callP_new ⟨fun _ _ => by kernel_rfl⟩ fun F w vs hs hr => by
    obtain ⟨v1, r1, rfl, h1, hr⟩ := hr.cons
    obtain ⟨v2, r2, rfl, h2, hr⟩ := hr.cons
    obtain ⟨v3, r3, rfl, h3, hr⟩ := hr.cons
    obtain ⟨v0, r0, rfl, h0, hr⟩ := hr.cons
    have := hr.nil; subst this
    have hin : inK .i64 start := (show RepC F (.int .i64) [v0] start from h0).2
    have := int_of h0; subst this
    refine (strategy_PlayN w v1 v2 v3 _ _ _ start ((game_of h1).mono hs) ((ints_of h2).mono hs) ((ints_of h3).mono hs)).mono ?_
    rintro e w' ⟨v, rfl, hv, hb⟩
    have hp : ∀ j, inK .i64 (playTo (gameD g) a b j) := fun j => by
      unfold playTo
      split
      · exact getD_in (ints_in h3)
      · exact getD_in (ints_in h2)
    obtain ⟨k1, k2⟩ := playS_all (start := start) hp hin
    exact ⟨v, rfl, of_path hv k1 k2, hb⟩
end Go.Proofs.Ytohglckebkgbpaa
