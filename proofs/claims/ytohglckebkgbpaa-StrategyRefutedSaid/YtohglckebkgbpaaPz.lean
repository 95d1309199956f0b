/-
  StrategyRefuted on plain data: the strategies of the other player, by their numbers.
-/
import Derived.Test.YtohglckebkgbpaaPy
namespace Go.Proofs.Ytohglckebkgbpaa
open Go.RowKit

theorem ofTo_getD (g : gameT.T) (pl n : Int) : ∀ (k i : Nat), i < k → (ofTo g pl n k).1.getD i 0 = if g.1.getD i 0 = pl then (g.2.2.1.getD i []).getD ((ofTo g pl n i).2 % ((g.2.2.1.getD i []).length : Int)).toNat 0 else -1
  | 0, i, h => by omega
  | k + 1, i, h => by
    have hl := ofTo_len g pl n k
    by_cases e : i = k
    · subst e
      simp only [ofTo]
      split
      · rw [List.getD_eq_getElem?_getD, List.getElem?_append_right (by omega), hl]; simp
      · rw [List.getD_eq_getElem?_getD, List.getElem?_append_right (by omega), hl]; simp
    · have ih := ofTo_getD g pl n k i (by omega)
      rw [← ih]
      simp only [ofTo]
      split
      · rw [List.getD_eq_getElem?_getD, List.getElem?_append_left (by omega), List.getD_eq_getElem?_getD]
      · rw [List.getD_eq_getElem?_getD, List.getElem?_append_left (by omega), List.getD_eq_getElem?_getD]
theorem getD_mem {l : List Int} {k : Nat} (h : k < l.length) : l.getD k 0 ∈ l := by
  rw [List.getD_eq_getElem?_getD, List.getElem?_eq_getElem h]
  exact List.getElem_mem h
theorem ofTo_legal {g : gameT.T} (hg : GFacts g) {p : Int} (hp : 0 ≤ p ∧ p ≤ 1) (n : Int) : Legal (gameD g) p (ofTo g (1 - p) n g.1.length).1 := by
  refine ⟨ofTo_len g _ n _, fun i hi ho => ?_⟩
  have hi' : i < g.1.length := hi
  have key : ∀ z : Int, (z = 0 ∨ z = 1) → ¬ z = p → z = 1 - p := by intro z; omega
  have ho' : g.1.getD i 0 = 1 - p := key _ (owner_01 hg.v hi) ho
  rw [ofTo_getD g _ n _ i hi', if_pos ho']
  have hr := hg.row i hi'
  have h1 : (ofTo g (1 - p) n i).2 % ((g.2.2.1.getD i []).length : Int) < (g.2.2.1.getD i []).length := Int.emod_lt_of_pos _ (by omega)
  have h0 : 0 ≤ (ofTo g (1 - p) n i).2 % ((g.2.2.1.getD i []).length : Int) := Int.emod_nonneg _ (by omega)
  exact getD_mem ((Int.toNat_lt h0).2 h1)
/-- the number of the choices d from position i on -/
def enc (g : gameT.T) (pl : Int) (d : Nat → Nat) : Nat → Nat → Int
  | 0, _ => 0
  | f + 1, i => if g.1.getD i 0 = pl then (d i : Int) + ((g.2.2.1.getD i []).length : Int) * enc g pl d f (i + 1) else enc g pl d f (i + 1)
def prodF (g : gameT.T) (pl : Int) : Nat → Nat → Int
  | 0, _ => 1
  | f + 1, i => if g.1.getD i 0 = pl then ((g.2.2.1.getD i []).length : Int) * prodF g pl f (i + 1) else prodF g pl f (i + 1)
theorem enc_bound (g : gameT.T) (pl : Int) (d : Nat → Nat) : ∀ f i, (∀ j, i ≤ j → j < i + f → d j < (g.2.2.1.getD j []).length) → 0 ≤ enc g pl d f i ∧ enc g pl d f i < prodF g pl f i
  | 0, i, _ => by simp [enc, prodF]
  | f + 1, i, h => by
    have ih := enc_bound g pl d f (i + 1) (fun j h1 h2 => h j (by omega) (by omega))
    have hd := h i (by omega) (by omega)
    simp only [enc, prodF]
    split
    · have h1 : 0 ≤ ((g.2.2.1.getD i []).length : Int) * enc g pl d f (i + 1) := Int.mul_nonneg (by omega) ih.1
      refine ⟨by omega, ?_⟩
      have h2 : ((g.2.2.1.getD i []).length : Int) * (enc g pl d f (i + 1) + 1) ≤ ((g.2.2.1.getD i []).length : Int) * prodF g pl f (i + 1) := Int.mul_le_mul_of_nonneg_left (by omega) (by omega)
      rw [Int.mul_add, Int.mul_one] at h2
      omega
    · exact ih
theorem enc_rest (g : gameT.T) (pl : Int) (d : Nat → Nat) (n : Nat) (h : ∀ j, j < n → d j < (g.2.2.1.getD j []).length) : ∀ i, i ≤ n → (ofTo g pl (enc g pl d n 0) i).2 = enc g pl d (n - i) i
  | 0, _ => rfl
  | i + 1, hi => by
    have ih := enc_rest g pl d n h i (by omega)
    have hd := h i (by omega)
    rw [show n - i = (n - (i + 1)) + 1 by omega] at ih
    simp only [enc] at ih
    simp only [ofTo]
    split
    · rename_i ho
      rw [if_pos ho] at ih
      simp only [ih]
      rw [Int.add_mul_ediv_left _ _ (by omega), Int.ediv_eq_zero_of_lt (by omega) (by omega), Int.zero_add]
    · rename_i ho
      rw [if_neg ho] at ih
      exact ih
theorem enc_digit (g : gameT.T) (pl : Int) (d : Nat → Nat) (n : Nat) (h : ∀ j, j < n → d j < (g.2.2.1.getD j []).length) (i : Nat) (hi : i < n) (ho : g.1.getD i 0 = pl) : (ofTo g pl (enc g pl d n 0) i).2 % ((g.2.2.1.getD i []).length : Int) = d i := by
  rw [enc_rest g pl d n h i (by omega), show n - i = (n - (i + 1)) + 1 by omega]
  have hd := h i hi
  simp only [enc, ho, if_true]
  rw [Int.add_mul_emod_self_left, Int.emod_eq_of_lt (by omega) (by omega)]
theorem count_prod (g : gameT.T) (pl limit : Int) : ∀ (f i : Nat) (m : Int), i + f = g.1.length → countTo g pl limit f i m ≤ limit → countTo g pl limit f i m = m * prodF g pl f i
  | 0, i, m, _, _ => by simp [countTo, prodF]
  | f + 1, i, m, hi, h => by
    simp only [countTo] at h ⊢
    by_cases hc : (i : Int) < g.1.length ∧ m ≤ limit
    · rw [if_pos hc] at h ⊢
      rw [count_prod g pl limit f (i + 1) _ (by omega) h]
      simp only [prodF]
      split
      · rw [Int.mul_assoc]
      · rfl
    · rw [if_neg hc] at h
      exact absurd ⟨by omega, h⟩ hc
/-- all choices have a number below the count -/
theorem all_choices {g : gameT.T} {pl : Int} (hcnt : countTo g pl 200 g.1.length 0 1 ≤ 200) (c : Nat → Int) (hc : ∀ i, i < g.1.length → c i ∈ g.2.2.1.getD i []) :
    ∃ N : Int, 0 ≤ N ∧ N < countTo g pl 200 g.1.length 0 1 ∧ ∀ i, i < g.1.length → g.1.getD i 0 = pl → (ofTo g pl N g.1.length).1.getD i 0 = c i := by
  have hd : ∀ i, i < g.1.length → ∃ k, k < (g.2.2.1.getD i []).length ∧ (g.2.2.1.getD i []).getD k 0 = c i := by
    intro i hi
    obtain ⟨k, hk, e⟩ := List.getElem_of_mem (hc i hi)
    exact ⟨k, hk, by rw [List.getD_eq_getElem?_getD, List.getElem?_eq_getElem hk]; exact e⟩
  classical
  let d : Nat → Nat := fun i => if h : i < g.1.length then Classical.choose (hd i h) else 0
  have hd' : ∀ i, i < g.1.length → d i < (g.2.2.1.getD i []).length ∧ (g.2.2.1.getD i []).getD (d i) 0 = c i := fun i hi => by
    have := Classical.choose_spec (hd i hi)
    simpa only [d, hi, dif_pos] using this
  have hb := enc_bound g pl d g.1.length 0 (fun j _ hj => (hd' j (by omega)).1)
  refine ⟨enc g pl d g.1.length 0, hb.1, ?_, fun i hi ho => ?_⟩
  · rw [count_prod g pl 200 g.1.length 0 1 (by omega) hcnt, Int.one_mul]; exact hb.2
  · rw [ofTo_getD g pl _ _ i hi, if_pos ho, enc_digit g pl d _ (fun j hj => (hd' j hj).1) i hi ho, Int.toNat_natCast]
    exact (hd' i hi).2
theorem winner_in (g : Game) (p : Path) : inK .i64 (winnerS g p) := by
  unfold winnerS
  split
  · have h1 := Int.emod_nonneg (g.prio.getD (minF (prioDiff g) (p.loop.headD 0) p.loop.tail).toNat 0) (show (2 : Int) ≠ 0 by omega)
    have h2 := Int.emod_lt_of_pos (g.prio.getD (minF (prioDiff g) (p.loop.headD 0) p.loop.tail).toNat 0) (show (0 : Int) < 2 by omega)
    exact inK64 (by omega) (by omega)
  · decide
theorem right_parts {g : gameT.T} {set : List Bool} {s : List Int} (h : rightS (gameD g) set s = true) : GFacts g ∧ set.length = g.1.length ∧ s.length = g.1.length := by
  simp only [rightS, Bool.and_eq_true, decide_eq_true_eq] at h
  exact ⟨gfacts h.1.2 h.1.1, h.2.1, h.2.2⟩
/-- a play that the law looks at: who wins it -/
theorem cp_win {g : gameT.T} {p : Int} {set : List Bool} {s t : List Int} {x : Int} (hg : GFacts g) (hvs : validS (gameD g) p set s = true) (ht : Legal (gameD g) p t) (hx : inSet (gameD g) set x) :
    CallP Try.prog tT 18 [.d gameT g, .d pathT (pathE (playS (gameD g) (fst p s t) (snd p s t) x))] (.int .i64) (winnerS (gameD g) (playS (gameD g) (fst p s t) (snd p s t) x)) := by
  have hl := (plays_law hvs ht hx).2.1
  have hn := hg.n
  refine cp_Winner tT g (pathE (playS (gameD g) (fst p s t) (snd p s t) x)) ?_ (winner_in _ _)
  rw [List.length_append] at hl
  have hl' : (playS (gameD g) (fst p s t) (snd p s t) x).stem.length + (playS (gameD g) (fst p s t) (snd p s t) x).loop.length ≤ g.1.length := hl
  show (playS (gameD g) (fst p s t) (snd p s t) x).stem.length + (playS (gameD g) (fst p s t) (snd p s t) x).loop.length ≤ 1000000
  omega
end Go.Proofs.Ytohglckebkgbpaa
