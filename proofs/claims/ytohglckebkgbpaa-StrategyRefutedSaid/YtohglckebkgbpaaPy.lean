/-
  Contracts on plain data of the helpers of chapter 25's laws.
-/
import Derived.Test.YtohglckebkgbpaaVcs
import Derived.Test.YtohglckebkgbpaaBs
import Derived.Test.YtohglckebkgbpaaPx
namespace Go.Proofs.Ytohglckebkgbpaa
open Go.RowKit

theorem inK64 {z : Int} (h1 : -9223372036854775808 ≤ z) (h2 : z ≤ 9223372036854775807) : inK .i64 z := ⟨h1, h2⟩
theorem cp_play (g : gameT.T) (p : Int) (own other : List Int) (start : Int) : CallP Try.prog tT 22 [.d gameT g, .d intT p, .d intsT own, .d intsT other, .d intT start] pathT (pathE (playS (gameD g) (fst p own other) (snd p own other) start)) := by
  refine of22 g p own other start _ fun R hR _ _ _ _ _ => ⟨fun h => ?_, fun h => ?_⟩
  · have h : p = 0 := of_decide_eq_true h
    refine ⟨_, cp_Play tT g own other start, (hR _).2 ?_⟩
    simp only [fst, snd, h, if_true]
  · have h : ¬ p = 0 := of_decide_eq_false h
    refine ⟨_, cp_Play tT g other own start, (hR _).2 ?_⟩
    simp only [fst, snd, h, if_false]

structure GFacts (g : gameT.T) : Prop where
  v : (gameD g).valid = true
  n : g.1.length ≤ 3000
  s : g.2.2.1.length = g.1.length
  row : ∀ i, i < g.1.length → 0 < (g.2.2.1.getD i []).length
  small : ∀ i, (g.2.2.1.getD i []).length ≤ 20
theorem small_rows : ∀ {l : List (List Int)} {i : Nat}, smallRows l = true → (l.getD i []).length ≤ 20
  | [], i, _ => by simp
  | x :: l, 0, h => by simp only [smallRows, Bool.and_eq_true, decide_eq_true_eq] at h; simpa using h.1
  | x :: l, i + 1, h => by simp only [smallRows, Bool.and_eq_true] at h; have := small_rows (i := i) h.2; simpa [List.getD_eq_getElem?_getD] using this
theorem gfacts {g : gameT.T} (h : (gameD g).valid = true) (hs : smallG (gameD g) 16 = true) : GFacts g := by
  obtain ⟨v1, v2, v3, v4, v5, v6⟩ := valid_parts h
  simp only [smallG, Bool.and_eq_true] at hs
  refine ⟨h, v1, v3, fun i hi => ?_, fun i => small_rows hs.2⟩
  have hi' : i < g.2.2.1.length := by rw [show g.2.2.1.length = g.1.length from v3]; exact hi
  rw [List.getD_eq_getElem?_getD, List.getElem?_eq_getElem hi']
  exact List.length_pos_iff.2 (v6 _ (List.getElem_mem hi')).1

def pickK (picks : List Int) (i : Nat) : Int := if 0 < picks.length then picks.getD (i % picks.length) 0 else 0
def someAt (g : gameT.T) (player : Int) (picks : List Int) (i : Nat) : Int := if g.1.getD i 0 = player then (g.2.2.1.getD i []).getD ((pickK picks i) % ((g.2.2.1.getD i []).length : Int)).toNat 0 else -1
def someD (g : gameT.T) (player : Int) (picks : List Int) (k : Nat) : List Int := (List.range k).map (someAt g player picks)
theorem someD_succ (g : gameT.T) (player : Int) (picks : List Int) (k : Nat) : someD g player picks (k + 1) = someD g player picks k ++ [someAt g player picks k] := by simp [someD, List.range_succ]
theorem someD_len (g : gameT.T) (player : Int) (picks : List Int) (k : Nat) : (someD g player picks k).length = k := by simp [someD]
theorem cp_some (g : gameT.T) (player : Int) (picks : List Int) (hg : GFacts g) : CallP Try.prog tT 23 [.d gameT g, .d intT player, .d (.sl (.int .u8)) picks] intsT (someD g player picks g.1.length) := by
  refine of23 g player picks _ fun R hR _ _ wk => ⟨fun x => ∃ i : Nat, i ≤ g.1.length ∧ x.2.1 = i ∧ x.1 = someD g player picks i, fun x => g.1.length - x.2.1.toNat, ⟨0, by omega, rfl, rfl⟩, ?_⟩
  rintro ⟨out, iz, u⟩ _ ⟨i, hi, h1, h2⟩
  simp only at h1 h2
  subst h1; subst h2
  simp only [Int.toNat_natCast, decide_eq_true_eq, decide_eq_false_iff_not, someD_len, List.length_singleton]
  have hn := hg.n
  have hs := hg.s
  refine ⟨fun hlt => ?_, fun hge => (hR _).2 (by rw [show i = g.1.length by omega])⟩
  have hlt' : i < g.1.length := by omega
  have hr := hg.row i hlt'
  have next : ∀ v : Int, v = someAt g player picks i → (∃ j : Nat, j ≤ g.1.length ∧ ((i : Int) + 1) = j ∧ someD g player picks i ++ [v] = someD g player picks j) ∧ g.1.length - ((i : Int) + 1).toNat < g.1.length - i := by
    intro v hv
    exact ⟨⟨i + 1, by omega, by omega, by rw [someD_succ, hv]⟩, by omega⟩
  refine ⟨⟨by omega, by omega⟩, fun ho => ⟨fun hp => ?_, fun hp => ?_⟩, fun ho => ?_⟩
  · have hp' : 0 < picks.length := by omega
    have e0 : ((i : Int) % (picks.length : Int)).toNat = i % picks.length := by rw [← Int.natCast_emod, Int.toNat_natCast]
    have hm : (i : Int) % (picks.length : Int) < picks.length := Int.emod_lt_of_pos _ (by omega)
    have hm0 : 0 ≤ (i : Int) % (picks.length : Int) := Int.emod_nonneg _ (by omega)
    have hk : inK .u8 (picks.getD (i % picks.length) 0) := by
      have hlt2 : i % picks.length < picks.length := Nat.mod_lt _ hp'
      rw [List.getD_eq_getElem?_getD, List.getElem?_eq_getElem hlt2]
      exact wk.2 _ (List.getElem_mem hlt2)
    have hk0 : 0 ≤ picks.getD (i % picks.length) 0 := hk.1
    have hk1 : picks.getD (i % picks.length) 0 ≤ 255 := hk.2
    rw [e0]
    generalize hpk : picks.getD (i % picks.length) 0 = k at *
    have hkm : k % ((g.2.2.1.getD i []).length : Int) < (g.2.2.1.getD i []).length := Int.emod_lt_of_pos _ (by omega)
    have hkm0 : 0 ≤ k % ((g.2.2.1.getD i []).length : Int) := Int.emod_nonneg _ (by omega)
    have hv := next ((g.2.2.1.getD i []).getD (k % ((g.2.2.1.getD i []).length : Int)).toNat 0) (by simp only [someAt, ho, if_true, pickK, hp']; rw [hpk])
    exact ⟨⟨by omega, by omega⟩, ⟨hm0, hm⟩, inK64 (by omega) (by omega), ⟨by omega, by omega⟩, ⟨by omega, by omega⟩, ⟨hk0, by omega⟩, ⟨hkm0, hkm⟩, by omega, inK64 (by omega) (by omega), hv.1, hv.2⟩
  · have hp' : ¬ 0 < picks.length := by omega
    have hkm : (0 : Int) % ((g.2.2.1.getD i []).length : Int) < (g.2.2.1.getD i []).length := Int.emod_lt_of_pos _ (by omega)
    have hkm0 : 0 ≤ (0 : Int) % ((g.2.2.1.getD i []).length : Int) := Int.emod_nonneg _ (by omega)
    have hv := next ((g.2.2.1.getD i []).getD ((0 : Int) % ((g.2.2.1.getD i []).length : Int)).toNat 0) (by simp only [someAt, ho, if_true, pickK, hp', if_false])
    exact ⟨⟨by omega, by omega⟩, ⟨by omega, by omega⟩, ⟨by omega, by omega⟩, ⟨hkm0, hkm⟩, by omega, inK64 (by omega) (by omega), hv.1, hv.2⟩
  · have hv := next (-1) (by simp only [someAt, ho, if_false])
    exact ⟨by omega, inK64 (by omega) (by omega), hv.1, hv.2⟩

/-- the product of the numbers of successors of a player's positions -/
def prodTo (g : gameT.T) (player : Int) : Nat → Int
  | 0 => 1
  | i + 1 => if g.1.getD i 0 = player then prodTo g player i * ((g.2.2.1.getD i []).length : Int) else prodTo g player i
/-- the count goes on while it is not above the limit -/
def countTo (g : gameT.T) (player limit : Int) : Nat → Nat → Int → Int
  | 0, _, n => n
  | f + 1, i, n => if (i : Int) < g.1.length ∧ n ≤ limit then countTo g player limit f (i + 1) (if g.1.getD i 0 = player then n * ((g.2.2.1.getD i []).length : Int) else n) else n
theorem cp_count (g : gameT.T) (player limit : Int) (hl : 0 ≤ limit ∧ limit ≤ 1000000) (hg : GFacts g) : CallP Try.prog tT 24 [.d gameT g, .d intT player, .d intT limit] intT (countTo g player limit g.1.length 0 1) := by
  refine of24 g player limit _ fun R hR _ _ _ => ⟨fun x => ∃ i : Nat, i ≤ g.1.length ∧ x.2.1 = i ∧ 0 ≤ x.1 ∧ x.1 ≤ 20000000 ∧ countTo g player limit (g.1.length - i) i x.1 = countTo g player limit g.1.length 0 1, fun x => g.1.length - x.2.1.toNat, ⟨0, by omega, rfl, by omega, by omega, rfl⟩, ?_⟩
  rintro ⟨n, iz, u⟩ _ ⟨i, hi, h1, h2, h3, h4⟩
  simp only at h1 h2 h3 h4
  subst h1
  simp only [Int.toNat_natCast, decide_eq_true_eq, decide_eq_false_iff_not]
  have hn := hg.n
  have hs := hg.s
  refine ⟨fun h => ⟨h, h⟩, fun h => h, fun hc => ?_, fun hc => ?_⟩
  · have hc' : (i : Int) < g.1.length ∧ n ≤ limit := by
      simp only [selB] at hc
      by_cases h : (i : Int) < g.1.length
      · simp only [h, decide_true, cond_true, decide_eq_true_eq] at hc; exact ⟨h, hc⟩
      · simp only [h, decide_false, cond_false] at hc; simp at hc
    have hsm := hg.small i
    have hmul : 0 ≤ n * ((g.2.2.1.getD i []).length : Int) ∧ n * ((g.2.2.1.getD i []).length : Int) ≤ 20000000 := by
      constructor
      · exact Int.mul_nonneg h2 (by omega)
      · have : n * ((g.2.2.1.getD i []).length : Int) ≤ 1000000 * 20 := Int.mul_le_mul (by omega) (by omega) (by omega) (by omega)
        omega
    have hfu : g.1.length - i = (g.1.length - (i + 1)) + 1 := by omega
    rw [hfu] at h4
    simp only [countTo, hc', and_self, if_true] at h4
    refine ⟨⟨by omega, by omega⟩, fun ho => ?_, fun ho => ?_⟩
    · rw [if_pos ho] at h4
      exact ⟨⟨by omega, by omega⟩, inK64 (by omega) (by omega), inK64 (by omega) (by omega), ⟨i + 1, by omega, by omega, hmul.1, hmul.2, h4⟩, by omega⟩
    · rw [if_neg ho] at h4
      exact ⟨inK64 (by omega) (by omega), ⟨i + 1, by omega, by omega, h2, h3, h4⟩, by omega⟩
  · refine (hR _).2 ?_
    have hc' : ¬ ((i : Int) < g.1.length ∧ n ≤ limit) := by
      rintro ⟨a, b⟩
      simp only [selB, a, decide_true, cond_true, b] at hc
      simp at hc
    rw [← h4]
    cases hq : g.1.length - i with
    | zero => rfl
    | succ f => simp only [countTo, hc', if_false]

/-- strategyOf, so far: the list, and what is left of the number -/
def ofTo (g : gameT.T) (player n : Int) : Nat → List Int × Int
  | 0 => ([], n)
  | i + 1 => if g.1.getD i 0 = player then ((ofTo g player n i).1 ++ [(g.2.2.1.getD i []).getD ((ofTo g player n i).2 % ((g.2.2.1.getD i []).length : Int)).toNat 0], (ofTo g player n i).2 / ((g.2.2.1.getD i []).length : Int)) else ((ofTo g player n i).1 ++ [-1], (ofTo g player n i).2)
theorem ofTo_len (g : gameT.T) (player n : Int) : ∀ i, (ofTo g player n i).1.length = i
  | 0 => rfl
  | i + 1 => by simp only [ofTo]; split <;> simp [ofTo_len g player n i]
theorem ofTo_nonneg (g : gameT.T) (player n : Int) (hn : 0 ≤ n) : ∀ i, 0 ≤ (ofTo g player n i).2
  | 0 => hn
  | i + 1 => by
    simp only [ofTo]
    split
    · exact Int.ediv_nonneg (ofTo_nonneg g player n hn i) (by omega)
    · exact ofTo_nonneg g player n hn i
theorem cp_strategyOf (g : gameT.T) (player n : Int) (hn0 : 0 ≤ n) (hg : GFacts g) : CallP Try.prog tT 25 [.d gameT g, .d intT player, .d intT n] intsT (ofTo g player n g.1.length).1 := by
  refine of25 g player n _ fun R hR _ _ _ => ⟨fun x => ∃ i : Nat, i ≤ g.1.length ∧ x.2.2.1 = i ∧ (x.2.1, x.1) = ofTo g player n i, fun x => g.1.length - x.2.2.1.toNat, ⟨0, by omega, rfl, rfl⟩, ?_⟩
  rintro ⟨m, out, iz, u⟩ _ ⟨i, hi, h1, h2⟩
  simp only at h1 h2
  subst h1
  have e1 : out = (ofTo g player n i).1 := congrArg Prod.fst h2
  have e2 : m = (ofTo g player n i).2 := congrArg Prod.snd h2
  have hm0 : 0 ≤ m := by rw [e2]; exact ofTo_nonneg g player n hn0 i
  have hlen : out.length = i := by rw [e1]; exact ofTo_len g player n i
  simp only [Int.toNat_natCast, decide_eq_true_eq, decide_eq_false_iff_not, List.length_singleton, hlen]
  have hn := hg.n
  have hs := hg.s
  refine ⟨fun hlt => ?_, fun hge => (hR _).2 (by rw [e1, show i = g.1.length by omega])⟩
  have hlt' : i < g.1.length := by omega
  have hr := hg.row i hlt'
  refine ⟨⟨by omega, by omega⟩, fun ho => ?_, fun ho => ?_⟩
  · have hkm : m % ((g.2.2.1.getD i []).length : Int) < (g.2.2.1.getD i []).length := Int.emod_lt_of_pos _ (by omega)
    have hkm0 : 0 ≤ m % ((g.2.2.1.getD i []).length : Int) := Int.emod_nonneg _ (by omega)
    exact ⟨⟨by omega, by omega⟩, ⟨by omega, by omega⟩, ⟨hm0, by omega⟩, ⟨hkm0, hkm⟩, ⟨by omega, by omega⟩, ⟨hm0, by omega⟩, by omega, inK64 (by omega) (by omega), ⟨i + 1, by omega, by omega, by simp only [ofTo, ho, if_true, e1, e2]⟩, by omega⟩
  · exact ⟨by omega, inK64 (by omega) (by omega), ⟨i + 1, by omega, by omega, by simp only [ofTo, ho, if_false, e1, e2]⟩, by omega⟩
end Go.Proofs.Ytohglckebkgbpaa
