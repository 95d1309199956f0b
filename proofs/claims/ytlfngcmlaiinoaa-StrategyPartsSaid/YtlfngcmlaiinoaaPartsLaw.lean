/-
  Plain law: a winning strategy wins on each part of its set on which it is a strategy, and on the union of two such parts.
-/
import Derived.Test.YtlfngcmlaiinoaaWithin
import Derived.Test.YtlfngcmlaiinoaaOrbit
namespace Go.Proofs.Ytlfngcmlaiinoaa

theorem winTo_all {g : Game} {player : Int} {set : List Bool} {s : List Int} : ∀ n, (∀ i, i < n → lostAt g player set s i = false) → winTo g player set s n = true
  | 0, _ => rfl
  | n + 1, h => by
    simp only [winTo, winTo_all n (fun i hi => h i (by omega)), h n (by omega)]
    rfl

theorem part_wins {g : Game} {p : Int} {set x : List Bool} {s s' : List Int} (hw : winsS g p set s = true) (hv : validS g p x s' = true) (hx : ∀ i, i < g.owner.length → x.getD i false = true → set.getD i false = true ∧ s'.getD i 0 = s.getD i 0) : winsS g p x s' = true := by
  have hh := valid_head hv
  simp only [winsS, hv, Bool.true_and]
  refine winTo_all _ fun i hi => ?_
  by_cases hl : lostAt g p x s' i = true
  · exfalso
    simp only [lostAt, Bool.and_eq_true, bne_iff_ne, ne_eq] at hl
    obtain ⟨⟨h1, h2⟩, h3⟩ := hl
    have hi' : i < g.owner.length := by omega
    have hin : inSet g x (i : Int) := ⟨by omega, by omega, by simpa using h1⟩
    have ht := (lost_iff (closed_of_valid hv) (fun x hx => ⟨hx.1, hx.2.1⟩) hin).1 h3
    have key : ∀ z, Relation.TransGen (Step g p s' i) i z → inSet g x z ∧ Relation.TransGen (Step g p s i) i z := by
      have hstep : ∀ y z, inSet g x y → Step g p s' i y z → inSet g x z ∧ Step g p s i y z := by
        intro y z hy hs
        refine ⟨closed_of_valid hv y hy z hs.1, ?_, hs.2⟩
        have he := (hx y.toNat (by have := hy.1; have := hy.2.1; omega) hy.2.2).2
        have hm := hs.1
        unfold movesS at hm ⊢
        rw [he] at hm
        exact hm
      intro z hz
      induction hz with
      | single h => exact ⟨(hstep _ _ hin h).1, .single (hstep _ _ hin h).2⟩
      | tail _ h ih => exact ⟨(hstep _ _ ih.1 h).1, ih.2.tail (hstep _ _ ih.1 h).2⟩
    have hs : inSet g set (i : Int) := ⟨hin.1, hin.2.1, (hx i hi' h1).1⟩
    have e := wins_no_cycle hw hs (key _ ht).2
    exact h2 (by simpa [prioAt] using e)
  · simpa using hl

def andL (set a : List Bool) (k : Nat) : List Bool := (List.range k).map fun i => set.getD i false && a.getD i false
def bothL (set a b : List Bool) (k : Nat) : List Bool := (List.range k).map fun i => (set.getD i false && a.getD i false) || (set.getD i false && b.getD i false)
theorem andL_succ (set a : List Bool) (k : Nat) : andL set a (k + 1) = andL set a k ++ [set.getD k false && a.getD k false] := by simp [andL, List.range_succ]
theorem bothL_succ (set a b : List Bool) (k : Nat) : bothL set a b (k + 1) = bothL set a b k ++ [(set.getD k false && a.getD k false) || (set.getD k false && b.getD k false)] := by simp [bothL, List.range_succ]
theorem andL_len (set a : List Bool) (k : Nat) : (andL set a k).length = k := by simp [andL]
theorem bothL_len (set a b : List Bool) (k : Nat) : (bothL set a b k).length = k := by simp [bothL]
theorem andL_getD (set a : List Bool) (k i : Nat) (h : i < k) : (andL set a k).getD i false = (set.getD i false && a.getD i false) := by simp [andL, List.getD_eq_getElem?_getD, h]
theorem bothL_getD (set a b : List Bool) (k i : Nat) (h : i < k) : (bothL set a b k).getD i false = ((andL set a k).getD i false || (andL set b k).getD i false) := by
  rw [andL_getD _ _ _ _ h, andL_getD _ _ _ _ h]; simp [bothL, List.getD_eq_getElem?_getD, h]

theorem okAt_union {g : Game} {p : Int} {x y z : List Bool} {s : List Int} {n : Nat} (hn : g.owner.length = n) (hr : ∀ l ∈ g.succ, ∀ t ∈ l, 0 ≤ t ∧ t < (n : Int)) (hsn : g.succ.length = n) (hz : ∀ i, i < n → z.getD i false = (x.getD i false || y.getD i false)) {i : Nat} (hi : i < n)
    (h1 : okAt g p x (withinTo x s n) i = true) (h2 : okAt g p y (withinTo y s n) i = true) : okAt g p z (withinTo z s n) i = true := by
  have hrow : ∀ t ∈ g.succ.getD i [], 0 ≤ t ∧ t < (n : Int) := by
    intro t ht
    rw [List.getD_eq_getElem?_getD, List.getElem?_eq_getElem (by omega)] at ht
    exact hr _ (List.getElem_mem (by omega)) t ht
  unfold okAt at *
  rw [withinTo_getD _ _ _ _ hi] at *
  rw [hz i hi]
  by_cases ho : g.owner.getD i 0 = p
  · have ho' : (g.owner.getD i 0 == p) = true := by simpa using ho
    cases hx : x.getD i false
    · cases hy : y.getD i false
      · simp
      · simp only [ho', hy, Bool.or_true, Bool.true_and, Bool.and_true, if_true, Bool.and_eq_true, decide_eq_true_eq] at h2 ⊢
        refine ⟨h2.1, ?_⟩
        rw [hz _ (by have := hrow _ h2.1; omega), h2.2]; simp
    · simp only [ho', hx, Bool.true_or, Bool.true_and, Bool.and_true, if_true, Bool.and_eq_true, decide_eq_true_eq] at h1 ⊢
      refine ⟨h1.1, ?_⟩
      rw [hz _ (by have := hrow _ h1.1; omega), h1.2]; simp
  · have ho' : (g.owner.getD i 0 == p) = false := by simpa using ho
    simp only [ho', Bool.and_false, Bool.false_eq_true, if_false, Bool.and_eq_true, beq_iff_eq, Bool.or_eq_true, Bool.not_eq_true', List.all_eq_true] at h1 h2 ⊢
    cases hx : x.getD i false
    · cases hy : y.getD i false
      · simp
      · rw [hy] at h2
        simp only [if_true, Bool.true_eq_false, false_or, Bool.or_true, or_false] at h2 ⊢
        refine ⟨h2.1, fun t ht => ?_⟩
        rw [hz _ (by have := hrow _ ht; omega), h2.2 t ht]; simp
    · rw [hx] at h1
      simp only [if_true, Bool.true_eq_false, false_or, Bool.true_or] at h1 ⊢
      refine ⟨h1.1, fun t ht => ?_⟩
      rw [hz _ (by have := hrow _ ht; omega), h1.2 t ht]; simp

theorem okTo_all {g : Game} {player : Int} {set : List Bool} {s : List Int} : ∀ n, (∀ i, i < n → okAt g player set s i = true) → okTo g player set s n = true
  | 0, _ => rfl
  | n + 1, h => by
    simp only [okTo, okTo_all n (fun i hi => h i (by omega)), h n (by omega)]
    rfl

/-- the law -/
theorem parts_law {g : Game} {p : Int} {set a b : List Bool} {s : List Int} (hw : winsS g p set s = true) :
    (validS g p (andL set a set.length) (withinTo (andL set a set.length) s s.length) = true → winsS g p (andL set a set.length) (withinTo (andL set a set.length) s s.length) = true) ∧
    (validS g p (andL set a set.length) (withinTo (andL set a set.length) s s.length) = true → validS g p (andL set b set.length) (withinTo (andL set b set.length) s s.length) = true →
      winsS g p (bothL set a b set.length) (withinTo (bothL set a b set.length) s s.length) = true) := by
  obtain ⟨hv, _⟩ := wins_parts hw
  obtain ⟨hg, hp, h1, h2, hok⟩ := valid_head hv
  obtain ⟨_, _, v3, _, _, v6⟩ := valid_parts hg
  refine ⟨fun hx => part_wins hw hx fun i hi hxi => ?_, fun hx hy => part_wins hw ?_ fun i hi hxi => ?_⟩
  · have hh := hxi
    rw [andL_getD _ _ _ _ (by omega)] at hh
    simp only [Bool.and_eq_true] at hh
    exact ⟨hh.1, by rw [withinTo_getD _ _ _ _ (by omega), hxi]; rfl⟩
  · obtain ⟨_, _, _, _, ox⟩ := valid_head hx
    obtain ⟨_, _, _, _, oy⟩ := valid_head hy
    have hlen := bothL_len set a b set.length
    have hwl := withinTo_len (bothL set a b set.length) s s.length
    simp only [validS, headS, Bool.and_eq_true, decide_eq_true_eq]
    refine ⟨⟨⟨⟨hg, hp⟩, by omega⟩, by omega⟩, okTo_all _ fun i hi => ?_⟩
    have e1 := ox i hi
    have e2 := oy i hi
    rw [h2] at e1 e2 ⊢
    exact okAt_union rfl (fun l hl t ht => (v6 l hl).2 t ht) v3 (fun j hj => bothL_getD _ _ _ _ _ (by omega)) hi e1 e2
  · have hh := hxi
    rw [bothL_getD _ _ _ _ _ (by omega), andL_getD _ _ _ _ (by omega), andL_getD _ _ _ _ (by omega)] at hh
    refine ⟨?_, by rw [withinTo_getD _ _ _ _ (by omega), hxi]; rfl⟩
    cases hs : set.getD i false
    · rw [hs] at hh; simp at hh
    · rfl
end Go.Proofs.Ytlfngcmlaiinoaa
