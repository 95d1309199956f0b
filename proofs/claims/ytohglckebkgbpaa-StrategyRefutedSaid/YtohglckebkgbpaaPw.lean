/-
  Plain laws of plays: a play of two legal strategies is an orbit; who wins it.
-/
import Derived.Test.YtohglckebkgbpaaOrbit
import Derived.Test.YtohglckebkgbpaaPlay
namespace Go.Proofs.Ytohglckebkgbpaa

/-- the positions on the way from x -/
def way (f : Int → Int) (x : Int) (m : Nat) : List Int := (List.range m).map fun k => it f k x
theorem way_len (f : Int → Int) (x : Int) (m : Nat) : (way f x m).length = m := by simp [way]
theorem way_succ (f : Int → Int) (x : Int) (m : Nat) : way f x (m + 1) = way f x m ++ [it f m x] := by simp [way, List.range_succ]
theorem way_getD (f : Int → Int) (x : Int) (m k : Nat) (h : k < m) : (way f x m).getD k 0 = it f k x := by simp [way, List.getD_eq_getElem?_getD, h]
theorem mem_way {f : Int → Int} {x y : Int} {m : Nat} : y ∈ way f x m ↔ ∃ k, k < m ∧ it f k x = y := by simp [way]

section
variable {g : Game} {a b : List Int} {D : Int → Prop} {x : Int}
theorem playF_way (hD : ∀ y, D y → 0 ≤ y ∧ y < g.owner.length) (hf : ∀ y, D y → D (playTo g a b y) ∧ playTo g a b y ∈ g.succ.getD y.toNat []) (hx : ∀ k, D (it (playTo g a b) k x)) :
    ∀ (fu m : Nat), g.owner.length + 1 ≤ fu + m → (way (playTo g a b) x m).Nodup → ∃ m' p, m ≤ m' ∧ p < m' ∧ it (playTo g a b) m' x = it (playTo g a b) p x ∧ (way (playTo g a b) x m').Nodup ∧
      playF g a b fu (way (playTo g a b) x m) (it (playTo g a b) m x) = some (way (playTo g a b) x m', it (playTo g a b) m' x)
  | 0, m, hm, hn => by
    have := nodup_le g.owner.length _ hn (fun y hy => by
      obtain ⟨k, _, rfl⟩ := mem_way.1 hy
      exact hD _ (hx k))
    rw [way_len] at this
    omega
  | fu + 1, m, hm, hn => by
    by_cases hi : it (playTo g a b) m x ∈ way (playTo g a b) x m
    · obtain ⟨p, hp, e⟩ := mem_way.1 hi
      exact ⟨m, p, Nat.le_refl _, hp, e.symm, hn, by simp only [playF, hi, if_true]⟩
    · obtain ⟨m', p, h1, h2, h3, h4, h5⟩ := playF_way hD hf hx fu (m + 1) (by omega) (by
        rw [way_succ, List.nodup_append]
        refine ⟨hn, by simp, fun y hy z hz e => ?_⟩
        simp only [List.mem_singleton] at hz
        subst hz; subst e
        exact hi hy)
      refine ⟨m', p, by omega, h2, h3, h4, ?_⟩
      simp only [playF, hi, if_false, (hf _ (hx m)).2, if_true]
      rw [← way_succ]
      exact h5
theorem idxOf_at : ∀ (l : List Int) (k p : Nat), l.Nodup → p < l.length → idxOf (l.getD p 0) l k = ((k + p : Nat) : Int)
  | [], _, _, _, hp => by simp at hp
  | y :: l, k, 0, _, _ => by simp [idxOf]
  | y :: l, k, p + 1, hn, hp => by
    rw [List.nodup_cons] at hn
    have hp' : p < l.length := by simpa using hp
    have hm : l.getD p 0 ∈ l := by
      rw [List.getD_eq_getElem?_getD, List.getElem?_eq_getElem hp']
      exact List.getElem_mem hp'
    have hne : ¬ l.getD p 0 = y := fun e => hn.1 (by rw [← e]; exact hm)
    have ih := idxOf_at l (k + 1) p hn.2 hp'
    have e0 : (y :: l).getD (p + 1) 0 = l.getD p 0 := by simp [List.getD_eq_getElem?_getD]
    rw [e0]
    simp only [idxOf, beq_iff_eq, hne, if_false]
    rw [ih]
    congr 1
    omega
/-- a play of legal strategies -/
theorem playS_way (hh : playHead g a b x = true) (hD : ∀ y, D y → 0 ≤ y ∧ y < g.owner.length) (hf : ∀ y, D y → D (playTo g a b y) ∧ playTo g a b y ∈ g.succ.getD y.toNat []) (hx : D x) :
    ∃ m p, p < m ∧ m ≤ g.owner.length ∧ it (playTo g a b) m x = it (playTo g a b) p x ∧ (∀ k, D (it (playTo g a b) k x)) ∧ playS g a b x = ⟨(way (playTo g a b) x m).take p, (way (playTo g a b) x m).drop p⟩ := by
  have hall : ∀ k, D (it (playTo g a b) k x) := fun k => by
    induction k with
    | zero => exact hx
    | succ k ih => exact (hf _ ih).1
  obtain ⟨m, p, _, h2, h3, h4, h5⟩ := playF_way hD hf hall (g.owner.length + 1) 0 (by omega) (by simp [way])
  have hm := nodup_le g.owner.length _ h4 (fun y hy => by
    obtain ⟨k, _, rfl⟩ := mem_way.1 hy
    exact hD _ (hall k))
  rw [way_len] at hm
  refine ⟨m, p, h2, hm, h3, hall, ?_⟩
  have h5' : playF g a b (g.owner.length + 1) [] x = some (way (playTo g a b) x m, it (playTo g a b) m x) := h5
  unfold playS
  rw [if_pos hh, h5']
  simp only [splitAt]
  have hi : idxOf (it (playTo g a b) m x) (way (playTo g a b) x m) 0 = (p : Int) := by
    rw [h3, ← way_getD _ _ m p h2]
    have := idxOf_at (way (playTo g a b) x m) 0 p h4 (by rw [way_len]; exact h2)
    simpa using this
  rw [hi]
  rfl
end
/-- the round of such a play -/
theorem round_way (f : Int → Int) (x : Int) (m p : Nat) (hp : p < m) (he : it f m x = it f p x) : Path.round ⟨(way f x m).take p, (way f x m).drop p⟩ = way f x (m + 1) := by
  simp only [Path.round, List.take_append_drop]
  rw [way_succ]
  congr 1
  have : (way f x m).drop p = it f p x :: (way f x m).drop (p + 1) := by
    rw [List.drop_eq_getElem_cons (by rw [way_len]; exact hp)]
    simp [way]
  rw [this, he]
  rfl
theorem playOk_way {g : Game} {f : Int → Int} {x : Int} {M : Nat} (h : ∀ k, 0 ≤ it f k x ∧ it f k x < g.owner.length) (hs : ∀ k, it f (k + 1) x ∈ g.succ.getD (it f k x).toNat []) : ∀ n, n ≤ M → playOk g (way f x M) n = true
  | 0, _ => rfl
  | n + 1, hn => by
    have ih := playOk_way (M := M) h hs n (by omega)
    have e := way_getD f x M n (by omega)
    simp only [playOk, Bool.and_eq_true, Bool.or_eq_true, decide_eq_true_eq]
    rw [e]
    refine ⟨ih, h n, ?_⟩
    cases n with
    | zero => exact .inl rfl
    | succ n =>
      right
      rw [Nat.add_sub_cancel, way_getD f x M n (by omega)]
      exact hs n
theorem minF_le {c : Int → Int → Int} {P : Int → Int} (hc : ∀ y z, c y z = P y - P z) : ∀ (l : List Int) (m : Int), P (minF c m l) ≤ P m ∧ ∀ y ∈ l, P (minF c m l) ≤ P y
  | [], m => ⟨Int.le_refl _, by simp⟩
  | y :: l, m => by
    simp only [minF, List.mem_cons]
    obtain ⟨h1, h2⟩ := minF_le hc l (if c y m < 0 then y else m)
    have h3 : P (if c y m < 0 then y else m) ≤ P m ∧ P (if c y m < 0 then y else m) ≤ P y := by
      split
      · rename_i h; rw [hc] at h; exact ⟨by omega, Int.le_refl _⟩
      · rename_i h; rw [hc] at h; exact ⟨Int.le_refl _, by omega⟩
    refine ⟨by omega, fun z hz => ?_⟩
    rcases hz with rfl | hz
    · omega
    · exact h2 z hz
/-- who wins such a play: the parity of a least position on the loop -/
theorem winner_way {g : Game} (hv : g.valid = true) {f : Int → Int} {x : Int} {m p : Nat} (hp : p < m) (he : it f m x = it f p x) (h : ∀ k, 0 ≤ it f k x ∧ it f k x < g.owner.length) (hs : ∀ k, it f (k + 1) x ∈ g.succ.getD (it f k x).toNat []) :
    ∃ q, p ≤ q ∧ q < m ∧ (∀ k, p ≤ k → k < m → prioAt g (it f q x) ≤ prioAt g (it f k x)) ∧ winnerS g ⟨(way f x m).take p, (way f x m).drop p⟩ = prioAt g (it f q x) % 2 := by
  have hne : (way f x m).drop p = it f p x :: (way f x m).drop (p + 1) := by
    rw [List.drop_eq_getElem_cons (by rw [way_len]; exact hp)]
    simp [way]
  have hmem : ∀ y, y ∈ (way f x m).drop p ↔ ∃ k, p ≤ k ∧ k < m ∧ it f k x = y := by
    intro y
    rw [List.mem_iff_getElem?]
    constructor
    · rintro ⟨i, hi⟩
      rw [List.getElem?_drop] at hi
      by_cases hl : p + i < m
      · refine ⟨p + i, by omega, hl, ?_⟩
        simpa [way, hl] using hi
      · rw [List.getElem?_eq_none (by rw [way_len]; omega)] at hi; simp at hi
    · rintro ⟨k, h1, h2, rfl⟩
      refine ⟨k - p, ?_⟩
      rw [List.getElem?_drop, show p + (k - p) = k by omega]
      simp [way, h2]
  let l := (way f x m).drop p
  have hc : minF (prioDiff g) (l.headD 0) l.tail ∈ l := by
    show minF (prioDiff g) (((way f x m).drop p).headD 0) ((way f x m).drop p).tail ∈ (way f x m).drop p
    rw [hne]
    simp only [List.headD_cons, List.tail_cons, List.mem_cons]
    exact minF_mem _ _ _
  have hle : ∀ y ∈ l, prioAt g (minF (prioDiff g) (l.headD 0) l.tail) ≤ prioAt g y := by
    have := minF_le (c := prioDiff g) (P := prioAt g) (fun _ _ => rfl) l.tail (l.headD 0)
    intro y hy
    have hy' : y ∈ it f p x :: (way f x m).drop (p + 1) := by rw [← hne]; exact hy
    have e1 : l.headD 0 = it f p x := by show ((way f x m).drop p).headD 0 = _; rw [hne]; rfl
    have e2 : l.tail = (way f x m).drop (p + 1) := by show ((way f x m).drop p).tail = _; rw [hne]; rfl
    rcases List.mem_cons.1 hy' with rfl | hy'
    · rw [e1] at this ⊢; exact this.1
    · exact this.2 y (by rw [e2]; exact hy')
  obtain ⟨q, h1, h2, h3⟩ := (hmem _).1 hc
  refine ⟨q, h1, h2, fun k k1 k2 => by rw [h3]; exact hle _ ((hmem _).2 ⟨k, k1, k2, rfl⟩), ?_⟩
  have hemp : (!((way f x m).drop p).isEmpty) = true := by rw [hne]; rfl
  have hok : playOk g (Path.round ⟨(way f x m).take p, (way f x m).drop p⟩) (Path.round ⟨(way f x m).take p, (way f x m).drop p⟩).length = true := by
    rw [round_way f x m p hp he]
    exact playOk_way h hs _ (by rw [way_len]; omega)
  unfold winnerS
  rw [if_pos (by simp only [hv, hemp, hok, Bool.and_self])]
  rw [h3]
  rfl
end Go.Proofs.Ytohglckebkgbpaa
