/-
  Lassos: Normal and Same, of the program and of the reference.
-/
import Derived.Test.YtblibehfjjgdeaaQh
namespace Go.Proofs.Ytblibehfjjgdeaa
open Go.RowKit Word

noncomputable def normD (w : lassoT.T) : lassoT.T := if formedD w = true then nfD w else ([], [], ())
noncomputable def sameD (a b : lassoT.T) : Bool := formedD a && formedD b && decide (nfD a = nfD b)
theorem short_of {w : lassoT.T} (h : formedD w = true) : w.2.1 ≠ [] ∧ w.2.1.length ≤ 100000 ∧ w.1.length ≤ 100000 := by
  obtain ⟨h1, h2, h3, _⟩ := formed_parts h
  exact ⟨List.length_pos_iff.1 h2, by omega, by omega⟩
theorem cp_short (w : lassoT.T) (h : formedD w = true) : CallP Try.prog tT 40 [.d lassoT w] lassoT (nfD w) := cp_shortest w (short_of h).1 (short_of h).2.1 (short_of h).2.2
theorem cp_Short (w : lassoT.T) (h : formedD w = true) : CallP Try.prog tT 41 [.d lassoT w] lassoT (nfD w) := cp_Shortest w (short_of h).1 (short_of h).2.1 (short_of h).2.2
theorem cp_Normal (w : lassoT.T) : CallP Try.prog tT 20 [.d lassoT w] lassoT (normD w) := by
  refine of20 w _ fun R hR _ => ⟨formedD w, cp_formed w, fun h => (hR _).2 ?_, fun h => ?_⟩
  · unfold normD; rw [if_neg (by simpa using h)]
  · have h : formedD w = true := by simpa using h
    refine ⟨nfD w, cp_short w h, (hR _).2 ?_⟩
    unfold normD; rw [if_pos h]
theorem cp_rNormal (w : lassoT.T) : CallP Try.prog tT 21 [.d lassoT w] lassoT (normD w) := by
  refine of21 w _ fun R hR _ => ⟨formedD w, cp_Formed w, fun h => (hR _).2 ?_, fun h => ?_⟩
  · unfold normD; rw [if_neg (by simpa using h)]
  · have h : formedD w = true := by simpa using h
    refine ⟨nfD w, cp_Short w h, (hR _).2 ?_⟩
    unfold normD; rw [if_pos h]
theorem lasso_dec (a b : lassoT.T) : selB (decide (a.1 = b.1)) (decide (a.2.1 = b.2.1)) false = decide (a = b) := by
  obtain ⟨a1, a2, u⟩ := a
  obtain ⟨b1, b2, v⟩ := b
  by_cases h1 : a1 = b1
  · by_cases h2 : a2 = b2
    · subst h1 h2
      rw [decide_eq_true (show (((a1, a2, u) : List Int × List Int × Unit) = (a1, a2, v)) by rfl)]
      simp [selB]
    · have : ¬ (((a1, a2, u) : List Int × List Int × Unit) = (b1, b2, v)) := by simp [h2]
      rw [decide_eq_false this]
      simp [selB, h1, h2]
  · have : ¬ (((a1, a2, u) : List Int × List Int × Unit) = (b1, b2, v)) := by simp [h1]
    rw [decide_eq_false this]
    simp [selB, h1]
theorem cp_Same (a b : lassoT.T) : CallP Try.prog tT 22 [.d lassoT a, .d lassoT b] .bool (sameD a b) := by
  refine of22 a b _ fun R hR _ _ => ⟨formedD a, cp_formed a, formedD b, fun h => ⟨h, cp_formed b⟩, fun h => h, fun h => by rw [h]; rfl, fun h => (hR _).2 ?_, fun h => ?_⟩
  · unfold sameD
    cases h1 : formedD a with
    | false => rfl
    | true =>
      rw [h1] at h
      have : formedD b = false := by simpa [selB] using h
      rw [this]
      rfl
  · have h1 : formedD a = true := by
      cases h1 : formedD a with
      | true => rfl
      | false => rw [h1] at h; simp [selB] at h
    have h2 : formedD b = true := by
      rw [h1] at h
      simpa [selB] using h
    refine ⟨nfD a, cp_short a h1, nfD b, cp_short b h2, decide ((nfD a).1 = (nfD b).1), cp_sEqual _ _, fun h => h, fun h => h, decide ((nfD a).2.1 = (nfD b).2.1), fun h => ⟨⟨h, h⟩, cp_sEqual _ _⟩, fun h => h, (hR _).2 ?_⟩
    rw [lasso_dec]
    unfold sameD
    rw [h1, h2]
    rfl
theorem cp_rSame (a b : lassoT.T) : CallP Try.prog tT 23 [.d lassoT a, .d lassoT b] .bool (sameD a b) := by
  refine of23 a b _ fun R hR _ _ => ⟨formedD a, cp_Formed a, formedD b, fun h => ⟨h, cp_Formed b⟩, fun h => h, nfD a, fun h => ?_, nfD b, fun h => ?_, decide (nfD a = nfD b), fun h => ⟨⟨h, h⟩, cp_Equal _ _⟩, fun h => h, (hR _).2 ?_⟩
  · have h1 : formedD a = true := by
      cases h1 : formedD a with
      | true => rfl
      | false => rw [h1] at h; simp [selB] at h
    exact ⟨h, cp_Short a h1⟩
  · have h1 : formedD b = true := by
      cases h1 : formedD b with
      | true => rfl
      | false => rw [h1] at h; cases formedD a <;> simp [selB] at h
    exact ⟨h, cp_Short b h1⟩
  · unfold sameD
    cases formedD a <;> cases formedD b <;> rfl
end Go.Proofs.Ytblibehfjjgdeaa
/-
  Lassos: agreement at the first positions; suffixes, words that begin with letters.
-/
namespace Go.Proofs.Ytblibehfjjgdeaa
open Go.RowKit Word

/-- do two words agree at the first n positions? -/
theorem cp_agree (a b : lassoT.T) (n : Int) (r : Bool) (hr : r = true ↔ ∀ i : Nat, (i : Int) < n → atD a i = atD b i) : CallP Try.prog tT 31 [.d lassoT a, .d lassoT b, .d intT n] .bool r := by
  refine of31 a b n _ fun R hR _ _ wn => ⟨fun x => ∃ i : Nat, x.1 = i ∧ ∀ j : Nat, j < i → atD a j = atD b j, fun x => (n - x.1).toNat, ⟨0, rfl, fun j hj => by omega⟩, ?_⟩
  have hn : n ≤ 9223372036854775807 := wn.2
  rintro ⟨iz, u⟩ _ ⟨i, e, hall⟩
  simp only at e
  subst e
  refine ⟨fun hlt => ?_, fun hlt => ?_⟩
  · have hlt : (i : Int) < n := of_decide_eq_true hlt
    refine ⟨atD a i, cp_At a i, atD b i, cp_At b i, fun hb => ?_, fun hb => ?_⟩
    · have hb : ¬ atD a i = atD b i := by simpa using hb
      refine (hR _).2 ?_
      cases r with
      | false => rfl
      | true => exact absurd (hr.1 rfl i hlt) hb
    · have hb : atD a i = atD b i := by simpa using hb
      refine ⟨inK64 (by omega) (by omega), ⟨i + 1, by simp, fun j hj => ?_⟩, by show (n - ((i : Int) + 1)).toNat < (n - (i : Int)).toNat; omega⟩
      rcases Nat.lt_or_ge j i with h1 | h1
      · exact hall j h1
      · have : j = i := by omega
        rw [this]; exact hb
  · have hlt : ¬ (i : Int) < n := of_decide_eq_false hlt
    exact (hR _).2 (hr.2 fun j hj => hall j (by omega)).symm
/-- the word without its first letters -/
noncomputable def sufD (w : lassoT.T) (n : Int) : lassoT.T :=
  if n < 0 ∨ formedD w = false then ([], [], ())
  else if (w.1.length : Int) < n then nfD ([], w.2.1.drop ((n.toNat - w.1.length) % w.2.1.length) ++ w.2.1.take ((n.toNat - w.1.length) % w.2.1.length), ())
  else nfD (w.1.drop n.toNat, w.2.1, ())
theorem cp_Suffix (w : lassoT.T) (n : Int) : CallP Try.prog tT 24 [.d lassoT w, .d intT n] lassoT (sufD w n) := by
  refine of24 w n _ fun R hR wf wn => ⟨formedD w, fun h => ⟨h, cp_formed w⟩, fun h => h, fun h => by rw [h]; rfl, fun h => (hR _).2 ?_, fun h => ?_⟩
  · unfold sufD
    by_cases h1 : n < 0
    · rw [if_pos (.inl h1)]
    · rw [decide_eq_false h1] at h
      rw [if_pos (.inr (by simpa [selB] using h))]
  · have h1 : ¬ n < 0 := fun hc => by rw [decide_eq_true hc] at h; simp [selB] at h
    rw [decide_eq_false h1] at h
    have hf : formedD w = true := by simpa [selB] using h
    obtain ⟨l1, l2, l3, _⟩ := formed_parts hf
    have hn : n ≤ 9223372036854775807 := wn.2
    obtain ⟨m, rfl⟩ := Int.eq_ofNat_of_zero_le (by omega : 0 ≤ n)
    have hneg : ¬ (((m : Nat) : Int) < 0 ∨ formedD w = false) := by simp [hf]
    refine ⟨fun hlt => ?_, fun hlt => ?_⟩
    · have hlt : (w.1.length : Int) < m := of_decide_eq_true hlt
      have e1 : ((m : Nat) : Int) - (w.1.length : Nat) = ((m - w.1.length : Nat) : Int) := by omega
      have e2 : ((m - w.1.length : Nat) : Int) % (w.2.1.length : Nat) = (((m - w.1.length) % w.2.1.length : Nat) : Int) := rfl
      rw [e1, e2]
      have hk := Nat.mod_lt (m - w.1.length) l2
      generalize hK : (m - w.1.length) % w.2.1.length = k at hk
      rw [Int.toNat_natCast]
      have wf2 : ∀ x ∈ w.2.1, inK .i64 x := wf.2.1.2
      have hlen : ([w.2.1.drop k, w.2.1.take k] : List (List Int)).flatten = w.2.1.drop k ++ w.2.1.take k := by simp
      have hl' : (w.2.1.drop k ++ w.2.1.take k).length = w.2.1.length := by simp; omega
      refine ⟨inK64 (by omega) (by omega), ⟨by (first | omega | (change (_ : Int) ≤ (_ : Int); omega) | (change (_ : Int) < (_ : Int); omega)), by (first | omega | (change (_ : Int) ≤ (_ : Int); omega) | (change (_ : Int) < (_ : Int); omega))⟩, ⟨by (first | omega | (change (_ : Int) ≤ (_ : Int); omega) | (change (_ : Int) < (_ : Int); omega)), by (first | omega | (change (_ : Int) ≤ (_ : Int); omega) | (change (_ : Int) < (_ : Int); omega))⟩, ⟨by (first | omega | (change (_ : Int) ≤ (_ : Int); omega) | (change (_ : Int) < (_ : Int); omega)), by (first | omega | (change (_ : Int) ≤ (_ : Int); omega) | (change (_ : Int) < (_ : Int); omega))⟩, _, cp_Concat [w.2.1.drop k, w.2.1.take k] ?_ ?_, nfD ([], w.2.1.drop k ++ w.2.1.take k, ()), ?_, (hR _).2 ?_⟩
      · rw [← flatten_len, hlen, hl']; omega
      · intro x hx
        rw [hlen, List.mem_append] at hx
        rcases hx with hx | hx
        · exact wf2 x (List.mem_of_mem_drop hx)
        · exact wf2 x (List.mem_of_mem_take hx)
      · rw [hlen]
        refine cp_shortest _ (fun h0 => ?_) (by show (w.2.1.drop k ++ w.2.1.take k).length ≤ 100000; omega) (Nat.zero_le _)
        have h9 : (w.2.1.drop k ++ w.2.1.take k).length = 0 := by
          have h8 : w.2.1.drop k ++ w.2.1.take k = [] := h0
          rw [h8]; rfl
        omega
      · unfold sufD
        rw [if_neg hneg, if_pos hlt, Int.toNat_natCast, hK]
    · have hlt : ¬ (w.1.length : Int) < m := of_decide_eq_false hlt
      rw [Int.toNat_natCast]
      refine ⟨⟨by (first | omega | (change (_ : Int) ≤ (_ : Int); omega) | (change (_ : Int) < (_ : Int); omega)), by (first | omega | (change (_ : Int) ≤ (_ : Int); omega) | (change (_ : Int) < (_ : Int); omega))⟩, nfD (w.1.drop m, w.2.1, ()), cp_shortest _ (List.length_pos_iff.1 l2) (by show w.2.1.length ≤ 100000; omega) (by show (w.1.drop m).length ≤ 100000; simp; omega), (hR _).2 ?_⟩
      unfold sufD
      rw [if_neg hneg, if_neg hlt, Int.toNat_natCast]
end Go.Proofs.Ytblibehfjjgdeaa
/-
  Lassos: the reference's Suffix.
-/
namespace Go.Proofs.Ytblibehfjjgdeaa
open Go.RowKit Word

theorem cp_rSuffix (w : lassoT.T) (n : Int) : CallP Try.prog tT 25 [.d lassoT w, .d intT n] lassoT (sufD w n) := by
  refine of25 w n _ fun R hR wf wn => ⟨formedD w, fun h => ⟨h, cp_Formed w⟩, fun h => h, fun h => by rw [h]; rfl, fun h => (hR _).2 ?_, fun h => ?_⟩
  · unfold sufD
    by_cases h1 : n < 0
    · rw [if_pos (.inl h1)]
    · rw [decide_eq_false h1] at h
      rw [if_pos (.inr (by simpa [selB] using h))]
  · have h1 : ¬ n < 0 := fun hc => by rw [decide_eq_true hc] at h; simp [selB] at h
    rw [decide_eq_false h1] at h
    have hf : formedD w = true := by simpa [selB] using h
    obtain ⟨l1, l2, l3, _⟩ := formed_parts hf
    have hn : n ≤ 9223372036854775807 := wn.2
    obtain ⟨m, rfl⟩ := Int.eq_ofNat_of_zero_le (by omega : 0 ≤ n)
    have hneg : ¬ (((m : Nat) : Int) < 0 ∨ formedD w = false) := by simp [hf]
    refine ⟨fun hlt => ?_, fun hlt => ?_⟩
    · have hlt : (m : Int) ≤ w.1.length := of_decide_eq_true hlt
      rw [Int.toNat_natCast]
      refine ⟨⟨by (first | omega | (change (_ : Int) ≤ (_ : Int); omega) | (change (_ : Int) < (_ : Int); omega)), by (first | omega | (change (_ : Int) ≤ (_ : Int); omega) | (change (_ : Int) < (_ : Int); omega))⟩, nfD (w.1.drop m, w.2.1, ()), cp_Shortest _ (List.length_pos_iff.1 l2) (by show w.2.1.length ≤ 100000; omega) (by show (w.1.drop m).length ≤ 100000; simp; omega), (hR _).2 ?_⟩
      unfold sufD
      rw [if_neg hneg, if_neg (by omega), Int.toNat_natCast]
    · have hlt : ¬ (m : Int) ≤ w.1.length := of_decide_eq_false hlt
      have e1 : ((m : Nat) : Int) - (w.1.length : Nat) = ((m - w.1.length : Nat) : Int) := by omega
      have e2 : ((m - w.1.length : Nat) : Int) % (w.2.1.length : Nat) = (((m - w.1.length) % w.2.1.length : Nat) : Int) := rfl
      rw [e1, e2]
      have hk := Nat.mod_lt (m - w.1.length) l2
      generalize hK : (m - w.1.length) % w.2.1.length = k at hk
      rw [Int.toNat_natCast]
      have hl' : (w.2.1.drop k ++ w.2.1.take k).length = w.2.1.length := by simp; omega
      have hd : (w.2.1.drop k).length = w.2.1.length - k := by simp
      have ht : (w.2.1.take k).length = k := by simp; omega
      refine ⟨inK64 (by omega) (by omega), ⟨by (first | omega | (change (_ : Int) ≤ (_ : Int); omega) | (change (_ : Int) < (_ : Int); omega)), by (first | omega | (change (_ : Int) ≤ (_ : Int); omega) | (change (_ : Int) < (_ : Int); omega))⟩, ⟨by (first | omega | (change (_ : Int) ≤ (_ : Int); omega) | (change (_ : Int) < (_ : Int); omega)), by (first | omega | (change (_ : Int) ≤ (_ : Int); omega) | (change (_ : Int) < (_ : Int); omega))⟩, ?_, ⟨by (first | omega | (change (_ : Int) ≤ (_ : Int); omega) | (change (_ : Int) < (_ : Int); omega)), by (first | omega | (change (_ : Int) ≤ (_ : Int); omega) | (change (_ : Int) < (_ : Int); omega))⟩, ?_, nfD ([], w.2.1.drop k ++ w.2.1.take k, ()), ?_, (hR _).2 ?_⟩
      · rw [hd, List.length_nil]; (first | omega | (change (_ : Int) ≤ (_ : Int); omega) | (change (_ : Int) < (_ : Int); omega))
      · rw [List.nil_append, hd, ht]; (first | omega | (change (_ : Int) ≤ (_ : Int); omega) | (change (_ : Int) < (_ : Int); omega))
      · rw [List.nil_append]
        refine cp_Shortest _ (fun h0 => ?_) (by show (w.2.1.drop k ++ w.2.1.take k).length ≤ 100000; omega) (Nat.zero_le _)
        have h9 : (w.2.1.drop k ++ w.2.1.take k).length = 0 := by
          have h8 : w.2.1.drop k ++ w.2.1.take k = [] := h0
          rw [h8]; rfl
        omega
      · unfold sufD
        rw [if_neg hneg, if_pos (by omega), Int.toNat_natCast, hK]
end Go.Proofs.Ytblibehfjjgdeaa
/-
  Lassos: Push, of the program and of the reference.
-/
namespace Go.Proofs.Ytblibehfjjgdeaa
open Go.RowKit Word

/-- the word that begins with letters -/
noncomputable def pushD (l : List Int) (w : lassoT.T) : lassoT.T := if formedD w = true ∧ l.all letterD = true then keptD (nfD (l ++ w.1, w.2.1, ())) else ([], [], ())
theorem cp_Push (l : List Int) (w : lassoT.T) (hb : l.length ≤ 50000) : CallP Try.prog tT 26 [.d intsT l, .d lassoT w] lassoT (pushD l w) := by
  refine of26 l w _ fun R hR wl wf => ⟨formedD w, cp_formed w, !l.all letterD, fun h => ⟨h, cp_Contains1 l⟩, fun h => by rw [h]; rfl, fun h => (hR _).2 ?_, fun h => ?_⟩
  · unfold pushD
    rw [if_neg]
    rintro ⟨h1, h2⟩
    rw [h1, h2] at h
    simp [selB] at h
  · have h1 : formedD w = true := by
      cases h1 : formedD w with
      | true => rfl
      | false => rw [h1] at h; simp [selB] at h
    have h2 : l.all letterD = true := by
      rw [h1] at h
      simpa [selB] using h
    obtain ⟨l1, l2, l3, _⟩ := formed_parts h1
    have wl2 : ∀ x ∈ l, inK .i64 x := wl.2
    have wf1 : ∀ x ∈ w.1, inK .i64 x := wf.1.2
    have hfl : ([l, w.1] : List (List Int)).flatten = l ++ w.1 := by simp
    refine ⟨_, cp_Concat [l, w.1] ?_ ?_, nfD (l ++ w.1, w.2.1, ()), ?_, keptD (nfD (l ++ w.1, w.2.1, ())), cp_kept _, (hR _).2 ?_⟩
    · rw [← flatten_len, hfl, List.length_append]; omega
    · intro x hx
      rw [hfl, List.mem_append] at hx
      rcases hx with hx | hx
      · exact wl2 x hx
      · exact wf1 x hx
    · rw [hfl]
      exact cp_shortest _ (List.length_pos_iff.1 l2) (by show w.2.1.length ≤ 100000; omega) (by show (l ++ w.1).length ≤ 100000; rw [List.length_append]; omega)
    · unfold pushD
      rw [if_pos ⟨h1, h2⟩]
theorem cp_rPush (l : List Int) (w : lassoT.T) (hb : l.length ≤ 50000) : CallP Try.prog tT 27 [.d intsT l, .d lassoT w] lassoT (pushD l w) := by
  refine of27 l w _ fun R hR wl wf => ⟨fun x => ∃ i : Nat, x.1 = i ∧ i ≤ l.length ∧ ∀ j : Nat, j < i → letterD (l.getD j 0) = true, fun x => l.length - x.1.toNat, ⟨0, rfl, Nat.zero_le _, fun j hj => by omega⟩, ?_⟩
  rintro ⟨iz, v, u⟩ _ ⟨i, e, hi, hall⟩
  simp only at e
  subst e
  simp only [Int.toNat_natCast]
  refine ⟨fun hlt => ?_, fun hlt => ?_⟩
  · have hlt : (i : Int) < l.length := of_decide_eq_true hlt
    refine ⟨⟨by omega, hlt⟩, letterD (l.getD i 0), cp_Letter _, fun hb => (hR _).2 ?_, fun hb => ?_⟩
    · unfold pushD
      rw [if_neg]
      rintro ⟨_, h2⟩
      rw [not_all_at (j := i) (by omega) (by simpa using hb)] at h2
      simp at h2
    · have hb : letterD (l.getD i 0) = true := by simpa using hb
      refine ⟨inK64 (by omega) (by omega), ⟨i + 1, by simp, by omega, fun j hj => ?_⟩, by omega⟩
      rcases Nat.lt_or_ge j i with h1 | h1
      · exact hall j h1
      · have : j = i := by omega
        rw [this]; exact hb
  · have hlt : ¬ (i : Int) < l.length := of_decide_eq_false hlt
    have h2 : l.all letterD = true := all_at fun j hj => hall j (by omega)
    refine ⟨formedD w, cp_Formed w, fun h => (hR _).2 ?_, fun h => ?_⟩
    · unfold pushD
      rw [if_neg]
      rintro ⟨h1, _⟩
      rw [h1] at h
      simp at h
    · have h1 : formedD w = true := by simpa using h
      obtain ⟨l1, l2, l3, _⟩ := formed_parts h1
      refine ⟨by rw [List.length_nil]; (first | omega | (change (_ : Int) ≤ (_ : Int); omega) | (change (_ : Int) < (_ : Int); omega)), by rw [List.nil_append]; (first | omega | (change (_ : Int) ≤ (_ : Int); omega) | (change (_ : Int) < (_ : Int); omega)), nfD (l ++ w.1, w.2.1, ()), ?_, keptD (nfD (l ++ w.1, w.2.1, ())), cp_rformed _, (hR _).2 ?_⟩
      · rw [List.nil_append]
        exact cp_Shortest _ (List.length_pos_iff.1 l2) (by show w.2.1.length ≤ 100000; omega) (by show (l ++ w.1).length ≤ 100000; rw [List.length_append]; omega)
      · unfold pushD
        rw [if_pos ⟨h1, h2⟩]
end Go.Proofs.Ytblibehfjjgdeaa
/-
  Lassos: the first letters of a word.
-/
namespace Go.Proofs.Ytblibehfjjgdeaa
open Go.RowKit Word

def takeD (u : lassoT.T) (n : Nat) : List Int := (List.range n).map (wat u.1 u.2.1)
theorem takeD_len (u : lassoT.T) (n : Nat) : (takeD u n).length = n := by simp [takeD]
theorem takeD_succ (u : lassoT.T) (n : Nat) : takeD u n ++ [wat u.1 u.2.1 n] = takeD u (n + 1) := by simp [takeD, List.range_succ]
theorem cp_all (w : lassoT.T) : CallK Try.prog tT 39 [.d lassoT w] 51 [.kp lassoT w] :=
  of39 w fun R hR _ => (hR _).2 rfl
theorem cp_take (u : lassoT.T) (n : Nat) (hl : 0 < u.2.1.length) (hb : n ≤ 1000000) (h1 : u.1.length ≤ 100000) (h2 : u.2.1.length ≤ 100000) : CallP Try.prog tT 38 [.fn 51 [.kp lassoT u], .d intT (n : Int)] intsT (takeD u n) := by
  refine of38 u n _ fun R hR _ => ⟨fun h => ?_, fun h => ?_⟩
  · have : ((n : Nat) : Int) = 0 := of_decide_eq_true h
    have hn : n = 0 := by omega
    subst hn
    exact (hR _).2 rfl
  · have hn : ¬ ((n : Nat) : Int) = 0 := of_decide_eq_false h
    refine ⟨⟨by omega, by omega, by (first | omega | (change (_ : Int) ≤ (_ : Int); omega) | (change (_ : Int) < (_ : Int); omega))⟩, fun x => ∃ i : Nat, x.1 = i ∧ i ≤ u.1.length ∧ i < n ∧ x.2.1.1 = takeD u i, fun x => u.1.length - x.1.toNat, ⟨0, rfl, Nat.zero_le _, by omega, rfl⟩, ?_⟩
    rintro ⟨iz, ⟨out, v1⟩, v2⟩ _ ⟨i, e1, hi, hin, e2⟩
    simp only at e1 e2
    subst e1 e2
    simp only [Int.toNat_natCast, takeD_len, List.length_append, List.length_singleton]
    refine ⟨fun hlt => ?_, fun hlt => ?_⟩
    · have hlt : (i : Int) < u.1.length := of_decide_eq_true hlt
      have hw : u.1.getD i 0 = wat u.1 u.2.1 i := (wat_stem (by omega)).symm
      rw [hw, takeD_succ]
      refine ⟨⟨by omega, by omega⟩, by (first | omega | (change (_ : Int) ≤ (_ : Int); omega) | (change (_ : Int) < (_ : Int); omega)), fun hd => ?_, fun hd => ?_⟩
      · have hd : (((i + 1 : Nat)) : Int) = n := of_decide_eq_true hd
        have : i + 1 = n := by omega
        rw [this]
        exact ⟨fun _ => (hR _).2 rfl, fun hc => by simp at hc⟩
      · have hd : ¬ (((i + 1 : Nat)) : Int) = n := of_decide_eq_false hd
        exact ⟨fun hc => by simp at hc, fun _ => ⟨inK64 (by omega) (by omega), ⟨i + 1, by simp, by omega, by omega, rfl⟩, by show u.1.length - Int.toNat ((i : Int) + 1) < u.1.length - i; omega⟩⟩
    · have hlt : ¬ (i : Int) < u.1.length := of_decide_eq_false hlt
      have his : i = u.1.length := by omega
      refine ⟨fun x => ∃ m : Nat, x.1.1 = takeD u m ∧ m < n ∧ u.1.length ≤ m ∧ (m - u.1.length) % u.2.1.length = 0, fun x => n - x.1.1.length, ⟨i, rfl, hin, by omega, by rw [his, Nat.sub_self, Nat.zero_mod]⟩, ?_⟩
      rintro ⟨⟨out, v3⟩, v4⟩ _ ⟨m, e1, hmn, hm1, hm2⟩
      simp only at e1
      subst e1
      refine ⟨fun x => ∃ k : Nat, x.1 = k ∧ k ≤ u.2.1.length ∧ m + k < n ∧ x.2.1.1 = takeD u (m + k), fun x => u.2.1.length - x.1.toNat, ⟨0, rfl, Nat.zero_le _, hmn, rfl⟩, ?_⟩
      rintro ⟨kz, ⟨out2, v5⟩, v6⟩ _ ⟨k, e1, hk, hkn, e2⟩
      simp only at e1 e2
      subst e1 e2
      simp only [Int.toNat_natCast, takeD_len, List.length_append, List.length_singleton]
      refine ⟨fun hlt => ?_, fun hlt => ?_⟩
      · have hlt : (k : Int) < u.2.1.length := of_decide_eq_true hlt
        have hw : u.2.1.getD k 0 = wat u.1 u.2.1 (m + k) := by
          have e3 : m + k = u.1.length + ((m - u.1.length) + k) := by omega
          rw [e3, wat_loop, rep_per.mod ((m - u.1.length) + k), Nat.add_mod, hm2, Nat.zero_add, Nat.mod_mod, Nat.mod_eq_of_lt (show k < u.2.1.length by omega), rep_lt (by omega)]
        rw [hw, takeD_succ]
        refine ⟨⟨by omega, by omega⟩, by (first | omega | (change (_ : Int) ≤ (_ : Int); omega) | (change (_ : Int) < (_ : Int); omega)), fun hd => ?_, fun hd => ?_⟩
        · have hd : (((m + k + 1 : Nat)) : Int) = n := of_decide_eq_true hd
          have : m + k + 1 = n := by omega
          rw [this]
          exact ⟨fun _ => (hR _).2 rfl, fun hc => by simp at hc⟩
        · have hd : ¬ (((m + k + 1 : Nat)) : Int) = n := of_decide_eq_false hd
          exact ⟨fun hc => by simp at hc, fun _ => ⟨inK64 (by omega) (by omega), ⟨k + 1, by simp, by omega, by omega, rfl⟩, by show u.2.1.length - Int.toNat ((k : Int) + 1) < u.2.1.length - k; omega⟩⟩
      · have hlt : ¬ (k : Int) < u.2.1.length := of_decide_eq_false hlt
        have hkl : k = u.2.1.length := by omega
        refine ⟨⟨m + k, rfl, hkn, by omega, ?_⟩, by omega⟩
        have e3 : m + k - u.1.length = (m - u.1.length) + u.2.1.length := by omega
        rw [e3, Nat.add_mod_right, hm2]
end Go.Proofs.Ytblibehfjjgdeaa
/-
  Lassos: Prefix, of the program and of the reference.
-/
namespace Go.Proofs.Ytblibehfjjgdeaa
open Go.RowKit Word

def prefD (w : lassoT.T) (n : Int) : List Int := if n < 0 ∨ 500 < n ∨ formedD w = false then [] else takeD w n.toNat
theorem cp_Prefix (w : lassoT.T) (n : Int) : CallP Try.prog tT 17 [.d lassoT w, .d intT n] intsT (prefD w n) := by
  refine of17 w n _ fun R hR _ _ => ⟨fun h => h, fun h => by rw [h]; rfl, formedD w, fun h => ⟨h, cp_formed w⟩, fun h => h, fun h => by rw [h]; rfl, fun h => (hR _).2 ?_, fun h => ?_⟩
  · unfold prefD
    by_cases h1 : n < 0
    · rw [if_pos (.inl h1)]
    · by_cases h2 : 500 < n
      · rw [if_pos (.inr (.inl h2))]
      · rw [decide_eq_false h1, decide_eq_false h2] at h
        rw [if_pos (.inr (.inr (by simpa [selB] using h)))]
  · have h1 : ¬ n < 0 := fun hc => by rw [decide_eq_true hc] at h; simp [selB] at h
    have h2 : ¬ 500 < n := fun hc => by rw [decide_eq_false h1, decide_eq_true hc] at h; simp [selB] at h
    rw [decide_eq_false h1, decide_eq_false h2] at h
    have hf : formedD w = true := by simpa [selB] using h
    obtain ⟨l1, l2, l3, _⟩ := formed_parts hf
    obtain ⟨m, rfl⟩ := Int.eq_ofNat_of_zero_le (by omega : 0 ≤ n)
    refine ⟨takeD w m, cp_take w m l2 (by omega) (by omega) (by omega), (hR _).2 ?_⟩
    unfold prefD
    rw [if_neg (by simp [hf]; omega), Int.toNat_natCast]
theorem cp_rPrefix (w : lassoT.T) (n : Int) : CallP Try.prog tT 18 [.d lassoT w, .d intT n] intsT (prefD w n) := by
  refine of18 w n _ fun R hR _ wn => ?_
  have hn : n ≤ 9223372036854775807 := wn.2
  refine ⟨fun x => ∃ i : Nat, x.2.1 = i ∧ x.1 = takeD w i ∧ (i = 0 ∨ ((i : Int) ≤ n ∧ n ≤ 500 ∧ formedD w = true)), fun x => (n - x.2.1).toNat, ⟨0, rfl, rfl, .inl rfl⟩, ?_⟩
  rintro ⟨out, iz, u⟩ _ ⟨i, e1, e2, hi⟩
  simp only at e1 e2
  subst e1 e2
  refine ⟨fun h => h, fun h => h, formedD w, fun h => ⟨h, cp_Formed w⟩, fun h => h, fun h => ?_, fun h => ?_⟩
  · have h1 : (i : Int) < n := by
      by_cases hc : (i : Int) < n
      · exact hc
      · rw [decide_eq_false hc] at h; simp [selB] at h
    have h2 : n ≤ 500 := by
      by_cases hc : n ≤ 500
      · exact hc
      · rw [decide_eq_true h1, decide_eq_false hc] at h; simp [selB] at h
    have hf : formedD w = true := by
      rw [decide_eq_true h1, decide_eq_true h2] at h
      simpa [selB] using h
    obtain ⟨l1, l2, l3, _⟩ := formed_parts hf
    have hik : inK .i64 ((i : Int) + 1) := inK64 (by omega) (by omega)
    refine ⟨wat w.1 w.2.1 i, ?_, ?_, hik, ⟨i + 1, by simp, takeD_succ w i, .inr ⟨by omega, h2, hf⟩⟩, by show (n - ((i : Int) + 1)).toNat < (n - (i : Int)).toNat; omega⟩
    · have := cp_at w (i : Int) (by omega) l2
      rwa [Int.toNat_natCast] at this
    · rw [takeD_len, List.length_singleton]; (first | omega | (change (_ : Int) ≤ (_ : Int); omega) | (change (_ : Int) < (_ : Int); omega))
  · refine (hR _).2 ?_
    show takeD w i = prefD w n
    unfold prefD
    by_cases hc : n < 0 ∨ 500 < n ∨ formedD w = false
    · rw [if_pos hc]
      rcases hi with h0 | ⟨h1, h2, h3⟩
      · subst h0; rfl
      · exfalso
        rcases hc with hc | hc | hc
        · omega
        · omega
        · rw [h3] at hc; simp at hc
    · rw [if_neg hc]
      have hf : formedD w = true := by
        cases hq : formedD w with
        | true => rfl
        | false => exact absurd (.inr (.inr hq)) hc
      have h0 : 0 ≤ n := by
        rcases Int.lt_or_le n 0 with h1 | h1
        · exact absurd (.inl h1) hc
        · exact h1
      have h5 : n ≤ 500 := by
        rcases Int.lt_or_le 500 n with h1 | h1
        · exact absurd (.inr (.inl h1)) hc
        · exact h1
      have hlt : ¬ (i : Int) < n := by
        intro h1
        rw [decide_eq_true h1, decide_eq_true h5, hf] at h
        simp [selB] at h
      have : i = n.toNat := by
        rcases hi with h1 | ⟨h1, _⟩ <;> omega
      rw [this]
end Go.Proofs.Ytblibehfjjgdeaa
/-
  Lassos: Zip, of the program and of the reference.
-/
namespace Go.Proofs.Ytblibehfjjgdeaa
open Go.RowKit Word

theorem takeD_at {u : lassoT.T} {n i : Nat} (h : i < n) : (takeD u n).getD i 0 = wat u.1 u.2.1 i := by
  simp [takeD, List.getD_eq_getElem?_getD, h]
theorem all_letter {l : List Int} (h : l.all letterD = true) {i : Nat} (hi : i < l.length) : letterD (l.getD i 0) = true := by
  rw [List.all_eq_true] at h
  rw [getD_at' hi]
  exact h _ (List.getElem_mem hi)
theorem wat_letter {w : lassoT.T} (h : formedD w = true) (i : Nat) : letterD (wat w.1 w.2.1 i) = true := by
  obtain ⟨_, h2, _, h4, h5⟩ := formed_parts h
  unfold wat
  split
  · exact all_letter h4 (by assumption)
  · exact all_letter h5 (Nat.mod_lt _ h2)
theorem letter_parts {n : Int} (h : letterD n = true) : 0 ≤ n ∧ n < 64 := by simpa [letterD] using h
/-- the letter of a table at two letters -/
def tabD (t : List (List Int)) (p q : Int) : Int := (t.getD p.toNat []).getD q.toNat 0
def tokD (t : List (List Int)) (p q : Int) : Bool := decide (p < t.length) && decide (q < (t.getD p.toNat []).length) && letterD (tabD t p q)
def zvD (a b : lassoT.T) (t : List (List Int)) (i : Nat) : Int := tabD t (wat a.1 a.2.1 i) (wat b.1 b.2.1 i)
def zokD (a b : lassoT.T) (t : List (List Int)) (i : Nat) : Bool := tokD t (wat a.1 a.2.1 i) (wat b.1 b.2.1 i)
def zMX (a b : lassoT.T) : Nat := max a.1.length b.1.length
def zN (a b : lassoT.T) : Nat := zMX a b + a.2.1.length * b.2.1.length
def zsD (a b : lassoT.T) (t : List (List Int)) (n : Nat) : List Int := (List.range n).map (zvD a b t)
theorem zsD_len (a b : lassoT.T) (t : List (List Int)) (n : Nat) : (zsD a b t n).length = n := by simp [zsD]
theorem zsD_succ (a b : lassoT.T) (t : List (List Int)) (n : Nat) : zsD a b t n ++ [zvD a b t n] = zsD a b t (n + 1) := by simp [zsD, List.range_succ]
noncomputable def zipD (a b : lassoT.T) (t : List (List Int)) : lassoT.T :=
  if formedD a = true ∧ formedD b = true ∧ ∀ i, i < zN a b → zokD a b t i = true then keptD (nfD ((zsD a b t (zN a b)).take (zMX a b), (zsD a b t (zN a b)).drop (zMX a b), ())) else ([], [], ())
theorem zMX_int (a b : Ty.T (.st (.pair (.sl (.int .i64)) (.pair (.sl (.int .i64)) .unit)))) : (Max.max ((a.1.length : Nat) : Int) ((b.1.length : Nat) : Int)) = ((zMX a b : Nat) : Int) := by
  unfold zMX; omega
theorem zN_int (a b : Ty.T (.st (.pair (.sl (.int .i64)) (.pair (.sl (.int .i64)) .unit)))) : ((zMX a b : Nat) : Int) + ((a.2.1.length : Nat) : Int) * ((b.2.1.length : Nat) : Int) = ((zN a b : Nat) : Int) := by
  unfold zN
  rw [Int.natCast_add, Int.natCast_mul]
theorem zN_le {a b : lassoT.T} (ha : formedD a = true) (hb : formedD b = true) : zMX a b ≤ 60 ∧ 0 < a.2.1.length * b.2.1.length ∧ a.2.1.length * b.2.1.length ≤ 1600 := by
  obtain ⟨a1, a2, a3, _⟩ := formed_parts ha
  obtain ⟨b1, b2, b3, _⟩ := formed_parts hb
  refine ⟨by unfold zMX; omega, Nat.mul_pos a2 b2, ?_⟩
  exact Nat.mul_le_mul a3 b3
theorem tok_of {t : List (List Int)} {p q : Int} {r : Bool} (hr : r = letterD (tabD t p q)) :
    selB (selB (decide (((t.length : Nat) : Int) ≤ p)) true (decide ((((t.getD p.toNat []).length : Nat) : Int) ≤ q))) true (!r) = !tokD t p q := by
  subst hr
  unfold tokD
  by_cases h1 : ((t.length : Nat) : Int) ≤ p
  · have h1' : ¬ p < ((t.length : Nat) : Int) := by omega
    rw [decide_eq_true h1, decide_eq_false h1']; simp [selB]
  · have h1' : p < ((t.length : Nat) : Int) := by omega
    rw [decide_eq_false h1, decide_eq_true h1']
    by_cases h2 : (((t.getD p.toNat []).length : Nat) : Int) ≤ q
    · have h2' : ¬ q < (((t.getD p.toNat []).length : Nat) : Int) := by omega
      rw [decide_eq_true h2, decide_eq_false h2']; simp [selB]
    · have h2' : q < (((t.getD p.toNat []).length : Nat) : Int) := by omega
      rw [decide_eq_false h2, decide_eq_true h2']; simp [selB]
theorem tok_in {t : List (List Int)} {p q : Int} (h : (!(selB (decide (((t.length : Nat) : Int) ≤ p)) true (decide ((((t.getD p.toNat []).length : Nat) : Int) ≤ q)))) = true) : p < t.length ∧ q < (t.getD p.toNat []).length := by
  by_cases h1 : ((t.length : Nat) : Int) ≤ p
  · rw [decide_eq_true h1] at h; simp [selB] at h
  · rw [decide_eq_false h1] at h
    by_cases h2 : (((t.getD p.toNat []).length : Nat) : Int) ≤ q
    · rw [decide_eq_true h2] at h; simp [selB] at h
    · exact ⟨by omega, by omega⟩
theorem tokD_in {t : List (List Int)} {p q : Int} (h : tokD t p q = true) : p < t.length ∧ q < (t.getD p.toNat []).length ∧ letterD (tabD t p q) = true := by
  unfold tokD at h
  simpa [and_assoc] using h
theorem not_le_of {p n : Int} (h : (!decide (n ≤ p)) = true) : p < n := by
  have : ¬ n ≤ p := by simpa using h
  omega
theorem zip_form (a b : lassoT.T) (h : ¬ (formedD a = true ∧ formedD b = true)) (t : List (List Int)) : zipD a b t = ([], [], ()) := by
  unfold zipD
  rw [if_neg fun hc => h ⟨hc.1, hc.2.1⟩]
theorem form_dec {x y : Bool} : (selB (!x) true (!y) = true ↔ ¬ (x = true ∧ y = true)) ∧ (selB (!x) true (!y) = false ↔ (x = true ∧ y = true)) := by
  cases x <;> cases y <;> simp [selB]
theorem cp_Zip (a b : lassoT.T) (t : List (List Int)) : CallP Try.prog tT 28 [.d lassoT a, .d lassoT b, .d rowsT t] lassoT (zipD a b t) := by
  refine of28 a b t _ fun R hR wa wb wt => ⟨formedD a, cp_formed a, formedD b, fun h => ⟨h, cp_formed b⟩, fun h => h, fun h => by rw [h]; rfl, fun h => (hR _).2 (zip_form a b (form_dec.1.1 h) t).symm, fun h => ?_⟩
  obtain ⟨fa, fb⟩ := form_dec.2.1 h
  obtain ⟨m1, m2, m3⟩ := zN_le fa fb
  obtain ⟨a1, a2, a3, _⟩ := formed_parts fa
  obtain ⟨b1, b2, b3, _⟩ := formed_parts fb
  have hN : zN a b = zMX a b + a.2.1.length * b.2.1.length := rfl
  have hik : inK .i64 ((zN a b : Nat) : Int) := inK64 (by omega) (by omega)
  have hik2 : inK .i64 (((a.2.1.length : Nat) : Int) * ((b.2.1.length : Nat) : Int)) := by
    rw [← Int.natCast_mul]
    exact inK64 (by omega) (by omega)
  have e0 := zMX_int a b
  have e1 := zN_int a b
  simp only [e0, e1]
  refine ⟨hik2, true, cp_all a, hik, takeD a (zN a b), cp_take a _ a2 (by omega) (by omega) (by omega), true, cp_all b, hik, takeD b (zN a b), cp_take b _ b2 (by omega) (by omega) (by omega), hik, ⟨by omega, by omega, by omega⟩,
    fun x => ∃ i : Nat, x.2.1 = i ∧ i ≤ zN a b ∧ x.1 = zsD a b t i ∧ (∀ j, j < i → zokD a b t j = true), fun x => zN a b - x.2.1.toNat, ⟨0, rfl, Nat.zero_le _, rfl, fun j hj => absurd hj (Nat.not_lt_zero j)⟩, ?_⟩
  rintro ⟨out, iz, z, u⟩ _ ⟨i, e1, hi, e2, hj⟩
  simp only at e1 e2
  subst e1 e2
  simp only [Int.toNat_natCast, takeD_len, zsD_len, List.length_singleton]
  refine ⟨fun hlt => ?_, fun hlt => ?_⟩
  · have hlt : i < zN a b := by have := of_decide_eq_true hlt; omega
    have ea := takeD_at (u := a) hlt
    have eb := takeD_at (u := b) hlt
    simp only [ea, eb]
    have p0 := (letter_parts (wat_letter fa i)).1
    have q0 := (letter_parts (wat_letter fb i)).1
    have hi0 : (0 : Int) ≤ (i : Int) ∧ (i : Int) < ((zN a b : Nat) : Int) := ⟨by omega, by omega⟩
    have hv : (t.getD (wat a.1 a.2.1 i).toNat []).getD (wat b.1 b.2.1 i).toNat 0 = zvD a b t i := rfl
    have hk : tokD t (wat a.1 a.2.1 i) (wat b.1 b.2.1 i) = zokD a b t i := rfl
    refine ⟨hi0, fun h => ⟨⟨h, h⟩, hi0⟩, fun h => h, fun h => ⟨⟨h, h⟩, p0, not_le_of h⟩, fun h => h, fun h => h, fun h => ⟨h, h⟩, fun h => by rw [h]; rfl, fun h => ⟨⟨h, h⟩, p0, (tok_in h).1⟩, fun h => h, fun h => ⟨⟨h, h⟩, hi0⟩, fun h => h, fun h => ⟨⟨h, h⟩, q0, (tok_in h).2⟩, fun h => h,
      letterD (tabD t (wat a.1 a.2.1 i) (wat b.1 b.2.1 i)), fun h => ⟨h, cp_letter _⟩, fun h => h, fun h => by rw [h]; rfl, fun h => (hR _).2 ?_, fun h => ?_⟩
    · rw [tok_of rfl, hk] at h
      unfold zipD
      rw [if_neg]
      rintro ⟨_, _, hc⟩
      rw [hc i hlt] at h
      simp at h
    · rw [tok_of rfl, hk] at h
      have hz : zokD a b t i = true := by simpa using h
      obtain ⟨h1, h2, h3⟩ := tokD_in hz
      refine ⟨⟨p0, h1⟩, hi0, ⟨q0, h2⟩, by omega, inK64 (by omega) (by omega), ⟨i + 1, by simp, by omega, ?_, fun j hj' => ?_⟩, ?_⟩
      · rw [hv]; exact zsD_succ a b t i
      · rcases Nat.lt_or_ge j i with h4 | h4
        · exact hj j h4
        · have : j = i := by omega
          rw [this]; exact hz
      · show zN a b - Int.toNat ((i : Int) + 1) < zN a b - Int.toNat (i : Int)
        omega
  · have hlt : ¬ (i : Int) < ((zN a b : Nat) : Int) := of_decide_eq_false hlt
    have hie : i = zN a b := by omega
    subst hie
    have l1 : (List.drop (zMX a b) (zsD a b t (zN a b))).length = a.2.1.length * b.2.1.length := by rw [List.length_drop, zsD_len]; omega
    refine ⟨⟨by omega, by omega⟩, ⟨by omega, by omega⟩, nfD _, cp_shortest _ (fun hc => ?_) ?_ ?_, keptD _, cp_kept _, (hR _).2 ?_⟩
    · have : (List.drop (zMX a b) (zsD a b t (zN a b))).length = 0 := congrArg List.length hc
      omega
    · show (List.drop (zMX a b) (zsD a b t (zN a b))).length ≤ 100000
      omega
    · show (List.take (zMX a b) (zsD a b t (zN a b))).length ≤ 100000
      rw [List.length_take]; omega
    · unfold zipD
      rw [if_pos ⟨fa, fb, hj⟩]
theorem cp_rZip (a b : lassoT.T) (t : List (List Int)) : CallP Try.prog tT 29 [.d lassoT a, .d lassoT b, .d rowsT t] lassoT (zipD a b t) := by
  refine of29 a b t _ fun R hR wa wb wt => ⟨formedD a, cp_Formed a, formedD b, fun h => ⟨h, cp_Formed b⟩, fun h => h, fun h => by rw [h]; rfl, fun h => (hR _).2 (zip_form a b (form_dec.1.1 h) t).symm, fun h => ?_⟩
  obtain ⟨fa, fb⟩ := form_dec.2.1 h
  obtain ⟨m1, m2, m3⟩ := zN_le fa fb
  obtain ⟨a1, a2, a3, _⟩ := formed_parts fa
  obtain ⟨b1, b2, b3, _⟩ := formed_parts fb
  have hN : zN a b = zMX a b + a.2.1.length * b.2.1.length := rfl
  have hik : inK .i64 ((zN a b : Nat) : Int) := inK64 (by omega) (by omega)
  have hik2 : inK .i64 (((a.2.1.length : Nat) : Int) * ((b.2.1.length : Nat) : Int)) := by
    rw [← Int.natCast_mul]
    exact inK64 (by omega) (by omega)
  have e0 := zMX_int a b
  have e1 := zN_int a b
  simp only [e0, e1]
  refine ⟨hik2, fun x => ∃ i : Nat, x.2.1 = i ∧ i ≤ zN a b ∧ x.1 = zsD a b t i ∧ (∀ j, j < i → zokD a b t j = true), fun x => zN a b - x.2.1.toNat, ⟨0, rfl, Nat.zero_le _, rfl, fun j hj => absurd hj (Nat.not_lt_zero j)⟩, ?_⟩
  rintro ⟨out, iz, z, u⟩ _ ⟨i, e1, hi, e2, hj⟩
  simp only at e1 e2
  subst e1 e2
  simp only [Int.toNat_natCast, zsD_len, List.length_singleton]
  refine ⟨hik, fun hlt => ?_, fun hlt => ?_⟩
  · have hlt : i < zN a b := by have := of_decide_eq_true hlt; omega
    have p0 := (letter_parts (wat_letter fa i)).1
    have q0 := (letter_parts (wat_letter fb i)).1
    have hv : (t.getD (wat a.1 a.2.1 i).toNat []).getD (wat b.1 b.2.1 i).toNat 0 = zvD a b t i := rfl
    have hk : tokD t (wat a.1 a.2.1 i) (wat b.1 b.2.1 i) = zokD a b t i := rfl
    have hA := cp_at a (i : Int) (by omega) a2
    have hB := cp_at b (i : Int) (by omega) b2
    rw [Int.toNat_natCast] at hA hB
    refine ⟨_, hA, _, hB, fun h => ⟨⟨h, h⟩, p0, not_le_of h⟩, fun h => h, fun h => h, fun h => ⟨h, h⟩, fun h => by rw [h]; rfl, fun h => ⟨⟨h, h⟩, p0, (tok_in h).1⟩, fun h => h, fun h => ⟨⟨h, h⟩, q0, (tok_in h).2⟩, fun h => h,
      letterD (tabD t (wat a.1 a.2.1 i) (wat b.1 b.2.1 i)), fun h => ⟨h, cp_Letter _⟩, fun h => h, fun h => by rw [h]; rfl, fun h => (hR _).2 ?_, fun h => ?_⟩
    · rw [tok_of rfl, hk] at h
      unfold zipD
      rw [if_neg]
      rintro ⟨_, _, hc⟩
      rw [hc i hlt] at h
      simp at h
    · rw [tok_of rfl, hk] at h
      have hz : zokD a b t i = true := by simpa using h
      obtain ⟨h1, h2, h3⟩ := tokD_in hz
      refine ⟨⟨p0, h1⟩, ⟨q0, h2⟩, by omega, inK64 (by omega) (by omega), ⟨i + 1, by simp, by omega, ?_, fun j hj' => ?_⟩, ?_⟩
      · rw [hv]; exact zsD_succ a b t i
      · rcases Nat.lt_or_ge j i with h4 | h4
        · exact hj j h4
        · have : j = i := by omega
          rw [this]; exact hz
      · show zN a b - Int.toNat ((i : Int) + 1) < zN a b - Int.toNat (i : Int)
        omega
  · have hlt : ¬ (i : Int) < ((zN a b : Nat) : Int) := of_decide_eq_false hlt
    have hie : i = zN a b := by omega
    subst hie
    have l1 : (List.drop (zMX a b) (zsD a b t (zN a b))).length = a.2.1.length * b.2.1.length := by rw [List.length_drop, zsD_len]; omega
    refine ⟨⟨by omega, by omega⟩, ⟨by omega, by omega⟩, nfD _, cp_Shortest _ (fun hc => ?_) ?_ ?_, keptD _, cp_rformed _, (hR _).2 ?_⟩
    · have : (List.drop (zMX a b) (zsD a b t (zN a b))).length = 0 := congrArg List.length hc
      omega
    · show (List.drop (zMX a b) (zsD a b t (zN a b))).length ≤ 100000
      omega
    · show (List.take (zMX a b) (zsD a b t (zN a b))).length ≤ 100000
      rw [List.length_take]; omega
    · unfold zipD
      rw [if_pos ⟨fa, fb, hj⟩]
end Go.Proofs.Ytblibehfjjgdeaa
/-
  Lassos: Valid, of the program and of the reference; first; Short.
-/
namespace Go.Proofs.Ytblibehfjjgdeaa
open Go.RowKit Word

def shortD (w : lassoT.T) : Bool := decide (w.1.length ≤ 80) && decide (w.2.1.length ≤ 80)
theorem cp_short80 (w : lassoT.T) : CallP Try.prog tT 11 [.d lassoT w] .bool (shortD w) := by
  refine of11 w _ fun R hR _ => ⟨fun h => h, fun h => h, fun h => h, fun h => h, (hR _).2 ?_⟩
  unfold shortD
  by_cases h1 : w.1.length ≤ 80
  · rw [decide_eq_true h1, decide_eq_true (by (first | omega | (change (_ : Int) ≤ (_ : Int); omega) | (change (_ : Int) < (_ : Int); omega)) : ((w.1.length : Nat) : Int) ≤ 80)]
    by_cases h2 : w.2.1.length ≤ 80
    · rw [decide_eq_true h2, decide_eq_true (by (first | omega | (change (_ : Int) ≤ (_ : Int); omega) | (change (_ : Int) < (_ : Int); omega)) : ((w.2.1.length : Nat) : Int) ≤ 80)]; simp [selB]
    · rw [decide_eq_false h2, decide_eq_false (by (first | omega | (change (_ : Int) ≤ (_ : Int); omega) | (change (_ : Int) < (_ : Int); omega)) : ¬ ((w.2.1.length : Nat) : Int) ≤ 80)]; simp [selB]
  · rw [decide_eq_false h1, decide_eq_false (by (first | omega | (change (_ : Int) ≤ (_ : Int); omega) | (change (_ : Int) < (_ : Int); omega)) : ¬ ((w.1.length : Nat) : Int) ≤ 80)]; simp [selB]
/-- the greatest of the first element and the first n -/
def gmx (l : List Int) : Nat → Int
  | 0 => l.getD 0 0
  | n + 1 => max (gmx l n) (l.getD n 0)
theorem gmx_lt {l : List Int} {L : Int} : ∀ {n : Nat}, 0 < n → (gmx l n < L ↔ ∀ j, j < n → l.getD j 0 < L)
  | 1, _ => by
    simp only [gmx]
    constructor
    · intro h j hj
      have : j = 0 := by omega
      subst this
      omega
    · intro h
      have := h 0 (by omega)
      omega
  | n + 2, _ => by
    have ih := gmx_lt (l := l) (L := L) (n := n + 1) (by omega)
    show max (gmx l (n + 1)) (l.getD (n + 1) 0) < L ↔ _
    constructor
    · intro h j hj
      rcases Nat.lt_or_ge j (n + 1) with h1 | h1
      · exact ih.1 (by omega) j h1
      · have : j = n + 1 := by omega
        subst this
        omega
    · intro h
      have h1 := ih.2 fun j hj => h j (by omega)
      have h2 := h (n + 1) (by omega)
      omega
theorem cp_Max (l : List Int) (hl : 0 < l.length) : CallP Try.prog tT 35 [.d intsT l] intT (gmx l l.length) := by
  refine of35 l _ fun R hR wl => ⟨fun h => ?_, fun _ => ⟨⟨by omega, by omega⟩, fun x => ∃ i : Nat, x.2.1 = i ∧ 0 < i ∧ i ≤ l.length ∧ x.1 = gmx l i, fun x => l.length - x.2.1.toNat, ⟨1, rfl, by omega, hl, ?_⟩, ?_⟩⟩
  · have : ((l.length : Nat) : Int) < 1 := of_decide_eq_true h
    omega
  · show l.getD 0 0 = max (l.getD 0 0) (l.getD 0 0)
    omega
  · have hb : l.length ≤ maxLen := wl.1
    unfold maxLen at hb
    rintro ⟨m, iz, u⟩ _ ⟨i, e1, h0, hi, e2⟩
    simp only at e1 e2
    subst e1 e2
    simp only [Int.toNat_natCast]
    refine ⟨fun hlt => ?_, fun hlt => ?_⟩
    · have hlt : (i : Int) < l.length := of_decide_eq_true hlt
      refine ⟨⟨by omega, hlt⟩, inK64 (by omega) (by omega), ⟨i + 1, by simp, by omega, by omega, rfl⟩, ?_⟩
      show l.length - Int.toNat ((i : Int) + 1) < l.length - Int.toNat (i : Int)
      omega
    · have hlt : ¬ (i : Int) < l.length := of_decide_eq_false hlt
      have : i = l.length := by omega
      rw [this]
      exact (hR _).2 rfl
def maximumD (l : List Int) : Int := if l.length = 0 then 0 else gmx l l.length
theorem cp_maximum (l : List Int) : CallP Try.prog tT 36 [.d intsT l] intT (maximumD l) := by
  refine of36 l _ fun R hR wl => ⟨fun h => (hR _).2 ?_, fun h => ?_⟩
  · have h : ((l.length : Nat) : Int) = 0 := of_decide_eq_true h
    unfold maximumD
    rw [if_pos (by omega)]
  · have h : ¬ ((l.length : Nat) : Int) = 0 := of_decide_eq_false h
    refine ⟨gmx l l.length, cp_Max l (by omega), (hR _).2 ?_⟩
    unfold maximumD
    rw [if_neg (by omega)]
def validD (L : Int) (w : lassoT.T) : Bool := formedD w && (w.1.all fun n => decide (n < L)) && w.2.1.all fun n => decide (n < L)
theorem all_lt_iff {l : List Int} {L : Int} : (l.all fun n => decide (n < L)) = true ↔ ∀ j, j < l.length → l.getD j 0 < L := by
  constructor
  · intro h j hj
    rw [List.all_eq_true] at h
    have := h _ (List.getElem_mem hj)
    rw [getD_at' hj]
    exact of_decide_eq_true this
  · intro h
    exact all_at fun j hj => decide_eq_true (h j hj)
theorem cp_Valid (L : Int) (w : lassoT.T) : CallP Try.prog tT 12 [.d intT L, .d lassoT w] .bool (validD L w) := by
  refine of12 L w _ fun R hR _ _ => ⟨formedD w, cp_formed w, fun h => h, gmx w.2.1 w.2.1.length, fun h => ⟨h, cp_Max _ (formed_parts h).2.1⟩, fun h => h, maximumD w.1, fun h => ⟨h, cp_maximum _⟩, fun h => ⟨h, h⟩, fun h => ⟨h, h⟩, fun h => h, (hR _).2 ?_⟩
  unfold validD
  cases hf : formedD w with
  | false => simp [selB]
  | true =>
    obtain ⟨h1, h2, h3, h4, h5⟩ := formed_parts hf
    have hl := gmx_lt (l := w.2.1) (L := L) h2
    rw [Bool.eq_iff_iff]
    show decide (max (gmx w.2.1 w.2.1.length) (maximumD w.1) < L) = true ↔ _
    rw [decide_eq_true_iff, Bool.true_and, Bool.and_eq_true, all_lt_iff, all_lt_iff, ← hl]
    unfold maximumD
    by_cases h0 : w.1.length = 0
    · rw [if_pos h0]
      constructor
      · intro h
        exact ⟨fun j hj => absurd hj (by omega), by omega⟩
      · intro ⟨_, h⟩
        have h6 := hl.1 h 0 h2
        have h7 := (letter_parts (all_letter h5 h2)).1
        omega
    · rw [if_neg h0]
      have hs := gmx_lt (l := w.1) (L := L) (show 0 < w.1.length by omega)
      rw [← hs]
      omega
theorem cp_rValid (L : Int) (w : lassoT.T) : CallP Try.prog tT 13 [.d intT L, .d lassoT w] .bool (validD L w) := by
  refine of13 L w _ fun R hR _ ww => ?_
  have b1 : w.1.length ≤ maxLen := ww.1.1
  have b2 : w.2.1.length ≤ maxLen := ww.2.1.1
  unfold maxLen at b1 b2
  refine ⟨fun x => ∃ i : Nat, x.1 = i ∧ i ≤ w.1.length ∧ ∀ j, j < i → w.1.getD j 0 < L, fun x => w.1.length - x.1.toNat, ⟨0, rfl, Nat.zero_le _, fun j hj => absurd hj (Nat.not_lt_zero j)⟩, ?_⟩
  rintro ⟨iz, u⟩ _ ⟨i, e1, hi, hj⟩
  simp only at e1
  subst e1
  simp only [Int.toNat_natCast]
  refine ⟨fun hlt => ?_, fun hlt => ?_⟩
  · have hlt : (i : Int) < w.1.length := of_decide_eq_true hlt
    refine ⟨⟨by omega, hlt⟩, fun h => (hR _).2 ?_, fun h => ⟨inK64 (by omega) (by omega), ⟨i + 1, by simp, by omega, fun j hj' => ?_⟩, ?_⟩⟩
    · have h : L ≤ w.1.getD i 0 := of_decide_eq_true h
      have : ¬ (w.1.all fun n => decide (n < L)) = true := fun hc => by have := all_lt_iff.1 hc i (by omega); omega
      unfold validD
      rw [Bool.eq_false_iff.2 this]; simp
    · have h : ¬ L ≤ w.1.getD i 0 := of_decide_eq_false h
      rcases Nat.lt_or_ge j i with h4 | h4
      · exact hj j h4
      · have : j = i := by omega
        rw [this]; exact Int.not_le.1 h
    · show w.1.length - Int.toNat ((i : Int) + 1) < w.1.length - Int.toNat (i : Int)
      omega
  · have hlt : ¬ (i : Int) < w.1.length := of_decide_eq_false hlt
    have hie : i = w.1.length := by omega
    rw [hie] at hj
    refine ⟨fun x => ∃ i : Nat, x.1 = i ∧ i ≤ w.2.1.length ∧ ∀ j, j < i → w.2.1.getD j 0 < L, fun x => w.2.1.length - x.1.toNat, ⟨0, rfl, Nat.zero_le _, fun j hj => absurd hj (Nat.not_lt_zero j)⟩, ?_⟩
    rintro ⟨kz, u2⟩ _ ⟨k, e1, hk, hjk⟩
    simp only at e1
    subst e1
    simp only [Int.toNat_natCast]
    refine ⟨fun hlt => ?_, fun hlt => ?_⟩
    · have hlt : (k : Int) < w.2.1.length := of_decide_eq_true hlt
      refine ⟨⟨by omega, hlt⟩, fun h => (hR _).2 ?_, fun h => ⟨inK64 (by omega) (by omega), ⟨k + 1, by simp, by omega, fun j hj' => ?_⟩, ?_⟩⟩
      · have h : L ≤ w.2.1.getD k 0 := of_decide_eq_true h
        have : ¬ (w.2.1.all fun n => decide (n < L)) = true := fun hc => by have := all_lt_iff.1 hc k (by omega); omega
        unfold validD
        rw [Bool.eq_false_iff.2 this]; simp
      · have h : ¬ L ≤ w.2.1.getD k 0 := of_decide_eq_false h
        rcases Nat.lt_or_ge j k with h4 | h4
        · exact hjk j h4
        · have : j = k := by omega
          rw [this]; exact Int.not_le.1 h
      · show w.2.1.length - Int.toNat ((k : Int) + 1) < w.2.1.length - Int.toNat (k : Int)
        omega
    · have hlt : ¬ (k : Int) < w.2.1.length := of_decide_eq_false hlt
      have hke : k = w.2.1.length := by omega
      rw [hke] at hjk
      refine ⟨formedD w, cp_Formed w, (hR _).2 ?_⟩
      unfold validD
      rw [all_lt_iff.2 hj, all_lt_iff.2 hjk]; simp
/-- the table whose elements are their row numbers -/
def firstD : List (List Int) := (List.range 64).map fun (i : Nat) => List.replicate 64 ((i : Nat) : Int)
theorem cp_first : CallP Try.prog tT 32 [] rowsT firstD := by
  refine of32 _ fun R hR => ⟨fun x => ∃ i : Nat, x.2.1 = i ∧ i ≤ 64 ∧ x.1 = (List.range i).map fun (i : Nat) => List.replicate 64 ((i : Nat) : Int), fun x => 64 - x.2.1.toNat, ⟨0, rfl, Nat.zero_le _, rfl⟩, ?_⟩
  rintro ⟨out, iz, u⟩ _ ⟨i, e1, hi, e2⟩
  simp only at e1 e2
  subst e1 e2
  refine ⟨fun hlt => ?_, fun hlt => ?_⟩
  · have hlt : (i : Int) < 64 := of_decide_eq_true hlt
    refine ⟨fun x => ∃ k : Nat, x.2.2.1 = k ∧ k ≤ 64 ∧ x.2.1 = List.replicate k (i : Int) ∧ x.1 = (List.range i).map fun (i : Nat) => List.replicate 64 ((i : Nat) : Int), fun x => 64 - x.2.2.1.toNat, ⟨0, rfl, Nat.zero_le _, rfl, rfl⟩, ?_⟩
    rintro ⟨o2, row, kz, u2⟩ _ ⟨k, e1, hk, e2, e3⟩
    simp only at e1 e2 e3
    subst e1 e2 e3
    simp only [List.length_map, List.length_range, List.length_replicate, List.length_singleton]
    refine ⟨fun hlt2 => ?_, fun hlt2 => ?_⟩
    · have hlt2 : (k : Int) < 64 := of_decide_eq_true hlt2
      refine ⟨by omega, inK64 (by omega) (by omega), ⟨k + 1, by simp, by omega, ?_, trivial⟩, ?_⟩
      · show List.replicate k (i : Int) ++ [(i : Int)] = List.replicate (k + 1) (i : Int)
        rw [List.replicate_succ']
      · show 64 - Int.toNat ((k : Int) + 1) < 64 - Int.toNat (k : Int)
        omega
    · have hlt2 : ¬ (k : Int) < 64 := of_decide_eq_false hlt2
      have : k = 64 := by omega
      subst this
      refine ⟨by omega, inK64 (by omega) (by omega), ⟨i + 1, by simp, by omega, ?_⟩, ?_⟩
      · simp [List.range_succ]
      · show 64 - Int.toNat ((i : Int) + 1) < 64 - Int.toNat (i : Int)
        omega
  · have hlt : ¬ (i : Int) < 64 := of_decide_eq_false hlt
    have : i = 64 := by omega
    subst this
    exact (hR _).2 rfl
end Go.Proofs.Ytblibehfjjgdeaa
/-
  Lassos: the examples with known results.
-/
namespace Go.Proofs.Ytblibehfjjgdeaa
open Go.RowKit Word

def repB (l : List Int) (n : Nat) : Bool := decide (l.length % n = 0) && (List.range l.length).all fun i => decide (i < n) || decide (l.getD i 0 = l.getD (i - n) 0)
theorem repB_iff {l : List Int} {n : Nat} : repB l n = true ↔ Rep l n := by
  unfold repB Rep
  rw [Bool.and_eq_true, decide_eq_true_iff, List.all_eq_true]
  refine and_congr_right fun _ => ⟨fun h i h1 h2 => ?_, fun h i hi => ?_⟩
  · have := h i (List.mem_range.2 h2)
    rw [Bool.or_eq_true, decide_eq_true_iff, decide_eq_true_iff] at this
    rcases this with h3 | h3
    · omega
    · exact h3
  · have h2 := List.mem_range.1 hi
    rw [Bool.or_eq_true, decide_eq_true_iff, decide_eq_true_iff]
    rcases Nat.lt_or_ge i n with h3 | h3
    · exact .inl h3
    · exact .inr (h i h3 h2)
/-- one lasso is the normal one of another -/
def nfB (s l t m : List Int) : Bool := (decide (l ≠ []) && decide (m ≠ []) && ((List.range l.length).all fun n => decide (n = 0) || !repB l n)) && (decide (s = []) || decide (s.getD (s.length - 1) 0 ≠ l.getD (l.length - 1) 0)) &&
  (List.range (s.length + t.length + l.length + m.length)).all fun i => decide (wat s l i = wat t m i)
theorem nf_check {s l t m : List Int} (h : nfB s l t m = true) : nfD (t, m, ()) = (s, l, ()) := by
  unfold nfB at h
  simp only [Bool.and_eq_true, List.all_eq_true, Bool.or_eq_true, decide_eq_true_iff, List.mem_range, Bool.not_eq_true'] at h
  obtain ⟨⟨⟨⟨h1, h2⟩, h3⟩, h4⟩, h5⟩ := h
  refine nfD_eq (p := (s, l, ())) ⟨h1, fun n h0 hn hr => ?_, h4⟩ (agree_all h1 h2 (N := s.length + t.length + l.length + m.length) (by show s.length + l.length + m.length ≤ _; omega) (by show t.length + l.length + m.length ≤ _; omega) h5)
  rcases h3 n hn with h6 | h6
  · omega
  · rw [repB_iff.2 hr] at h6; simp at h6
theorem hd1 : normD ([1, 2], [3, 2, 3, 2], ()) = ([1], [2, 3], ()) := by
  unfold normD
  rw [if_pos (by decide)]
  exact nf_check (by decide)
theorem hd2 : sufD ([1], [2, 3], ()) 2 = ([], [3, 2], ()) := by
  unfold sufD
  rw [if_neg (by decide), if_pos (by decide)]
  exact nf_check (by decide)
theorem hd3 : pushD [2, 3] ([], [2, 3], ()) = ([], [2, 3], ()) := by
  unfold pushD
  rw [if_pos (by decide)]
  have : nfD ([2, 3] ++ [], [2, 3], ()) = ([], [2, 3], ()) := nf_check (by decide)
  rw [this]
  rfl
theorem hd4 : zipD ([], [0, 1], ()) ([], [0, 0, 1], ()) [[0, 1], [1, 0]] = ([], [0, 1, 1, 1, 0, 0], ()) := by
  unfold zipD
  rw [if_pos (by decide)]
  have : nfD (List.take (zMX ([], [0, 1], ()) ([], [0, 0, 1], ())) (zsD ([], [0, 1], ()) ([], [0, 0, 1], ()) [[0, 1], [1, 0]] (zN ([], [0, 1], ()) ([], [0, 0, 1], ()))), List.drop (zMX ([], [0, 1], ()) ([], [0, 0, 1], ())) (zsD ([], [0, 1], ()) ([], [0, 0, 1], ()) [[0, 1], [1, 0]] (zN ([], [0, 1], ()) ([], [0, 0, 1], ()))), ()) = ([], [0, 1, 1, 1, 0, 0], ()) := nf_check (by decide)
  rw [this]
  rfl
theorem hd5 : zipD ([], [0], ()) ([], [1], ()) [[0]] = ([], [], ()) := by
  unfold zipD
  rw [if_neg (by decide)]
theorem hd6 : sameD ([1], [2, 3], ()) ([1, 2, 3], [2, 3], ()) = true := by
  unfold sameD
  rw [nf_check (s := [1]) (l := [2, 3]) (t := [1]) (m := [2, 3]) (by decide), nf_check (s := [1]) (l := [2, 3]) (t := [1, 2, 3]) (m := [2, 3]) (by decide)]
  rfl
theorem hd7 : sameD ([1], [2, 3], ()) ([], [2, 3], ()) = false := by
  unfold sameD
  rw [nf_check (s := [1]) (l := [2, 3]) (t := [1]) (m := [2, 3]) (by decide), nf_check (s := []) (l := [2, 3]) (t := []) (m := [2, 3]) (by decide)]
  rfl
theorem hd8 : sameD ([], [], ()) ([], [], ()) = false := by
  unfold sameD
  rw [show formedD ([], [], ()) = false from rfl]
  rfl
theorem CallP.to_ {P : Program} {T : Tab} {f : FuncId} {xs : List AV} {rt : Ty} {r r' : rt.T} (h : CallP P T f xs rt r) (e : r = r') : CallP P T f xs rt r' := e ▸ h
theorem cp_head : CallP Try.prog tT 10 [] .bool true := by
  refine sf10 true fun R hR => ⟨_, cp_lasso _ _, _, cp_lasso _ _, _, (cp_Normal _).to_ hd1, _, cp_Equal _ _, _, fun _ => (cp_Suffix _ _).to_ hd2, _, fun _ => cp_lasso _ _, _, fun _ => cp_Equal _ _, _, fun _ _ => cp_lasso _ _, _, fun _ _ => (cp_Push [2, 3] _ (by decide)).to_ hd3, _, fun _ _ => cp_lasso _ _, _, fun _ _ => cp_Equal _ _, _, fun _ _ _ => cp_At _ _, _, fun _ _ _ _ => cp_At _ _, _, cp_lasso _ _, _, cp_lasso _ _, _, (cp_Zip _ _ _).to_ hd4, _, cp_lasso _ _, _, cp_Equal _ _, _, fun _ => cp_lasso _ _, _, fun _ => cp_lasso _ _, _, fun _ => (cp_Zip _ _ _).to_ hd5, _, fun _ _ => cp_lasso _ _, _, fun _ _ => (cp_Same _ _).to_ hd6, _, fun _ _ _ => cp_lasso _ _, _, fun _ _ _ => (cp_Same _ _).to_ hd7, _, fun _ _ _ _ => (cp_Same _ _).to_ hd8,
    _, fun _ _ _ _ _ _ _ _ _ _ => cp_Valid _ _, _, fun _ _ _ _ _ _ _ _ _ _ _ => cp_Valid _ _, _, fun _ _ _ _ _ _ _ _ _ _ _ _ => cp_lasso _ _, _, fun _ _ _ _ _ _ _ _ _ _ _ _ => cp_Valid _ _, _, fun _ _ _ _ _ _ _ _ _ _ _ _ _ => cp_Prefix _ _, _, fun _ _ _ _ _ _ _ _ _ _ _ _ _ => cp_Ints _ _, _, fun _ _ _ _ _ _ _ _ _ _ _ _ _ _ => cp_Prefix _ _, (hR _).2 ?_⟩
  decide
end Go.Proofs.Ytblibehfjjgdeaa
