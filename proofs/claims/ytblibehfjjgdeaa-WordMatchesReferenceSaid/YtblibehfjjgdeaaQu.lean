/-
  Lassos: the laws of suffixes, prefixes and pushed words.
-/
import Derived.Test.YtblibehfjjgdeaaQt
namespace Go.Proofs.Ytblibehfjjgdeaa
open Go.RowKit Word

theorem eq_law {a b : lassoT.T} (h : a = b) : decide (a = b) = true := decide_eq_true h
theorem sameD_eq {a b : lassoT.T} (ha : formedD a = true) (hb : formedD b = true) (h : ∀ i, wat a.1 a.2.1 i = wat b.1 b.2.1 i) : sameD a b = true := (sameD_iff ha hb).2 h
theorem sufD_suf {w : lassoT.T} (h : formedD w = true) (n m : Nat) : sufD (sufD w n) m = sufD w (n + m : Nat) := by
  obtain ⟨h1, h2, _⟩ := sufD_formed h n
  obtain ⟨q, e1, hq, w1⟩ := sufD_spec h1 m
  obtain ⟨q', e2, hq', w2⟩ := sufD_spec h (n + m)
  rw [e1, e2]
  exact (nfD_iff (formed_loop hq) (formed_loop hq')).2 fun i => by rw [w1, w2, h2]; congr 1; omega
theorem cp_Suffix_law (w : lassoT.T) (n m : Int) : CallP Try.prog tT 6 [.d lassoT w, .d intT n, .d intT m] .bool true := by
  refine sf6 w n m true fun R hR _ _ _ => ⟨_, cp_head, _, cp_Formed w, fun hf => ⟨_, fun _ _ => cp_Formed w, _, fun _ _ => cp_Suffix w n, (hR _).2 ?_⟩, fun hf hn hm hn1 hm1 => ?_⟩
  · by_cases h0 : n < 0
    · rw [decide_eq_false (by omega : ¬ 0 ≤ n), sufD_bad (.inl h0)]; rfl
    · rw [decide_eq_true (by omega : 0 ≤ n)]
      cases hq : formedD w with
      | true => rfl
      | false => rw [sufD_bad (.inr hq)]; rfl
  · obtain ⟨k, rfl⟩ := Int.eq_ofNat_of_zero_le hn
    obtain ⟨j, rfl⟩ := Int.eq_ofNat_of_zero_le hm
    obtain ⟨h1, h2, h3⟩ := sufD_formed hf k
    have hk1 : ((k : Nat) : Int) ≤ 1000 := hn1
    have hj1 : ((j : Nat) : Int) ≤ 1000 := hm1
    refine ⟨_, cp_Suffix w k, fun x => ∃ i : Nat, x.1 = i, fun x => 120 - x.1.toNat, ⟨0, rfl⟩, ?_⟩
    rintro ⟨iz, u⟩ _ ⟨i, e1⟩
    simp only at e1
    subst e1
    have ek : ((k : Nat) : Int) + ((j : Nat) : Int) = ((k + j : Nat) : Int) := by omega
    refine ⟨fun hlt => ⟨_, cp_At _ _, inK64 (by omega) (by omega), _, cp_At _ _, fun hne => ?_, fun _ => ⟨inK64 (by omega) (by omega), ⟨i + 1, by simp⟩, ?_⟩⟩, fun _ => ⟨_, fun _ => cp_Suffix _ _, fun _ => inK64 (by omega) (by omega), _, fun _ => cp_Suffix _ _, _, fun _ => cp_Equal _ _, _, fun _ _ => cp_Suffix _ _, _, fun _ _ => cp_Same _ _, (hR _).2 ?_⟩⟩
    · refine absurd ?_ hne
      show atD (sufD w k) (i : Int) = atD w ((k : Int) + (i : Int))
      have e2 : ((k : Nat) : Int) + ((i : Nat) : Int) = ((k + i : Nat) : Int) := by omega
      rw [e2, atD_nat h1, atD_nat hf]
      exact h2 i
    · show 120 - Int.toNat ((i : Int) + 1) < 120 - Int.toNat (i : Int)
      omega
    · show selB (selB true (decide (sufD (sufD w k) j = sufD w ((k : Int) + (j : Int)))) false) (sameD (sufD w 0) w) false = true
      obtain ⟨g1, g2, _⟩ := sufD_formed hf 0
      rw [ek, sufD_suf hf, decide_eq_true rfl, sameD_eq (a := sufD w 0) g1 hf fun i => by
        have := g2 i
        rw [Nat.zero_add] at this
        exact this]
      rfl
theorem pushD_spec {l : List Int} {w : lassoT.T} (h : formedD (pushD l w) = true) : formedD w = true ∧ l.all letterD = true ∧ pushD l w = nfD (l ++ w.1, w.2.1, ()) := by
  unfold pushD at h ⊢
  by_cases hc : formedD w = true ∧ l.all letterD = true
  · rw [if_pos hc] at h ⊢
    refine ⟨hc.1, hc.2, ?_⟩
    unfold keptD at h ⊢
    by_cases hk : formedD (nfD (l ++ w.1, w.2.1, ())) = true
    · rw [if_pos hk]
    · rw [if_neg hk] at h
      exact absurd h (by decide)
  · rw [if_neg hc] at h
    exact absurd h (by decide)
theorem pushD_def (l : List Int) (w : lassoT.T) : pushD l w = if formedD w = true ∧ l.all letterD = true then keptD (nfD (l ++ w.1, w.2.1, ())) else ([], [], ()) := rfl
theorem pushD_loop {l : List Int} {w : lassoT.T} : (pushD l w).2.1 ≠ [] → formedD (pushD l w) = true := by
  unfold pushD
  by_cases hc : formedD w = true ∧ l.all letterD = true
  · rw [if_pos hc]
    unfold keptD
    by_cases hk : formedD (nfD (l ++ w.1, w.2.1, ())) = true
    · rw [if_pos hk]; exact fun _ => hk
    · rw [if_neg hk]; exact fun h => absurd rfl h
  · rw [if_neg hc]; exact fun h => absurd rfl h
/-- pushing within bounds -/
theorem pushD_eq {l : List Int} {w v : lassoT.T} (hw : formedD w = true) (hl : l.all letterD = true) (hv : formedD v = true) (h : ∀ i, wat v.1 v.2.1 i = wat (l ++ w.1) w.2.1 i) : pushD l w = nfD v := by
  unfold pushD
  rw [if_pos ⟨hw, hl⟩]
  have e := nfD_congr (b := (l ++ w.1, w.2.1, ())) (formed_loop hv) h
  rw [e]
  exact keptD_formed (formed_nfD hv)
theorem cp_Prefix_law (w : lassoT.T) (n : Int) : CallP Try.prog tT 7 [.d lassoT w, .d intT n] .bool true := by
  refine sf7 w n true fun R hR _ _ => ⟨_, cp_head, _, cp_Prefix w n, _, cp_Formed w, fun hf => (hR _).2 ?_, fun hf hn hn5 => ?_⟩
  · have : prefD w n = [] := by
      unfold prefD
      rw [if_pos]
      rcases hf with (h | h) | h
      · exact .inr (.inr h)
      · exact .inl h
      · exact .inr (.inl h)
    rw [this]; rfl
  · obtain ⟨k, rfl⟩ := Int.eq_ofNat_of_zero_le hn
    have e : prefD w k = takeD w k := by
      unfold prefD
      rw [if_neg (by rw [hf]; simp; omega), Int.toNat_natCast]
    rw [e]
    have hk5 : ((k : Nat) : Int) ≤ 500 := hn5
    obtain ⟨h1, h2, h3⟩ := sufD_formed hf k
    simp only [takeD_len]
    refine ⟨fun h => absurd trivial h, fun _ => ⟨fun x => ∃ i : Nat, x.1 = i, fun x => k - x.1.toNat, ⟨0, rfl⟩, ?_⟩⟩
    rintro ⟨iz, u⟩ _ ⟨i, e1⟩
    simp only at e1
    subst e1
    simp only [Int.toNat_natCast]
    refine ⟨fun hlt => ⟨⟨by omega, hlt⟩, _, cp_At _ _, fun hne => absurd ?_ hne, fun _ => ⟨inK64 (by omega) (by omega), ⟨i + 1, by simp⟩, ?_⟩⟩, fun _ => ⟨_, fun _ => cp_Suffix _ _, _, fun _ => cp_Push _ _ (by rw [takeD_len]; omega), _, fun _ => cp_Normal _, _, fun _ => cp_Equal _ _, (hR _).2 ?_⟩⟩
    · rw [takeD_at (by omega : i < k), atD_nat hf]
    · show k - Int.toNat ((i : Int) + 1) < k - i
      omega
    · show decide (pushD (takeD w k) (sufD w k) = normD w) = true
      rw [normD_formed hf]
      refine decide_eq_true (pushD_eq h1 (takeD_letters hf k) hf fun i => ?_)
      rw [wat_app, takeD_len]
      by_cases hi : i < k
      · rw [if_pos hi, takeD_at hi]
      · rw [if_neg hi, h2]; congr 1; omega
theorem cp_Push_law (a b : List Int) (w : lassoT.T) : CallP Try.prog tT 8 [.d intsT a, .d intsT b, .d lassoT w] .bool true := by
  refine sf8 a b w true fun R hR _ _ _ => ⟨_, cp_head, _, fun _ _ => cp_short80 w, fun _ => (hR _).2 rfl, fun ha hb hs => ?_⟩
  have ha : a.length ≤ 80 := by omega
  have hb : b.length ≤ 80 := by omega
  have hr6 : ∀ (hx : formedD (pushD a w) = true), prefD (pushD a w) (a.length : Nat) = a ∧ sameD (sufD (pushD a w) (a.length : Nat)) w = true := by
    intro hx
    obtain ⟨hw, hl, e⟩ := pushD_spec hx
    have hwl : ∀ i, wat (pushD a w).1 (pushD a w).2.1 i = wat (a ++ w.1) w.2.1 i := by
      rw [e]; exact (nfD_spec (w := (a ++ w.1, w.2.1, ())) (formed_loop (w := w) hw)).2.1
    obtain ⟨h1, h2, h3⟩ := sufD_formed hx a.length
    constructor
    · unfold prefD
      rw [if_neg (by rw [hx]; simp; omega), Int.toNat_natCast]
      exact list_of_wat rfl fun i hi => by rw [hwl, wat_app, if_pos hi]
    · exact sameD_eq h1 hw fun i => by
        rw [h2, hwl, wat_app, if_neg (by omega)]; congr 1; omega
  refine ⟨_, cp_Push a w (by omega), _, fun _ => cp_Prefix _ _, _, fun _ => cp_Ints _ _, _, fun _ _ => cp_Suffix _ _, _, fun _ _ => cp_Same _ _, fun hlt hbad => ?_, fun _ => ?_⟩
  · exfalso
    have hx := pushD_loop (l := a) (w := w) (List.length_pos_iff.1 (by omega))
    obtain ⟨e1, e2⟩ := hr6 hx
    rcases hbad with h | h
    · rw [show decide (prefD ((pushD a w).1, (pushD a w).2.1, ()) ((a.length : Nat) : Int) = a) = true from decide_eq_true e1] at h
      simp at h
    · rw [show sameD (sufD ((pushD a w).1, (pushD a w).2.1, ()) ((a.length : Nat) : Int)) w = true from e2] at h
      simp at h
  · refine ⟨_, cp_Push b w (by omega), by simp; omega, by simp; omega, _, cp_Push (([] ++ a) ++ b) w (by simp; omega), _, fun _ _ => cp_Push a _ (by omega), _, fun _ _ => cp_Equal _ _, (hR _).2 ?_⟩
    show selB (selB true (selB (decide ((((pushD b w).2.1.length : Nat) : Int) = 0)) true (decide (pushD a (pushD b w) = pushD (([] ++ a) ++ b) w))) false) (selB (decide ((((pushD (([] ++ a) ++ b) w).2.1.length : Nat) : Int) = 0)) true (decide ((0 : Int) < (((pushD b w).2.1.length : Nat) : Int)))) false = true
    rw [List.nil_append]
    have key1 : ¬ ((((pushD b w).2.1.length : Nat) : Int) = 0) → pushD a (pushD b w) = pushD (a ++ b) w := by
      intro h
      have hy := pushD_loop (l := b) (w := w) (List.length_pos_iff.1 (by omega))
      obtain ⟨hw, hl, e⟩ := pushD_spec hy
      have hwl : ∀ i, wat (pushD b w).1 (pushD b w).2.1 i = wat (b ++ w.1) w.2.1 i := by
        rw [e]; exact (nfD_spec (w := (b ++ w.1, w.2.1, ())) (formed_loop (w := w) hw)).2.1
      rw [pushD_def a (pushD b w), pushD_def (a ++ b) w]
      by_cases hal : a.all letterD = true
      · rw [if_pos ⟨hy, hal⟩, if_pos ⟨hw, by rw [List.all_append, hal]; exact hl⟩]
        congr 1
        refine nfD_congr (a := (a ++ b ++ w.1, w.2.1, ())) (formed_loop (w := w) hw) fun i => ?_
        show wat (a ++ b ++ w.1) w.2.1 i = wat (a ++ (pushD b w).1) (pushD b w).2.1 i
        rw [wat_app (a := a) (s := (pushD b w).1), List.append_assoc, wat_app (a := a)]
        by_cases hi : i < a.length
        · rw [if_pos hi, if_pos hi]
        · rw [if_neg hi, if_neg hi, hwl]
      · rw [if_neg (fun h => hal h.2), if_neg (fun h => hal (by have := h.2; rw [List.all_append] at this; exact (and_at this).1))]
    have key2 : ¬ ((((pushD (a ++ b) w).2.1.length : Nat) : Int) = 0) → (0 : Int) < (((pushD b w).2.1.length : Nat) : Int) := by
      intro h
      have hx := pushD_loop (l := a ++ b) (w := w) (List.length_pos_iff.1 (by omega))
      obtain ⟨hw, hl, e⟩ := pushD_spec hx
      have hwl : ∀ i, wat (pushD (a ++ b) w).1 (pushD (a ++ b) w).2.1 i = wat (a ++ b ++ w.1) w.2.1 i := by
        rw [e]; exact (nfD_spec (w := (a ++ b ++ w.1, w.2.1, ())) (formed_loop (w := w) hw)).2.1
      obtain ⟨h1, h2, h3⟩ := sufD_formed hx a.length
      have hbl : b.all letterD = true := by rw [List.all_append] at hl; exact (and_at hl).2
      have e2 : pushD b w = nfD (sufD (pushD (a ++ b) w) (a.length : Nat)) := pushD_eq hw hbl h1 fun i => by
        rw [h2, hwl, List.append_assoc, wat_app (a := a), if_neg (by omega)]; congr 1; omega
      rw [e2, h3]
      have := (formed_parts h1).2.1
      omega
    by_cases c1 : (((pushD b w).2.1.length : Nat) : Int) = 0
    · rw [decide_eq_true c1]
      by_cases c2 : (((pushD (a ++ b) w).2.1.length : Nat) : Int) = 0
      · rw [decide_eq_true c2]; rfl
      · exact absurd (key2 c2) (by omega)
    · rw [decide_eq_false c1, decide_eq_true (key1 c1), decide_eq_true (by omega : (0 : Int) < (((pushD b w).2.1.length : Nat) : Int))]
      cases decide ((((pushD (a ++ b) w).2.1.length : Nat) : Int) = 0) <;> rfl
end Go.Proofs.Ytblibehfjjgdeaa
