/-
  Lassos: the laws of normal lassos and of equal words.
-/
import Derived.Test.YtblibehfjjgdeaaQs
namespace Go.Proofs.Ytblibehfjjgdeaa
open Go.RowKit Word

theorem cp_Normal_law (w : lassoT.T) : CallP Try.prog tT 4 [.d lassoT w] .bool true := by
  refine sf4 w true fun R hR ww => ⟨_, cp_head, _, cp_Normal w, _, cp_Formed w, fun hf => ⟨fun _ => ?_, (hR _).2 ?_⟩, fun hf => ?_⟩
  · have : normD w = ([], [], ()) := by unfold normD; rw [if_neg (by rw [hf]; simp)]
    rw [this]; exact inK64 (by decide) (by decide)
  · have : normD w = ([], [], ()) := by unfold normD; rw [if_neg (by rw [hf]; simp)]
    rw [this]; rfl
  · have hl := formed_loop hf
    obtain ⟨h1, h2, h3, h4⟩ := nfD_spec hl
    have hn := formed_nfD hf
    have hi := nfD_idem hl
    rw [normD_formed hf]
    obtain ⟨l1, l2, l3, _⟩ := formed_parts hn
    generalize nfD w = v at *
    obtain ⟨s, l, u⟩ := v
    simp only at h1 h2 h3 h4 l1 l2 l3
    dsimp only
    refine ⟨_, cp_Formed _, true, fun _ => cp_agree _ _ _ _ ⟨fun _ i _ => ?_, fun _ => rfl⟩, _, fun _ _ _ _ => cp_Normal _, true, fun _ _ _ _ => ?_, fun h => ?_, fun _ _ _ _ _ => ?_⟩
    · show atD w (i : Int) = atD (s, l, ()) (i : Int)
      rw [atD_nat hf, atD_nat hn]
      exact (h2 i).symm
    · exact (cp_Equal (normD (s, l, ())) (s, l, ())).to_ (decide_eq_true (by rw [normD_formed hn]; exact hi))
    · exfalso
      rcases h with (((h | h) | h) | h) | h
      · have : formedD (s, l, ()) = false := h
        rw [hn] at this; simp at this
      · simp at h
      · omega
      · omega
      · simp at h
    · refine ⟨fun x => ∃ k : Nat, x.1 = k ∧ 0 < k, fun x => l.length - x.1.toNat, ⟨1, rfl, by omega⟩, ?_⟩
      rintro ⟨kz, u1⟩ _ ⟨k, e1, hk⟩
      simp only at e1
      subst e1
      refine ⟨fun hlt => ?_, fun hlt => ?_⟩
      · have hlt : (k : Int) < l.length := hlt
        refine ⟨⟨by omega, by show (0 : Int) < (k : Int); omega⟩, fun x => ∃ i : Nat, x.2.1 = i ∧ k ≤ i ∧ i ≤ l.length ∧ (x.1 = true → l.length % k = 0 ∧ ∀ j, k ≤ j → j < i → l.getD j 0 = l.getD (j - k) 0), fun x => l.length - x.2.1.toNat, ⟨k, rfl, Nat.le_refl _, by omega, fun h => ⟨?_, fun j h5 h6 => by omega⟩⟩, ?_⟩
        · have : ((l.length : Nat) : Int) % (k : Int) = 0 := of_decide_eq_true h
          rw [emod_nat] at this
          omega
        · rintro ⟨rp, iz, u2⟩ _ ⟨i, e1, hki, hil, hinv⟩
          simp only at e1 hinv
          subst e1
          simp only [Int.toNat_natCast]
          refine ⟨fun hlt2 => ?_, fun hlt2 => ⟨fun h => ?_, fun _ => ⟨inK64 (by omega) (by omega), ⟨k + 1, by simp, by omega⟩, ?_⟩⟩⟩
          · have hlt2 : (i : Int) < l.length := hlt2
            have e2 : Int.toNat ((i : Int) - (k : Int)) = i - k := by omega
            simp only [e2]
            refine ⟨fun _ => by omega, fun _ => inK64 (by omega) (by omega), fun _ => ⟨by omega, by omega⟩, inK64 (by omega) (by omega), ⟨i + 1, by simp, by omega, by omega, fun h => ?_⟩, ?_⟩
            · obtain ⟨h6, h7⟩ := selB_at h
              obtain ⟨h8, h9⟩ := hinv h6
              refine ⟨h8, fun j h10 h11 => ?_⟩
              rcases Nat.lt_or_ge j i with h12 | h12
              · exact h9 j h10 h12
              · have : j = i := by omega
                subst this
                exact of_decide_eq_true h7
            · show l.length - Int.toNat ((i : Int) + 1) < l.length - Int.toNat (i : Int)
              omega
          · exfalso
            have hlt2 : ((l.length : Nat) : Int) ≤ (i : Int) := hlt2
            obtain ⟨h6, h7⟩ := hinv h
            exact h1.prim k hk (by omega) ⟨h6, fun j h8 h9 => h7 j h8 (by omega)⟩
          · show l.length - Int.toNat ((k : Int) + 1) < l.length - Int.toNat (k : Int)
            omega
      · have e0 : (0 : Int) < (l.length : Int) := by omega
        refine ⟨fun _ h => ?_, fun _ h => ?_, fun _ h => inK64 (by omega) (by omega), fun _ h => ⟨by omega, by omega⟩, (hR _).2 ?_⟩
        · have h : ¬ ((s.length : Nat) : Int) = 0 := h
          exact inK64 (by omega) (by omega)
        · have h : ¬ ((s.length : Nat) : Int) = 0 := h
          exact ⟨by omega, by omega⟩
        · by_cases h0 : ((s.length : Nat) : Int) = 0
          · show selB (decide (((s.length : Nat) : Int) = 0)) true _ = true
            rw [decide_eq_true h0]; rfl
          · show selB (decide (((s.length : Nat) : Int) = 0)) true (!decide (s.getD (Int.toNat (((s.length : Nat) : Int) - 1)) 0 = l.getD (Int.toNat (((l.length : Nat) : Int) - 1)) 0)) = true
            have e3 : Int.toNat (((s.length : Nat) : Int) - 1) = s.length - 1 := by omega
            have e4 : Int.toNat (((l.length : Nat) : Int) - 1) = l.length - 1 := by omega
            rw [decide_eq_false h0, e3, e4]
            rcases h1.last with h5 | h5
            · exact absurd (by rw [h5]; rfl) h0
            · rw [decide_eq_false h5]; rfl
theorem cp_Same_law (a b : lassoT.T) : CallP Try.prog tT 5 [.d lassoT a, .d lassoT b] .bool true := by
  refine sf5 a b true fun R hR _ _ => ⟨_, cp_head, _, cp_Formed a, _, fun _ => cp_Formed b, fun hf => ⟨_, fun _ => cp_Same _ _, _, fun _ _ => cp_Same _ _, (hR _).2 ?_⟩, fun ha hb => ⟨_, cp_Same _ _, sameD a b, fun _ => cp_agree _ _ _ _ ?_, _, fun _ _ => cp_Normal _, _, fun _ _ => cp_Normal _, _, fun _ _ => cp_Equal _ _, _, fun _ _ _ => cp_Same _ _, _, fun _ _ _ _ => cp_Normal _, _, fun _ _ _ _ => cp_Same _ _, (hR _).2 ?_⟩⟩
  · have h1 : sameD a b = false := by unfold sameD; rcases hf with h | h <;> rw [h] <;> simp
    have h2 : sameD b a = false := by unfold sameD; rcases hf with h | h <;> rw [h] <;> simp
    rw [h1, h2]; rfl
  · rw [sameD_iff ha hb]
    obtain ⟨a1, a2, a3, _⟩ := formed_parts ha
    obtain ⟨b1, b2, b3, _⟩ := formed_parts hb
    constructor
    · intro h i _
      rw [atD_nat ha, atD_nat hb]; exact h i
    · intro h
      refine agree_all (formed_loop ha) (formed_loop hb) (N := 140) (by omega) (by omega) fun i hi => ?_
      have := h i (by show (i : Int) < 140; omega)
      rwa [atD_nat ha, atD_nat hb] at this
  · have hn := formed_nfD ha
    have e1 : sameD b a = sameD a b := by
      rw [Bool.eq_iff_iff, sameD_iff ha hb, sameD_iff hb ha]
      exact ⟨fun h i => (h i).symm, fun h i => (h i).symm⟩
    have e2 : sameD a (nfD a) = true := by
      rw [sameD_formed ha hn, nfD_idem (formed_loop ha)]; simp
    rw [normD_formed ha, normD_formed hb, e1, e2, sameD_formed ha hb]
    cases decide (nfD a = nfD b) <;> rfl
end Go.Proofs.Ytblibehfjjgdeaa
