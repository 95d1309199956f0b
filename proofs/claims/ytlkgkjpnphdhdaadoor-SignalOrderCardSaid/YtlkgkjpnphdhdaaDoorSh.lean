/-
  Signals: the laws.
-/
import Derived.Test.YtlkgkjpnphdhdaaDoorSg
namespace Go.Proofs.YtlkgkjpnphdhdaaDoor
open Go.RowKit Sg

theorem cp_Matches_law (l : List Sig) (name : List UInt8) (letter i : Int) (vals : List Int) (a o : Int) : CallP Tryd.prog tT 3 [.d sigsT l, .d .str name, .d intT letter, .d intT i, .d intsT vals, .d intT a, .d intT o] .bool true := by
  refine sf3 l name letter i vals a o true fun R hR _ _ _ _ _ _ _ => ⟨_, cp_head, _, cp_Small l, fun _ => (hR _).2 rfl, fun _ _ _ => ⟨_, cp_Make _ _, _, cp_rMake _ _, _, cp_Valid _, _, cp_rValid _, _, fun _ => cp_Name _, _, fun _ => cp_rName _, _, fun _ _ => cp_Find _ _, _, fun _ _ => cp_rFind _ _, _, fun _ _ _ => cp_Letters _, _, fun _ _ _ => cp_rLetters _, _, fun _ _ _ _ => cp_Inputs _, _, fun _ _ _ _ => cp_rInputs _, _, fun _ _ _ _ _ => cp_Outputs _, _, fun _ _ _ _ _ => cp_rOutputs _,
    _, cp_Value _ _ _, _, cp_rValue _ _ _, _, fun _ _ _ => cp_HIn _ _, _, fun _ _ _ => cp_rHIn _ _, _, fun _ _ _ _ => cp_HOut _ _, _, fun _ _ _ _ => cp_rHOut _ _, _, fun _ _ _ _ _ => cp_Join _ _ _, _, fun _ _ _ _ _ => cp_rJoin _ _ _, (hR _).2 ?_⟩⟩
  simp only [lettersD, sideD, decide_eq_true, beq_self_eq_true]
  rfl
theorem letters_eq {l : List Sig} (hv : ValidL l) : lettersD l = prodS (fun _ => true) l := by unfold lettersD cntD; rw [if_pos (valid_iff.2 hv)]
theorem side_eq {l : List Sig} (hv : ValidL l) (b : Bool) : sideD b l = prodS (fun x => inp x == b) l := by unfold sideD cntD; rw [if_pos (valid_iff.2 hv)]
theorem letters_two {l : List Sig} (hv : ValidL l) : 2 ≤ lettersD l := by
  rw [letters_eq hv]
  have h0 := hv.pos
  have hs := hv.szs
  cases l with
  | nil => simp at h0
  | cons x l =>
    have := prodS_pos (f := fun _ => true) hs.tail
    simp only [prodS, if_true]
    rcases two_to_four hs.head with e | e | e <;> rw [e] <;> omega
theorem half_in {l : List Sig} (hv : ValidL l) {a : Int} (h0 : 0 ≤ a) (h : a < lettersD l) (b : Bool) : 0 ≤ halfD b l a ∧ halfD b l a < sideD b l := by
  unfold halfD
  rw [vals_ok h0 h, side_eq hv]
  exact half_range hv.szs (digs_in hv.szs)
theorem join_of_half {l : List Sig} (hv : ValidL l) {a : Int} (h0 : 0 ≤ a) (h : a < lettersD l) : joinD l (halfD true l a) (halfD false l a) = a := by
  have h1 := half_in hv h0 h true
  have h2 := half_in hv h0 h false
  have e : joinD l (halfD true l a) (halfD false l a) = joinU l (halfD true l a) (halfD false l a) := by unfold joinD; exact if_pos ⟨h1, h2⟩
  rw [e, join_und]
  unfold halfD
  rw [vals_ok h0 h, join_half hv.szs (digs_in hv.szs)]
  rw [letters_eq hv] at h
  exact und_digs hv.szs h0 h
theorem half_of_join {l : List Sig} (hv : ValidL l) {i o : Int} (hi : 0 ≤ i ∧ i < sideD true l) (ho : 0 ≤ o ∧ o < sideD false l) : 0 ≤ joinD l i o ∧ joinD l i o < lettersD l ∧ halfD true l (joinD l i o) = i ∧ halfD false l (joinD l i o) = o := by
  have e : joinD l i o = und l (joinV l i o) := by unfold joinD; rw [if_pos ⟨hi, ho⟩, join_und]
  have hr := und_range hv.szs (joinV_in (i := i) (o := o) hv.szs)
  have hl : und l (joinV l i o) < lettersD l := by rw [letters_eq hv]; exact hr.2
  rw [e]
  refine ⟨hr.1, hl, ?_, ?_⟩
  · unfold halfD
    rw [vals_ok hr.1 hl, digs_und hv.szs (joinV_in hv.szs)]
    exact join_in hv.szs hi.1 (by have := hi.2; rwa [side_eq hv] at this)
  · unfold halfD
    rw [vals_ok hr.1 hl, digs_und hv.szs (joinV_in hv.szs)]
    exact join_out hv.szs ho.1 (by have := ho.2; rwa [side_eq hv] at this)
theorem cp_Pairs_law (l : List Sig) : CallP Tryd.prog tT 4 [.d sigsT l] .bool true := by
  refine sf4 l true fun R hR _ => ⟨_, cp_head, _, cp_Small l, _, fun _ => cp_Valid l, fun _ => (hR _).2 rfl, fun _ hv' => ?_⟩
  have hv := valid_iff.1 hv'
  have hl2 := letters_two hv
  have hl64 := letters_le l
  have hm := side_mul l
  have hs1 := side_le hv true
  have hs2 := side_le hv false
  rw [← side_eq hv] at hs1 hs2
  refine ⟨_, cp_Letters l, _, fun _ => cp_Inputs l, _, fun _ => cp_Outputs l, fun _ => ?_, fun h => ?_, fun _ _ _ => ?_⟩
  · show inK .i64 (sideD true l * sideD false l)
    rw [hm]; exact inK64 (by omega) (by omega)
  · exfalso
    have h : (64 < lettersD l ∨ ¬ lettersD l = sideD true l * sideD false l) ∨ lettersD l < 2 := h
    rcases h with (h | h) | h
    · omega
    · exact h hm.symm
    · omega
  · refine ⟨fun x => ∃ a : Nat, x.1 = a, fun x => (lettersD l - x.1).toNat, ⟨0, rfl⟩, ?_⟩
    rintro ⟨az, u⟩ _ ⟨a, e1⟩
    simp only at e1
    subst e1
    refine ⟨fun hlt => ⟨_, cp_HIn l _, _, cp_HOut l _, _, fun _ => cp_Inputs l, _, fun _ _ _ => cp_Outputs l, _, fun _ _ _ _ => cp_Join l _ _, fun hbad => ?_, fun _ _ _ _ _ => ⟨?_, ⟨a + 1, by simp⟩, ?_⟩⟩, fun _ => ?_⟩
    · exfalso
      have hlt : (a : Int) < lettersD l := hlt
      obtain ⟨g1, g2⟩ := half_in hv (by omega) hlt true
      obtain ⟨g3, g4⟩ := half_in hv (by omega) hlt false
      have g5 := join_of_half hv (by omega) hlt
      have hbad : (((halfD true l a < 0 ∨ sideD true l ≤ halfD true l a) ∨ halfD false l a < 0) ∨ sideD false l ≤ halfD false l a) ∨ ¬ joinD l (halfD true l a) (halfD false l a) = a := hbad
      rcases hbad with (((h | h) | h) | h) | h
      · omega
      · omega
      · omega
      · omega
      · exact h g5
    · have hlt : (a : Int) < lettersD l := hlt
      exact inK64 (by omega) (by omega)
    · have hlt : (a : Int) < lettersD l := hlt
      show (lettersD l - ((a : Int) + 1)).toNat < (lettersD l - (a : Int)).toNat
      omega
    · refine ⟨fun x => ∃ i : Nat, x.1 = i, fun x => (sideD true l - x.1).toNat, ⟨0, rfl⟩, ?_⟩
      rintro ⟨iz, u1⟩ _ ⟨i, e1⟩
      simp only at e1
      subst e1
      refine ⟨_, cp_Inputs l, fun hi => ?_, fun _ => (hR _).2 rfl⟩
      have hi : (i : Int) < sideD true l := hi
      refine ⟨fun x => ∃ o : Nat, x.1 = o, fun x => (64 - x.1).toNat, ⟨0, rfl⟩, ?_⟩
      rintro ⟨oz, u2⟩ _ ⟨o, e1⟩
      simp only at e1
      subst e1
      refine ⟨_, cp_Outputs l, fun ho h64 => ?_, fun _ => ⟨inK64 (by omega) (by omega), ⟨i + 1, by simp⟩, ?_⟩⟩
      · have ho : (o : Int) < sideD false l := ho
        obtain ⟨g1, g2, g3, g4⟩ := half_of_join hv (i := i) (o := o) ⟨by omega, hi⟩ ⟨by omega, ho⟩
        refine ⟨_, cp_Join l _ _, _, fun _ _ => cp_HIn l _, _, fun _ _ _ => cp_HOut l _, fun hbad => ?_, fun _ _ _ _ => ⟨inK64 (by omega) (by omega), ⟨o + 1, by simp⟩, ?_⟩⟩
        · exfalso
          have hbad : ((joinD l i o < 0 ∨ lettersD l ≤ joinD l i o) ∨ ¬ halfD true l (joinD l i o) = i) ∨ ¬ halfD false l (joinD l i o) = o := hbad
          rcases hbad with ((h | h) | h) | h
          · omega
          · omega
          · exact h g3
          · exact h g4
        · show (64 - ((o : Int) + 1)).toNat < (64 - (o : Int)).toNat
          have h64 : (o : Int) < 64 := h64
          omega
      · show (sideD true l - ((i : Int) + 1)).toNat < (sideD true l - (i : Int)).toNat
        omega
theorem make_digs {l : List Sig} (hv : ValidL l) {a : Int} (h0 : 0 ≤ a) (h : a < lettersD l) : makeD l (digs l a) = (a, true, ()) := by
  have hin : inB l (digs l a) = true := inB_iff.2 (digs_in hv.szs)
  unfold makeD
  rw [if_pos ⟨valid_iff.2 hv, hin⟩]
  rw [letters_eq hv] at h
  rw [und_digs hv.szs h0 h]
theorem cp_Values_law (l : List Sig) (vals : List Int) : CallP Tryd.prog tT 5 [.d sigsT l, .d intsT vals] .bool true := by
  refine sf5 l vals true fun R hR _ _ => ⟨_, cp_head, _, cp_Small l, _, fun _ => cp_Valid l, fun _ => (hR _).2 rfl, fun _ hv' _ => ?_⟩
  have hv := valid_iff.1 hv'
  have hfew := hv.few
  have hl2 := letters_two hv
  have hl64 := letters_le l
  refine ⟨_, cp_Letters l, fun h => ?_, fun _ => ?_⟩
  · exfalso
    have h : 64 < lettersD l := h
    omega
  · refine ⟨fun x => ∃ a : Nat, x.1 = a, fun x => (lettersD l - x.1).toNat, ⟨0, rfl⟩, ?_⟩
    rintro ⟨az, u⟩ _ ⟨a, e1⟩
    simp only at e1
    subst e1
    refine ⟨fun hlt => ?_, fun _ => ?_⟩
    · have hlt : (a : Int) < lettersD l := hlt
      have ev := valuesD_eq (l := l) (a := a) (by omega) hlt
      refine ⟨_, (cp_values l a (by omega)).to_ ev, _, (cp_Make l _).to_ (make_digs hv (by omega) hlt), fun hbad => ?_, fun _ _ => ?_⟩
      · exfalso
        rcases hbad with h | h
        · simp at h
        · exact h rfl
      · refine ⟨fun x => ∃ i : Nat, x.1 = i, fun x => l.length - x.1.toNat, ⟨0, rfl⟩, ?_⟩
        rintro ⟨iz, u1⟩ _ ⟨i, e1⟩
        simp only at e1
        subst e1
        simp only [Int.toNat_natCast, digs_len]
        refine ⟨fun hi => ⟨by omega, fun _ => hi, fun hbad => ?_, fun _ _ => ⟨inK64 (by omega) (by omega), ⟨i + 1, by simp⟩, ?_⟩⟩, fun _ => ⟨inK64 (by omega) (by omega), ⟨a + 1, by simp⟩, ?_⟩⟩
        · exfalso
          obtain ⟨g1, g2⟩ := (digs_in (a := a) hv.szs).at i (by omega)
          rcases hbad with h | h
          · omega
          · have h : sz (l.getD i s0) ≤ (digs l a).getD i 0 := h
            omega
        · show l.length - Int.toNat ((i : Int) + 1) < l.length - i
          omega
        · show (lettersD l - ((a : Int) + 1)).toNat < (lettersD l - (a : Int)).toNat
          omega
    · by_cases hin : inB l vals = true
      · have hr := inB_iff.1 hin
        obtain ⟨u0, u1⟩ := und_range hv.szs hr
        rw [← letters_eq hv] at u1
        have em : makeD l vals = (und l vals, true, ()) := by unfold makeD; rw [if_pos ⟨hv', hin⟩]
        have ev : valuesD l (und l vals) = vals := by rw [valuesD_eq u0 u1, digs_und hv.szs hr]
        refine ⟨_, (cp_Make l vals).to_ em, _, fun _ _ _ _ _ => (cp_values l _ (by omega)).to_ ev, _, fun _ _ _ _ _ => cp_Ints _ _, (hR _).2 ?_⟩
        show selB true (selB (selB (!true) (decide (und l vals = 0)) false) true (selB (selB (selB true (decide (0 ≤ und l vals)) false) (decide (und l vals < lettersD l)) false) (decide (vals = vals)) false)) false = true
        rw [decide_eq_true u0, decide_eq_true u1, decide_eq_true (rfl : vals = vals)]
        rfl
      · have em : makeD l vals = (0, false, ()) := by unfold makeD; rw [if_neg fun h => hin h.2]
        refine ⟨_, (cp_Make l vals).to_ em, [], fun _ _ h => absurd h (by simp), true, fun _ _ h => absurd h (by simp), (hR _).2 rfl⟩
theorem cp_Halves_law (l : List Sig) (ra rb : Int) : CallP Tryd.prog tT 6 [.d sigsT l, .d (.int .u8) ra, .d (.int .u8) rb] .bool true := by
  refine sf6 l ra rb true fun R hR _ wa wb => ⟨_, cp_head, _, cp_Small l, _, fun _ => cp_Valid l, fun _ => (hR _).2 rfl, fun _ hv' => ?_⟩
  have hv := valid_iff.1 hv'
  have hfew := hv.few
  have hl2 := letters_two hv
  have a0 : 0 ≤ ra := wa.1
  have a1 : ra ≤ 255 := wa.2
  have b0 : 0 ≤ rb := wb.1
  have b1 : rb ≤ 255 := wb.2
  refine ⟨_, cp_Letters l, fun h => ?_, fun _ => ⟨inK64 (by omega) (by omega), ⟨a0, ?_⟩, inK64 (by omega) (by omega), b0, ?_⟩⟩
  · exfalso
    have h : lettersD l < 1 := h
    omega
  · show 0 < lettersD l
    omega
  · show ∃ I : (Bool × Bool × Int × Unit) → Prop, _
    have qa : 0 ≤ ra % lettersD l ∧ ra % lettersD l < lettersD l := ⟨Int.emod_nonneg _ (by omega), Int.emod_lt_of_pos _ (by omega)⟩
    have qb : 0 ≤ rb % lettersD l ∧ rb % lettersD l < lettersD l := ⟨Int.emod_nonneg _ (by omega), Int.emod_lt_of_pos _ (by omega)⟩
    have ea : cntD (fun _ => true) l = lettersD l := rfl
    simp only [ea]
    generalize ra % lettersD l = a at qa
    generalize rb % lettersD l = b at qb
    refine ⟨fun x => ∃ i : Nat, x.2.2.1 = i ∧ i ≤ l.length ∧ (x.1 = true ↔ ∀ j, j < i → (inp (l.getD j s0) == true) = true → (digs l a).getD j 0 = (digs l b).getD j 0) ∧ (x.2.1 = true ↔ ∀ j, j < i → (inp (l.getD j s0) == false) = true → (digs l a).getD j 0 = (digs l b).getD j 0), fun x => l.length - x.2.2.1.toNat,
      ⟨0, rfl, Nat.zero_le _, ⟨fun _ j hj => absurd hj (Nat.not_lt_zero j), fun _ => rfl⟩, ⟨fun _ j hj => absurd hj (Nat.not_lt_zero j), fun _ => rfl⟩⟩, ?_⟩
    rintro ⟨ii, oo, iz, u⟩ _ ⟨i, e1, hil, h1, h2⟩
    simp only at e1 h1 h2
    subst e1
    simp only [Int.toNat_natCast]
    have ext : ∀ (p : Nat → Prop) (ok : Bool) (t : Prop) [Decidable t], (ok = true ↔ ∀ j, j < i → p j) → (p i ↔ t) → (selB ok (decide t) false = true ↔ ∀ j, j < i + 1 → p j) := by
      intro p ok t _ g1 g2
      constructor
      · intro g j hj
        obtain ⟨k1, k2⟩ := selB_at g
        rcases Nat.lt_or_ge j i with h6 | h6
        · exact g1.1 k1 j h6
        · have : j = i := by omega
          rw [this]; exact g2.2 (of_decide_eq_true k2)
      · intro g
        rw [g1.2 fun j hj => g j (by omega), decide_eq_true (g2.1 (g i (by omega)))]; rfl
    have stay : ∀ (p : Nat → Prop) (ok : Bool), (ok = true ↔ ∀ j, j < i → p j) → p i → (ok = true ↔ ∀ j, j < i + 1 → p j) := by
      intro p ok g1 g2
      rw [g1]
      constructor
      · intro g j hj
        rcases Nat.lt_or_ge j i with h6 | h6
        · exact g j h6
        · have : j = i := by omega
          rw [this]; exact g2
      · exact fun g j hj => g j (by omega)
    have hmu : (i : Int) < ((l.length : Nat) : Int) → l.length - Int.toNat ((i : Int) + 1) < l.length - i := fun _ => by omega
    refine ⟨fun hlt => ⟨_, (cp_Value l a i).to_ (valD_at qa.1 qa.2 i), _, (cp_Value l b i).to_ (valD_at qb.1 qb.2 i), by omega, fun g => ⟨inK64 (by omega) (by omega), ⟨i + 1, by simp, by omega, ext (fun j => (inp (l.getD j s0) == true) = true → (digs l a).getD j 0 = (digs l b).getD j 0) ii _ h1 ⟨fun k => k ?_, fun k _ => k⟩, stay (fun j => (inp (l.getD j s0) == false) = true → (digs l a).getD j 0 = (digs l b).getD j 0) oo h2 fun k => ?_⟩, hmu hlt⟩, fun g => ⟨inK64 (by omega) (by omega), ⟨i + 1, by simp, by omega, stay (fun j => (inp (l.getD j s0) == true) = true → (digs l a).getD j 0 = (digs l b).getD j 0) ii h1 fun k => ?_, ext (fun j => (inp (l.getD j s0) == false) = true → (digs l a).getD j 0 = (digs l b).getD j 0) oo _ h2 ⟨fun k => k ?_, fun k _ => k⟩⟩, hmu hlt⟩⟩, fun hge => ?_⟩
    · have g : inp (l.getD i s0) = true := g
      rw [g]; rfl
    · have g : inp (l.getD i s0) = true := g
      rw [g] at k; simp at k
    · have g : inp (l.getD i s0) = false := g
      rw [g] at k; simp at k
    · have g : inp (l.getD i s0) = false := g
      rw [g]; rfl
    · have hie : i = l.length := by omega
      subst hie
      have k1 := half_eq (b := true) hv.szs (digs_in (a := a) hv.szs) (digs_in (a := b) hv.szs)
      have k2 := half_eq (b := false) hv.szs (digs_in (a := a) hv.szs) (digs_in (a := b) hv.szs)
      refine ⟨_, fun _ => cp_HIn l a, _, fun _ => cp_HIn l b, _, fun _ _ => cp_HOut l a, _, fun _ _ => cp_HOut l b, (hR _).2 ?_⟩
      have e1 : ii = decide (halfD true l a = halfD true l b) := by
        rw [Bool.eq_iff_iff, decide_eq_true_iff, h1]
        unfold halfD
        rw [vals_ok qa.1 qa.2, vals_ok qb.1 qb.2, k1]
      have e2 : oo = decide (halfD false l a = halfD false l b) := by
        rw [Bool.eq_iff_iff, decide_eq_true_iff, h2]
        unfold halfD
        rw [vals_ok qa.1 qa.2, vals_ok qb.1 qb.2, k2]
      rw [e1, e2]
      simp [selB]
end Go.Proofs.YtlkgkjpnphdhdaaDoor
