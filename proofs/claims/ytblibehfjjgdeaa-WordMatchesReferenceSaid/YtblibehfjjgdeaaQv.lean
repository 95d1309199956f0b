/-
  Lassos: the law of zipped words; agreement with the reference.
-/
import Derived.Test.YtblibehfjjgdeaaQu
namespace Go.Proofs.Ytblibehfjjgdeaa
open Go.RowKit Word

theorem wat_per {s l : List Int} (k i m : Nat) (h : s.length ≤ k) : wat s l (k + i + l.length * m) = wat s l (k + i) := by
  have e1 : k + i + l.length * m = s.length + ((k + i - s.length) + l.length * m) := by omega
  have e2 : k + i = s.length + (k + i - s.length) := by omega
  rw [e1, wat_loop, rep_per.mul m]
  conv => rhs; rw [e2]
  rw [wat_loop]
/-- letters of both words are repeated behind both stems -/
theorem zip_per (a b : lassoT.T) (i : Nat) (h : zMX a b ≤ i) : wat a.1 a.2.1 i = wat a.1 a.2.1 (zMX a b + (i - zMX a b) % (a.2.1.length * b.2.1.length)) ∧ wat b.1 b.2.1 i = wat b.1 b.2.1 (zMX a b + (i - zMX a b) % (a.2.1.length * b.2.1.length)) := by
  have hm := Nat.mod_add_div (i - zMX a b) (a.2.1.length * b.2.1.length)
  have ha : a.1.length ≤ zMX a b := Nat.le_max_left _ _
  have hb : b.1.length ≤ zMX a b := Nat.le_max_right _ _
  generalize (i - zMX a b) % (a.2.1.length * b.2.1.length) = r at hm ⊢
  generalize (i - zMX a b) / (a.2.1.length * b.2.1.length) = d at hm
  have e1 : i = zMX a b + r + a.2.1.length * (b.2.1.length * d) := by rw [← Nat.mul_assoc]; omega
  have e2 : i = zMX a b + r + b.2.1.length * (a.2.1.length * d) := by rw [← Nat.mul_assoc, Nat.mul_comm b.2.1.length]; omega
  constructor
  · conv => lhs; rw [e1]
    exact wat_per _ _ _ ha
  · conv => lhs; rw [e2]
    exact wat_per _ _ _ hb
theorem zv_per (a b : lassoT.T) (t : List (List Int)) (i : Nat) (h : zMX a b ≤ i) : zvD a b t i = zvD a b t (zMX a b + (i - zMX a b) % (a.2.1.length * b.2.1.length)) ∧ zokD a b t i = zokD a b t (zMX a b + (i - zMX a b) % (a.2.1.length * b.2.1.length)) := by
  obtain ⟨h1, h2⟩ := zip_per a b i h
  unfold zvD zokD
  rw [h1, h2]
  exact ⟨rfl, rfl⟩
def zq (a b : lassoT.T) (t : List (List Int)) : lassoT.T := ((zsD a b t (zN a b)).take (zMX a b), (zsD a b t (zN a b)).drop (zMX a b), ())
theorem zsD_at {a b : lassoT.T} {t : List (List Int)} {n i : Nat} (h : i < n) : (zsD a b t n).getD i 0 = zvD a b t i := by
  simp [zsD, List.getD_eq_getElem?_getD, h]
theorem zq_wat {a b : lassoT.T} (ha : formedD a = true) (hb : formedD b = true) (t : List (List Int)) : (zq a b t).2.1 ≠ [] ∧ ∀ i, wat (zq a b t).1 (zq a b t).2.1 i = zvD a b t i := by
  obtain ⟨m1, m2, m3⟩ := zN_le ha hb
  have hN : zN a b = zMX a b + a.2.1.length * b.2.1.length := rfl
  have l1 : (zq a b t).1.length = zMX a b := by show ((zsD a b t (zN a b)).take (zMX a b)).length = _; rw [List.length_take, zsD_len]; omega
  have l2 : (zq a b t).2.1.length = a.2.1.length * b.2.1.length := by show ((zsD a b t (zN a b)).drop (zMX a b)).length = _; rw [List.length_drop, zsD_len]; omega
  refine ⟨List.length_pos_iff.1 (by omega), fun i => ?_⟩
  rcases Nat.lt_or_ge i (zMX a b) with h | h
  · rw [wat_stem (by omega)]
    show ((zsD a b t (zN a b)).take (zMX a b)).getD i 0 = _
    have : ((zsD a b t (zN a b)).take (zMX a b)).getD i 0 = (zsD a b t (zN a b)).getD i 0 := by simp [List.getD_eq_getElem?_getD, List.getElem?_take, h]
    rw [this, zsD_at (by omega)]
  · have e1 : i = (zq a b t).1.length + (i - zMX a b) := by omega
    rw [(zv_per a b t i h).1]
    conv => lhs; rw [e1]
    rw [wat_loop]
    have hm := Nat.mod_lt (i - zMX a b) m2
    unfold rep
    rw [l2]
    show ((zsD a b t (zN a b)).drop (zMX a b)).getD _ 0 = _
    have : ((zsD a b t (zN a b)).drop (zMX a b)).getD ((i - zMX a b) % (a.2.1.length * b.2.1.length)) 0 = (zsD a b t (zN a b)).getD (zMX a b + (i - zMX a b) % (a.2.1.length * b.2.1.length)) 0 := by simp [List.getD_eq_getElem?_getD]
    rw [this, zsD_at (by omega)]
theorem zok_all {a b : lassoT.T} (ha : formedD a = true) (hb : formedD b = true) {t : List (List Int)} (h : ∀ i, i < zN a b → zokD a b t i = true) (i : Nat) : zokD a b t i = true := by
  obtain ⟨m1, m2, m3⟩ := zN_le ha hb
  have hN : zN a b = zMX a b + a.2.1.length * b.2.1.length := rfl
  rcases Nat.lt_or_ge i (zMX a b) with h1 | h1
  · exact h i (by omega)
  · rw [(zv_per a b t i h1).2]
    have hm := Nat.mod_lt (i - zMX a b) m2
    exact h _ (by omega)
theorem zipD_ok {a b : lassoT.T} (ha : formedD a = true) (hb : formedD b = true) {t : List (List Int)} (h : ∀ i, zokD a b t i = true) {v : lassoT.T} (hv : formedD v = true) (hw : ∀ i, wat v.1 v.2.1 i = zvD a b t i) : zipD a b t = nfD v := by
  unfold zipD
  rw [if_pos ⟨ha, hb, fun i _ => h i⟩]
  have e : nfD (zq a b t) = nfD v := nfD_congr (formed_loop hv) fun i => (hw i).trans ((zq_wat ha hb t).2 i).symm
  show keptD (nfD (zq a b t)) = nfD v
  rw [e]
  exact keptD_formed (formed_nfD hv)
theorem zipD_loop {a b : lassoT.T} {t : List (List Int)} (h : (zipD a b t).2.1 ≠ []) : formedD a = true ∧ formedD b = true ∧ (∀ i, zokD a b t i = true) ∧ formedD (zipD a b t) = true ∧ ∀ i, wat (zipD a b t).1 (zipD a b t).2.1 i = zvD a b t i := by
  by_cases hc : formedD a = true ∧ formedD b = true ∧ ∀ i, i < zN a b → zokD a b t i = true
  · have e : zipD a b t = keptD (nfD (zq a b t)) := by unfold zipD; rw [if_pos hc]; rfl
    obtain ⟨ha, hb, hz⟩ := hc
    have hk : formedD (nfD (zq a b t)) = true := by
      rw [e] at h
      unfold keptD at h
      by_cases hk : formedD (nfD (zq a b t)) = true
      · exact hk
      · rw [if_neg hk] at h; exact absurd rfl h
    rw [keptD_formed hk] at e
    obtain ⟨q1, q2⟩ := zq_wat ha hb t
    refine ⟨ha, hb, zok_all ha hb hz, by rw [e]; exact hk, fun i => ?_⟩
    rw [e, (nfD_spec q1).2.1, q2]
  · exfalso
    apply h
    unfold zipD
    rw [if_neg hc]
theorem firstD_at {p : Int} (h0 : 0 ≤ p) (h : p < 64) : firstD.getD p.toNat [] = List.replicate 64 p := by
  have h1 : p.toNat < 64 := by omega
  have h2 : ((p.toNat : Nat) : Int) = p := by omega
  unfold firstD
  simp [List.getD_eq_getElem?_getD, h1, h2]
theorem firstD_tab {p q : Int} (hp : letterD p = true) (hq : letterD q = true) : tabD firstD p q = p ∧ tokD firstD p q = true := by
  obtain ⟨p0, p1⟩ := letter_parts hp
  obtain ⟨q0, q1⟩ := letter_parts hq
  have e : tabD firstD p q = p := by
    unfold tabD
    rw [firstD_at p0 p1]
    have : q.toNat < (List.replicate 64 p).length := by rw [List.length_replicate]; omega
    rw [getD_at' this]
    exact List.getElem_replicate _
  refine ⟨e, ?_⟩
  unfold tokD
  rw [e, hp, firstD_at p0 p1, decide_eq_true (show q < ((List.replicate 64 p).length : Nat) by rw [List.length_replicate]; omega), decide_eq_true (show p < (firstD.length : Nat) by show p < ((List.range 64).map _).length; rw [List.length_map, List.length_range]; omega)]
  rfl
theorem cp_Zip_law (a b : lassoT.T) (t : List (List Int)) (n : Int) : CallP Try.prog tT 9 [.d lassoT a, .d lassoT b, .d rowsT t, .d (.int .u8) n] .bool true := by
  refine sf9 a b t n true fun R hR _ _ _ wn => ⟨_, cp_head, _, cp_Formed a, _, fun _ => cp_Formed b, fun _ => (hR _).2 rfl, fun fa fb ht => ⟨_, cp_first, _, cp_Zip a b firstD, _, cp_Same _ _, fun hbad => ?_, fun _ => ⟨_, cp_Zip a b t, fun _ => (hR _).2 rfl, fun hl => ?_⟩⟩⟩
  · exfalso
    have hz : zipD a b firstD = nfD a := zipD_ok fa fb (fun i => (firstD_tab (wat_letter fa i) (wat_letter fb i)).2) fa fun i => (firstD_tab (wat_letter fa i) (wat_letter fb i)).1.symm
    have : sameD (zipD a b firstD) a = true := by
      rw [hz]
      exact sameD_eq (formed_nfD fa) fa (nfD_spec (formed_loop fa)).2.1
    rw [show sameD ((zipD a b firstD).1, (zipD a b firstD).2.1, ()) a = true from this] at hbad
    simp at hbad
  · have hl : ¬ ((((zipD a b t).2.1.length : Nat) : Int) = 0) := hl
    obtain ⟨_, _, hz, fz, hw⟩ := zipD_loop (a := a) (b := b) (t := t) (List.length_pos_iff.1 (by omega))
    have n0 : 0 ≤ n := wn.1
    have n1 : n ≤ 255 := wn.2
    refine ⟨fun x => ∃ i : Nat, x.1 = i, fun x => 200 - x.1.toNat, ⟨0, rfl⟩, ?_⟩
    rintro ⟨iz, u⟩ _ ⟨i, e1⟩
    simp only at e1
    subst e1
    refine ⟨fun hlt => ⟨_, cp_At _ _, _, cp_At _ _, _, fun _ _ _ _ => cp_At (zipD a b t) _, fun hbad => ?_, fun _ _ _ _ _ => ⟨inK64 (by omega) (by omega), ⟨i + 1, by simp⟩, ?_⟩⟩, fun _ => ⟨inK64 (by omega) (by omega), ⟨n0, by decide⟩, ?_⟩⟩
    · exfalso
      obtain ⟨h1, h2, h3⟩ := tokD_in (hz i)
      have p0 := (letter_parts (wat_letter fa i)).1
      have q0 := (letter_parts (wat_letter fb i)).1
      have hv := hw i
      simp only [atD_nat fa, atD_nat fb, atD_nat fz] at hbad
      rcases hbad with (((h | h) | h) | h) | h
      · omega
      · omega
      · omega
      · omega
      · exact h hv
    · show 200 - Int.toNat ((i : Int) + 1) < 200 - Int.toNat (i : Int)
      omega
    · obtain ⟨k, hk⟩ := Int.eq_ofNat_of_zero_le (show 0 ≤ n % 200 by omega)
      rw [hk]
      refine ⟨_, fun _ => cp_Suffix (zipD a b t) k, _, fun _ => cp_Suffix a k, _, fun _ => cp_Suffix b k, _, fun _ => cp_Zip _ _ _, _, fun _ => cp_Equal _ _, (hR _).2 ?_⟩
      obtain ⟨a1, a2, a3⟩ := sufD_formed fa k
      obtain ⟨b1, b2, b3⟩ := sufD_formed fb k
      obtain ⟨z1, z2, z3⟩ := sufD_formed fz k
      have hv : ∀ i, zvD (sufD a k) (sufD b k) t i = zvD a b t (k + i) := fun i => by unfold zvD; rw [a2, b2]
      have ho : ∀ i, zokD (sufD a k) (sufD b k) t i = zokD a b t (k + i) := fun i => by unfold zokD; rw [a2, b2]
      have e : zipD (sufD a k) (sufD b k) t = nfD (sufD (zipD a b t) k) := zipD_ok a1 b1 (fun i => by rw [ho]; exact hz _) z1 fun i => by rw [z2, hw, hv]
      rw [z3] at e
      show decide (sufD (zipD a b t) (k : Nat) = zipD (sufD a (k : Nat)) (sufD b (k : Nat)) t) = true
      rw [e]; exact decide_eq_true rfl
theorem cp_Matches_law (a b : lassoT.T) (letters i : Int) (l : List Int) (t : List (List Int)) : CallP Try.prog tT 3 [.d lassoT a, .d lassoT b, .d intT letters, .d intT i, .d intsT l, .d rowsT t] .bool true := by
  refine sf3 a b letters i l t true fun R hR _ _ _ _ _ _ => ⟨_, cp_head, _, cp_short80 a, _, fun _ => cp_short80 b, fun _ => (hR _).2 rfl, fun _ _ hl _ => ?_⟩
  have hl : l.length ≤ 80 := by omega
  refine ⟨_, cp_Valid _ _, _, cp_rValid _ _, _, fun _ => cp_At _ _, _, fun _ => cp_rAt _ _, _, fun _ _ => cp_Prefix _ _, _, fun _ _ => cp_rPrefix _ _, _, fun _ _ => cp_Ints _ _, _, fun _ _ _ => cp_Normal _, _, fun _ _ _ => cp_rNormal _, _, fun _ _ _ => cp_Equal _ _, _, fun _ _ _ _ => cp_Same _ _, _, fun _ _ _ _ => cp_rSame _ _,
    _, fun _ _ _ _ _ _ => cp_Suffix _ _, _, fun _ _ _ _ _ _ => cp_rSuffix _ _, _, fun _ _ _ _ _ _ => cp_Equal _ _, _, fun _ _ _ _ _ _ _ => cp_Push _ _ (by omega), _, fun _ _ _ _ _ _ _ => cp_rPush _ _ (by omega), _, fun _ _ _ _ _ _ _ => cp_Equal _ _, _, fun _ _ _ _ _ _ _ _ => cp_Zip _ _ _, _, fun _ _ _ _ _ _ _ _ => cp_rZip _ _ _, _, fun _ _ _ _ _ _ _ _ => cp_Equal _ _, (hR _).2 ?_⟩
  simp only [decide_eq_true, beq_self_eq_true]
  rfl
end Go.Proofs.Ytblibehfjjgdeaa
