/-
  Signals: the laws of order and of parts.
-/
import Derived.Test.YtlkgkjpnphdhdaaDoorSh
namespace Go.Proofs.YtlkgkjpnphdhdaaDoor
open Go.RowKit Sg

/-- a greater digit makes a greater number -/
theorem und_inc : ∀ {l : List Sig} {vs : List Int} {i : Nat}, Pos l → vs.length = l.length → i < l.length → und l vs < und l (vs.set i (vs.getD i 0 + 1))
  | x :: l, v :: vs, 0, h, _, _ => by
    show und (x :: l) (v :: vs) < und (x :: l) ((v + 1) :: vs)
    simp only [und]; omega
  | x :: l, v :: vs, i + 1, h, hl, hi => by
    have ih := und_inc (l := l) (vs := vs) (i := i) h.tail (by simpa using hl) (by simpa using hi)
    show und (x :: l) (v :: vs) < und (x :: l) (v :: vs.set i (vs.getD i 0 + 1))
    simp only [und]
    rcases two_to_four h.head with e | e | e <;> rw [e] <;> omega
  | [], _, _, _, _, hi => by simp at hi
  | _ :: _, [], _, _, hl, _ => by simp at hl
theorem half_inc {b : Bool} : ∀ {l : List Sig} {vs : List Int} {i : Nat}, Pos l → vs.length = l.length → i < l.length → ((inp (l.getD i s0) == b) = true → halfU b l vs < halfU b l (vs.set i (vs.getD i 0 + 1))) ∧ ((inp (l.getD i s0) == b) = false → halfU b l (vs.set i (vs.getD i 0 + 1)) = halfU b l vs)
  | x :: l, v :: vs, 0, h, _, _ => by
    constructor
    · intro g
      have g : (inp x == b) = true := g
      show halfU b (x :: l) (v :: vs) < halfU b (x :: l) ((v + 1) :: vs)
      simp only [halfU, g, if_true]; omega
    · intro g
      have g : (inp x == b) = false := g
      show halfU b (x :: l) ((v + 1) :: vs) = halfU b (x :: l) (v :: vs)
      simp only [halfU, g, Bool.false_eq_true, if_false]
  | x :: l, v :: vs, i + 1, h, hl, hi => by
    obtain ⟨i1, i2⟩ := half_inc (b := b) (l := l) (vs := vs) (i := i) h.tail (by simpa using hl) (by simpa using hi)
    constructor
    · intro g
      have i1 := i1 g
      show halfU b (x :: l) (v :: vs) < halfU b (x :: l) (v :: vs.set i (vs.getD i 0 + 1))
      simp only [halfU]
      split
      · rcases two_to_four h.head with e | e | e <;> rw [e] <;> omega
      · exact i1
    · intro g
      have i2 := i2 g
      show halfU b (x :: l) (v :: vs.set i (vs.getD i 0 + 1)) = halfU b (x :: l) (v :: vs)
      simp only [halfU, i2]
  | [], _, _, _, _, hi => by simp at hi
  | _ :: _, [], _, _, hl, _ => by simp at hl
theorem set_get {vs : List Int} {i j : Nat} {v : Int} (hi : i < vs.length) : (vs.set i v).getD j 0 = if j = i then v else vs.getD j 0 := by
  simp only [List.getD_eq_getElem?_getD, List.getElem?_set]
  by_cases h : i = j
  · subst h; simp [hi]
  · simp [h, Ne.symm h]
theorem cp_Order_law (l : List Sig) (ra wh : Int) : CallP Tryd.prog tT 7 [.d sigsT l, .d (.int .u8) ra, .d (.int .u8) wh] .bool true := by
  refine sf7 l ra wh true fun R hR _ wa wb => ⟨_, cp_head, _, cp_Small l, _, fun _ => cp_Valid l, fun _ => (hR _).2 rfl, fun _ hv' => ?_⟩
  have hv := valid_iff.1 hv'
  have hfew := hv.few
  have hpos := hv.pos
  have hl2 := letters_two hv
  have a0 : 0 ≤ ra := wa.1
  have a1 : ra ≤ 255 := wa.2
  have b0 : 0 ≤ wh := wb.1
  have b1 : wh ≤ 255 := wb.2
  refine ⟨_, cp_Letters l, fun h => ?_, fun _ _ => ⟨inK64 (by omega) (by omega), ⟨a0, ?_⟩, inK64 (by omega) (by omega), ⟨b0, by omega⟩, ?_⟩⟩
  · exfalso
    have h : lettersD l < 1 ∨ ((l.length : Nat) : Int) = 0 := h
    omega
  · show 0 < lettersD l
    omega
  · have qa : 0 ≤ ra % lettersD l ∧ ra % lettersD l < lettersD l := ⟨Int.emod_nonneg _ (by omega), Int.emod_lt_of_pos _ (by omega)⟩
    have ea : cntD (fun _ => true) l = lettersD l := rfl
    simp only [ea]
    generalize ra % lettersD l = a at qa
    obtain ⟨k, hk⟩ := Int.eq_ofNat_of_zero_le (show 0 ≤ wh % ((l.length : Nat) : Int) from Int.emod_nonneg _ (by omega))
    have hkl : k < l.length := by
      have := Int.emod_lt_of_pos wh (show 0 < ((l.length : Nat) : Int) by omega)
      rw [hk] at this; omega
    have hk' : (wh % ((List.length l : Nat) : Int)) = (k : Int) := hk
    simp only [hk', Int.toNat_natCast]
    have hdl := digs_len l a
    have hin := digs_in (a := a) hv.szs
    refine ⟨fun x => ∃ i : Nat, x.2.1 = i ∧ i ≤ l.length ∧ x.1 = (List.range i).map fun i => valD l a (i : Nat), fun x => l.length - x.2.1.toNat, ⟨0, rfl, Nat.zero_le _, rfl⟩, ?_⟩
    rintro ⟨out, iz, u⟩ _ ⟨i, e1, hil, e2⟩
    simp only at e1 e2
    subst e1 e2
    dsimp only
    refine ⟨fun hlt => ⟨_, cp_Value l a _, by simp only [List.length_map, List.length_range, List.length_singleton]; omega, inK64 (by omega) (by omega), ⟨i + 1, by simp, by omega, by simp [List.range_succ]⟩, ?_⟩, fun hge => ?_⟩
    · show l.length - Int.toNat ((i : Int) + 1) < l.length - Int.toNat (i : Int)
      omega
    · have hie : i = l.length := by omega
      have ev : ((List.range i).map fun i => valD l a (i : Nat)) = digs l a := by rw [hie]; exact valuesD_eq qa.1 qa.2
      rw [ev]
      obtain ⟨v0, v1⟩ := hin.at k hkl
      have hs := hv.szs _ (getD_mem s0 hkl)
      have hset : (List.set (digs l a) k ((digs l a).getD k 0 + 1)).length = l.length := by rw [List.length_set, hdl]
      have hq := valid_iff.2 hv
      have hda : und l (digs l a) = a := by
        have := qa.2
        rw [letters_eq hv] at this
        exact und_digs hv.szs qa.1 this
      have kI : (k : Int) < ((l.length : Nat) : Int) := by omega
      have kD : (k : Int) < (((digs l a).length : Nat) : Int) := by omega
      have kS : (k : Int) < (((List.set (digs l a) k ((digs l a).getD k 0 + 1)).length : Nat) : Int) := by rw [hset]; exact kI
      refine ⟨⟨by omega, kD⟩, inK64 (by omega) (by omega), ?_⟩
      by_cases hok : (digs l a).getD k 0 + 1 < sz (l.getD k s0)
      · have hr : InR l (List.set (digs l a) k ((digs l a).getD k 0 + 1)) := InR_of hset fun j hj => by
          rw [set_get (by omega)]
          split
          · rename_i h; subst h; exact ⟨by omega, hok⟩
          · exact hin.at j hj
        have em : makeD l (List.set (digs l a) k ((digs l a).getD k 0 + 1)) = (und l (List.set (digs l a) k ((digs l a).getD k 0 + 1)), true, ()) := by unfold makeD; rw [if_pos ⟨hq, inB_iff.2 hr⟩]
        have hlt := und_inc (vs := digs l a) (i := k) hv.szs hdl hkl
        obtain ⟨u0, u1⟩ := und_range hv.szs hr
        rw [← letters_eq hv] at u1
        have ed := digs_und hv.szs hr
        have hH : ∀ b, halfD b l (und l (List.set (digs l a) k ((digs l a).getD k 0 + 1))) = halfU b l (List.set (digs l a) k ((digs l a).getD k 0 + 1)) := fun b => by unfold halfD; rw [vals_ok u0 u1, ed]
        have hA : ∀ b, halfD b l a = halfU b l (digs l a) := fun b => by unfold halfD; rw [vals_ok qa.1 qa.2]
        rw [hda] at hlt
        refine ⟨_, (cp_Make l _).to_ em, fun h => absurd h (by simp), fun _ => ⟨fun h => ?_, fun _ => ⟨kI, fun g => ⟨_, fun _ => cp_HIn l _, _, fun _ => cp_HIn l _, _, fun _ _ => cp_HOut l _, _, fun _ _ => cp_HOut l _, (hR _).2 ?_⟩, fun g => ⟨_, fun _ => cp_HOut l _, _, fun _ => cp_HOut l _, _, fun _ _ => cp_HIn l _, _, fun _ _ => cp_HIn l _, (hR _).2 ?_⟩⟩⟩⟩
        · exfalso
          have h : und l (List.set (digs l a) k ((digs l a).getD k 0 + 1)) ≤ a := h
          omega
        · have g : inp (l.getD k s0) = true := g
          obtain ⟨t1, _⟩ := half_inc (b := true) (vs := digs l a) (i := k) hv.szs hdl hkl
          obtain ⟨_, f2⟩ := half_inc (b := false) (vs := digs l a) (i := k) hv.szs hdl hkl
          show selB (selB true (decide (halfD true l a < halfD true l (und l (List.set (digs l a) k ((digs l a).getD k 0 + 1))))) false) (decide (halfD false l (und l (List.set (digs l a) k ((digs l a).getD k 0 + 1))) = halfD false l a)) false = true
          rw [hH, hH, hA, hA, decide_eq_true (t1 (by rw [g]; rfl)), decide_eq_true (f2 (by rw [g]; rfl))]; rfl
        · have g : inp (l.getD k s0) = false := g
          obtain ⟨t1, _⟩ := half_inc (b := false) (vs := digs l a) (i := k) hv.szs hdl hkl
          obtain ⟨_, f2⟩ := half_inc (b := true) (vs := digs l a) (i := k) hv.szs hdl hkl
          show selB (selB true (decide (halfD false l a < halfD false l (und l (List.set (digs l a) k ((digs l a).getD k 0 + 1))))) false) (decide (halfD true l (und l (List.set (digs l a) k ((digs l a).getD k 0 + 1))) = halfD true l a)) false = true
          rw [hH, hH, hA, hA, decide_eq_true (t1 (by rw [g]; rfl)), decide_eq_true (f2 (by rw [g]; rfl))]; rfl
      · have hr : ¬ InR l (List.set (digs l a) k ((digs l a).getD k 0 + 1)) := fun hr => by
          have := (hr.at k hkl).2
          rw [set_get (by omega), if_pos rfl] at this
          omega
        have em : makeD l (List.set (digs l a) k ((digs l a).getD k 0 + 1)) = (0, false, ()) := by unfold makeD; rw [if_neg fun h => hr (inB_iff.1 h.2)]
        refine ⟨_, (cp_Make l _).to_ em, fun _ => ⟨fun _ => kS, fun _ => kI, (hR _).2 ?_⟩, fun h => absurd h (by simp)⟩
        show selB true (decide ((List.set (digs l a) k ((digs l a).getD k 0 + 1)).getD k 0 = sz (l.getD k s0))) false = true
        rw [set_get (by omega), if_pos rfl, decide_eq_true (by omega)]; rfl
theorem names_ne {l : List Sig} (hv : ValidL l) {i j : Nat} (hi : i < l.length) (hj : j < l.length) (h : (l.getD i s0).1 = (l.getD j s0).1) : i = j := by
  have h1 := (okAt_parts (hv.ok i hi)).2.1
  have h2 := (okAt_parts (hv.ok j hj)).2.1
  rw [h, h2] at h1
  omega
theorem find_of {l : List Sig} {i : Nat} (hi : i < l.length) (h : ∀ j, j < i → ¬ (l.getD j s0).1 = (l.getD i s0).1) : findD l (l.getD i s0).1 = (i : Int) :=
  idxD_some (p := fun x : Sig => decide (x.1 = (l.getD i s0).1)) s0 hi (fun j hj => decide_eq_false (h j hj)) (decide_eq_true rfl)
theorem find_none {l : List Sig} {n : List UInt8} (h : ∀ j, j < l.length → ¬ (l.getD j s0).1 = n) : findD l n = -1 :=
  idxD_none (p := fun x : Sig => decide (x.1 = n)) s0 fun j hj => decide_eq_false (h j hj)
theorem prod_app {f : Sig → Bool} : ∀ {a b : List Sig}, prodS f (a ++ b) = prodS f a * prodS f b
  | [], b => by simp [prodS]
  | x :: a, b => by
    simp only [List.cons_append, prodS, prod_app (a := a) (b := b)]
    split
    · rw [Int.mul_assoc]
    · rfl
def without (l : List Sig) (k : Nat) : List Sig := l.take k ++ l.drop (k + 1)
theorem without_len {l : List Sig} {k : Nat} (hk : k < l.length) : (without l k).length = l.length - 1 := by
  unfold without; rw [List.length_append, List.length_take, List.length_drop]; omega
theorem without_at {l : List Sig} {k j : Nat} (hk : k < l.length) : (without l k).getD j s0 = if j < k then l.getD j s0 else l.getD (j + 1) s0 := by
  unfold without
  by_cases h : j < k
  · rw [if_pos h]
    simp [List.getD_eq_getElem?_getD, List.getElem?_append_left (show j < (l.take k).length by rw [List.length_take]; omega), List.getElem?_take, h]
  · rw [if_neg h]
    rw [List.getD_eq_getElem?_getD, List.getElem?_append_right (by rw [List.length_take]; omega), List.getD_eq_getElem?_getD, List.getElem?_drop, List.length_take]
    congr 2; omega
theorem without_prod {l : List Sig} {k : Nat} (hk : k < l.length) : prodS (fun _ => true) (without l k) * sz (l.getD k s0) = prodS (fun _ => true) l := by
  have e : prodS (fun _ => true) l = prodS (fun _ => true) (l.take k ++ l.drop k) := by rw [List.take_append_drop]
  rw [e, prod_app, drop_at s0 hk]
  unfold without
  rw [prod_app]
  simp only [prodS, if_true]
  rw [Int.mul_assoc, Int.mul_comm (prodS _ (l.drop (k + 1)))]
theorem without_valid {l : List Sig} (hv : ValidL l) {k : Nat} (hk : k < l.length) (h0 : 1 < l.length) : ValidL (without l k) := by
  have hlen := without_len hk
  have hfew := hv.few
  have hinj : ∀ i j, i < l.length - 1 → j < l.length - 1 → ((without l k).getD i s0).1 = ((without l k).getD j s0).1 → i = j := by
    intro i j hi hj h
    rw [without_at hk, without_at hk] at h
    split at h <;> split at h
    · exact names_ne hv (by omega) (by omega) h
    · have := names_ne hv (by omega) (by omega) h; omega
    · have := names_ne hv (by omega) (by omega) h; omega
    · have := names_ne hv (by omega) (by omega) h; omega
  refine ⟨by omega, by omega, fun i hi => ?_, ?_⟩
  · have hi' : i < l.length - 1 := by omega
    have base : nameD ((without l k).getD i s0).1 = true ∧ 2 ≤ sz ((without l k).getD i s0) ∧ sz ((without l k).getD i s0) ≤ 4 := by
      rw [without_at hk]
      split
      · obtain ⟨h1, _, h3, h4⟩ := okAt_parts (hv.ok i (by omega)); exact ⟨h1, h3, h4⟩
      · obtain ⟨h1, _, h3, h4⟩ := okAt_parts (hv.ok (i + 1) (by omega)); exact ⟨h1, h3, h4⟩
    exact okAt_of base.1 (find_of hi fun j hj h => by have := hinj j i (by omega) hi' h; omega) base.2.1 base.2.2
  · have hp := without_prod hk
    have hs := hv.szs _ (getD_mem s0 hk)
    have hpr := hv.prod
    have : 1 ≤ prodS (fun _ => true) (without l k) := prodS_pos fun x hx => by
      unfold without at hx
      rcases List.mem_append.1 hx with h | h
      · exact hv.szs x (List.mem_of_mem_take h)
      · exact hv.szs x (List.mem_of_mem_drop h)
    have := mul_le_prod hp this (by omega)
    omega
theorem cp_Parts_law (l : List Sig) (wh : Int) : CallP Tryd.prog tT 8 [.d sigsT l, .d (.int .u8) wh] .bool true := by
  refine sf8 l wh true fun R hR _ wb => ⟨_, cp_head, _, cp_Small l, _, fun _ => cp_Valid l, fun _ => (hR _).2 rfl, fun _ hv' _ => ?_⟩
  have hv := valid_iff.1 hv'
  have hfew := hv.few
  have hpos := hv.pos
  have b0 : 0 ≤ wh := wb.1
  have b1 : wh ≤ 255 := wb.2
  obtain ⟨k, hk⟩ := Int.eq_ofNat_of_zero_le (show 0 ≤ wh % ((l.length : Nat) : Int) from Int.emod_nonneg _ (by omega))
  have hkl : k < l.length := by
    have := Int.emod_lt_of_pos wh (show 0 < ((l.length : Nat) : Int) by omega)
    rw [hk] at this; omega
  have hk' : (wh % ((List.length l : Nat) : Int)) = (k : Int) := hk
  have hk1 : Int.toNat ((k : Int) + 1) = k + 1 := by omega
  refine ⟨fun x => ∃ i : Nat, x.1 = i, fun x => l.length - x.1.toNat, ⟨0, rfl⟩, ?_⟩
  rintro ⟨iz, u⟩ _ ⟨i, e1⟩
  simp only at e1
  subst e1
  refine ⟨fun hlt => ?_, fun _ => ?_⟩
  · simp only [Int.toNat_natCast]
    have hf := (okAt_parts (hv.ok i (by omega))).2.1
    refine ⟨by omega, _, cp_Find l _, fun h => absurd hf h, fun _ => ⟨inK64 (by omega) (by omega), ⟨i + 1, by simp⟩, ?_⟩⟩
    show l.length - Int.toNat ((i : Int) + 1) < l.length - i
    omega
  · have e0 : ([] ++ List.take k l) ++ List.drop (k + 1) l = without l k := by rw [List.nil_append]; rfl
    simp only [hk', Int.toNat_natCast, hk1, List.nil_append]
    have ew : List.take k l ++ List.drop (k + 1) l = without l k := rfl
    have hlen := without_len hkl
    simp only [ew]
    have kI : (k : Int) < ((l.length : Nat) : Int) := by omega
    have kL : (k : Int) ≤ ((l.length : Nat) : Int) := by omega
    have kM : (k : Int) + 1 ≤ ((l.length : Nat) : Int) := by omega
    refine ⟨inK64 (by omega) (by omega), ⟨b0, by omega⟩, ⟨by omega, kL⟩, by rw [List.length_take]; simp; omega, inK64 (by omega) (by omega), ⟨by omega, kM⟩, by rw [List.length_take, List.length_drop]; omega, fun h => ?_, fun h => ?_⟩
    · refine ⟨_, fun _ => cp_Valid _, (hR _).2 ?_⟩
      have : validD (without l k) = false := valid_false fun hw => by have := hw.pos; omega
      rw [this]; rfl
    · have hw := without_valid hv hkl (by omega)
      have hp := without_prod hkl
      have e1 : lettersD (without l k) * sz (l.getD k s0) = lettersD l := by rw [letters_eq hw, letters_eq hv, hp]
      have hl64 := letters_le l
      refine ⟨_, fun _ => (cp_Valid (without l k)).to_ (valid_iff.2 hw), _, fun _ _ => cp_Letters (without l k), fun _ _ => kI, fun _ _ => ?_, _, fun _ _ => cp_Letters l, _, fun _ _ _ => (cp_Find (without l k) _).to_ (find_none (n := (l.getD k s0).1) fun j hj g => ?_), (hR _).2 ?_⟩
      · show inK .i64 (lettersD (without l k) * sz (l.getD k s0))
        rw [e1]; exact inK64 (by omega) (by omega)
      · rw [without_at hkl] at g
        split at g
        · have := names_ne hv (by omega) hkl g; omega
        · have := names_ne hv (by omega) hkl g; omega
      · show selB (selB (selB true true false) (decide (lettersD (without l k) * sz (l.getD k s0) = lettersD l)) false) (decide ((-1 : Int) = -1)) false = true
        rw [e1]; simp [selB]
end Go.Proofs.YtlkgkjpnphdhdaaDoor
