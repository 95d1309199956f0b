/-
  What the evaluator says of an operation is so: copies, maps, interfaces.
-/
import Derived.Test.YtohglckebkgbpaaUj
import Derived.Laws.CopyRow
namespace Go.Proofs.Ytohglckebkgbpaa
open Go.RowKit

theorem putL_nil {α : Type} (xs : List α) (l : Nat) : putL xs [] l = xs := by simp [putL]
theorem upd_id {α : Type} {f : Nat → α} {h : Nat} {v : α} (e : f h = v) : upd f h v = f := by
  funext k
  by_cases hk : k = h
  · subst hk; rw [upd_self, e]
  · rw [upd_other _ _ _ k hk]
section
variable {P : Program} {T : Tab} {B : Bx} {ρ : Nat → Value} {F : Mem} {M : Mm} {w : World} {o : Oper} {ρ0 : Operand → Value} {d : Nat} {dd : Option Nat} {evf : Operand → AV}
theorem run_copy {dT elem ty : TypeId} {inf : TypeInfo} {ad : Option Addr} {dLen dCap m sz : Nat} {v : Value} {us : List Value} {w' : World} (hu : P.underlying dT = some (.slice elem)) (hi : P.info? elem = some inf) (hs : inf.size = sz) (hz : 0 < sz) (hsrc : SrcAt w.cell? v m sz us)
    (hst : ∀ a, ad = some a → (storeCells a (us.take (Nat.min m dLen * sz))).run P w = .ok () w') (hn : ad = none → w' = w) :
    (Builtin.copy_ #[dT, dT] ty #[.slice ad dLen dCap, v]).run P w = .ok (goInt (Nat.min m dLen)) w' := by
  obtain ⟨sad, cap, rfl, h1, h2, h3⟩ := hsrc
  have hload : (Builtin.firstCells sz (Nat.min m dLen) (.slice sad m cap)).run P w = .ok (us.take (Nat.min m dLen * sz)).toArray w := by
    have hmin : Nat.min m dLen * sz ≤ us.length := by rw [h1]; exact Nat.mul_le_mul_right _ (Nat.min_le_left _ _)
    cases sad with
    | none =>
      have : us = [] := by
        cases us with
        | nil => rfl
        | cons u us => obtain ⟨q, hq, _⟩ := h3 0 u rfl; simp at hq
      subst this
      simp [Builtin.firstCells]
    | some a =>
      have hl := run_loadCells_list (P := P) w a (us.take (Nat.min m dLen * sz)) (fun j u hj => by
        have hj' : us[j]? = some u := by
          rw [List.getElem?_take] at hj
          split at hj
          · exact hj
          · simp at hj
        obtain ⟨q, hq, hc⟩ := h3 j u hj'
        cases hq
        exact hc)
      have e : (us.take (Nat.min m dLen * sz)).length = Nat.min m dLen * sz := by rw [List.length_take]; omega
      rw [e] at hl
      simp only [Builtin.firstCells]
      exact hl
  cases ad with
  | none =>
    have := hn rfl
    subst this
    simp [Builtin.copy_, run_underlying hu, Builtin.lenOf, sizeOf, typeInfo, hi, hs, hload]
  | some a =>
    have := hst a rfl
    simp [Builtin.copy_, run_underlying hu, Builtin.lenOf, sizeOf, typeInfo, hi, hs, hload, this]
theorem RepCs.putL {t : Ty} {us vs : List Value} {xs ys : List t.T} {l : Nat} (h : RepCs F t us xs) (k : RepCs F t vs ys) (hl : l + ys.length ≤ xs.length) : RepCs F t (seg us vs (l * t.sz)) (putL xs ys l) := by
  have hv : l * t.sz + vs.length ≤ us.length := by rw [k.1, h.1, ← Nat.add_mul]; exact Nat.mul_le_mul_right _ hl
  have hpl : (_root_.Go.Proofs.Ytohglckebkgbpaa.putL xs ys l) = seg xs ys l := rfl
  rw [hpl]
  refine ⟨by rw [seg_len hv, h.1, seg_len hl], fun i hi => ?_⟩
  rw [seg_len hl] at hi
  have hget : (seg xs ys l)[i]'(by rw [seg_len hl]; exact hi) = if h1 : l ≤ i ∧ i < l + ys.length then ys[i - l]'(by omega) else xs[i] := by
    apply Option.some.inj
    rw [← List.getElem?_eq_getElem, seg_at hl]
    by_cases h1 : i < l
    · simp [h1, show ¬ (l ≤ i ∧ i < l + ys.length) by omega, hi]
    · by_cases h2 : i < l + ys.length
      · have h3 : l ≤ i ∧ i < l + ys.length := ⟨by omega, h2⟩
        simp [h1, h2, h3, show i - l < ys.length by omega]
      · simp [h1, h2, show ¬ (l ≤ i ∧ i < l + ys.length) by omega, hi]
  rw [hget]
  by_cases h1 : l ≤ i ∧ i < l + ys.length
  · rw [dif_pos h1]
    have e : ((seg us vs (l * t.sz)).drop (i * t.sz)).take t.sz = (vs.drop ((i - l) * t.sz)).take t.sz := by
      apply List.ext_getElem?
      intro j
      rw [List.getElem?_take, List.getElem?_take]
      split
      · rename_i hj
        rw [List.getElem?_drop, List.getElem?_drop, seg_at hv]
        have a1 : l * t.sz ≤ i * t.sz := Nat.mul_le_mul_right _ h1.1
        have a2 : (i + 1) * t.sz ≤ (l + ys.length) * t.sz := Nat.mul_le_mul_right _ h1.2
        rw [Nat.succ_mul, Nat.add_mul] at a2
        have a3 := k.1
        rw [if_neg (by omega), if_pos (by omega)]
        congr 1
        rw [Nat.sub_mul]; omega
      · rfl
    rw [e]
    exact k.2 (i - l) (by omega)
  · rw [dif_neg h1]
    have e : ((seg us vs (l * t.sz)).drop (i * t.sz)).take t.sz = (us.drop (i * t.sz)).take t.sz := by
      apply List.ext_getElem?
      intro j
      rw [List.getElem?_take, List.getElem?_take]
      split
      · rename_i hj
        rw [List.getElem?_drop, List.getElem?_drop, seg_at hv]
        by_cases h2 : i < l
        · have a1 : (i + 1) * t.sz ≤ l * t.sz := Nat.mul_le_mul_right _ h2
          rw [Nat.succ_mul] at a1
          rw [if_pos (by omega)]
        · have a1 : (l + ys.length) * t.sz ≤ i * t.sz := Nat.mul_le_mul_right _ (by omega)
          rw [Nat.add_mul] at a1
          have a3 := k.1
          rw [if_neg (by omega), if_neg (by omega)]
      · rfl
    rw [e]
    exact h.2 i hi
/-- a part of a row that the call owns, written anew -/
theorem copy_row {h E l r m : Nat} {t : Ty} {xs zs : List t.T} {dT ty : TypeId} {inf : TypeInfo} {ad : Option Addr} {dCap : Nat} {v : Value} {us : List Value} (st : St B ρ F M w) (hM : M h = some (.row E t xs)) (hu : ∃ elem, P.underlying dT = some (.slice elem) ∧ P.info? elem = some inf) (hs : inf.size = t.sz) (hz : 0 < t.sz) (hm : m = zs.length)
    (hsrc : SrcAt w.cell? v m t.sz us) (hrep : RepCs F t us zs) (hlr : l ≤ r) (hr : r ≤ xs.length) (hd : r - l = 0 ∨ ∃ g n cap, ρ h = .slice (some ⟨g, 0, none⟩) n cap ∧ ad = some ⟨g, l * t.sz, none⟩) :
    ∃ w', (Builtin.copy_ #[dT, dT] ty #[.slice ad (r - l) dCap, v]).run P w = .ok (goInt (Nat.min m (r - l))) w' ∧ St B ρ F (upd M h (some (.row E t (putL xs (zs.take (r - l)) l)))) w' := by
  obtain ⟨elem, hu, hi⟩ := hu
  by_cases h0 : Nat.min m (r - l) = 0
  · refine ⟨w, run_copy hu hi hs hz hsrc (fun a _ => by rw [h0, Nat.zero_mul, List.take_zero]; rfl) (fun _ => rfl), ?_⟩
    have : zs.take (r - l) = [] := by
      rw [List.take_eq_nil_iff]
      have : m = 0 ∨ r - l = 0 := by
        by_cases hm0 : m = 0
        · exact .inl hm0
        · right
          have h1 : Nat.min m (r - l) = min m (r - l) := rfl
          omega
      rcases this with h1 | h1
      · exact .inr (List.eq_nil_of_length_eq_zero (by omega))
      · exact .inl h1
    rw [this, putL_nil, upd_id hM]
    exact st
  · have hrl : r - l ≠ 0 := fun e => h0 (by rw [e]; exact Nat.min_zero m)
    obtain ⟨g, n, cap, hρ, had⟩ := hd.resolve_left hrl
    obtain ⟨hn, us0, h1, h2⟩ := row_at st hM hρ
    subst hn
    rcases h1.2 with ⟨e1, _⟩ | ⟨g', cap', cur, e1, hg0, hg, hnc, hcm, hcs, htk⟩
    · simp at e1
    simp only [Value.slice.injEq, Option.some.injEq, Addr.mk.injEq, and_true, true_and] at e1
    obtain ⟨rfl, rfl⟩ := e1
    obtain ⟨k, hk⟩ : ∃ k, k = Nat.min m (r - l) := ⟨_, rfl⟩
    have hk1 : k ≤ m := by rw [hk]; exact Nat.min_le_left _ _
    have hk2 : k ≤ r - l := by rw [hk]; exact Nat.min_le_right _ _
    have hkm : k = min m (r - l) := hk
    have hus1 : us.length = m * t.sz := by rw [hrep.1, hm]
    have hksz : k * t.sz ≤ us.length := by rw [hus1]; exact Nat.mul_le_mul_right _ hk1
    have hvl : (us.take (k * t.sz)).length = k * t.sz := by rw [List.length_take]; omega
    have hcur : xs.length * t.sz ≤ cur.size := by rw [hcs]; exact Nat.mul_le_mul_right _ hnc
    have hfit : l * t.sz + k * t.sz ≤ xs.length * t.sz := by rw [← Nat.add_mul]; exact Nat.mul_le_mul_right _ (by omega)
    have hst := run_storeCells_at P g (l * t.sz) E (us.take (k * t.sz)) 0 cur w hg (by rw [hvl]; omega) (fun u hu' => reps_one hz hrep u (List.mem_of_mem_take hu'))
    simp only [Nat.add_zero] at hst
    refine ⟨_, run_copy hu hi hs hz hsrc (fun a ha => by rw [had] at ha; cases ha; rw [← hk]; exact hst) (fun e => by rw [had] at e; simp at e), ?_⟩
    have hzk : zs.take (r - l) = zs.take k := by
      rw [hkm]
      by_cases hle : m ≤ r - l
      · rw [List.take_of_length_le (by omega), List.take_of_length_le (by omega)]
      · congr 1; omega
    rw [hzk]
    have hzl : (zs.take k).length = k := by rw [List.length_take]; omega
    have hrep' : RepCs F t (us.take (k * t.sz)) (zs.take k) := by
      refine ⟨by rw [hvl, hzl], fun i hi' => ?_⟩
      rw [hzl] at hi'
      have e : ((us.take (k * t.sz)).drop (i * t.sz)).take t.sz = (us.drop (i * t.sz)).take t.sz := by
        have : (i + 1) * t.sz ≤ k * t.sz := Nat.mul_le_mul_right _ hi'
        rw [Nat.succ_mul] at this
        apply List.ext_getElem?
        intro j
        rw [List.getElem?_take, List.getElem?_take]
        split
        · rw [List.getElem?_drop, List.getElem?_drop, List.getElem?_take, if_pos (by omega)]
        · rfl
      rw [e, List.getElem_take]
      exact hrep.2 i (by omega)
    have hus0 : us0.length = xs.length * t.sz := h1.1
    have hseg : l * t.sz + (us.take (k * t.sz)).length ≤ cur.toList.length := by rw [hvl, Array.length_toList]; omega
    have hseg0 : l * t.sz + (us.take (k * t.sz)).length ≤ us0.length := by rw [hvl, hus0]; exact hfit
    have hput := h2.putL hrep' (l := l) (by rw [hzl]; omega)
    have hpl : (putL xs (zs.take k) l).length = xs.length := by
      have : putL xs (zs.take k) l = seg xs (zs.take k) l := rfl
      rw [this, seg_len (by rw [hzl]; omega)]
    refine st.put h _ _ g hM (by rw [hρ]; rfl) (grown_setRow w g _) ⟨_, ⟨hput.1, .inr ⟨g, cap, _, by rw [hρ, hpl], hg0, setRow_heap w g cur _ E _ hg, by rw [hpl]; exact hnc, hcm, ?_, ?_⟩⟩, hput⟩
    · have e := seg_len hseg
      have : (seg cur.toList (us.take (k * t.sz)) (l * t.sz)).toArray.size = cur.size := by simpa using e
      rw [← hcs]; exact this
    · rw [hpl]
      apply List.ext_getElem?
      intro j
      rw [List.getElem?_take]
      split
      · rename_i hj
        have hk' : us0[j]? = cur.toList[j]? := by rw [← htk, List.getElem?_take, if_pos hj]
        have a1 := seg_at hseg j
        have a2 := seg_at hseg0 j
        show (seg cur.toList (us.take (k * t.sz)) (l * t.sz))[j]? = _
        rw [a1, a2, hk']
      · rename_i hj
        rw [List.getElem?_eq_none]
        rw [seg_len hseg0, hus0]
        omega
theorem s_copy {D S : Operand} {t : TypeId} {τ : Ty} {args : Array Operand} {tys : Array TypeId} {ys : List τ.T} {wr : Nat → Bool} {n : Nat} {M' : Mm} (hT : tabB P T = true) (st : St B ρ F M w) (hev : ∀ x, RepA ρ F (evf x) (ρ0 x))
    (ho : o.op = .call { callee := .builtin .copy, args, argTypes := tys }) (ha : args.toList = [D, S]) (htys : tys.toList = [t, t]) (ht : T.ty t = some (.sl τ)) (hz : 0 < τ.sz) (hsrc : srcA M τ (evf S) = some ys) (h : copyA M wr τ (evf D) ys = some (n, M')) : OpOk P B ρ F w o ρ0 dd (.d (.int .i64) ((n : Nat) : Int)) M' := by
  obtain ⟨ti, hl, he⟩ := ty_look ht
  have hti := tab_ti hT hl
  obtain ⟨hu, hte⟩ := ti_slice hti he
  obtain ⟨te, hle, hee⟩ := ty_look hte
  obtain ⟨inf, z, hi, hs, _⟩ := ti_info (tab_ti hT hle)
  have ha' : args = #[D, S] := by rw [← Array.toArray_toList (xs := args), ha]
  have ht' : tys = #[t, t] := by rw [← Array.toArray_toList (xs := tys), htys]
  subst ha' ht'
  obtain ⟨us, s1, s2⟩ := src_rep st hz hsrc (hev S)
  have hd := hev D
  have fin : ∀ (k : Nat) (ad : Option Addr) (dLen dCap : Nat) (w' : World), ρ0 D = .slice ad dLen dCap → k ≤ maxLen → (Builtin.copy_ #[t, t] o.type #[.slice ad dLen dCap, ρ0 S]).run P w = .ok (goInt k) w' → St B ρ F M' w' → n = k → OpOk P B ρ F w o ρ0 dd (.d (.int .i64) ((n : Nat) : Int)) M' := by
    intro k ad dLen dCap w' e1 e2 e3 e4 e5
    subst e5
    refine ⟨.value (.int .i64 n), w', _, ρ, F, ?_, .inl rfl, mk_int ⟨by show (-9223372036854775808 : Int) ≤ n; omega, by simp only [maxLen] at e2; show (n : Int) ≤ 9223372036854775807; omega⟩, e4, fun _ _ => rfl, fun _ _ e => e⟩
    simp only [execOp, ho, resolve, invoke, builtin, Sem.run_bind, Sem.run_pure, Result.andThen_ok, List.map_toArray, List.map_cons, List.map_nil, e1, e3]
    rfl
  have hymax : ys.length ≤ maxLen ∨ True := .inr trivial
  generalize evf D = aD at h hd
  unfold copyA at h
  split at h
  · rename_i hh
    cases hwr : wr hh with
    | false => rw [hwr] at h; simp at h
    | true =>
    rw [hwr] at h
    simp only [cond_true] at h
    split at h <;> try (simp at h; done)
    rename_i E te' xs hM
    split at h <;> simp only [Option.some.injEq, reduceCtorEq, Prod.mk.injEq] at h
    rename_i zs hzs
    obtain ⟨e, rfl⟩ := castT_some hzs
    cases e
    obtain ⟨rfl, rfl⟩ := h
    obtain ⟨us0, h1, h2⟩ := st.obs hh _ hM
    have hv : ρ0 D = ρ hh := hd
    rcases h1.2 with ⟨e1, e2⟩ | ⟨g, cap, cur, e1, _, _, hc1, hc2, _⟩
    · have e2 : xs.length = 0 := e2
      obtain ⟨w', r1, r2⟩ := copy_row (P := P) (ty := o.type) (l := 0) (r := xs.length) (ad := none) (dCap := 0) st hM ⟨_, hu, hi⟩ (by rw [hs, hee]) hz rfl s1 s2 (Nat.zero_le _) (Nat.le_refl _) (.inl (by omega))
      exact fin _ none _ 0 w' (by rw [hv, e1, Nat.sub_zero, e2]) (by have : Nat.min ys.length (xs.length - 0) ≤ xs.length - 0 := Nat.min_le_right _ _; omega) r1 r2 rfl
    · obtain ⟨w', r1, r2⟩ := copy_row (P := P) (ty := o.type) (l := 0) (r := xs.length) (ad := some ⟨g, 0, none⟩) (dCap := cap) st hM ⟨_, hu, hi⟩ (by rw [hs, hee]) hz rfl s1 s2 (Nat.zero_le _) (Nat.le_refl _) (.inr ⟨g, _, cap, e1, by simp⟩)
      exact fin _ _ _ cap w' (by rw [hv, e1, Nat.sub_zero]) (by have : Nat.min ys.length (xs.length - 0) ≤ xs.length - 0 := Nat.min_le_right _ _; omega) r1 r2 rfl
  · rename_i hh tv l r
    cases hwr : wr hh with
    | false => rw [hwr] at h; simp at h
    | true =>
    rw [hwr] at h
    simp only [cond_true] at h
    split at h <;> try (simp at h; done)
    rename_i E te' xs hM
    split at h <;> try (simp at h; done)
    rename_i e0
    subst e0
    split at h <;> simp only [Option.some.injEq, reduceCtorEq, Prod.mk.injEq] at h
    rename_i zs hzs
    obtain ⟨e, rfl⟩ := castT_some hzs
    cases e
    obtain ⟨rfl, rfl⟩ := h
    obtain ⟨ad, n0, cap, e1, k1, k2, k3, k4, hv⟩ := hd
    obtain ⟨us0, h1, h2⟩ := st.obs hh _ hM
    have hn : n0 = xs.length := by
      rcases h1.2 with ⟨q1, q2⟩ | ⟨g, cap', cur, q1, _⟩
      · rw [e1] at q1; simp only [Value.slice.injEq] at q1; rw [q1.2.1]; exact q2.symm
      · rw [e1] at q1; simp only [Value.slice.injEq] at q1; exact q1.2.1
    subst hn
    have hdd : r - l = 0 ∨ ∃ g n cap', ρ hh = .slice (some ⟨g, 0, none⟩) n cap' ∧ (if cap = l then ad else ad.map (·.add (l * τ.sz))) = some ⟨g, l * τ.sz, none⟩ := by
      by_cases h0 : r - l = 0
      · exact .inl h0
      · right
        rcases h1.2 with ⟨q1, q2⟩ | ⟨g, cap', cur, q1, _⟩
        · have q2 : xs.length = 0 := q2
          omega
        · rw [e1] at q1
          simp only [Value.slice.injEq] at q1
          obtain ⟨rfl, _, rfl⟩ := q1
          refine ⟨g, _, _, e1, ?_⟩
          rw [if_neg (by omega)]
          show some (Addr.add ⟨g, 0, none⟩ (l * τ.sz)) = _
          rw [add_mk, Nat.zero_add]
    obtain ⟨w', r1, r2⟩ := copy_row (P := P) (ty := o.type) (dCap := cap - l) st hM ⟨_, hu, hi⟩ (by rw [hs, hee]) hz rfl s1 s2 k1 k2 hdd
    exact fin _ _ _ _ w' hv (by have : Nat.min ys.length (r - l) ≤ r - l := Nat.min_le_right _ _; omega) r1 r2 rfl
  · simp at h
end
end Go.Proofs.Ytohglckebkgbpaa
