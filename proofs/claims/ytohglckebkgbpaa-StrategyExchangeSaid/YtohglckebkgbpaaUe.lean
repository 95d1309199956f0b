/-
  What the evaluator says of an operation is so: operations on memory.
-/
import Derived.Test.YtohglckebkgbpaaUd
namespace Go.Proofs.Ytohglckebkgbpaa
open Go.RowKit

theorem add_mk (b off j : Nat) : (⟨b, off, none⟩ : Addr).add j = ⟨b, off + j, none⟩ := by unfold Addr.add; split <;> simp_all
theorem run_load_cell {P : Program} {w : World} {t : TypeId} {d : TypeDesc} {a : Addr} {v : Value} (hu : P.underlying t = some d) (hd : aggD d = false) (hc : w.cell? a = some v) : (loadVar t a).run P w = .ok v w := by
  have hagg : (isAgg t).run P w = .ok false w := by
    unfold isAgg
    rw [Sem.run_bind, run_underlying hu w]
    cases d <;> simp_all [aggD]
  simp [loadVar, Sem.run_bind, hagg, hc]
theorem run_isAgg {P : Program} {t : TypeId} {d : TypeDesc} (hu : P.underlying t = some d) (w : World) : (isAgg t).run P w = .ok (aggD d) w := by
  unfold isAgg
  rw [Sem.run_bind, run_underlying hu w]
  cases d <;> rfl
theorem run_load_agg {P : Program} {w : World} {t : TypeId} {d : TypeDesc} {inf : TypeInfo} {b off : Nat} {us : List Value} (hu : P.underlying t = some d) (hd : aggD d = true) (hi : P.info? t = some inf) (hs : inf.size = us.length) (hc : ∀ j u, us[j]? = some u → w.cell? ⟨b, off + j, none⟩ = some u) : (loadVar t ⟨b, off, none⟩).run P w = .ok (.agg us.toArray) w := by
  have hagg := run_isAgg hu w
  rw [hd] at hagg
  have hl := run_loadCells_list (P := P) w ⟨b, off, none⟩ us (fun j u hj => by rw [add_mk]; exact hc j u hj)
  simp [loadVar, Sem.run_bind, hagg, sizeOf, typeInfo, hi, hs, hl]

/-- types of values that are no one cell -/
def Ty.agg : Ty → Bool
  | .st _ => true
  | .arr _ _ => true
  | _ => false
/-- the kinds of types in the table -/
theorem ti_kind {P : Program} {T : Tab} {i : TypeId} {ti : TI} (h : tiB P T i ti = true) : (ti.ty.cell = true ∧ ∃ d, P.underlying i = some d ∧ aggD d = false) ∨ (ti.ty.agg = true ∧ ∃ d, P.underlying i = some d ∧ aggD d = true) := by
  unfold tiB at h
  rw [Bool.and_eq_true] at h
  have h1 := h.2
  cases hu : P.underlying i with
  | none => rw [hu] at h1; simp at h1
  | some d =>
    rw [hu] at h1
    cases d <;> cases ht' : ti.ty <;> rw [ht'] at h1 <;> simp [Ty.cell, Ty.agg, aggD] at h1 ⊢
theorem ti_isT {P : Program} {T : Tab} {i : TypeId} {ti : TI} (h : tiB P T i ti = true) : ti.ty.isT = false := by
  rcases ti_kind h with ⟨hk, _⟩ | ⟨hk, _⟩
  · cases ht : ti.ty <;> first | rfl | (rw [ht] at hk; simp [Ty.cell] at hk; done)
  · cases ht : ti.ty <;> first | rfl | (rw [ht] at hk; simp [Ty.agg] at hk; done)
theorem cell_sz {t : Ty} (h : t.cell = true) : t.sz = 1 := by cases t <;> first | rfl | (simp [Ty.cell] at h; done)
theorem take_one {us : List Value} (h : us.length = 1) : ∃ u, us = [u] := by
  match us, h with
  | [u], _ => exact ⟨u, rfl⟩
theorem agg_rep {F : Mem} {t : Ty} {us : List Value} {x : t.T} (ht : t.agg = true) (h : RepC F t us x) : RepV F t (.agg us.toArray) x := by
  cases t <;> first | (simp [Ty.agg] at ht; done) | exact ⟨us, rfl, h⟩
section
variable {P : Program} {T : Tab} {B : Bx} {ρ : Nat → Value} {F : Mem} {M : Mm} {w : World} {o : Oper} {ρ0 : Operand → Value} {d : Option Nat} {evf : Operand → AV}
theorem load_rep {t : TypeId} {ti : TI} {b off : Nat} {us : List Value} {x : ti.ty.T} (hti : tiB P T t ti = true) (hc : ∀ j u, us[j]? = some u → w.cell? ⟨b, off + j, none⟩ = some u) (hr : RepC F ti.ty us x) :
    ∃ v, (loadVar t ⟨b, off, none⟩).run P w = .ok v w ∧ RepV F ti.ty v x := by
  rcases ti_kind hti with ⟨hk, dd, hu, hd⟩ | ⟨hk, dd, hu, hd⟩
  · obtain ⟨u, rfl⟩ := take_one (hr.len.trans (cell_sz hk))
    exact ⟨u, run_load_cell hu hd (hc 0 u rfl), hr.single hk⟩
  · obtain ⟨inf, z, hi, hs, _⟩ := ti_info hti
    exact ⟨_, run_load_agg hu hd hi (hs.trans hr.len.symm) hc, agg_rep hk hr⟩
theorem row_at {h : Nat} {e : TypeId} {t : Ty} {xs : List t.T} {b n cap : Nat} (st : St B ρ F M w) (hM : M h = some (.row e t xs)) (hρ : ρ h = .slice (some ⟨b, 0, none⟩) n cap) :
    n = xs.length ∧ ∃ us, w.ownsRow 0 e t.sz (.slice (some ⟨b, 0, none⟩) n cap) n us ∧ RepCs F t us xs := by
  obtain ⟨us, h1, h2⟩ := st.obs h _ hM
  rw [hρ] at h1
  have hn : n = xs.length := by
    rcases h1.2 with ⟨e1, _⟩ | ⟨g, cap', cur, e1, _⟩
    · simp at e1
    · simp at e1; omega
  refine ⟨hn, us, ?_, h2⟩
  rw [hn] at h1 ⊢
  exact h1
theorem getD_at {α : Type} {l : List α} {i : Nat} {d : α} (h : i < l.length) : l.getD i d = l[i] := by simp [List.getD_eq_getElem?_getD, h]
theorem seg_get {us : List Value} {k n j : Nat} {u : Value} (h : ((us.drop k).take n)[j]? = some u) : us[k + j]? = some u ∧ j < n := by
  rw [List.getElem?_take] at h
  split at h
  · rename_i hj
    rw [List.getElem?_drop] at h
    exact ⟨h, hj⟩
  · simp at h

theorem capsA_len : ∀ {l : List AV} {cs : List Cap}, capsA l = some cs → l = avs cs
  | [], cs, h => by simp only [capsA, Option.some.injEq] at h; subst h; rfl
  | a :: l, cs, h => by
    simp only [capsA] at h
    split at h <;> try (simp at h; done)
    rename_i c hc
    split at h <;> simp only [Option.some.injEq, reduceCtorEq] at h
    rename_i cs' hcs
    subst h
    cases a <;> simp only [AV.cap?, Option.some.injEq, reduceCtorEq] at hc
    subst hc
    rw [capsA_len hcs]
    rfl
theorem avs_get : ∀ (l : List Cap) (j : Nat), (avs l)[j]? = l[j]?.map AV.c
  | [], j => by simp [avs]
  | c :: l, 0 => by simp [avs]
  | c :: l, j + 1 => by simpa [avs] using avs_get l j
theorem avs_len : ∀ (l : List Cap), (avs l).length = l.length
  | [] => rfl
  | c :: l => by simp [avs, avs_len l]
theorem load_run {t : TypeId} {τ : Ty} {v ax : AV} {vx : Value} (hT : tabB P T = true) (st : St B ρ F M w) (hx : RepA ρ F ax vx) (ht : T.ty t = some τ) (h : loadA M τ ax = some v) : ∃ b off u, vx = .pointer (some ⟨b, off, none⟩) ∧ (loadVar t ⟨b, off, none⟩).run P w = .ok u w ∧ RepA ρ F v u := by
  obtain ⟨ti, hl, rfl⟩ := ty_look ht
  have hti := tab_ti hT hl
  have key : ∀ (b off : Nat) (u : Value), vx = .pointer (some ⟨b, off, none⟩) → (loadVar t ⟨b, off, none⟩).run P w = .ok u w → RepA ρ F v u → ∃ b off u, vx = .pointer (some ⟨b, off, none⟩) ∧ (loadVar t ⟨b, off, none⟩).run P w = .ok u w ∧ RepA ρ F v u := fun b off u h1 h2 h3 => ⟨b, off, u, h1, h2, h3⟩
  unfold loadA at h
  split at h
  · rename_i t' y
    split at h <;> simp only [Option.some.injEq, reduceCtorEq] at h
    rename_i e
    subst e
    subst h
    obtain ⟨b, off, us, hv, h1, h2⟩ := hx
    obtain ⟨u, h3, h4⟩ := load_rep (P := P) (w := w) hti (fun j u hj => st.sub _ _ (h1 j u hj)) h2
    exact key b off u hv h3 h4
  · rename_i hh t' i
    split at h <;> try (simp at h; done)
    rename_i e
    subst e
    split at h <;> try (simp at h; done)
    rename_i E te xs hM
    split at h <;> simp only [Option.some.injEq, reduceCtorEq] at h
    rename_i ys hys
    obtain ⟨e, rfl⟩ := castT_some hys
    cases e
    subst h
    obtain ⟨b, n, cap, hρ, hi, hv⟩ := hx
    obtain ⟨hn, us, h1, h2⟩ := row_at st hM hρ
    have hi' : i < List.length xs := by omega
    have hrow := h2.2 i hi'
    obtain ⟨u, h3, h4⟩ := load_rep (P := P) (w := w) (b := b) (off := i * ti.ty.sz) hti (fun j u hj => by
      obtain ⟨k1, k2⟩ := seg_get hj
      rw [h1.cellAt (i * ti.ty.sz + j) (by have : (i + 1) * ti.ty.sz ≤ n * ti.ty.sz := Nat.mul_le_mul_right _ hi; rw [Nat.succ_mul] at this; omega)]
      exact k1) hrow
    refine key b _ u hv h3 ?_
    show RepV F ti.ty u (List.getD xs i _)
    rw [getD_at hi']
    exact h4
  · rename_i hh off
    split at h <;> try (simp at h; done)
    rename_i cs hM
    obtain ⟨b, hρ, hv⟩ := hx
    obtain ⟨b', arr, E, e1, e3, e4, e5, e6⟩ := st.obs hh _ hM
    rw [hρ] at e1
    simp only [Value.pointer.injEq, Option.some.injEq, Addr.mk.injEq, and_true] at e1
    subst e1
    cases hc : ti.ty.cell with
    | true =>
      rw [hc] at h
      simp only [cond_true] at h
      have hcell : ∃ dd, P.underlying t = some dd ∧ aggD dd = false := ti_cell hti hc
      obtain ⟨dd, hu, hd⟩ := hcell
      have hlt : off < arr.size := by rw [e4]; exact (List.getElem?_eq_some_iff.1 h).1
      refine key b off arr[off] hv (run_load_cell hu hd (by rw [cell_of_row w b off arr E (0, 0) e3]; simp [hlt])) ?_
      have := e6 off v h
      simpa [hlt] using this
    | false =>
      rw [hc] at h
      simp only [cond_false] at h
      split at h <;> try (simp at h; done)
      rename_i bb hbb
      simp only [dropL_eq, takeL_eq, lenL_eq] at h
      split at h <;> try (simp at h; done)
      rename_i l hl
      cases hlen : Nat.beq l.length bb.sz with
      | false => rw [hlen] at h; simp at h
      | true =>
        rw [hlen] at h
        simp only [cond_true] at h
        have hlen' := Nat.eq_of_beq_eq_true hlen
        have hl' := capsA_len hl
        have hcl : (cs.drop off).length ≥ bb.sz := by
          have := congrArg List.length hl'
          rw [avs_len, hlen', List.length_take] at this
          omega
        obtain ⟨us, hus⟩ : ∃ us, us = (arr.toList.drop off).take bb.sz := ⟨_, rfl⟩
        have hul : us.length = bb.sz := by
          rw [hus, List.length_take, List.length_drop, Array.length_toList, e4]
          rw [List.length_drop] at hcl
          omega
        have hr : RepCs' ρ F l us := by
          refine ⟨by rw [hul, hlen'], fun j c hj => ?_⟩
          have h1 : ((cs.drop off).take bb.sz)[j]? = some (.c c) := by rw [hl', avs_get, hj]; rfl
          obtain ⟨k1, k2⟩ : cs[off + j]? = some (.c c) ∧ j < bb.sz := by
            rw [List.getElem?_take] at h1
            split at h1
            · rename_i hj'; rw [List.getElem?_drop] at h1; exact ⟨h1, hj'⟩
            · simp at h1
          have h2 : RepCap ρ F c (arr.getD (off + j) undef) := e6 _ _ k1
          rw [hus]
          simpa [List.getD_eq_getElem?_getD, List.getElem?_take, k2, List.getElem?_drop, Array.getD_eq_getD_getElem?] using h2
        obtain ⟨fs, hu, _⟩ := ti_struct hti hbb
        obtain ⟨inf, z, hi, hs, _⟩ := ti_info hti
        have hrun := run_load_agg (P := P) (w := w) (b := b) (off := off) (us := us) hu rfl hi (by rw [hs, hbb, hul]; rfl) (fun j u hj => by
          rw [hus] at hj
          obtain ⟨k3, k4⟩ := seg_get hj
          rw [cell_of_row w b (off + j) arr E (0, 0) e3]
          simpa using k3)
        refine key b off _ hv hrun ?_
        split at h
        · rename_i x hx
          simp only [Option.some.injEq] at h
          subst h
          exact ⟨us, rfl, fromCaps_all hr hx⟩
        · simp only [Option.some.injEq] at h
          subst h
          exact ⟨us, rfl, hr⟩
  · simp at h
theorem s_load {t : TypeId} {x : Operand} {τ : Ty} {v : AV} (hT : tabB P T = true) (st : St B ρ F M w) (hev : ∀ x, RepA ρ F (evf x) (ρ0 x)) (ho : o.op = .load t x) (ht : T.ty t = some τ) (h : loadA M τ (evf x) = some v) : OpOk P B ρ F w o ρ0 d v M := by
  obtain ⟨b, off, u, h1, h2, h3⟩ := load_run hT st (hev x) ht h
  exact ok_value (v := u) st (by simp only [execOp, ho, Instr.loadAt, Instr.sureAddr, h1, Sem.run_bind, Sem.run_pure, Result.andThen_ok, h2]) h3
end
end Go.Proofs.Ytohglckebkgbpaa
