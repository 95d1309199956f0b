/-
  What the evaluator says of an operation is so: operations on memory.
-/
import Derived.Test.YtohglckebkgbpaaOp
namespace Go.Proofs.Ytohglckebkgbpaa
open Go.RowKit

theorem add_mk (b off j : Nat) : (⟨b, off, none⟩ : Addr).add j = ⟨b, off + j, none⟩ := by unfold Addr.add; split <;> simp_all
theorem run_load_cell {P : Program} {w : World} {t : TypeId} {d : TypeDesc} {a : Addr} {v : Value} (hu : P.underlying t = some d) (hd : aggD d = false) (hc : w.cell? a = some v) : (loadVar t a).run P w = .ok v w := by
  have hagg : (isAgg t).run P w = .ok false w := by
    unfold isAgg
    rw [Sem.run_bind, run_underlying hu w]
    cases d <;> simp_all [aggD]
  simp [loadVar, Sem.run_bind, hagg, hc]
theorem run_load_agg {P : Program} {w : World} {t : TypeId} {fs : Array Field} {inf : TypeInfo} {b off : Nat} {us : List Value} (hu : P.underlying t = some (.struct fs)) (hi : P.info? t = some inf) (hs : inf.size = us.length) (hc : ∀ j u, us[j]? = some u → w.cell? ⟨b, off + j, none⟩ = some u) : (loadVar t ⟨b, off, none⟩).run P w = .ok (.agg us.toArray) w := by
  have hagg : (isAgg t).run P w = .ok true w := by
    unfold isAgg
    rw [Sem.run_bind, run_underlying hu w]
    simp
  have hl := run_loadCells_list (P := P) w ⟨b, off, none⟩ us (fun j u hj => by rw [add_mk]; exact hc j u hj)
  simp [loadVar, Sem.run_bind, hagg, sizeOf, typeInfo, hi, hs, hl]

/-- the kinds of types in the table -/
theorem ti_kind {P : Program} {T : Tab} {i : TypeId} {ti : TI} (h : tiB P T i ti = true) : ti.ty.cell = true ∨ ∃ b, ti.ty = .st b := by
  unfold tiB at h
  rw [Bool.and_eq_true] at h
  have h1 := h.2
  cases hu : P.underlying i with
  | none => rw [hu] at h1; simp at h1
  | some d =>
    rw [hu] at h1
    cases d <;> cases ht' : ti.ty <;> rw [ht'] at h1 <;> simp [Ty.cell] at h1 ⊢
theorem ti_isT {P : Program} {T : Tab} {i : TypeId} {ti : TI} (h : tiB P T i ti = true) : ti.ty.isT = false := by
  rcases ti_kind h with hk | ⟨b, hk⟩
  · cases ht : ti.ty <;> first | rfl | (rw [ht] at hk; simp [Ty.cell] at hk; done)
  · rw [hk]; rfl
theorem cell_isT {t : Ty} (h : t.cell = true) : t.isT = false := by cases t <;> first | rfl | (simp [Ty.cell] at h; done)
theorem cell_sz {t : Ty} (h : t.cell = true) : t.sz = 1 := by cases t <;> first | rfl | (simp [Ty.cell] at h; done)
theorem take_one {us : List Value} (h : us.length = 1) : ∃ u, us = [u] := by
  match us, h with
  | [u], _ => exact ⟨u, rfl⟩

theorem repv_one {F : Mem} {t : Ty} {u : Value} {x : t.T} (ht : t.cell = true) (h : RepV F t u x) : u.cells = #[u] ∧ u.oneCell' = true := by
  cases t <;> try (simp [Ty.cell] at ht; done)
  · obtain ⟨e, _⟩ := h; cases e; exact ⟨rfl, rfl⟩
  · cases (show [u] = _ from h); exact ⟨rfl, rfl⟩
  · obtain ⟨e, _⟩ := h; cases e; exact ⟨rfl, rfl⟩
  · obtain ⟨_, _, e, _⟩ := h; cases e; exact ⟨rfl, rfl⟩
section
variable {P : Program} {T : Tab} {w0 : World} {F0 : Mem} {ρ : Nat → Value} {F : Mem} {M : Mm} {w : World} {o : Oper} {ρ0 : Operand → Value} {d : Option Nat} {evf : Operand → AV}
theorem load_rep {t : TypeId} {ti : TI} {b off : Nat} {us : List Value} {x : ti.ty.T} (hti : tiB P T t ti = true) (hc : ∀ j u, us[j]? = some u → w.cell? ⟨b, off + j, none⟩ = some u) (hr : RepC F ti.ty us x) :
    ∃ v, (loadVar t ⟨b, off, none⟩).run P w = .ok v w ∧ RepV F ti.ty v x := by
  rcases ti_kind hti with hk | ⟨c, hk⟩
  · obtain ⟨dd, hu, hd⟩ := ti_cell hti hk
    obtain ⟨u, rfl⟩ := take_one (hr.len.trans (cell_sz hk))
    exact ⟨u, run_load_cell hu hd (hc 0 u rfl), hr.single hk⟩
  · obtain ⟨fs, hu, _⟩ := ti_struct hti hk
    obtain ⟨inf, z, hi, hs, _⟩ := ti_info hti
    refine ⟨_, run_load_agg hu hi (hs.trans hr.len.symm) hc, ?_⟩
    obtain ⟨ty, bb, el⟩ := ti
    cases hk
    exact ⟨us, rfl, hr⟩
theorem row_at {h : Nat} {e : TypeId} {t : Ty} {xs : List t.T} {b n cap : Nat} (st : St w0 F0 ρ F M w) (hM : M h = some (.row e t xs)) (hρ : ρ h = .slice (some ⟨b, 0, none⟩) n cap) :
    n = xs.length ∧ ∃ us, w.ownsRow w0.heap.size e t.sz (.slice (some ⟨b, 0, none⟩) n cap) n us ∧ RepCs F t us xs := by
  obtain ⟨us, h1, h2⟩ := st.obs h _ hM
  rw [hρ] at h1
  have hn : n = xs.length := by
    rcases h1.2 with ⟨e1, _⟩ | ⟨g, cap', cur, e1, _⟩
    · simp at e1
    · simp at e1; omega
  refine ⟨hn, us, ?_, h2⟩
  rw [hn] at h1 ⊢
  exact h1
theorem getD_at {α : Type} {l : List α} {i : Nat} {d : α} (h : i < l.length) : l.getD i d = l[i] := by simp [List.getD_eq_getElem?_getD, h]
theorem seg_get {us : List Value} {k n j : Nat} {u : Value} (h : ((us.drop k).take n)[j]? = some u) : us[k + j]? = some u ∧ j < n := by
  rw [List.getElem?_take] at h
  split at h
  · rename_i hj
    rw [List.getElem?_drop] at h
    exact ⟨h, hj⟩
  · simp at h

theorem fromLeaf_rep : ∀ {t : Ty} {l l' : List AV} {us : List Value} {x : t.T}, us.length = l.length → (∀ j c, l[j]? = some c → RepA ρ F c (us.getD j undef)) → fromLeaf t l = some (x, l') → RepC F t (us.take t.sz) x ∧ l' = l.drop t.sz := by
  have leaf : ∀ {t : Ty} {v : AV} {l : List AV} {us : List Value} {x : t.T}, t.cell = true → us.length = (v :: l).length → (∀ j c, (v :: l)[j]? = some c → RepA ρ F c (us.getD j undef)) → v.as t = some x → RepC F t (us.take 1) x := by
    intro t v l us x ht hl hr ha
    cases us with
    | nil => simp at hl
    | cons u us =>
      have h0 := as_rep ha (hr 0 v rfl)
      simp at h0
      have := h0.cells (cell_isT ht)
      have hc : u.cells = #[u] := (repv_one ht h0).1
      rw [hc] at this
      simpa using this
  intro t
  induction t with
  | unit => intro l l' us x _ _ h; simp only [fromLeaf, Option.some.injEq, Prod.mk.injEq] at h; exact ⟨by simp [Ty.sz]; rfl, by simp [Ty.sz, h.2]⟩
  | pair a b iha ihb =>
    intro l l' us x hl hr h
    simp only [fromLeaf] at h
    cases h1 : fromLeaf a l with
    | none => rw [h1] at h; simp at h
    | some p =>
      rw [h1] at h
      simp only at h
      cases h2 : fromLeaf b p.2 with
      | none => rw [h2] at h; simp at h
      | some q =>
        rw [h2] at h
        simp only [Option.some.injEq, Prod.mk.injEq] at h
        obtain ⟨rfl, rfl⟩ := h
        obtain ⟨k1, k2⟩ := iha (l' := p.2) (x := p.1) hl hr h1
        have hl2 : (us.drop a.sz).length = p.2.length := by rw [k2]; simp [hl]
        obtain ⟨k3, k4⟩ := ihb (l' := q.2) (x := q.1) hl2 (fun j c hj => by
          rw [k2, List.getElem?_drop] at hj
          have := hr _ c hj
          simpa [List.getD_eq_getElem?_getD] using this) h2
        refine ⟨⟨us.take a.sz, (us.drop a.sz).take b.sz, ?_, k1, k3⟩, by rw [k4, k2]; simp [Ty.sz]⟩
        simp only [Ty.sz, List.take_add]
  | st b ih => intro l l' us x hl hr h; exact ih hl hr h
  | tup b => intro l l' us x hl hr h; simp [fromLeaf] at h
  | int k =>
    intro l l' us x hl hr h
    cases l with
    | nil => simp [fromLeaf] at h
    | cons v l =>
      simp only [fromLeaf] at h
      split at h <;> simp at h
      rename_i y hy
      obtain ⟨rfl, rfl⟩ := h
      exact ⟨leaf rfl hl hr hy, rfl⟩
  | bool =>
    intro l l' us x hl hr h
    cases l with
    | nil => simp [fromLeaf] at h
    | cons v l =>
      simp only [fromLeaf] at h
      split at h <;> simp at h
      rename_i y hy
      obtain ⟨rfl, rfl⟩ := h
      exact ⟨leaf rfl hl hr hy, rfl⟩
  | str =>
    intro l l' us x hl hr h
    cases l with
    | nil => simp [fromLeaf] at h
    | cons v l =>
      simp only [fromLeaf] at h
      split at h <;> simp at h
      rename_i y hy
      obtain ⟨rfl, rfl⟩ := h
      exact ⟨leaf rfl hl hr hy, rfl⟩
  | sl e =>
    intro l l' us x hl hr h
    cases l with
    | nil => simp [fromLeaf] at h
    | cons v l =>
      simp only [fromLeaf] at h
      split at h <;> simp at h
      rename_i y hy
      obtain ⟨rfl, rfl⟩ := h
      exact ⟨leaf rfl hl hr hy, rfl⟩

theorem s_load {t : TypeId} {x : Operand} {τ : Ty} {v : AV} (hT : tabB P T = true) (st : St w0 F0 ρ F M w) (hev : ∀ x, RepA ρ F (evf x) (ρ0 x)) (ho : o.op = .load t x) (ht : T.ty t = some τ) (h : loadA M τ (evf x) = some v) : OpOk P w0 F0 ρ F w o ρ0 d v M := by
  obtain ⟨ti, hl, rfl⟩ := ty_look ht
  have hti := tab_ti hT hl
  have hx := hev x
  have key : ∀ (b off : Nat) (u : Value), ρ0 x = .pointer (some ⟨b, off, none⟩) → (loadVar t ⟨b, off, none⟩).run P w = .ok u w → RepA ρ F v u → OpOk P w0 F0 ρ F w o ρ0 d v M := fun b off u h1 h2 h3 =>
    ok_value (v := u) st (by simp only [execOp, ho, Instr.loadAt, Instr.sureAddr, h1, Sem.run_bind, Sem.run_pure, Result.andThen_ok, h2]) h3
  generalize evf x = ax at h hx
  unfold loadA at h
  split at h
  · rename_i t' y
    split at h <;> simp only [Option.some.injEq, reduceCtorEq] at h
    rename_i e
    subst e
    subst h
    obtain ⟨b, off, us, hv, h1, h2⟩ := hx
    obtain ⟨u, h3, h4⟩ := load_rep (P := P) (w := w) hti (fun j u hj => st.sub _ _ (h1 j u hj)) h2
    exact key b off u hv h3 h4
  · rename_i hh t' i
    split at h <;> try (simp at h; done)
    rename_i e
    subst e
    split at h <;> try (simp at h; done)
    rename_i E te xs hM
    split at h <;> simp only [Option.some.injEq, reduceCtorEq] at h
    rename_i ys hys
    obtain ⟨e, rfl⟩ := castT_some hys
    cases e
    subst h
    obtain ⟨b, n, cap, hρ, hi, hv⟩ := hx
    obtain ⟨hn, us, h1, h2⟩ := row_at st hM hρ
    have hi' : i < List.length xs := by omega
    have hrow := h2.2 i hi'
    obtain ⟨u, h3, h4⟩ := load_rep (P := P) (w := w) (b := b) (off := i * ti.ty.sz) hti (fun j u hj => by
      obtain ⟨k1, k2⟩ := seg_get hj
      rw [h1.cellAt (i * ti.ty.sz + j) (by have : (i + 1) * ti.ty.sz ≤ n * ti.ty.sz := Nat.mul_le_mul_right _ hi; rw [Nat.succ_mul] at this; omega)]
      exact k1) hrow
    refine key b _ u hv h3 ?_
    show RepV F ti.ty u (List.getD xs i _)
    rw [getD_at hi']
    exact h4
  · rename_i hh off
    split at h <;> try (simp at h; done)
    rename_i cs hM
    obtain ⟨b, hρ, hv⟩ := hx
    obtain ⟨b', arr, E, e1, e2, e3, e4, e5, e6⟩ := st.obs hh _ hM
    rw [hρ] at e1
    simp only [Value.pointer.injEq, Option.some.injEq, Addr.mk.injEq, and_true] at e1
    subst e1
    cases hc : ti.ty.cell with
    | true =>
      rw [hc] at h
      simp only [cond_true] at h
      obtain ⟨dd, hu, hd⟩ := ti_cell hti hc
      have hlt : off < arr.size := by rw [e4]; exact (List.getElem?_eq_some_iff.1 h).1
      refine key b off arr[off] hv (run_load_cell hu hd (by rw [cell_of_row w b off arr E (0, 0) e3]; simp [hlt])) ?_
      have := e6 off v h
      simpa [hlt] using this
    | false =>
      rw [hc] at h
      simp only [cond_false] at h
      split at h <;> try (simp at h; done)
      rename_i bb hbb
      simp only [dropL_eq] at h
      split at h <;> simp only [Option.some.injEq, reduceCtorEq] at h
      rename_i p hp
      subst h
      have hlen : (arr.toList.drop off).length = (cs.drop off).length := by simp [e4]
      have hfl : fromLeaf bb (cs.drop off) = some (p.1, p.2) := hp
      obtain ⟨k1, k2⟩ := fromLeaf_rep (ρ := ρ) (F := F) hlen (fun j c hj => by
        rw [List.getElem?_drop] at hj
        have := e6 _ c hj
        simpa [List.getD_eq_getElem?_getD, List.getElem?_drop, Array.getD_eq_getD_getElem?] using this) hfl
      obtain ⟨fs, hu, _⟩ := ti_struct hti hbb
      obtain ⟨inf, z, hi, hs, _⟩ := ti_info hti
      refine key b off _ hv (run_load_agg hu hi (us := (arr.toList.drop off).take bb.sz) (by rw [hs, hbb, k1.len]; rfl) fun j u hj => ?_) ⟨_, rfl, k1⟩
      obtain ⟨k3, k4⟩ := seg_get hj
      rw [cell_of_row w b (off + j) arr E (0, 0) e3]
      simpa using k3
  · simp at h
end
end Go.Proofs.Ytohglckebkgbpaa
