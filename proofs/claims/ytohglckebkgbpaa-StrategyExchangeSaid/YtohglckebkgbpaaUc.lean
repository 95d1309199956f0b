/-
  The state that the evaluator stands for: memory that stays as it is, and the objects that the call owns.
-/
import Derived.Test.YtohglckebkgbpaaUb
namespace Go.Proofs.Ytohglckebkgbpaa
open Go.RowKit

def zeroVB (t : Ty) (z : Value) : Bool := match t, z with
  | .st b, .agg cs => (match zeroB b cs.toList with | some [] => true | _ => false)
  | .st _, _ => false
  | .arr n e, .agg cs => (match zeroB (.arr n e) cs.toList with | some [] => true | _ => false)
  | .arr _ _, _ => false
  | .unit, _ => false
  | .pair _ _, _ => false
  | .tup _, _ => false
  | .int k, .int k' n => decide (k = k') && decide (n = 0)
  | .bool, .bool b => !b
  | .str, .string s => s.data.toList.isEmpty
  | .sl _, .slice none 0 0 => true
  | _, _ => false
def fieldsB (T : Tab) : List Field → Ty → Nat → Bool
  | [], .unit, _ => true
  | f :: fs, .pair a r, off => decide (T.ty f.type = some a) && Nat.beq f.offset off && fieldsB T fs r (off + a.sz)
  | _, _, _ => false
def tiB (P : Program) (T : Tab) (i : TypeId) (ti : TI) : Bool :=
  (match P.info? i with
  | some inf => Nat.beq inf.size ti.ty.sz && Nat.beq inf.bytes ti.bytes && (match inf.zero with | some z => zeroVB ti.ty z | none => false)
  | none => false) &&
  (match P.underlying i, ti.ty with
  | some (.int k), .int k' => decide (k = k')
  | some .bool, .bool => true
  | some .string, .str => true
  | some (.slice e), .sl t => Nat.beq e ti.elem && decide (T.ty e = some t) && Nat.blt 0 t.sz
  | some (.struct fs), .st b => fieldsB T fs.toList b 0
  | some (.array n e), .arr n' t => Nat.beq n n' && decide (T.ty e = some t) && Nat.blt 0 t.sz
  | _, _ => false)
def tabB (P : Program) (T : Tab) : Bool := (T.tys.all fun p => tiB P T p.1 p.2) && T.maps.all fun p => match P.underlying p.1 with | some (.map a b) => Nat.beq a p.2.1 && Nat.beq b p.2.2 | _ => false

theorem look_mem {α : Type} : ∀ {l : List (Nat × α)} {i : Nat} {x : α}, look l i = some x → (i, x) ∈ l
  | [], _, _, h => by simp [look] at h
  | p :: r, i, x, h => by
    simp only [look] at h
    cases hb : Nat.beq p.1 i with
    | true =>
      rw [hb] at h
      have e1 : p.1 = i := Nat.eq_of_beq_eq_true hb
      have e2 : p.2 = x := by simpa using h
      subst e1; subst e2; simp
    | false => rw [hb] at h; exact List.mem_cons_of_mem _ (look_mem h)
theorem tab_ti {P : Program} {T : Tab} (hT : tabB P T = true) {i : TypeId} {ti : TI} (h : look T.tys i = some ti) : tiB P T i ti = true := by
  have := List.all_eq_true.1 (Bool.and_eq_true_iff.1 hT).1 _ (look_mem h); exact this
theorem tab_map {P : Program} {T : Tab} (hT : tabB P T = true) {i : TypeId} {k v : Ty} (h : mapT T i = some (k, v)) : ∃ a b, P.underlying i = some (.map a b) ∧ T.ty a = some k ∧ T.ty b = some v := by
  unfold mapT at h
  split at h <;> try (simp at h; done)
  rename_i a b hl
  split at h <;> simp only [Option.some.injEq, reduceCtorEq, Prod.mk.injEq] at h
  rename_i k' v' h1 h2
  obtain ⟨rfl, rfl⟩ := h
  have := List.all_eq_true.1 (Bool.and_eq_true_iff.1 hT).2 _ (look_mem hl)
  simp only at this
  split at this <;> try (simp at this; done)
  rename_i a' b' hu
  simp only [Bool.and_eq_true] at this
  have e1 := Nat.eq_of_beq_eq_true this.1
  have e2 := Nat.eq_of_beq_eq_true this.2
  exact ⟨a, b, by rw [hu, e1, e2], h1, h2⟩
theorem ty_look {T : Tab} {i : TypeId} {t : Ty} (h : T.ty i = some t) : ∃ ti, look T.tys i = some ti ∧ ti.ty = t := by
  unfold Tab.ty at h
  cases hl : look T.tys i with
  | none => rw [hl] at h; simp at h
  | some ti => rw [hl] at h; exact ⟨ti, rfl, by simpa using h⟩
theorem ti_info {P : Program} {T : Tab} {i : TypeId} {ti : TI} (h : tiB P T i ti = true) : ∃ inf z, P.info? i = some inf ∧ inf.size = ti.ty.sz ∧ inf.bytes = ti.bytes ∧ inf.zero = some z ∧ zeroVB ti.ty z = true := by
  unfold tiB at h
  rw [Bool.and_eq_true] at h
  have h1 := h.1
  cases hi : P.info? i with
  | none => rw [hi] at h1; simp at h1
  | some inf =>
    rw [hi] at h1
    simp only [Bool.and_eq_true] at h1
    obtain ⟨⟨e1, e2⟩, e3⟩ := h1
    cases hz : inf.zero with
    | none => rw [hz] at e3; simp at e3
    | some z => rw [hz] at e3; exact ⟨inf, z, rfl, Nat.eq_of_beq_eq_true e1, Nat.eq_of_beq_eq_true e2, hz, e3⟩
theorem ti_slice {P : Program} {T : Tab} {i : TypeId} {ti : TI} {t : Ty} (h : tiB P T i ti = true) (ht : ti.ty = .sl t) : P.underlying i = some (.slice ti.elem) ∧ T.ty ti.elem = some t := by
  unfold tiB at h
  rw [Bool.and_eq_true] at h
  have h1 := h.2
  rw [ht] at h1
  cases hu : P.underlying i with
  | none => rw [hu] at h1; simp at h1
  | some d =>
    rw [hu] at h1
    cases d <;> simp at h1
    obtain ⟨⟨e1, e2⟩, _⟩ := h1
    subst e1
    exact ⟨rfl, e2⟩
theorem ti_pos {P : Program} {T : Tab} {i : TypeId} {ti : TI} {t : Ty} (h : tiB P T i ti = true) (ht : ti.ty = .sl t) : 0 < t.sz := by
  unfold tiB at h
  rw [Bool.and_eq_true] at h
  have h1 := h.2
  rw [ht] at h1
  cases hu : P.underlying i with
  | none => rw [hu] at h1; simp at h1
  | some d =>
    rw [hu] at h1
    cases d <;> simp at h1
    exact h1.2
theorem ti_struct {P : Program} {T : Tab} {i : TypeId} {ti : TI} {b : Ty} (h : tiB P T i ti = true) (ht : ti.ty = .st b) : ∃ fs, P.underlying i = some (.struct fs) ∧ fieldsB T fs.toList b 0 = true := by
  unfold tiB at h
  rw [Bool.and_eq_true] at h
  have h1 := h.2
  rw [ht] at h1
  cases hu : P.underlying i with
  | none => rw [hu] at h1; simp at h1
  | some d =>
    rw [hu] at h1
    cases d <;> simp at h1
    exact ⟨_, rfl, h1⟩
theorem ti_arr {P : Program} {T : Tab} {i : TypeId} {ti : TI} {n : Nat} {t : Ty} (h : tiB P T i ti = true) (ht : ti.ty = .arr n t) : ∃ e, P.underlying i = some (.array n e) ∧ T.ty e = some t ∧ 0 < t.sz := by
  unfold tiB at h
  rw [Bool.and_eq_true] at h
  have h1 := h.2
  rw [ht] at h1
  cases hu : P.underlying i with
  | none => rw [hu] at h1; simp at h1
  | some d =>
    rw [hu] at h1
    cases d <;> simp at h1
    obtain ⟨⟨e1, e2⟩, e3⟩ := h1
    exact ⟨_, by rw [e1], e2, e3⟩
def aggD : TypeDesc → Bool
  | .struct _ => true
  | .array _ _ => true
  | _ => false
/-- a type of one cell is no struct and no array -/
theorem ti_cell {P : Program} {T : Tab} {i : TypeId} {ti : TI} (h : tiB P T i ti = true) (ht : ti.ty.cell = true) : ∃ d, P.underlying i = some d ∧ aggD d = false := by
  unfold tiB at h
  rw [Bool.and_eq_true] at h
  have h1 := h.2
  cases hu : P.underlying i with
  | none => rw [hu] at h1; simp at h1
  | some d =>
    rw [hu] at h1
    cases d <;> cases ht' : ti.ty <;> rw [ht'] at h1 ht <;> simp [Ty.cell] at h1 ht <;> exact ⟨_, rfl, rfl⟩

theorem castT_some {a b : Ty} {x : a.T} {y : b.T} (h : castT a b x = some y) : ∃ e : a = b, e ▸ x = y := by
  unfold castT at h
  split at h
  · rename_i e; exact ⟨e, by simpa using h⟩
  · simp at h
theorem castT_self (a : Ty) (x : a.T) : castT a a x = some x := by simp [castT]
theorem cap_as_rep {ρ : Nat → Value} {F : Mem} {t : Ty} {a : Cap} {v : Value} {x : t.T} (h : a.as t = some x) (r : RepCap ρ F a v) : RepV F t v x := by
  cases a with
  | d t' y => obtain ⟨rfl, rfl⟩ := castT_some h; exact r
  | nil =>
    cases t with
    | sl e =>
      simp only [Cap.as, Option.some.injEq] at h
      subst h
      rw [show v = _ from r]
      exact ⟨none, 0, rfl, by simp, by simp [maxLen], fun i hi => absurd hi (by simp)⟩
    | _ => simp [Cap.as] at h
  | _ => simp [Cap.as] at h
theorem repv_one {F : Mem} {t : Ty} {u : Value} {x : t.T} (ht : t.cell = true) (h : RepV F t u x) : u.cells = #[u] ∧ u.oneCell' = true := by
  cases t <;> try (simp [Ty.cell] at ht; done)
  · obtain ⟨e, _⟩ := h; cases e; exact ⟨rfl, rfl⟩
  · cases (show [u] = _ from h); exact ⟨rfl, rfl⟩
  · obtain ⟨e, _⟩ := h; cases e; exact ⟨rfl, rfl⟩
  · obtain ⟨_, _, e, _⟩ := h; cases e; exact ⟨rfl, rfl⟩
theorem cell_isT {t : Ty} (h : t.cell = true) : t.isT = false := by cases t <;> first | rfl | (simp [Ty.cell] at h; done)
theorem fromCaps_rep {ρ : Nat → Value} {F : Mem} : ∀ {t : Ty} {l l' : List Cap} {us : List Value} {x : t.T}, us.length = l.length → (∀ j (c : Cap), l[j]? = some c → RepCap ρ F c (us.getD j undef)) → fromCaps t l = some (x, l') → RepC F t (us.take t.sz) x ∧ l' = l.drop t.sz := by
  have leaf : ∀ {t : Ty} {v : Cap} {l : List Cap} {us : List Value} {x : t.T}, t.cell = true → us.length = (v :: l).length → (∀ j (c : Cap), (v :: l)[j]? = some c → RepCap ρ F c (us.getD j undef)) → v.as t = some x → RepC F t (us.take 1) x := by
    intro t v l us x ht hl hr ha
    cases us with
    | nil => simp at hl
    | cons u us =>
      have h0 := cap_as_rep ha (hr 0 v rfl)
      simp at h0
      have := h0.cells (cell_isT ht)
      have hc : u.cells = #[u] := (repv_one ht h0).1
      rw [hc] at this
      simpa using this
  intro t
  induction t with
  | unit => intro l l' us x _ _ h; simp only [fromCaps, Option.some.injEq, Prod.mk.injEq] at h; exact ⟨by simp [Ty.sz]; rfl, by simp [Ty.sz, h.2]⟩
  | pair a b iha ihb =>
    intro l l' us x hl hr h
    simp only [fromCaps] at h
    cases h1 : fromCaps a l with
    | none => rw [h1] at h; simp at h
    | some p =>
      rw [h1] at h
      simp only at h
      cases h2 : fromCaps b p.2 with
      | none => rw [h2] at h; simp at h
      | some q =>
        rw [h2] at h
        simp only [Option.some.injEq, Prod.mk.injEq] at h
        obtain ⟨rfl, rfl⟩ := h
        obtain ⟨k1, k2⟩ := iha (l' := p.2) (x := p.1) hl hr h1
        have hl2 : (us.drop a.sz).length = p.2.length := by rw [k2]; simp [hl]
        obtain ⟨k3, k4⟩ := ihb (l' := q.2) (x := q.1) hl2 (fun j c hj => by
          rw [k2, List.getElem?_drop] at hj
          have := hr _ c hj
          simpa [List.getD_eq_getElem?_getD] using this) h2
        refine ⟨⟨us.take a.sz, (us.drop a.sz).take b.sz, ?_, k1, k3⟩, by rw [k4, k2]; simp [Ty.sz]⟩
        simp only [Ty.sz, List.take_add]
  | st b ih => intro l l' us x hl hr h; exact ih hl hr h
  | tup b => intro l l' us x hl hr h; simp [fromCaps] at h
  | arr n b => intro l l' us x hl hr h; simp [fromCaps] at h
  | int k =>
    intro l l' us x hl hr h
    cases l with
    | nil => simp [fromCaps] at h
    | cons v l =>
      simp only [fromCaps] at h
      split at h <;> simp at h
      rename_i y hy
      obtain ⟨rfl, rfl⟩ := h
      exact ⟨leaf rfl hl hr hy, rfl⟩
  | bool =>
    intro l l' us x hl hr h
    cases l with
    | nil => simp [fromCaps] at h
    | cons v l =>
      simp only [fromCaps] at h
      split at h <;> simp at h
      rename_i y hy
      obtain ⟨rfl, rfl⟩ := h
      exact ⟨leaf rfl hl hr hy, rfl⟩
  | str =>
    intro l l' us x hl hr h
    cases l with
    | nil => simp [fromCaps] at h
    | cons v l =>
      simp only [fromCaps] at h
      split at h <;> simp at h
      rename_i y hy
      obtain ⟨rfl, rfl⟩ := h
      exact ⟨leaf rfl hl hr hy, rfl⟩
  | sl e =>
    intro l l' us x hl hr h
    cases l with
    | nil => simp [fromCaps] at h
    | cons v l =>
      simp only [fromCaps] at h
      split at h <;> simp at h
      rename_i y hy
      obtain ⟨rfl, rfl⟩ := h
      exact ⟨leaf rfl hl hr hy, rfl⟩
/-- all cells read as data -/
theorem fromCaps_all {ρ : Nat → Value} {F : Mem} {t : Ty} {l : List Cap} {us : List Value} {x : t.T} (hr : RepCs' ρ F l us) (h : fromCaps t l = some (x, [])) : RepC F t us x := by
  obtain ⟨h1, h2⟩ := fromCaps_rep hr.1 hr.2 h
  have h3 : l.length ≤ t.sz := by
    have := congrArg List.length h2
    simp at this
    omega
  rw [List.take_of_length_le (by rw [hr.1]; exact h3)] at h1
  exact h1
theorem as_rep {ρ : Nat → Value} {F : Mem} {t : Ty} {a : AV} {v : Value} {x : t.T} (h : a.as t = some x) (r : RepA ρ F a v) : RepV F t v x := by
  cases a with
  | c y => exact cap_as_rep h r
  | ag l =>
    obtain ⟨vs, rfl, r1⟩ := r
    simp only [AV.as] at h
    split at h <;> try (simp at h; done)
    split at h <;> simp only [Option.some.injEq, reduceCtorEq] at h
    rename_i b y hy
    subst h
    exact ⟨vs, rfl, fromCaps_all r1 hy⟩
  | _ => simp [AV.as] at h

theorem inK0 (k : IntKind) : inK k 0 := by unfold inK lo hi; cases k <;> decide
theorem str0 {s : ByteArray} (h : s.data.toList.isEmpty = true) : s = ⟨([] : List UInt8).toArray⟩ := by
  cases s with
  | mk d => simp at h; simp [h]
/-- zero values read as zero -/
theorem zeroB_rep {F : Mem} : ∀ {t : Ty} {us r : List Value}, zeroB t us = some r → ∃ u, us = u ++ r ∧ RepC F t u t.d
  | .unit, us, r, h => by simp only [zeroB, Option.some.injEq] at h; subst h; exact ⟨[], rfl, rfl⟩
  | .pair a b, us, r, h => by
    simp only [zeroB] at h
    cases h1 : zeroB a us with
    | none => rw [h1] at h; simp at h
    | some m =>
      rw [h1] at h
      obtain ⟨u1, rfl, k1⟩ := zeroB_rep (F := F) h1
      obtain ⟨u2, rfl, k2⟩ := zeroB_rep (F := F) h
      exact ⟨u1 ++ u2, by simp, u1, u2, rfl, k1, k2⟩
  | .st b, us, r, h => zeroB_rep (t := b) h
  | .arr n e, us, r, h => by
    have key : ∀ (n : Nat) (us r : List Value), zeroN (zeroB e) () n us = some r → ∃ u, us = u ++ r ∧ u.length = n * e.sz ∧ (∀ v ∈ u, v.oneCell' = true) ∧ ∀ i, i < n → RepC F e ((u.drop (i * e.sz)).take e.sz) e.d := by
      intro n
      induction n with
      | zero => intro us r h; simp only [zeroN, Option.some.injEq] at h; subst h; exact ⟨[], rfl, by simp, by simp, fun i hi => absurd hi (by omega)⟩
      | succ n ih =>
        intro us r h
        simp only [zeroN] at h
        split at h <;> try (simp at h; done)
        rename_i m hm
        obtain ⟨u1, rfl, k1⟩ := zeroB_rep (F := F) hm
        obtain ⟨u2, rfl, l2, o2, k2⟩ := ih _ _ h
        have l1 := k1.len
        refine ⟨u1 ++ u2, by simp, by rw [List.length_append, l1, l2, Nat.succ_mul]; omega, fun v hv => ?_, fun i hi => ?_⟩
        · rcases List.mem_append.1 hv with hv | hv
          · exact k1.one v hv
          · exact o2 v hv
        · cases i with
          | zero => simp only [Nat.zero_mul, List.drop_zero]; rw [← l1, List.take_left]; exact k1
          | succ i =>
            rw [Nat.succ_mul, Nat.add_comm, ← List.drop_drop, ← l1, List.drop_left, l1]
            exact k2 i (by omega)
    obtain ⟨u, e1, e2, e3, e4⟩ := key n us r h
    refine ⟨u, e1, e2, by simp [Ty.d, replL_eq], e3, fun i hi => ?_⟩
    have : List.get (Ty.arr n e).d ⟨i, hi⟩ = e.d := by
      simp only [List.get_eq_getElem, Ty.d, replL_eq]
      simp
    rw [this]
    exact e4 i (by simpa [Ty.d, replL_eq] using hi)
  | .int k, us, r, h => by
    cases us with
    | nil => simp [zeroB] at h
    | cons u us =>
      cases u <;> try (simp [zeroB] at h; done)
      rename_i k' n
      by_cases hn : n = 0
      · subst hn
        by_cases hk : k = k'
        · subst hk
          simp only [zeroB, if_true, Option.some.injEq] at h
          subst h
          exact ⟨[_], rfl, rfl, inK0 k⟩
        · simp [zeroB, hk] at h
      · exfalso
        unfold zeroB at h
        split at h <;> simp_all
  | .bool, us, r, h => by
    cases us with
    | nil => simp [zeroB] at h
    | cons u us =>
      cases u <;> try (simp [zeroB] at h; done)
      rename_i b
      cases b
      · simp only [zeroB, Option.some.injEq] at h
        subst h
        exact ⟨[_], rfl, rfl⟩
      · simp [zeroB] at h
  | .str, us, r, h => by
    cases us with
    | nil => simp [zeroB] at h
    | cons u us =>
      cases u <;> try (simp [zeroB] at h; done)
      rename_i s
      cases hs : s.data.toList.isEmpty with
      | false => simp only [zeroB, hs, cond_false] at h; simp at h
      | true =>
        simp only [zeroB, hs, cond_true, Option.some.injEq] at h
        subst h
        exact ⟨[_], rfl, by rw [str0 hs]; rfl, Nat.zero_le _⟩
  | .sl e, us, r, h => by
    cases us with
    | nil => simp [zeroB] at h
    | cons u us =>
      unfold zeroB at h
      split at h <;> try (simp at h; done)
      all_goals (try (simp_all; done))
      rename_i heq
      simp only [Option.some.injEq] at h
      subst h
      cases heq
      exact ⟨[_], rfl, none, 0, rfl, Nat.zero_le _, by simp [maxLen], fun i hi => absurd hi (Nat.not_lt_zero _)⟩
  | .tup _, us, r, h => by simp [zeroB] at h
theorem zeroVB_rep {F : Mem} {t : Ty} {z : Value} (h : zeroVB t z = true) : RepC F t z.cells.toList t.d ∧ z.cells.size = t.sz := by
  have key : RepC F t z.cells.toList t.d := by
    cases t with
    | st b =>
      cases z <;> try (simp [zeroVB] at h; done)
      rename_i cs
      simp only [zeroVB] at h
      split at h
      · rename_i hz
        obtain ⟨u, hu, k⟩ := zeroB_rep (F := F) hz
        rw [List.append_nil] at hu
        show RepC F b cs.toList b.d
        rw [hu]
        exact k
      · simp at h
    | arr n e =>
      cases z <;> try (simp [zeroVB] at h; done)
      rename_i cs
      simp only [zeroVB] at h
      split at h
      · rename_i hz
        obtain ⟨u, hu, k⟩ := zeroB_rep (F := F) hz
        rw [List.append_nil] at hu
        show RepC F (.arr n e) cs.toList _
        rw [hu]
        exact k
      · simp at h
    | int k =>
      cases z <;> try (simp [zeroVB] at h; done)
      simp only [zeroVB, Bool.and_eq_true, decide_eq_true_eq] at h
      obtain ⟨rfl, rfl⟩ := h
      exact ⟨rfl, inK0 k⟩
    | bool =>
      cases z <;> try (simp [zeroVB] at h; done)
      rename_i b
      cases b
      · exact rfl
      · simp [zeroVB] at h
    | str =>
      cases z <;> try (simp [zeroVB] at h; done)
      rename_i s
      simp only [zeroVB] at h
      refine ⟨?_, Nat.zero_le _⟩
      rw [str0 h]
      rfl
    | sl e =>
      unfold zeroVB at h
      split at h <;> try (simp_all; done)
      exact ⟨none, 0, rfl, Nat.zero_le _, by simp [maxLen], fun i hi => absurd hi (Nat.not_lt_zero _)⟩
    | _ => simp [zeroVB] at h
  exact ⟨key, by simpa using key.len⟩

/-- memory and owned objects, without the slots -/
structure St (B : Bx) (ρ : Nat → Value) (F : Mem) (M : Mm) (w : World) : Prop where
  os : w.os = B.w0.os
  tape : w.tape = B.w0.tape
  output : w.output = B.w0.output
  size : B.w0.heap.size ≤ w.heap.size
  zlt : ∀ b, B.Z b → b < B.w0.heap.size
  old : ∀ b, B.Z b → w.heap[b]? = B.w0.heap[b]?
  sub : Sub F w.cell?
  sub0 : Sub B.F0 F
  new : ∀ a u, F a = some u → B.F0 a = none → ¬ B.Z a.block
  obs : ∀ h o, M h = some o → ObR B ρ F w h (ρ h) o
  mine : ∀ h o b, M h = some o → blk (ρ h) = some b → ¬ B.Z b
  apart : ∀ h o b, M h = some o → blk (ρ h) = some b → ∀ a u, F a = some u → a.block ≠ b
  inj : ∀ h h' o o' b, M h = some o → M h' = some o' → blk (ρ h) = some b → blk (ρ h') = some b → h = h'

theorem blk_own {v : Value} {n0 e size n : Nat} {xs : List Value} {w : World} (h : w.ownsRow n0 e size v n xs) : blk v = v.ownBlock := by
  rcases h.2 with ⟨rfl, _⟩ | ⟨g, cap, cur, rfl, _⟩ <;> rfl
theorem ObR.lt {B : Bx} {ρ : Nat → Value} {F : Mem} {w : World} {h : Nat} {r : Value} {o : Ob} (k : ObR B ρ F w h r o) : ∀ b, blk r = some b → b < w.heap.size := by
  intro b hb
  cases o with
  | row e t xs =>
    obtain ⟨us, h1, _⟩ := k
    rw [blk_own h1] at hb
    exact (h1.lt b hb).2
  | cells cs =>
    obtain ⟨b', arr, e, rfl, h2, _⟩ := k
    simp only [blk, Option.some.injEq] at hb
    subst hb
    exact (Array.getElem?_eq_some_iff.1 h2).1
  | map kt vt l =>
    obtain ⟨b', ls, rfl, h2, _⟩ := k
    simp only [blk, Option.some.injEq] at hb
    subst hb
    exact h2.lt
  | lp j =>
    obtain ⟨b', info, tmps, D, rfl, _, h2, _⟩ := k
    simp only [blk, Option.some.injEq] at hb
    subst hb
    exact (Array.getElem?_eq_some_iff.1 h2).1
  | dfr =>
    obtain ⟨b', rfl, h2⟩ := k
    simp only [blk, Option.some.injEq] at hb
    subst hb
    exact (Array.getElem?_eq_some_iff.1 h2).1
theorem ObR.kept {B : Bx} {ρ : Nat → Value} {F F' : Mem} {w w' : World} {row : Option Nat} {h : Nat} {r : Value} {o : Ob} (hs : Sub F F') (hg : w.grownBy w' row) (hne : blk r = none ∨ blk r ≠ row) (k : ObR B ρ F w h r o) : ObR B ρ F' w' h r o := by
  have hb : ∀ b, blk r = some b → b < w.heap.size → w'.heap[b]? = w.heap[b]? := fun b hb hlt => hg.block b hlt (by
    rcases hne with hne | hne
    · rw [hb] at hne; simp at hne
    · rw [← hb]; exact hne)
  have hlt := k.lt
  cases o with
  | row e t xs =>
    obtain ⟨us, h1, h2⟩ := k
    exact ⟨us, h1.kept hg (by rwa [blk_own h1] at hne), h2.mono hs⟩
  | cells cs =>
    obtain ⟨b, arr, e, rfl, h2, h3, h4, h5⟩ := k
    refine ⟨b, arr, e, rfl, ?_, h3, h4, fun j c hc => (h5 j c hc).mono hs⟩
    rw [hb b rfl (hlt b rfl)]
    exact h2
  | map kt vt l =>
    obtain ⟨b, ls, rfl, h2, h3, h4⟩ := k
    exact ⟨b, ls, rfl, h2.kept (hb b rfl (hlt b rfl)), h3.mono hs, h4⟩
  | lp j =>
    obtain ⟨b, info, tmps, D, rfl, h1, h2, h3, h4⟩ := k
    exact ⟨b, info, tmps, D, rfl, h1, by rw [hb b rfl (hlt b rfl)]; exact h2, h3, fun t => (h4 t).mono hs⟩
  | dfr =>
    obtain ⟨b, rfl, h2⟩ := k
    exact ⟨b, rfl, by rw [hb b rfl (hlt b rfl)]; exact h2⟩
/-- the names that an object, or the slots of a loop over a function, use -/
def Bx.usesL (B : Bx) (h k : Nat) : Prop := ∃ info, B.LC k = some info ∧ ∃ t, (info.e t).uses h = true
theorem ObR.agree {B : Bx} {ρ ρ' : Nat → Value} {F : Mem} {w : World} {h : Nat} {r : Value} {o : Ob} (hρ : ∀ k, (o.uses k = true ∨ B.usesL k h) → ρ' k = ρ k) (k : ObR B ρ F w h r o) : ObR B ρ' F w h r o := by
  cases o with
  | row e t xs => exact k
  | cells cs =>
    obtain ⟨b, arr, e, rfl, h2, h3, h4, h5⟩ := k
    refine ⟨b, arr, e, rfl, h2, h3, h4, fun j c hc => (h5 j c hc).agree fun n hn => hρ n (.inl ?_)⟩
    exact List.any_eq_true.2 ⟨c, List.mem_of_getElem? hc, hn⟩
  | map kt vt l => exact k
  | lp j =>
    obtain ⟨b, info, tmps, D, rfl, h1, h2, h3, h4⟩ := k
    exact ⟨b, info, tmps, D, rfl, h1, h2, h3, fun t => (h4 t).agree fun n hn => hρ n (.inr ⟨info, h1, t, hn⟩)⟩
  | dfr => exact k
theorem cell_grown {w w' : World} {row : Option Nat} (hg : w.grownBy w' row) {F : Mem} (hs : Sub F w.cell?) (hF : ∀ b, row = some b → ∀ a u, F a = some u → a.block ≠ b) : Sub F w'.cell? := by
  intro a u hu
  have h1 := hs a u hu
  refine hg.cell h1 fun e => ?_
  exact hF _ e.symm a u hu rfl

section
variable {B : Bx} {ρ : Nat → Value} {F : Mem} {M : Mm} {w : World}
/-- the world grows; the object whose row may have been written is given up -/
theorem St.grow {w' : World} {row : Option Nat} {M' : Mm} (s : St B ρ F M w) (hg : w.grownBy w' row) (hr : ∀ b, row = some b → ¬ B.Z b ∧ ∀ a u, F a = some u → a.block ≠ b)
    (hM : ∀ h o, M' h = some o → M h = some o ∧ (row = none ∨ blk (ρ h) ≠ row)) : St B ρ F M' w' where
  os := hg.os.trans s.os
  tape := hg.tape.trans s.tape
  output := hg.output.trans s.output
  size := Nat.le_trans s.size hg.size
  zlt := s.zlt
  old b hz := (hg.block b (Nat.lt_of_lt_of_le (s.zlt b hz) s.size) fun e => (hr b e.symm).1 hz).trans (s.old b hz)
  sub := cell_grown hg s.sub fun b hb => (hr b hb).2
  sub0 := s.sub0
  new := s.new
  obs h o ho := by
    obtain ⟨h1, h2⟩ := hM h o ho
    refine (s.obs h o h1).kept (fun _ _ e => e) hg ?_
    rcases h2 with h2 | h2
    · subst h2
      cases hb : blk (ρ h) <;> simp
    · exact .inr h2
  mine h o b ho := s.mine h o b (hM h o ho).1
  apart h o b ho := s.apart h o b (hM h o ho).1
  inj h h' o o' b ho ho' := s.inj h h' o o' b (hM h o ho).1 (hM h' o' ho').1
theorem grown_self (w : World) : w.grownBy w none := ⟨rfl, rfl, rfl, Nat.le_refl _, fun _ _ _ => rfl⟩
/-- cells become memory that stays as it is -/
theorem St.fact (s : St B ρ F M w) (b : Nat) (hb : ¬ B.Z b) (hM : ∀ h o, M h = some o → blk (ρ h) ≠ some b) :
    St B ρ (fun a => if a.block = b then w.cell? a else F a) M w ∧ Sub F (fun a => if a.block = b then w.cell? a else F a) := by
  have hs : Sub F (fun a => if a.block = b then w.cell? a else F a) := by
    intro a u hu
    dsimp only
    split
    · exact s.sub a u hu
    · exact hu
  refine ⟨⟨s.os, s.tape, s.output, s.size, s.zlt, s.old, ?_, s.sub0.trans hs, ?_, ?_, s.mine, ?_, s.inj⟩, hs⟩
  · intro a u hu
    by_cases e : a.block = b
    · simpa [e] using hu
    · exact s.sub a u (by simpa [e] using hu)
  · intro a u hu h0
    by_cases e : a.block = b
    · rw [e]; exact hb
    · exact s.new a u (by simpa [e] using hu) h0
  · intro h o ho
    exact (s.obs h o ho).kept hs (grown_self w) (by cases blk (ρ h) <;> simp)
  · intro h o b' ho hb' a u hu
    by_cases e : a.block = b
    · intro e'
      exact hM h o ho (by rw [hb', ← e', e])
    · exact s.apart h o b' ho hb' a u (by simpa [e] using hu)
theorem upd_other {α : Type} (f : Nat → α) (d : Nat) (v : α) : ∀ k, k ≠ d → upd f d v k = f k := fun k hk => by
  have : Nat.beq k d = false := by cases hq : Nat.beq k d; rfl; exact absurd (Nat.eq_of_beq_eq_true hq) hk
  simp [upd, this]
theorem upd_oth {α : Type} (f : Nat → α) (d : Nat) (v : α) : ∀ k, some k ≠ some d → upd f d v k = f k := fun k hk => upd_other f d v k fun e => hk (by rw [e])
theorem upd_self {α : Type} (f : Nat → α) (d : Nat) (v : α) : upd f d v d = v := by simp [upd, Nat.beq_refl]
/-- nothing names h -/
structure NoName (B : Bx) (M : Mm) (h : Nat) : Prop where
  nom : M h = none
  obs : ∀ k o, M k = some o → o.uses h = false
  lc : ∀ k, ¬ B.usesL h k
  lh : B.LC h = none
/-- a new object -/
theorem St.add2 (s : St B ρ F M w) (d : Nat) (r : Value) (o : Ob) (hdo : ∀ k o, M k = some o → o.uses d = false) (hdl : ∀ k, ¬ B.usesL d k) (ho : ObR B (upd ρ d r) F w d r o)
    (hb : ∀ b, blk r = some b → ¬ B.Z b ∧ (∀ a u, F a = some u → a.block ≠ b) ∧ ∀ h o, M h = some o → blk (ρ h) ≠ some b) : St B (upd ρ d r) F (upd M d (some o)) w := by
  have e1 := upd_other ρ d r
  have e2 := upd_other M d (some o)
  have e3 := upd_self ρ d r
  have e4 := upd_self M d (some o)
  refine ⟨s.os, s.tape, s.output, s.size, s.zlt, s.old, s.sub, s.sub0, s.new, ?_, ?_, ?_, ?_⟩
  · intro h o' ho'
    by_cases hh : h = d
    · subst hh
      rw [e4] at ho'
      cases ho'
      rw [e3]
      exact ho
    · rw [e2 h hh] at ho'
      rw [e1 h hh]
      refine (s.obs h o' ho').agree fun k hk => e1 k fun e => ?_
      subst e
      rcases hk with hk | hk
      · rw [hdo h o' ho'] at hk; simp at hk
      · exact hdl h hk
  · intro h o' b ho' hb'
    by_cases hh : h = d
    · subst hh
      rw [e3] at hb'
      exact (hb b hb').1
    · rw [e2 h hh] at ho'
      rw [e1 h hh] at hb'
      exact s.mine h o' b ho' hb'
  · intro h o' b ho' hb'
    by_cases hh : h = d
    · subst hh
      rw [e3] at hb'
      exact (hb b hb').2.1
    · rw [e2 h hh] at ho'
      rw [e1 h hh] at hb'
      exact s.apart h o' b ho' hb'
  · intro h h' o1 o2 b h1 h2 b1 b2
    by_cases hh : h = d
    · by_cases hh' : h' = d
      · rw [hh, hh']
      · subst hh
        rw [e3] at b1
        rw [e2 h' hh'] at h2
        rw [e1 h' hh'] at b2
        exact absurd b2 ((hb b b1).2.2 h' o2 h2)
    · by_cases hh' : h' = d
      · subst hh'
        rw [e3] at b2
        rw [e2 h hh] at h1
        rw [e1 h hh] at b1
        exact absurd b1 ((hb b b2).2.2 h o1 h1)
      · rw [e2 h hh] at h1
        rw [e1 h hh] at b1
        rw [e2 h' hh'] at h2
        rw [e1 h' hh'] at b2
        exact s.inj h h' o1 o2 b h1 h2 b1 b2
theorem St.add (s : St B ρ F M w) (d : Nat) (r : Value) (o : Ob) (hd : NoName B M d) (ho : ObR B (upd ρ d r) F w d r o)
    (hb : ∀ b, blk r = some b → ¬ B.Z b ∧ (∀ a u, F a = some u → a.block ≠ b) ∧ ∀ h o, M h = some o → blk (ρ h) ≠ some b) : St B (upd ρ d r) F (upd M d (some o)) w := s.add2 d r o hd.obs hd.lc ho hb
/-- an object is written in place -/
theorem St.put {w' : World} (s : St B ρ F M w) (h : Nat) (o o' : Ob) (b : Nat) (ho : M h = some o) (hb : blk (ρ h) = some b) (hg : w.grownBy w' (some b)) (hR : ObR B ρ F w' h (ρ h) o') : St B ρ F (upd M h (some o')) w' := by
  have e2 := upd_other M h (some o')
  have e4 := upd_self M h (some o')
  have nz := s.mine h o b ho hb
  have old : ∀ k ob, upd M h (some o') k = some ob → ∃ ob', M k = some ob' := fun k ob hk => by
    by_cases hh : k = h
    · subst hh; exact ⟨o, ho⟩
    · rw [e2 k hh] at hk; exact ⟨ob, hk⟩
  refine ⟨hg.os.trans s.os, hg.tape.trans s.tape, hg.output.trans s.output, Nat.le_trans s.size hg.size, s.zlt, fun c hz => (hg.block c (Nat.lt_of_lt_of_le (s.zlt c hz) s.size) fun e => by cases e; exact nz hz).trans (s.old c hz), cell_grown hg s.sub fun b' hb' => by cases hb'; exact s.apart h o b ho hb, s.sub0, s.new, ?_, ?_, ?_, ?_⟩
  · intro k ob hk
    by_cases hh : k = h
    · subst hh
      rw [e4] at hk
      cases hk
      exact hR
    · rw [e2 k hh] at hk
      refine (s.obs k ob hk).kept (fun _ _ e => e) hg ?_
      cases hq : blk (ρ k) with
      | none => exact .inl rfl
      | some c =>
        refine .inr fun e => hh ?_
        cases e
        exact s.inj k h ob o b hk ho hq hb
  · intro k ob c hk hc
    obtain ⟨ob', h'⟩ := old k ob hk
    exact s.mine k ob' c h' hc
  · intro k ob c hk hc
    obtain ⟨ob', h'⟩ := old k ob hk
    exact s.apart k ob' c h' hc
  · intro k k' ob ob' c hk hk' hc hc'
    obtain ⟨o1, h1⟩ := old k ob hk
    obtain ⟨o2, h2⟩ := old k' ob' hk'
    exact s.inj k k' o1 o2 c h1 h2 hc hc'
/-- objects are given up -/
theorem St.drop {M' : Mm} (s : St B ρ F M w) (hM : ∀ h o, M' h = some o → M h = some o) : St B ρ F M' w :=
  s.grow (grown_self w) (by simp) fun h o ho => ⟨hM h o ho, .inl rfl⟩
end
end Go.Proofs.Ytohglckebkgbpaa
