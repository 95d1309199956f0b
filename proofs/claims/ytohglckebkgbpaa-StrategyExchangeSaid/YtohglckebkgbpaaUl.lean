/-
  What the evaluator says of an operation is so: maps; all operations together.
-/
import Derived.Test.YtohglckebkgbpaaUk
namespace Go.Proofs.Ytohglckebkgbpaa
open Go.RowKit

theorem key_cell {k : Ty} (h : k.key = true) : k.cell = true := by cases k <;> first | rfl | (simp [Ty.key] at h; done)
theorem encV_rep {F : Mem} {k : Ty} (h : k.key = true) {x : k.T} {v : Value} (r : RepV F k v x) : v = encV k x := by
  cases k <;> try (simp [Ty.key] at h; done)
  · obtain ⟨e, _⟩ := r; cases e; rfl
  · cases (show [v] = _ from r); rfl
  · obtain ⟨e, _⟩ := r; cases e; rfl
theorem bytes_beq (a b : List UInt8) : ((⟨a.toArray⟩ : ByteArray) == ⟨b.toArray⟩) = decide (a = b) := by
  rw [Bool.eq_iff_iff, decide_eq_true_eq]
  show (a.toArray == b.toArray) = true ↔ _
  simp
theorem findNow_key {P : Program} {T : Tab} {kt : TypeId} {ti : TI} (hti : tiB P T kt ti = true) (hk : ti.ty.key = true) {d : TypeDesc} (hu : P.underlying kt = some d) (k : ti.ty.T) : ∀ (l : List (ti.ty.T × Value)) (es : List MapEntry) (i : Nat), es.map (fun e => (e.key, e.val)) = l.map (fun p => (encV ti.ty p.1, p.2)) → Instr.findNow d (encV ti.ty k) es i = some (afind k l i)
  | [], es, i, h => by
    cases es with
    | nil => rfl
    | cons e es => simp at h
  | p :: l, es, i, h => by
    cases es with
    | nil => simp at h
    | cons e es =>
      simp only [List.map_cons, List.cons.injEq, Prod.mk.injEq] at h
      obtain ⟨⟨h1, h2⟩, h3⟩ := h
      have ih := findNow_key hti hk hu k l es (i + 1) h3
      have same : Instr.sameNow d (encV ti.ty k) e.key = some (decide (k = p.1)) := by
        rw [h1]
        clear ih h3 h1 h2
        obtain ⟨ty, by_, el⟩ := ti
        cases ty <;> try (simp [Ty.key] at hk; done)
        · have := ti_int hti rfl
          rw [this] at hu; cases hu
          simp only [Instr.sameNow, encV, encC, Ty.cell, cond_true, List.headD_cons, if_true, Option.some.injEq]
          rw [Bool.eq_iff_iff]; simp
        · have := ti_bool hti rfl
          rw [this] at hu; cases hu
          show some ((k : Bool) == (p.1 : Bool)) = _
          rw [Option.some.injEq, Bool.eq_iff_iff]; simp
        · have := ti_str hti rfl
          rw [this] at hu; cases hu
          show some ((⟨List.toArray k⟩ : ByteArray) == ⟨List.toArray p.1⟩) = _
          rw [Option.some.injEq, bytes_beq, Bool.eq_iff_iff, decide_eq_true_eq, decide_eq_true_eq]
      simp only [Instr.findNow, same, afind]
      by_cases hkp : k = p.1
      · simp [hkp, h2]
      · simp only [hkp, decide_false, if_false]
        exact ih
theorem keyEnc {P : Program} {T : Tab} {kt : TypeId} {ti : TI} (hti : tiB P T kt ti = true) (hk : ti.ty.key = true) : KeyEnc P kt (encV ti.ty) := by
  obtain ⟨d, hu, hd⟩ := ti_cell hti (key_cell hk)
  refine ⟨fun e k w => ?_, fun k l es h w => ?_, fun k => ?_⟩
  · show (Instr.checkKey e (9999 + 1) kt _).run P w = _
    unfold Instr.checkKey
    obtain ⟨ty, by_, el⟩ := ti
    cases ty <;> try (simp [Ty.key] at hk; done)
    · have := ti_int hti rfl; simp [run_underlying this]
    · have := ti_bool hti rfl; simp [run_underlying this]
    · have := ti_str hti rfl; simp [run_underlying this]
  · simp only [Instr.findKey, Sem.run_bind, run_underlying hu, Result.andThen_ok, findNow_key hti hk hu k l es 0 h, Sem.run_pure]
  · obtain ⟨ty, by_, el⟩ := ti
    cases ty <;> try (simp [Ty.key] at hk; done)
    · show Instr.sameBits 10000 (.int _ k) (.int _ k) = true
      simp [Instr.sameBits]
    · show Instr.sameBits 10000 (.bool k) (.bool k) = true
      simp [Instr.sameBits]
    · show Instr.sameBits 10000 (.string _) (.string _) = true
      simp [Instr.sameBits, bytes_beq]
section
variable {κ : Type} [DecidableEq κ] {ν μ : Type}
theorem aget_rep {R : ν → μ → Prop} {x : κ} : ∀ {ls : List (κ × ν)} {l : List (κ × μ)}, ls.length = l.length → (∀ (j : Nat) (p : κ × ν) (q : κ × μ), ls[j]? = some p → l[j]? = some q → p.1 = q.1 ∧ R p.2 q.2) → (aget x ls = none ∧ aget x l = none) ∨ ∃ u y, aget x ls = some u ∧ aget x l = some y ∧ R u y
  | [], [], _, _ => .inl ⟨rfl, rfl⟩
  | p :: ls, q :: l, hl, h => by
    obtain ⟨h1, h2⟩ := h 0 p q rfl rfl
    obtain ⟨pk, pv⟩ := p
    obtain ⟨qk, qv⟩ := q
    simp only at h1 h2
    subst h1
    simp only [aget]
    by_cases hx : x = pk
    · simp only [hx, if_true]; exact .inr ⟨_, _, rfl, rfl, h2⟩
    · simp only [hx, if_false]
      exact aget_rep (by simpa using hl) fun j p q hp hq => h (j + 1) p q (by simpa using hp) (by simpa using hq)
  | [], _ :: _, hl, _ => by simp at hl
  | _ :: _, [], hl, _ => by simp at hl
theorem aput_mem {x : κ} {y : μ} {q : κ × μ} : ∀ {l : List (κ × μ)}, q ∈ aput x y l → q ∈ l ∨ q = (x, y)
  | [], h => by simp [aput] at h; exact .inr h
  | p :: l, h => by
    obtain ⟨pk, pv⟩ := p
    simp only [aput] at h
    split at h
    · rename_i e
      rcases List.mem_cons.1 h with h | h
      · exact .inr (by rw [h, e])
      · exact .inl (by simp [h])
    · rcases List.mem_cons.1 h with h | h
      · exact .inl (by simp [h])
      · rcases aput_mem h with h | h
        · exact .inl (by simp [h])
        · exact .inr h
theorem aput_rep {R : ν → μ → Prop} {x : κ} {u : ν} {y : μ} (hu : R u y) : ∀ {ls : List (κ × ν)} {l : List (κ × μ)}, ls.length = l.length → (∀ (j : Nat) (p : κ × ν) (q : κ × μ), ls[j]? = some p → l[j]? = some q → p.1 = q.1 ∧ R p.2 q.2) → (aput x u ls).length = (aput x y l).length ∧ ∀ (j : Nat) (p : κ × ν) (q : κ × μ), (aput x u ls)[j]? = some p → (aput x y l)[j]? = some q → p.1 = q.1 ∧ R p.2 q.2
  | [], [], _, _ => ⟨rfl, fun j p q hp hq => by
      cases j with
      | zero => simp [aput] at hp hq; subst hp; subst hq; exact ⟨rfl, hu⟩
      | succ j => simp [aput] at hp⟩
  | p :: ls, q :: l, hl, h => by
    obtain ⟨h1, h2⟩ := h 0 p q rfl rfl
    obtain ⟨pk, pv⟩ := p
    obtain ⟨qk, qv⟩ := q
    simp only at h1 h2
    subst h1
    simp only [aput]
    by_cases hx : x = pk
    · simp only [hx, if_true]
      refine ⟨by simpa using hl, fun j p q hp hq => ?_⟩
      cases j with
      | zero => simp at hp hq; subst hp; subst hq; exact ⟨rfl, hu⟩
      | succ j => exact h (j + 1) p q (by simpa using hp) (by simpa using hq)
    · simp only [hx, if_false]
      obtain ⟨k1, k2⟩ := aput_rep (x := x) hu (ls := ls) (l := l) (by simpa using hl) fun j p q hp hq => h (j + 1) p q (by simpa using hp) (by simpa using hq)
      refine ⟨by simpa using k1, fun j p q hp hq => ?_⟩
      cases j with
      | zero => simp at hp hq; subst hp; subst hq; exact ⟨rfl, h2⟩
      | succ j => exact k2 j p q (by simpa using hp) (by simpa using hq)
  | [], _ :: _, hl, _ => by simp at hl
  | _ :: _, [], hl, _ => by simp at hl
end
section
variable {P : Program} {T : Tab} {B : Bx} {ρ : Nat → Value} {F : Mem} {M : Mm} {w : World} {o : Oper} {ρ0 : Operand → Value} {d nm : Nat} {dd : Option Nat} {evf : Operand → AV} {own : List Nat} {wr : Nat → Bool}
theorem s_makeMap {t : TypeId} {k v : Ty} (st : St B ρ F M w) (ho : o.op = .makeMap t none) (hd : NoName B M nm) : OpOk P B ρ F w o ρ0 (some nm) (.hs nm) (upd M nm (some (.map k v []))) := by
  refine ⟨.value (.map (some w.heap.size)), w.alloc (.map #[] 0), _, upd ρ nm (.map (some w.heap.size)), F, ?_, .inl rfl, (upd_self _ _ _).symm, ?_, upd_oth _ _ _, fun _ _ e => e⟩
  · simp only [execOp, ho]; rfl
  · exact st.newOb _ _ _ hd rfl ⟨w.heap.size, [], rfl, MapAt.new w, ⟨rfl, fun j p q hp => by simp at hp⟩, fun q hq => by simp at hq⟩
theorem repV1_of {F : Mem} {t : Ty} {v : Value} {x : t.T} (ht : t.isT = false) (h : RepV F t v x) : RepV1 F t v x := by
  cases t <;> first | exact h | (simp [Ty.isT] at ht; done)
theorem zero_rep {t : TypeId} {ti : TI} (hti : tiB P T t ti = true) : ∃ z, (∀ w, (zeroValue t).run P w = .ok z w) ∧ RepV F ti.ty z ti.ty.d := by
  obtain ⟨inf, z, hi, hs, _, hz, hzv⟩ := ti_info hti
  refine ⟨z, fun w => by simp [zeroValue, typeInfo, hi, hz], ?_⟩
  obtain ⟨h1, h2⟩ := zeroVB_rep (F := F) hzv
  obtain ⟨ty, by_, el⟩ := ti
  have hnt := ti_isT hti
  cases ty with
  | tup b => simp [Ty.isT] at hnt
  | unit => exact absurd hzv (by simp [zeroVB])
  | pair a b => exact absurd hzv (by simp [zeroVB])
  | st b =>
    have : ∃ cs, z = .agg cs := by
      unfold zeroVB at hzv
      split at hzv <;> simp_all
    obtain ⟨cs, rfl⟩ := this
    exact ⟨cs.toList, by simp, h1⟩
  | arr n b =>
    have : ∃ cs, z = .agg cs := by
      unfold zeroVB at hzv
      split at hzv <;> simp_all
    obtain ⟨cs, rfl⟩ := this
    exact ⟨cs.toList, by simp, by simpa [Value.cells] using h1⟩
  | int k =>
    have : z.cells.toList = [z] := by
      unfold zeroVB at hzv
      split at hzv <;> simp_all [Value.cells]
    rw [this] at h1
    exact h1.single rfl
  | bool =>
    have : z.cells.toList = [z] := by
      unfold zeroVB at hzv
      split at hzv <;> simp_all [Value.cells]
    rw [this] at h1
    exact h1.single rfl
  | str =>
    have : z.cells.toList = [z] := by
      unfold zeroVB at hzv
      split at hzv <;> simp_all [Value.cells]
    rw [this] at h1
    exact h1.single rfl
  | sl e =>
    have : z.cells.toList = [z] := by
      unfold zeroVB at hzv
      split at hzv <;> simp_all [Value.cells]
    rw [this] at h1
    exact h1.single rfl
theorem s_lookup {t : TypeId} {m i : Operand} {ok : Bool} {k v : Ty} {a : AV} (hT : tabB P T = true) (st : St B ρ F M w) (hev : ∀ x, RepA ρ F (evf x) (ρ0 x)) (ho : o.op = .lookup t m i ok) (ht : mapT T t = some (k, v)) (hk : k.key = true) (h : lookupA M k v (evf m) (evf i) ok = some a) : OpOk P B ρ F w o ρ0 dd a M := by
  obtain ⟨kt, et, hu, h1, h2⟩ := tab_map hT ht
  obtain ⟨ti, hl, rfl⟩ := ty_look h1
  obtain ⟨te, hle, rfl⟩ := ty_look h2
  have hti := tab_ti hT hl
  have hte := tab_ti hT hle
  have hm := hev m
  have hi := hev i
  generalize evf m = am at h hm
  generalize evf i = ai at h hi
  unfold lookupA at h
  split at h <;> try (simp at h; done)
  rename_i hh
  split at h <;> try (simp at h; done)
  rename_i k' v' l hM
  split at h <;> try (simp at h; done)
  rename_i e1
  subst e1
  split at h <;> try (simp at h; done)
  rename_i e2
  subst e2
  split at h <;> simp only [Option.some.injEq, reduceCtorEq] at h
  rename_i x hx
  subst h
  obtain ⟨b, ls, e3, h3, ⟨h4, h5⟩, h6⟩ := st.obs hh _ hM
  have hmv : ρ0 m = .map (some b) := by rw [show ρ0 m = ρ hh from hm, e3]
  have hiv : ρ0 i = encV ti.ty x := encV_rep hk (as_rep hx hi)
  obtain ⟨z, hz1, hz2⟩ := zero_rep (F := F) hte
  have hrun := run_lookup_at (keyEnc hti hk) hu hz1 h3 x ok
  refine ok_value (v := if ok = true then Value.tuple #[(aget x ls).getD z, Value.bool (aget x ls).isSome] else (aget x ls).getD z) st (by simp only [execOp, ho, hmv, hiv, Sem.run_bind, hrun, Result.andThen_ok, Sem.run_pure]) ?_
  have key : RepV F te.ty ((aget x ls).getD z) ((aget x l).getD te.ty.d) ∧ (aget x ls).isSome = (aget x l).isSome := by
    rcases aget_rep (x := x) (R := fun u y => RepV F te.ty u y) h4 h5 with ⟨q1, q2⟩ | ⟨u, y, q1, q2, q3⟩
    · rw [q1, q2]; exact ⟨hz2, rfl⟩
    · rw [q1, q2]; exact ⟨q3, rfl⟩
  cases ok with
  | false => exact key.1
  | true =>
    simp only [cond_true, if_true]
    refine ⟨[_, _], rfl, _, _, rfl, ?_, _, _, rfl, ?_, rfl⟩
    · exact repV1_of (ti_isT hte) key.1
    · rw [key.2]; exact rfl
theorem s_mapUpdate {t : TypeId} {m i x : Operand} {k v : Ty} {M' : Mm} (hT : tabB P T = true) (st : St B ρ F M w) (hev : ∀ x, RepA ρ F (evf x) (ρ0 x)) (ho : o.op = .mapUpdate t m i x) (ht : mapT T t = some (k, v)) (hk : k.key = true) (h : putA M wr k v (evf m) (evf i) (evf x) = some M') : OpOk P B ρ F w o ρ0 dd .any M' := by
  obtain ⟨kt, et, hu, h1, h2⟩ := tab_map hT ht
  obtain ⟨ti, hl, rfl⟩ := ty_look h1
  have hti := tab_ti hT hl
  have hm := hev m
  have hi := hev i
  have hx := hev x
  generalize evf m = am at h hm
  generalize evf i = ai at h hi
  generalize evf x = ax at h hx
  unfold putA at h
  split at h <;> try (simp at h; done)
  rename_i hh
  cases hwr : wr hh with
  | false => rw [hwr] at h; simp at h
  | true =>
  rw [hwr] at h
  simp only [cond_true] at h
  split at h <;> try (simp at h; done)
  rename_i k' v' l hM
  split at h <;> try (simp at h; done)
  rename_i e1
  subst e1
  split at h <;> try (simp at h; done)
  rename_i e2
  subst e2
  split at h <;> simp only [Option.some.injEq, reduceCtorEq] at h
  rename_i y z hy hz
  subst h
  obtain ⟨b, ls, e3, h3, ⟨h4, h5⟩, h6⟩ := st.obs hh _ hM
  have hmv : ρ0 m = .map (some b) := by rw [show ρ0 m = ρ hh from hm, e3]
  have hiv : ρ0 i = encV ti.ty y := encV_rep hk (as_rep hy hi)
  obtain ⟨w', r1, r2, r3, r4, r5⟩ := run_update_at (keyEnc hti hk) hu h3 y (ρ0 x)
  refine ⟨.skip, w', undef, ρ, F, by simp only [execOp, ho, hmv, hiv, Sem.run_bind, r1, Result.andThen_ok, Sem.run_pure], .inr ⟨rfl, rfl⟩, trivial, ?_, fun _ _ => rfl, fun _ _ e => e⟩
  refine st.put hh _ _ b hM (by rw [e3]; rfl) r3 ⟨b, _, e3, r2, aput_rep (x := y) (R := fun u y => RepV F v' u y) (as_rep hz hx) h4 h5, fun q hq => ?_⟩
  rcases aput_mem hq with h7 | rfl
  · exact h6 q h7
  · exact ⟨(as_rep hy hi).wf (cell_isT (key_cell hk)), (as_rep hz hx).wf (by obtain ⟨te, hle, he⟩ := ty_look h2; rw [← he]; exact ti_isT (tab_ti hT hle))⟩
theorem s_iface {t : TypeId} {x : Operand} {τ : Ty} {y : τ.T} (hT : tabB P T = true) (st : St B ρ F M w) (hev : ∀ x, RepA ρ F (evf x) (ρ0 x)) (ho : o.op = .makeInterface t x) (ht : T.ty t = some τ) (h : (evf x).as τ = some y) : OpOk P B ρ F w o ρ0 dd (.ifd t τ y) M := by
  obtain ⟨ti, hl, rfl⟩ := ty_look ht
  have hti := tab_ti hT hl
  refine ok_value (v := .iface t (ρ0 x)) st ?_ ⟨_, rfl, as_rep h (hev x)⟩
  rcases ti_kind hti with ⟨_, d, hu, hd⟩ | ⟨_, d, hu, hd⟩
  · have hni : ∀ z, d ≠ .interface z := by
      intro z e
      subst e
      unfold tiB at hti
      rw [hu] at hti
      simp at hti
    simp only [execOp, ho, Instr.makeInterface, Sem.run_bind, run_underlying hu, Result.andThen_ok]
    cases d <;> first | rfl | exact absurd rfl (hni _)
  · simp only [execOp, ho, Instr.makeInterface, Sem.run_bind, run_underlying hu, Result.andThen_ok]
    cases d <;> first | rfl | (simp [aggD] at hd; done)
theorem s_extractTg {x : Operand} {k : Nat} {l : List Cap} {c : Cap} (st : St B ρ F M w) (hev : ∀ x, RepA ρ F (evf x) (ρ0 x)) (ho : o.op = .extract x k) (hx : evf x = .tg l) (h : (l.drop k).head? = some c) : OpOk P B ρ F w o ρ0 dd (.c c) M := by
  have hv := hev x
  rw [hx] at hv
  obtain ⟨vs, e1, e2, e3⟩ := hv
  have hj := head_drop h
  have hlt : k < vs.length := by rw [e2]; exact (List.getElem?_eq_some_iff.1 hj).1
  refine ok_value (v := vs.getD k undef) st ?_ (e3 k c hj)
  simp [execOp, ho, e1, Instr.extract, List.getD_eq_getElem?_getD, hlt]
theorem bif_some {α : Type} {c : Bool} {x : Option α} {y : α} (h : (bif c then x else none) = some y) : c = true ∧ x = some y := by cases c <;> simp_all
theorem out1_some {p : Option (Option Prop × AV)} {out : Out} (h : out1 M p = some out) : ∃ q, p = some q ∧ out = ⟨q.1, q.2, M⟩ := by
  cases p with
  | none => simp [out1] at h
  | some q => simp only [out1, Option.some.injEq] at h; exact ⟨q, rfl, h.symm⟩
theorem out0_some {p : Option AV} {out : Out} (h : out0 M p = some out) : ∃ q, p = some q ∧ out = ⟨none, q, M⟩ := by
  cases p with
  | none => simp [out0] at h
  | some q => simp only [out0, Option.some.injEq] at h; exact ⟨q, rfl, h.symm⟩
theorem blt_lt {a b : Nat} (h : Nat.blt a b = true) : a < b := by simp [Nat.blt] at h; omega
theorem OpOk.cast {d d' : Option Nat} {val : AV} {M' : Mm} (e : d = d') (h : OpOk P B ρ F w o ρ0 d val M') : OpOk P B ρ F w o ρ0 d' val M' := e ▸ h
theorem op_sound (hT : tabB P T = true) (st : St B ρ F M w) (hev : ∀ x, RepA ρ F (evf x) (ρ0 x)) (hfr : allocB own d o.op = true → NoName B M nm ∧ ∀ x, (evf x).uses nm = false) {out : Out} (h : opA T own wr d nm o.type o.op evf M = some out) (hob : ∀ p, out.ob = some p → p) :
    OpOk P B ρ F w o ρ0 (bif allocB own d o.op then some nm else none) out.val out.M := by
  cases hop : o.op with
  | move x =>
    rw [hop] at h
    simp only [opA, Option.some.injEq] at h
    subst h
    exact s_move (T := T) st hev hop
  | assign x =>
    rw [hop] at h
    simp only [opA, Option.some.injEq] at h
    subst h
    exact s_assign (T := T) st hev hop
  | pick c a b =>
    rw [hop] at h
    simp only [opA] at h
    split at h <;> try (simp at h; done)
    rename_i g hg
    obtain ⟨q, hq, rfl⟩ := out1_some h
    exact s_pick st hev hop hg hq hob
  | binOp op t x y t2 =>
    rw [hop] at h
    simp only [opA] at h
    obtain ⟨q, hq, rfl⟩ := out1_some h
    exact s_bin hT st hev hop hq hob
  | unOp op t x =>
    rw [hop] at h
    simp only [opA] at h
    obtain ⟨q, hq, rfl⟩ := out1_some h
    exact s_un st hev hop hq hob
  | convert s t x =>
    rw [hop] at h
    simp only [opA] at h
    split at h <;> try (simp at h; done)
    rename_i σ τ h1 h2
    obtain ⟨q, hq, rfl⟩ := out1_some h
    exact s_conv hT st hev hop h1 h2 hq hob
  | nilCheck x =>
    rw [hop] at h
    simp only [opA] at h
    obtain ⟨q, hq, rfl⟩ := out0_some h
    exact s_nilCheck st hev hop hq
  | load t x =>
    rw [hop] at h
    simp only [opA] at h
    split at h <;> try (simp at h; done)
    rename_i τ h1
    obtain ⟨q, hq, rfl⟩ := out0_some h
    exact s_load hT st hev hop h1 hq
  | store t p x =>
    rw [hop] at h
    simp only [opA] at h
    split at h <;> try (simp at h; done)
    rename_i τ h1
    split at h <;> simp only [Option.some.injEq, reduceCtorEq] at h
    rename_i M' h2
    subst h
    exact s_store hT st hev hop h1 h2
  | fieldAddr s x k =>
    rw [hop] at h
    simp only [opA] at h
    split at h <;> try (simp at h; done)
    rename_i b h1
    split at h <;> try (simp at h; done)
    rename_i t h2
    cases hz : Nat.beq t.sz 0 with
    | true => rw [hz] at h; simp at h
    | false =>
      rw [hz] at h
      simp only [cond_false] at h
      split at h <;> try (simp at h; done)
      · rename_i b' y h3
        split at h <;> try (simp at h; done)
        rename_i e
        subst e
        obtain ⟨q, hq, rfl⟩ := out0_some h
        exact s_fieldAddr hT st hev hop h1 h2 hz (.inl ⟨y, h3, hq⟩)
      · rename_i hh off h3
        simp only [Option.some.injEq] at h
        subst h
        exact s_fieldAddr hT st hev hop h1 h2 hz (.inr ⟨hh, off, h3, rfl⟩)
  | field s x k =>
    rw [hop] at h
    simp only [opA] at h
    split at h <;> try (simp at h; done)
    rename_i b h1
    split at h <;> try (simp at h; done)
    · rename_i b' y h2
      split at h <;> try (simp at h; done)
      rename_i e
      subst e
      obtain ⟨q, hq, rfl⟩ := out0_some h
      exact s_field hT st hev hop h1 h2 hq
    · rename_i l h2
      split at h <;> try (simp at h; done)
      rename_i t h3
      obtain ⟨c, h⟩ := bif_some h
      rw [Bool.and_eq_true] at c
      split at h <;> simp only [Option.some.injEq, reduceCtorEq] at h
      rename_i cc h4
      subst h
      rw [dropL_eq] at h4
      exact s_fieldAg hT st hev hop h1 h2 h3 c.1 h4
  | indexAddr t x i =>
    rw [hop] at h
    simp only [opA] at h
    split at h <;> try (simp at h; done)
    · rename_i τ k n h1 h2
      split at h <;> try (simp at h; done)
      · rename_i τ' xs h3
        split at h <;> simp only [Option.some.injEq, reduceCtorEq] at h
        rename_i e
        subst e
        subst h
        exact s_indexAddr hT st hev hop h1 h2 (.inl ⟨xs, h3, hob _ rfl, rfl⟩)
      · rename_i hh h3
        split at h <;> try (simp at h; done)
        rename_i E τ' xs h4
        split at h <;> simp only [Option.some.injEq, reduceCtorEq] at h
        rename_i e
        subst e
        subst h
        exact s_indexAddr hT st hev hop h1 h2 (.inr ⟨hh, E, xs, h3, h4, hob _ rfl, rfl⟩)
    · rename_i N τ k n h1 h2
      split at h <;> try (simp at h; done)
      rename_i N' τ' xs h3
      split at h <;> simp only [Option.some.injEq, reduceCtorEq] at h
      rename_i e
      cases e
      subst h
      exact s_indexAddrArr hT st hev hop h1 h2 h3 (hob _ rfl)
  | index t x i =>
    rw [hop] at h
    simp only [opA] at h
    split at h <;> try (simp at h; done)
    · rename_i s k n h1 h2 h3
      simp only [Option.some.injEq] at h
      subst h
      exact s_index hT st hev hop h1 h2 h3 (hob _ rfl)
    · rename_i N τ N' τ' xs k n h1 h2 h3
      split at h <;> simp only [Option.some.injEq, reduceCtorEq] at h
      rename_i e
      cases e
      subst h
      exact s_indexArr hT st hev hop h1 h3 h2 (hob _ rfl)
  | slice t x l hh m =>
    rw [hop] at h
    simp only [opA] at h
    split at h <;> try (simp at h; done)
    rename_i τ h1
    split at h <;> try (simp at h; done)
    rename_i l' h' m' h2 h3 h4
    cases hb : memB own d with
    | true =>
      rw [hb] at h
      simp only [cond_true] at h
      split at h <;> try (simp at h; done)
      rename_i te
      have hf := hfr (by rw [hop]; exact hb)
      exact OpOk.cast (by simp [allocB, hb]) <| s_cut hT st hev hop h1 h2 h3 h4 h hob hf.1 ⟨te, rfl⟩
    | false =>
      rw [hb] at h
      simp only [cond_false] at h
      refine OpOk.cast (d := none) (by simp [allocB, hb]) ?_
      split at h
      · rename_i p hp
        obtain ⟨q, hq, rfl⟩ := out1_some h
        cases hq
        exact s_view hT st hev hop h1 h2 h3 h4 hp hob
      · obtain ⟨q, hq, rfl⟩ := out1_some h
        exact s_slice hT st hev hop h1 h2 h3 h4 hq hob
  | build t ps =>
    rw [hop] at h
    simp only [opA] at h
    split at h <;> try (simp at h; done)
    rename_i b h1
    split at h
    · rename_i x h2
      simp only [Option.some.injEq] at h
      subst h
      have h3 : setFs b (ps.toList.map fun p => (p.1, evf p.2)) b.d = some x := by
        cases hm : memB own d with
        | true => rw [hm] at h2; simp at h2
        | false => rw [hm] at h2; exact h2
      exact s_build hT st hev hop h1 h3
    · split at h <;> simp only [Option.some.injEq, reduceCtorEq] at h
      rename_i l h2
      subst h
      exact s_buildAg hT st hev hop h1 h2
  | buildSlice t n ps =>
    rw [hop] at h
    simp only [opA] at h
    split at h <;> try (simp at h; done)
    rename_i τ by_ e h1
    obtain ⟨c, h⟩ := bif_some h
    rw [Bool.and_eq_true] at c
    split at h <;> try (simp at h; done)
    rename_i xs h2
    refine OpOk.cast (d := bif memB own d then some nm else none) rfl <| s_buildSlice (d := nm) (own1 := memB own d) hT st hev hop h1 (Nat.le_of_ble_eq_true c.1) (blt_lt c.2) h2 (fun hb => ?_) ?_
    · exact (hfr (by rw [hop]; exact hb)).1
    · revert h
      cases memB own d <;> simp only [cond_true, cond_false, Option.some.injEq] <;> exact fun h => h.symm
  | makeSlice t l c =>
    rw [hop] at h
    simp only [opA] at h
    split at h <;> try (simp at h; done)
    rename_i τ by_ e h1
    split at h <;> try (simp at h; done)
    rename_i te n m h2 h3 h4
    obtain ⟨c, h⟩ := bif_some h
    rw [Bool.and_eq_true] at c
    simp only [Option.some.injEq] at h
    subst h
    have := hfr (by rw [hop]; rfl)
    exact OpOk.cast rfl <| s_makeSlice hT st hev hop h1 h2 h3 h4 (blt_lt c.1) (blt_lt c.2) (hob _ rfl) this.1
  | box t x =>
    rw [hop] at h
    simp only [opA] at h
    split at h <;> try (simp at h; done)
    rename_i τ h1
    cases hb : memB own d with
    | false =>
      rw [hb] at h
      simp only [cond_false] at h
      split at h <;> simp only [Option.some.injEq, reduceCtorEq] at h
      rename_i y h2
      subst h
      exact s_box_kp hT st hev hop h1 h2
    | true =>
      rw [hb] at h
      simp only [cond_true] at h
      have hf := hfr (by rw [hop]; exact hb)
      split at h
      · rename_i b
        split at h <;> try (simp at h; done)
        rename_i l h2
        obtain ⟨c, h⟩ := bif_some h
        rw [Bool.and_eq_true] at c
        simp only [Option.some.injEq] at h
        subst h
        have hr := leaves_rep rfl st h2 (hev x)
        refine OpOk.cast (by simp [allocB, hb]) <| s_box_own st hop (by rw [avs_len, ← hr.1, Array.length_toList]) (caps_one st c.2 hr) (fun j cc hj => ?_) hf.1
        rw [avs_get] at hj
        cases hj' : l[j]? with
        | none => rw [hj'] at hj; simp at hj
        | some c' =>
          rw [hj'] at hj
          simp only [Option.map_some, Option.some.injEq] at hj
          subst hj
          exact ⟨hr.2 j c' hj', leaves_uses h2 (hf.2 x) c' (List.mem_of_getElem? hj')⟩
      · obtain ⟨c, h⟩ := bif_some h
        rw [Bool.and_eq_true] at c
        simp only [Option.some.injEq] at h
        subst h
        obtain ⟨q1, q2⟩ := cell_one st c.2 (hev x)
        refine OpOk.cast (by simp [allocB, hb]) <| s_box_own st hop (by rw [q1]; rfl) (by rw [q1]; simpa using q2) (fun j c hj => ?_) hf.1
        match j, hj with
        | 0, hj => simp at hj; subst hj; rw [q1]; exact ⟨hev x, hf.2 x⟩
  | alloc t =>
    rw [hop] at h
    simp only [opA] at h
    split at h <;> try (simp at h; done)
    rename_i τ h1
    refine OpOk.cast (d := bif memB own d then some nm else none) rfl <| s_alloc (d := nm) (own1 := memB own d) hT st hop h1 (fun hb => ?_) ?_
    · exact (hfr (by rw [hop]; exact hb)).1
    · revert h
      cases memB own d <;> simp only [cond_true, cond_false, Option.some.injEq] <;> exact fun h => h.symm
  | makeFunc fn first caps =>
    rw [hop] at h
    cases fn <;> try (simp [opA] at h; done)
    rename_i f
    simp only [opA] at h
    obtain ⟨c, h⟩ := bif_some h
    split at h <;> simp only [Option.some.injEq, reduceCtorEq] at h
    rename_i cs h1
    subst h
    exact s_makeFunc st hev hop (by have := Nat.eq_of_beq_eq_true c; rwa [lenL_eq] at this) h1
  | extract x k =>
    rw [hop] at h
    simp only [opA] at h
    split at h <;> try (simp at h; done)
    · rename_i b y h1
      obtain ⟨q, hq, rfl⟩ := out0_some h
      exact s_extract st hev hop h1 hq
    · rename_i l h1
      split at h <;> simp only [Option.some.injEq, reduceCtorEq] at h
      rename_i c h2
      subst h
      rw [dropL_eq] at h2
      exact s_extractTg st hev hop h1 h2
  | makeMap t r =>
    rw [hop] at h
    cases r with
    | some r => simp [opA] at h
    | none =>
      simp only [opA] at h
      split at h <;> simp only [Option.some.injEq, reduceCtorEq] at h
      rename_i k v h1
      subst h
      exact OpOk.cast rfl <| s_makeMap st hop (hfr (by rw [hop]; rfl)).1
  | lookup t m i ok =>
    rw [hop] at h
    simp only [opA] at h
    split at h <;> try (simp at h; done)
    rename_i k v h1
    obtain ⟨c, h⟩ := bif_some h
    obtain ⟨q, hq, rfl⟩ := out0_some h
    exact s_lookup hT st hev hop h1 c hq
  | mapUpdate t m i x =>
    rw [hop] at h
    simp only [opA] at h
    split at h <;> try (simp at h; done)
    rename_i k v h1
    obtain ⟨c, h⟩ := bif_some h
    split at h <;> simp only [Option.some.injEq, reduceCtorEq] at h
    rename_i M' h2
    subst h
    exact s_mapUpdate hT st hev hop h1 c h2
  | makeInterface t x =>
    rw [hop] at h
    simp only [opA] at h
    split at h <;> try (simp at h; done)
    rename_i τ h1
    split at h <;> simp only [Option.some.injEq, reduceCtorEq] at h
    rename_i y h2
    subst h
    exact s_iface hT st hev hop h1 h2
  | call c =>
    rw [hop] at h
    obtain ⟨callee, args, tys⟩ := c
    cases callee with
    | value f => simp [opA] at h
    | invoke r n => simp [opA] at h
    | builtin b =>
      cases b <;> try (simp [opA] at h; done)
      case append =>
        simp only [opA] at h
        split at h <;> try (simp at h; done)
        rename_i s x t t' h1 h2
        obtain ⟨c, h⟩ := bif_some h
        have e := Nat.eq_of_beq_eq_true c
        subst e
        split at h <;> try (simp at h; done)
        rename_i τ by_ e h3
        split at h <;> try (simp at h; done)
        rename_i te hh xs ys h4 h5 h6
        obtain ⟨_, h⟩ := bif_some h
        obtain ⟨c2, h⟩ := bif_some h
        rw [Bool.and_eq_true] at c2
        have := hfr (by rw [hop]; rfl)
        cases hmo : memB own d with
        | true =>
          rw [hmo] at h
          simp only [cond_true, Option.some.injEq] at h
          subst h
          exact OpOk.cast rfl <| s_append hT st hev hop h1 h2 h3 h4 h5 h6 (blt_lt c2.1) (blt_lt c2.2) (hob _ rfl) this.1
        | false =>
          rw [hmo] at h
          simp only [cond_false, Option.some.injEq] at h
          subst h
          exact OpOk.cast rfl <| append_frz rfl this.1.nom <| s_append hT st hev hop h1 h2 h3 h4 h5 h6 (blt_lt c2.1) (blt_lt c2.2) (hob _ rfl) this.1
      case copy =>
        simp only [opA] at h
        split at h <;> try (simp at h; done)
        rename_i D S t t' h1 h2
        obtain ⟨c, h⟩ := bif_some h
        have e := Nat.eq_of_beq_eq_true c
        subst e
        split at h <;> try (simp at h; done)
        rename_i τ h3
        obtain ⟨_, h⟩ := bif_some h
        obtain ⟨c2, h⟩ := bif_some h
        split at h <;> try (simp at h; done)
        rename_i ys h4
        cases h5 : copyA M wr τ (evf D) ys with
        | none => rw [h5] at h; simp at h
        | some p =>
          obtain ⟨n, M'⟩ := p
          rw [h5] at h
          have h := Option.some.inj h
          subst h
          exact s_copy hT st hev hop h1 h2 h3 (blt_lt c2) h4 h5
      case len =>
        simp only [opA] at h
        split at h <;> try (simp at h; done)
        rename_i x t h1 h2
        split at h <;> try (simp at h; done)
        rename_i τ h3
        obtain ⟨q, hq, rfl⟩ := out0_some h
        exact s_len hT st hev hop h1 h2 h3 hq
      case min =>
        simp only [opA] at h
        split at h <;> try (simp at h; done)
        rename_i x y h1
        split at h <;> try (simp at h; done)
        rename_i k a k' b h2 h3
        split at h <;> simp only [Option.some.injEq, reduceCtorEq] at h
        rename_i e
        subst e
        subst h
        exact s_minmax true st hev hop h1 h2 h3
      case max =>
        simp only [opA] at h
        split at h <;> try (simp at h; done)
        rename_i x y h1
        split at h <;> try (simp at h; done)
        rename_i k a k' b h2 h3
        split at h <;> simp only [Option.some.injEq, reduceCtorEq] at h
        rename_i e
        subst e
        subst h
        exact s_minmax false st hev hop h1 h2 h3
  | panic x =>
    rw [hop] at h
    simp only [opA, Option.some.injEq] at h
    subst h
    exact (hob _ rfl).elim
  | _ => rw [hop] at h; simp [opA] at h
end
end Go.Proofs.Ytohglckebkgbpaa
