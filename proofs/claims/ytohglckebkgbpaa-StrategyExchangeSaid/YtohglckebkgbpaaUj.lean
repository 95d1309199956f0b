/-
  What the evaluator says of an operation is so: make, box, append, and all of them together.
-/
import Derived.Test.YtohglckebkgbpaaUi
namespace Go.Proofs.Ytohglckebkgbpaa
open Go.RowKit

section
variable {P : Program} {T : Tab} {B : Bx} {ρ : Nat → Value} {F : Mem} {M : Mm} {w : World} {o : Oper} {ρ0 : Operand → Value} {d : Nat} {dd : Option Nat} {evf : Operand → AV}
theorem s_makeSlice {t e : TypeId} {by_ : Nat} {L C : Operand} {τ : Ty} {te : TI} {n m : Int} (hT : tabB P T = true) (st : St B ρ F M w) (hev : ∀ x, RepA ρ F (evf x) (ρ0 x)) (ho : o.op = .makeSlice t L C) (ht : look T.tys t = some ⟨.sl τ, by_, e⟩) (hte : look T.tys e = some te)
    (hl : evf L = .d (.int .i64) n) (hc : evf C = .d (.int .i64) m) (hz : 0 < τ.sz) (hby : 0 < te.bytes) (hob : 0 ≤ n ∧ n ≤ m ∧ m * (te.bytes : Int) ≤ 140737488355328) (hd : NoName B M d) :
    OpOk P B ρ F w o ρ0 (some d) (.hs d) (upd M d (some (.row e τ (List.replicate n.toNat τ.d)))) := by
  have hti := tab_ti hT ht
  obtain ⟨hu, hte'⟩ := ti_slice hti rfl
  obtain ⟨te', hle, hee⟩ := ty_look hte'
  simp only at hu hte' hle
  rw [hte] at hle
  cases hle
  have htie := tab_ti hT hte
  obtain ⟨inf, z, hi, hs, hb, hzz, hzv⟩ := ti_info htie
  rw [hee] at hs hzv
  have hz2 := zeroVB_rep (F := F) hzv
  have h1 := hev L; rw [hl] at h1; obtain ⟨h1, _⟩ := rep_int h1
  have h2 := hev C; rw [hc] at h2; obtain ⟨h2, h2k⟩ := rep_int h2
  have hm63 : m ≤ 9223372036854775807 := h2k.2
  have hmle : m ≤ m * (te.bytes : Int) := by
    have : m * 1 ≤ m * (te.bytes : Int) := Int.mul_le_mul_of_nonneg_left (by omega) (by omega)
    simpa using this
  have hrun := run_make (P := P) w t e inf z hu hi hzz .i64 .i64 n m hob.1 hob.2.1 (by rw [hb, Int.mul_comm]; omega) hm63
  have hmax : m.toNat ≤ maxLen := by simp only [maxLen]; omega
  have hrun' : (execOp ρ0 o).run P w = .ok (.value (.slice (some ⟨w.heap.size, 0, none⟩) n.toNat m.toNat)) (w.alloc (.cells (madeCells z.cells (m.toNat * inf.size)) e)) := by simp only [execOp, ho, h1, h2, Sem.run_bind, hrun, Result.andThen_ok, Sem.run_pure]
  refine ⟨_, _, _, upd ρ d _, F, hrun', .inl rfl, (upd_self _ _ _).symm, ?_, upd_oth _ _ _, fun _ _ e => e⟩
  refine st.newOb _ _ _ hd rfl ⟨(madeCells z.cells (n.toNat * τ.sz)).toList, ⟨by simp [madeCells], .inr ⟨w.heap.size, m.toNat, _, by simp, Nat.zero_le _, heap_alloc_new w _, by simp; omega, hmax, by rw [size_madeCells, hs], ?_⟩⟩, replicate_rep hz2.1 n.toNat⟩
  have hle : n.toNat * τ.sz ≤ m.toNat * τ.sz := Nat.mul_le_mul_right _ (by omega)
  rw [List.length_replicate, hs]
  apply List.ext_getElem?
  intro k
  rw [List.getElem?_take]
  by_cases hk : k < n.toNat * τ.sz
  · have : k < m.toNat * τ.sz := by omega
    simp [madeCells, hk, this]
  · simp [madeCells, hk]
theorem exec_box {t : TypeId} {x : Operand} (ho : o.op = .box t x) : (execOp ρ0 o).run P w = .ok (.value (.pointer (some ⟨w.heap.size, 0, none⟩))) (w.alloc (.cells (ρ0 x).cells t)) := by
  simp only [execOp, ho]; rfl
theorem run_box {e : TypeId} {v : Value} : (Instr.box e v).run P w = .ok (.pointer (some ⟨w.heap.size, 0, none⟩)) (w.alloc (.cells v.cells e)) := rfl
theorem s_box_kp {t : TypeId} {x : Operand} {τ : Ty} {y : τ.T} (hT : tabB P T = true) (st : St B ρ F M w) (hev : ∀ x, RepA ρ F (evf x) (ρ0 x)) (ho : o.op = .box t x) (ht : T.ty t = some τ) (h : (evf x).as τ = some y) : OpOk P B ρ F w o ρ0 dd (.kp τ y) M := by
  obtain ⟨ti, hl, rfl⟩ := ty_look ht
  have hr := (as_rep h (hev x)).cells (ti_isT (tab_ti hT hl))
  obtain ⟨F', s1, s2, s3⟩ := st.newFact (ρ0 x).cells t
  refine ⟨_, _, _, ρ, F', exec_box ho, .inl rfl, ?_, s1, fun _ _ => rfl, s2⟩
  exact ⟨w.heap.size, 0, (ρ0 x).cells.toList, rfl, fun j u hj => by rw [Nat.zero_add]; exact s3 j u (by simpa using hj), hr.mono s2⟩
theorem s_box_own {t : TypeId} {x : Operand} {leaves : List AV} (st : St B ρ F M w) (ho : o.op = .box t x) (hl : leaves.length = (ρ0 x).cells.size) (h1 : ∀ u ∈ (ρ0 x).cells.toList, u.oneCell' = true) (hr : ∀ j c, leaves[j]? = some c → RepA ρ F c ((ρ0 x).cells.toList.getD j undef) ∧ c.uses d = false) (hd : NoName B M d) :
    OpOk P B ρ F w o ρ0 (some d) (.hp d 0) (upd M d (some (.cells leaves))) := by
  refine ⟨_, _, _, upd ρ d _, F, exec_box ho, .inl rfl, ⟨w.heap.size, upd_self _ _ _, rfl⟩, ?_, upd_oth _ _ _, fun _ _ e => e⟩
  refine st.newOb (.cells (ρ0 x).cells t) _ _ hd rfl ⟨w.heap.size, _, t, rfl, heap_alloc_new w _, hl.symm, h1, fun j c hj => ?_⟩
  obtain ⟨k1, k2⟩ := hr j c hj
  have := k1.other (upd_other ρ d (.pointer (some ⟨w.heap.size, 0, none⟩))) k2
  simpa [List.getD_eq_getElem?_getD, Array.getD_eq_getD_getElem?] using this
theorem leafs_uses {α : Type} {f : α → List Cap} {h : Nat} (hf : ∀ x, ∀ c ∈ f x, c.uses h = false) : ∀ (xs : List α), ∀ c ∈ leafs f xs, c.uses h = false
  | [], c, hc => by simp [leafs] at hc
  | x :: xs, c, hc => by
    simp only [leafs, appL_eq, List.mem_append] at hc
    rcases hc with hc | hc
    · exact hf x c hc
    · exact leafs_uses hf xs c hc
theorem leafA_uses {h : Nat} : ∀ {t : Ty} {x : t.T} {c : Cap}, c ∈ leafA t x → c.uses h = false
  | .unit, _, _, hc => by simp [leafA] at hc
  | .pair a b, x, c, hc => by
    rw [leafA_pair, List.mem_append] at hc
    rcases hc with hc | hc
    · exact leafA_uses hc
    · exact leafA_uses hc
  | .st b, x, c, hc => leafA_uses (t := b) hc
  | .arr n e, xs, c, hc => leafs_uses (fun x c hc => leafA_uses (t := e) hc) xs c hc
  | .tup _, _, _, hc => by simp [leafA] at hc
  | .int k, x, c, hc => by simp [leafA] at hc; subst hc; rfl
  | .bool, x, c, hc => by simp [leafA] at hc; subst hc; rfl
  | .str, x, c, hc => by simp [leafA] at hc; subst hc; rfl
  | .sl e, x, c, hc => by simp [leafA] at hc; subst hc; rfl
theorem leafN_uses {h : Nat} : ∀ {t : Ty} {c : Cap}, c ∈ leafN t → c.uses h = false
  | .pair a b, c, hc => by
    simp only [leafN, appL_eq, List.mem_append] at hc
    rcases hc with hc | hc
    · exact leafN_uses hc
    · exact leafN_uses hc
  | .st b, c, hc => leafN_uses (t := b) hc
  | .sl e, c, hc => by simp [leafN] at hc; subst hc; rfl
  | .unit, c, hc => leafA_uses hc
  | .arr n e, c, hc => leafA_uses hc
  | .int k, c, hc => leafA_uses hc
  | .bool, c, hc => leafA_uses hc
  | .str, c, hc => leafA_uses hc
  | .tup b, c, hc => leafA_uses hc
theorem leaves_uses {t : Ty} {a : AV} {l : List Cap} {h : Nat} (hl : a.leaves M t = some l) (hu : a.uses h = false) : ∀ c ∈ l, c.uses h = false := by
  unfold AV.leaves at hl
  cases hg : agA t a with
  | some m =>
    rw [hg] at hl
    simp only [Option.some.injEq] at hl
    subst hl
    have := agA_some hg
    subst this
    simpa [AV.uses] using hu
  | none =>
  rw [hg] at hl
  simp only at hl
  cases hx : a.as t with
  | some x =>
    rw [hx] at hl
    simp only [Option.some.injEq] at hl
    subst hl
    exact fun c hc => leafA_uses hc
  | none =>
    rw [hx] at hl
    simp only at hl
    cases a with
    | c x =>
      simp only at hl
      cases hk : (t.cell && (AV.c x).cellB M) with
      | false => rw [hk] at hl; simp at hl
      | true =>
        rw [hk] at hl
        simp only [cond_true, Option.some.injEq] at hl
        subst hl
        intro c hc
        simp only [List.mem_singleton] at hc
        subst hc
        exact hu
    | _ => simp at hl
theorem run_alloc {t : TypeId} {inf : TypeInfo} {z : Value} (hi : P.info? t = some inf) (hz : inf.zero = some z) : (Instr.alloc t true (.tuple #[])).run P w = .ok (.pointer (some ⟨w.heap.size, 0, none⟩)) (w.alloc (.cells z.cells t)) := by
  simp only [Instr.alloc, zeroValue, typeInfo, Sem.run_bind, run_program, hi, hz, Sem.run_pure, Result.andThen_ok]
  rfl
theorem exec_alloc {t : TypeId} {inf : TypeInfo} {z : Value} (hi : P.info? t = some inf) (hz : inf.zero = some z) (ho : o.op = .alloc t) : (execOp ρ0 o).run P w = .ok (.value (.pointer (some ⟨w.heap.size, 0, none⟩))) (w.alloc (.cells z.cells t)) := by
  simp only [execOp, ho, Sem.run_bind, run_alloc hi hz, Result.andThen_ok, Sem.run_pure]
theorem s_alloc {t : TypeId} {τ : Ty} {own1 : Bool} (hT : tabB P T = true) (st : St B ρ F M w) (ho : o.op = .alloc t) (ht : T.ty t = some τ) (hd : own1 = true → NoName B M d) {out : Out}
    (hout : out = bif own1 then ⟨none, .hp d 0, upd M d (some (.cells (avs (leafN τ))))⟩ else ⟨none, .kp τ τ.d, M⟩) : OpOk P B ρ F w o ρ0 (bif own1 then some d else none) out.val out.M := by
  obtain ⟨ti, hl, rfl⟩ := ty_look ht
  obtain ⟨inf, z, hi, hs, hb, hzz, hzv⟩ := ti_info (tab_ti hT hl)
  have hz2 := zeroVB_rep (F := F) hzv
  subst hout
  cases hb : own1 with
  | false =>
    obtain ⟨F', s1, s2, s3⟩ := st.newFact z.cells t
    refine ⟨_, _, _, ρ, F', exec_alloc hi hzz ho, .inl rfl, ?_, s1, fun _ _ => rfl, s2⟩
    exact ⟨w.heap.size, 0, z.cells.toList, rfl, fun j u hj => by rw [Nat.zero_add]; exact s3 j u (by simpa using hj), hz2.1.mono s2⟩
  | true =>
    have hd1 := hd hb
    have hl2 : RepCs' (upd ρ d (.pointer (some ⟨w.heap.size, 0, none⟩))) F (leafN ti.ty) z.cells.toList := leafN_zero hzv
    refine ⟨_, _, _, upd ρ d _, F, exec_alloc hi hzz ho, .inl rfl, ⟨w.heap.size, upd_self _ _ _, rfl⟩, ?_, by simpa [hb] using upd_oth ρ d _, fun _ _ e => e⟩
    refine st.newOb (.cells z.cells t) _ _ hd1 rfl ⟨w.heap.size, _, t, rfl, heap_alloc_new w _, by rw [avs_len, ← hl2.1]; simp, hz2.1.one, fun j c hj => ?_⟩
    rw [avs_get] at hj
    cases hj' : (leafN ti.ty)[j]? with
    | none => rw [hj'] at hj; simp at hj
    | some c' =>
      rw [hj'] at hj
      simp only [Option.map_some, Option.some.injEq] at hj
      subst hj
      have := hl2.2 j c' hj'
      show RepCap _ F c' _
      simpa [List.getD_eq_getElem?_getD, Array.getD_eq_getD_getElem?] using this
theorem caps_rep (hev : ∀ x, RepA ρ F (evf x) (ρ0 x)) : ∀ (l : List Operand) (cs : List Cap), capsA (l.map evf) = some cs → RepCs' ρ F cs (l.map ρ0)
  | [], cs, h => by simp only [List.map_nil, capsA, Option.some.injEq] at h; subst h; exact RepCs'.nil
  | x :: l, cs, h => by
    simp only [List.map_cons, capsA] at h
    split at h <;> try (simp at h; done)
    rename_i c hc
    split at h <;> simp only [Option.some.injEq, reduceCtorEq] at h
    rename_i cs' hcs
    subst h
    have h1 := caps_rep hev l cs' hcs
    have hx := hev x
    generalize evf x = ax at hc hx
    cases ax <;> simp only [AV.cap?, Option.some.injEq, reduceCtorEq] at hc
    subst hc
    exact (RepCs'.one hx).app h1
theorem s_makeFunc {f : FuncId} {first caps : Array Operand} {cs : List Cap} (st : St B ρ F M w) (hev : ∀ x, RepA ρ F (evf x) (ρ0 x)) (ho : o.op = .makeFunc (.func f) first caps) (hf : first.toList.length = 0) (h : capsA (caps.toList.map evf) = some cs) : OpOk P B ρ F w o ρ0 dd (.fn f cs) M := by
  have h1 := caps_rep hev caps.toList cs h
  have hf' : first = #[] := by simpa using hf
  refine ok_value (v := .func (.func f) #[] (caps.map ρ0)) st (by simp [execOp, ho, Instr.makeFunc, hf']) ⟨caps.toList.map ρ0, ?_, h1⟩
  congr 1
  apply Array.ext'
  simp
theorem tup_proj {F : Mem} : ∀ {b : Ty} {vs : List Value} {x : b.T} {k : Nat} {a : AV}, RepTup F b vs x → projA b x k = some a → ∃ v, vs[k]? = some v ∧ ∃ t y, a = .d t y ∧ RepV F t v y
  | .pair a r, vs, x, 0, c, h, hp => by
    obtain ⟨v, vs', rfl, h1, h2⟩ := h
    simp only [projA, Option.some.injEq] at hp
    subst hp
    refine ⟨v, rfl, a, x.1, rfl, ?_⟩
    cases a <;> first | exact h1 | exact h1.elim
  | .pair a r, vs, x, k + 1, c, h, hp => by
    obtain ⟨v, vs', rfl, h1, h2⟩ := h
    obtain ⟨u, e1, e2⟩ := tup_proj h2 (show projA r x.2 k = some c from hp)
    exact ⟨u, by simpa using e1, e2⟩
  | .unit, _, _, _, _, _, hp => by simp [projA] at hp
  | .int _, _, _, _, _, _, hp => by simp [projA] at hp
  | .bool, _, _, _, _, _, hp => by simp [projA] at hp
  | .str, _, _, _, _, _, hp => by simp [projA] at hp
  | .sl _, _, _, _, _, _, hp => by simp [projA] at hp
  | .arr _ _, _, _, _, _, _, hp => by simp [projA] at hp
  | .st _, _, _, _, _, _, hp => by simp [projA] at hp
  | .tup _, _, _, _, _, _, hp => by simp [projA] at hp
theorem s_extract {x : Operand} {k : Nat} {b : Ty} {y : b.T} {v : AV} (st : St B ρ F M w) (hev : ∀ x, RepA ρ F (evf x) (ρ0 x)) (ho : o.op = .extract x k) (hx : evf x = .d (.tup b) y) (h : projA b y k = some v) : OpOk P B ρ F w o ρ0 dd v M := by
  have hv := hev x
  rw [hx] at hv
  obtain ⟨vs, e1, e2⟩ := hv
  obtain ⟨u, k1, t, z, rfl, k2⟩ := tup_proj e2 h
  refine ok_value (v := u) st ?_ k2
  simp [execOp, ho, e1, Instr.extract, k1]
theorem s_minmax {x y : Operand} {k : IntKind} {a b : Int} {args : Array Operand} {tys : Array TypeId} (hmm : Bool) (st : St B ρ F M w) (hev : ∀ x, RepA ρ F (evf x) (ρ0 x)) (ho : o.op = .call { callee := .builtin (bif hmm then .min else .max), args, argTypes := tys }) (ha : args.toList = [x, y])
    (hx : evf x = .d (.int k) a) (hy : evf y = .d (.int k) b) : OpOk P B ρ F w o ρ0 dd (.d (.int k) (bif hmm then min a b else max a b)) M := by
  have h1 := hev x; rw [hx] at h1; obtain ⟨h1, i1⟩ := rep_int h1
  have h2 := hev y; rw [hy] at h2; obtain ⟨h2, i2⟩ := rep_int h2
  have ha' : args = #[x, y] := by rw [← Array.toArray_toList (xs := args), ha]
  subst ha'
  cases hmm
  · refine ok_value (v := .int k (max a b)) st ?_ (mk_int ⟨by have := i1.1; simp only [cond_false]; omega, by have := i1.2; have := i2.2; simp only [cond_false]; omega⟩)
    simp only [execOp, ho, cond_false, resolve, invoke, builtin, Sem.run_bind, Sem.run_pure, Result.andThen_ok, List.map_toArray, List.map_cons, List.map_nil, h1, h2, Builtin.max_, List.foldlM_cons, List.foldlM_nil, Builtin.max2]
    congr 3
    split <;> omega
  · refine ok_value (v := .int k (min a b)) st ?_ (mk_int ⟨by have := i1.1; have := i2.1; simp only [cond_true]; omega, by have := i1.2; simp only [cond_true]; omega⟩)
    simp only [execOp, ho, cond_true, resolve, invoke, builtin, Sem.run_bind, Sem.run_pure, Result.andThen_ok, List.map_toArray, List.map_cons, List.map_nil, h1, h2, Builtin.min_, List.foldlM_cons, List.foldlM_nil, Builtin.min2]
    congr 3
    split <;> omega

theorem RepCs.append {t : Ty} {us vs : List Value} {xs ys : List t.T} (h : RepCs F t us xs) (k : RepCs F t vs ys) : RepCs F t (us ++ vs) (xs ++ ys) := by
  refine ⟨by rw [List.length_append, h.1, k.1, List.length_append, Nat.add_mul], fun i hi => ?_⟩
  rw [List.length_append] at hi
  by_cases hlt : i < xs.length
  · have e : ((us ++ vs).drop (i * t.sz)).take t.sz = (us.drop (i * t.sz)).take t.sz := by
      have hle : i * t.sz + t.sz ≤ us.length := by rw [h.1, ← Nat.succ_mul]; exact Nat.mul_le_mul_right _ hlt
      apply List.ext_getElem?
      intro j
      rw [List.getElem?_take, List.getElem?_take]
      split
      · rw [List.getElem?_drop, List.getElem?_drop, List.getElem?_append, if_pos (by omega)]
      · rfl
    rw [e, List.getElem_append_left hlt]
    exact h.2 i hlt
  · have e : ((us ++ vs).drop (i * t.sz)).take t.sz = (vs.drop ((i - xs.length) * t.sz)).take t.sz := by
      have hle : us.length ≤ i * t.sz := by rw [h.1]; exact Nat.mul_le_mul_right _ (by omega)
      apply List.ext_getElem?
      intro j
      rw [List.getElem?_take, List.getElem?_take]
      split
      · rw [List.getElem?_drop, List.getElem?_drop, List.getElem?_append, if_neg (by omega)]
        congr 1
        have h1 := h.1
        rw [h1, Nat.sub_mul]
        rw [h1] at hle
        omega
      · rfl
    rw [e, List.getElem_append_right (by omega)]
    exact k.2 _ (by omega)
theorem reps_one {t : Ty} {us : List Value} {xs : List t.T} (hz : 0 < t.sz) (h2 : RepCs F t us xs) : ∀ u ∈ us, u.oneCell' = true := by
  intro u hu
  obtain ⟨j, hj, rfl⟩ := List.mem_iff_getElem.1 hu
  have hjl : j / t.sz < xs.length := by rw [Nat.div_lt_iff_lt_mul hz]; rw [← h2.1]; exact hj
  refine (h2.2 (j / t.sz) hjl).one _ ?_
  have : ((us.drop (j / t.sz * t.sz)).take t.sz)[j % t.sz]? = some us[j] := by
    rw [List.getElem?_take, if_pos (Nat.mod_lt _ hz), List.getElem?_drop, Nat.mul_comm, Nat.div_add_mod]
    simp [hj]
  exact List.mem_of_getElem? this
/-- elements to be appended, in memory -/
theorem src_rep {t : Ty} {ys : List t.T} {a : AV} {v : Value} (st : St B ρ F M w) (hz : 0 < t.sz) (h : srcA M t a = some ys) (hr : RepA ρ F a v) : ∃ us, SrcAt w.cell? v ys.length t.sz us ∧ RepCs F t us ys := by
  unfold srcA at h
  split at h
  · rename_i a' xs
    obtain ⟨e, rfl⟩ := castT_some h
    cases e
    obtain ⟨ad, cap, hv, c1, c2, c3⟩ := rep_sl hr
    have hvs : ∀ i, i < List.length xs → ∃ vs : List Value, RepC F t vs (xs.getD i t.d) ∧ ∀ j u, vs[j]? = some u → ∃ q, ad = some q ∧ w.cell? (q.add (i * t.sz + j)) = some u := fun i hi => by
      obtain ⟨b, off, vs, rfl, k1, k2⟩ := c3 i hi
      exact ⟨vs, by rw [getD_at hi]; exact k2, fun j u hj => ⟨_, rfl, by rw [add_mk]; exact st.sub _ _ (k1 j u hj)⟩⟩
    have key : ∀ n, n ≤ List.length xs → ∃ us : List Value, us.length = n * t.sz ∧ (∀ u ∈ us, u.oneCell' = true) ∧ (∀ j u, us[j]? = some u → ∃ q, ad = some q ∧ w.cell? (q.add j) = some u) ∧ RepCs F t us (xs.take n) := by
      intro n
      induction n with
      | zero => intro _; exact ⟨[], by simp, by simp, by simp, ⟨by simp, fun i hi => absurd hi (by simp)⟩⟩
      | succ n ih =>
        intro hn
        obtain ⟨us, u1, u2, u3, u4⟩ := ih (by omega)
        obtain ⟨vs, v1, v2⟩ := hvs n (by omega)
        refine ⟨us ++ vs, by rw [List.length_append, u1, v1.len, Nat.succ_mul], fun u hu => ?_, fun j u hj => ?_, ?_⟩
        · rcases List.mem_append.1 hu with h | h
          · exact u2 u h
          · exact v1.one u h
        · rw [List.getElem?_append] at hj
          split at hj
          · exact u3 j u hj
          · rename_i hlt
            rw [u1] at hj hlt
            have := v2 _ u hj
            rwa [show n * t.sz + (j - n * t.sz) = j by omega] at this
        · have e : xs.take (n + 1) = xs.take n ++ [xs.getD n t.d] := by
            rw [List.take_succ_eq_append_getElem (by omega), getD_at (by omega)]
          rw [e]
          refine u4.append ⟨by simp [v1.len], fun i hi => ?_⟩
          have h0 : i = 0 := by simpa using hi
          subst h0
          simp only [Nat.zero_mul, List.drop_zero, List.getElem_cons_zero]
          rw [List.take_of_length_le (by rw [v1.len]; exact Nat.le_refl _)]
          exact v1
    obtain ⟨us, u1, u2, u3, u4⟩ := key _ (Nat.le_refl _)
    rw [List.take_length] at u4
    exact ⟨us, ⟨ad, cap, hv, u1, u2, u3⟩, u4⟩
  · simp only [Option.some.injEq] at h
    subst h
    exact ⟨[], ⟨none, 0, hr, by simp, by simp, by simp⟩, ⟨by simp, fun i hi => absurd hi (by simp)⟩⟩
  · rename_i hh
    split at h <;> try (simp at h; done)
    rename_i E te xs hM
    obtain ⟨e, rfl⟩ := castT_some h
    cases e
    obtain ⟨us, h1, h2⟩ := st.obs hh _ hM
    have hv : v = ρ hh := hr
    have hone := reps_one hz h2
    rcases h1.2 with ⟨e1, e2⟩ | ⟨g, cap, cur, e1, _, hg, hc1, hc2, _⟩
    · have hx : us = [] := List.eq_nil_of_length_eq_zero (by rw [h2.1]; show List.length xs * _ = 0; rw [e2]; simp)
      subst hx
      exact ⟨[], ⟨none, 0, by rw [hv, e1, e2], by rw [e2]; simp, by simp, by simp⟩, h2⟩
    · rw [e1] at h1
      refine ⟨us, ⟨some ⟨g, 0, none⟩, cap, by rw [hv, e1], h2.1, hone, fun j u hj => ⟨_, rfl, ?_⟩⟩, h2⟩
      rw [add_mk, Nat.zero_add, h1.cellAt j (by have := (List.getElem?_eq_some_iff.1 hj).1; rw [h2.1] at this; exact this)]
      exact hj
  · rename_i hh te l r
    split at h <;> try (simp at h; done)
    rename_i E te' xs hM
    split at h <;> try (simp at h; done)
    rename_i e0
    subst e0
    obtain ⟨e, rfl⟩ := castT_some h
    cases e
    obtain ⟨us, h1, h2⟩ := st.obs hh _ hM
    obtain ⟨ad, n, cap, e1, k1, k2, k3, k4, hv⟩ := hr
    have hn : n = xs.length := by
      rcases h1.2 with ⟨q1, q2⟩ | ⟨g, cap', cur, q1, _⟩
      · rw [e1] at q1; simp only [Value.slice.injEq] at q1; rw [q1.2.1]; exact q2.symm
      · rw [e1] at q1; simp only [Value.slice.injEq] at q1; exact q1.2.1
    subst hn
    have hlen : ((xs.take r).drop l).length = r - l := by simp; omega
    have hus : us.length = xs.length * t.sz := h1.1
    have hle : r * t.sz ≤ xs.length * t.sz := Nat.mul_le_mul_right _ k2
    have hlr : l * t.sz ≤ r * t.sz := Nat.mul_le_mul_right _ k1
    have hreps : RepCs F t ((us.take (r * t.sz)).drop (l * t.sz)) ((xs.take r).drop l) := by
      refine ⟨by rw [hlen, List.length_drop, List.length_take, hus, Nat.sub_mul]; omega, fun i hi => ?_⟩
      rw [hlen] at hi
      have e : (((us.take (r * t.sz)).drop (l * t.sz)).drop (i * t.sz)).take t.sz = (us.drop ((l + i) * t.sz)).take t.sz := by
        have : (l + i + 1) * t.sz ≤ r * t.sz := Nat.mul_le_mul_right _ (by omega)
        rw [Nat.succ_mul, Nat.add_mul] at this
        apply List.ext_getElem?
        intro j
        rw [List.getElem?_take, List.getElem?_take]
        split
        · rw [List.getElem?_drop, List.getElem?_drop, List.getElem?_drop, List.getElem?_take, if_pos (by omega), Nat.add_mul]
          congr 1; omega
        · rfl
      rw [e]
      have e2 : ((xs.take r).drop l)[i]'(by rw [hlen]; exact hi) = xs[l + i]'(by omega) := by simp
      rw [e2]
      exact h2.2 (l + i) (by omega)
    refine ⟨_, ⟨if cap = l then ad else ad.map (·.add (l * t.sz)), cap - l, by rw [hv, hlen], hreps.1, reps_one hz hreps, fun j u hj => ?_⟩, hreps⟩
    have hj' : us[l * t.sz + j]? = some u ∧ l * t.sz + j < r * t.sz := by
      rw [List.getElem?_drop, List.getElem?_take] at hj
      split at hj
      · rename_i hlt; exact ⟨hj, hlt⟩
      · simp at hj
    have hne : ¬ cap = l := by
      intro e
      have : r = l := by omega
      subst this
      omega
    rcases h1.2 with ⟨q1, q2⟩ | ⟨g, cap', cur, q1, _⟩
    · have q2 : xs.length = 0 := q2
      rw [q2] at hle
      omega
    · rw [e1] at q1
      simp only [Value.slice.injEq] at q1
      obtain ⟨rfl, _, rfl⟩ := q1
      rw [if_neg hne]
      refine ⟨_, rfl, ?_⟩
      rw [e1] at h1
      show w.cell? ((Addr.add ⟨g, 0, none⟩ (l * t.sz)).add j) = some u
      rw [add_mk, add_mk, Nat.zero_add, h1.cellAt (l * t.sz + j) (by omega)]
      exact hj'.1
  · simp at h
theorem beq_dec (k h : Nat) : (Nat.beq k h = true ∧ k = h) ∨ (Nat.beq k h = false ∧ k ≠ h) := by
  cases hq : Nat.beq k h with
  | true => exact .inl ⟨rfl, Nat.eq_of_beq_eq_true hq⟩
  | false => exact .inr ⟨rfl, fun e => by subst e; rw [Nat.beq_refl] at hq; simp at hq⟩
section
variable {h : Nat}
/-- an object's cells stay as they are: what is known of memory then -/
theorem St.lock (st : St B ρ F M w) {o : Ob} (hM : M h = some o) : ∃ F', Sub F F' ∧ St B ρ F' (fun k => bif Nat.beq k h then none else M k) w ∧ ∀ b, blk (ρ h) = some b → ∀ ad, ad.block = b → F' ad = w.cell? ad := by
  have s1 : St B ρ F (fun k => bif Nat.beq k h then none else M k) w := st.drop fun k o hk => by
    rcases beq_dec k h with ⟨e1, e2⟩ | ⟨e1, e2⟩
    · rw [e1] at hk; simp at hk
    · rw [e1] at hk; exact hk
  cases hb : blk (ρ h) with
  | none => exact ⟨F, Sub.refl _, s1, fun b hb => by simp at hb⟩
  | some b =>
    have hk := s1.fact b (st.mine h o b hM hb) fun k o2 hk hbk => by
      rcases beq_dec k h with ⟨e1, e2⟩ | ⟨e1, e2⟩
      · rw [e1] at hk; simp at hk
      · rw [e1] at hk
        exact e2 (st.inj k h o2 o b hk hM hbk hb)
    refine ⟨_, hk.2, hk.1, fun b' hb' ad had => ?_⟩
    simp only [Option.some.injEq] at hb'
    subst hb'
    simp [had]
theorem row_frz {E : Nat} {t : Ty} {xs : List t.T} {F' : Mem} (st : St B ρ F M w) (hM : M h = some (.row E t xs)) (hs : Sub F F') (hF : ∀ b, blk (ρ h) = some b → ∀ ad, ad.block = b → F' ad = w.cell? ad) : RepV F' (.sl t) (ρ h) xs := by
  obtain ⟨us, h1, h2⟩ := st.obs h _ hM
  rcases h1.2 with ⟨e1, e2⟩ | ⟨g, cap, cur, e1, _, hg, hc1, hc2, _⟩
  · rw [e1]
    have hx : xs = [] := List.eq_nil_of_length_eq_zero e2
    subst hx
    exact ⟨none, 0, rfl, Nat.zero_le _, by simp [maxLen], fun i hi => absurd hi (Nat.not_lt_zero _)⟩
  · rw [e1] at h1 hF ⊢
    refine ⟨_, cap, rfl, hc1, hc2, fun i hi => ⟨g, 0, _, rfl, fun j u hj => ?_, (h2.2 i hi).mono hs⟩⟩
    obtain ⟨k1, k2⟩ := seg_get hj
    rw [hF g rfl _ rfl, Nat.zero_add, h1.cellAt (i * t.sz + j) (by rw [← h2.1]; exact (List.getElem?_eq_some_iff.1 k1).1)]
    exact k1
end
theorem s_append {s x : Operand} {t e : TypeId} {by_ : Nat} {τ : Ty} {te : TI} {args : Array Operand} {tys : Array TypeId} {hh : Option Nat} {wr : Nat → Bool} {xs ys : List τ.T} (hT : tabB P T = true) (st : St B ρ F M w) (hev : ∀ x, RepA ρ F (evf x) (ρ0 x))
    (ho : o.op = .call { callee := .builtin .append, args, argTypes := tys }) (ha : args.toList = [s, x]) (htys : tys.toList = [t, t]) (ht : look T.tys t = some ⟨.sl τ, by_, e⟩) (hte : look T.tys e = some te)
    (hs : rowOf M wr e τ (evf s) = some (hh, xs)) (hx : srcA M τ (evf x) = some ys) (hz : 0 < τ.sz) (hby : 0 < te.bytes) (hob : ((xs.length + ys.length : Nat) : Int) * (te.bytes : Int) ≤ 140737488355328)
    (hd : NoName B M d) : OpOk P B ρ F w o ρ0 (some d) (.hs d) (upd (killM M hh) d (some (.row e τ (xs ++ ys)))) := by
  have hti := tab_ti hT ht
  obtain ⟨hu, hte'⟩ := ti_slice hti rfl
  obtain ⟨te', hle, hee⟩ := ty_look hte'
  simp only at hu hte' hle
  rw [hte] at hle
  cases hle
  obtain ⟨inf, z, hi, hsz, hb, hzz, hzv⟩ := ti_info (tab_ti hT hte)
  rw [hee] at hsz hzv
  have hz2 := (zeroVB_rep (F := F) hzv).2
  have ha' : args = #[s, x] := by rw [← Array.toArray_toList (xs := args), ha]
  have ht' : tys = #[t, t] := by rw [← Array.toArray_toList (xs := tys), htys]
  subst ha' ht'
  have E : Elem P t e z τ.sz te.bytes := ⟨hu, by rw [hi]; simp [hzz, hsz, hb], hz2, hz⟩
  obtain ⟨news, n1, n2⟩ := src_rep st hz hx (hev x)
  have hbytes : (xs.length + ys.length) * te.bytes ≤ 140737488355328 := by
    have : (((xs.length + ys.length) * te.bytes : Nat) : Int) ≤ 140737488355328 := by rw [Int.natCast_mul]; exact hob
    omega
  have h63 : xs.length + ys.length ≤ maxLen := by
    have : (xs.length + ys.length) * 1 ≤ (xs.length + ys.length) * te.bytes := Nat.mul_le_mul_left _ hby
    simp only [maxLen]; omega
  have hown : ∃ us, w.ownsRow 0 e τ.sz (ρ0 s) xs.length us ∧ RepCs F τ us xs ∧ (∀ b, blk (ρ0 s) = some b → ∃ h o, hh = some h ∧ M h = some o ∧ blk (ρ h) = some b) := by
    have hsv := hev s
    unfold rowOf at hs
    split at hs
    · rename_i e1
      rw [e1] at hsv
      simp only [Option.some.injEq, Prod.mk.injEq] at hs
      obtain ⟨rfl, rfl⟩ := hs
      rw [show ρ0 s = _ from hsv]
      exact ⟨[], World.ownsRow_nil _ _ _ _, ⟨by simp, fun i hi => absurd hi (by simp)⟩, by simp [blk]⟩
    · rename_i h e1
      rw [e1] at hsv
      cases hwr : wr h with
      | false => rw [hwr] at hs; simp at hs
      | true =>
      rw [hwr] at hs
      simp only [cond_true] at hs
      split at hs <;> try (simp at hs; done)
      rename_i e' te' zs hM
      cases hbe : Nat.beq e e' with
      | false => rw [hbe] at hs; simp at hs
      | true =>
        rw [hbe] at hs
        have ee := Nat.eq_of_beq_eq_true hbe
        subst ee
        simp only [cond_true] at hs
        split at hs <;> simp only [Option.some.injEq, reduceCtorEq, Prod.mk.injEq] at hs
        rename_i ws hws
        obtain ⟨q, rfl⟩ := castT_some hws
        cases q
        obtain ⟨rfl, rfl⟩ := hs
        obtain ⟨us, k1, k2⟩ := st.obs h _ hM
        rw [show ρ0 s = _ from hsv]
        exact ⟨us, k1, k2, fun b hb => ⟨h, _, rfl, hM, hb⟩⟩
    · simp at hs
  obtain ⟨us, o1, o2, o3⟩ := hown
  obtain ⟨v', w', hr, r1, r2, r3⟩ := app_at E o.type o1 n1 hbytes h63 (Nat.zero_le _)
  have hkill : ∀ k ob, killM M hh k = some ob → M k = some ob ∧ hh ≠ some k := by
    intro k ob hk
    cases hh with
    | none => exact ⟨hk, by simp⟩
    | some h =>
      simp only [killM] at hk
      cases hq : Nat.beq k h with
      | true => rw [hq] at hk; simp at hk
      | false => rw [hq] at hk; exact ⟨hk, by intro e; cases e; simp at hq⟩
  have hblk : blk (ρ0 s) = (ρ0 s).ownBlock := blk_own o1
  have s1 : St B ρ F (killM M hh) w' := st.grow r2 (fun b hb => by
      rw [← hblk] at hb
      obtain ⟨h, o', _, h2, h3⟩ := o3 b hb
      exact ⟨st.mine h o' b h2 h3, st.apart h o' b h2 h3⟩) (fun k ob hk => by
      obtain ⟨k1, k2⟩ := hkill k ob hk
      refine ⟨k1, ?_⟩
      cases hb : blk (ρ0 s) with
      | none => rw [← hblk, hb]; exact .inl rfl
      | some b =>
        right
        obtain ⟨h, o', h1, h2, h3⟩ := o3 b hb
        rw [← hblk, hb]
        intro e
        exact k2 (by rw [h1, st.inj k h ob o' b k1 h2 e h3]))
  have hdk : NoName B (killM M hh) d := ⟨by
    cases hq : killM M hh d with
    | none => rfl
    | some ob => have := (hkill d ob hq).1; rw [hd.nom] at this; simp at this, fun k ob hk => hd.obs k ob (hkill k ob hk).1, hd.lc, hd.lh⟩
  refine ⟨.value v', w', v', upd ρ d v', F, ?_, .inl rfl, (upd_self _ _ _).symm, ?_, upd_oth _ _ _, fun _ _ e => e⟩
  · simp only [execOp, ho, resolve, invoke, builtin, Sem.run_bind, Sem.run_pure, Result.andThen_ok, List.map_toArray, List.map_cons, List.map_nil, hr]
  · refine s1.add d v' _ hdk ⟨us ++ news, by rw [List.length_append]; exact r1, o2.append n2⟩ fun b hb => ?_
    rw [blk_own r1] at hb
    rcases r3 with r3 | r3
    · rw [r3, ← hblk] at hb
      obtain ⟨h, o', h1, h2, h3⟩ := o3 b hb
      refine ⟨st.mine h o' b h2 h3, st.apart h o' b h2 h3, fun k ob hk e => ?_⟩
      obtain ⟨k1, k2⟩ := hkill k ob hk
      exact k2 (by rw [h1, st.inj k h ob o' b k1 h2 e h3])
    · rw [r3] at hb
      cases hb
      refine ⟨fun hz => by have := st.zlt _ hz; have := st.size; omega, fun a u ha => ?_, fun k ob hk e => ?_⟩
      · have := World.block_lt_of_cell? w a (st.sub a u ha); omega
      · have := (st.obs k ob (hkill k ob hk).1).lt _ e; omega
/-- an appended row that is not written again -/
theorem append_frz {E : Nat} {τ : Ty} {zs : List τ.T} {hh : Option Nat} {nm : Nat} {dd : Option Nat} (hdd : dd = some nm) (hM : M nm = none) (k : OpOk P B ρ F w o ρ0 dd (.hs nm) (upd (killM M hh) nm (some (.row E τ zs)))) : OpOk P B ρ F w o ρ0 dd (.d (.sl τ) zs) (killM M hh) := by
  obtain ⟨n, w', v, ρ', F', h1, h2, h3, h4, h5, h6⟩ := k
  have hM' : upd (killM M hh) nm (some (.row E τ zs)) nm = some (.row E τ zs) := upd_self _ _ _
  obtain ⟨F2, s1, s2, s3⟩ := h4.lock hM'
  have hr := row_frz h4 hM' s1 s3
  refine ⟨n, w', v, ρ', F2, h1, h2, by rw [show v = ρ' nm from h3]; exact hr, s2.drop fun k ob hk => ?_, h5, h6.trans s1⟩
  have hkn : k ≠ nm := by
    intro e
    subst e
    cases hh with
    | none => rw [show killM M none k = M k from rfl, hM] at hk; simp at hk
    | some j =>
      simp only [killM] at hk
      cases hq : Nat.beq k j with
      | true => rw [hq] at hk; simp at hk
      | false => rw [hq, cond_false, hM] at hk; simp at hk
  have hb : Nat.beq k nm = false := by cases hq : Nat.beq k nm; rfl; exact absurd (Nat.eq_of_beq_eq_true hq) hkn
  rw [hb]
  simp only [cond_false]
  rw [upd_other _ _ _ k hkn]
  exact hk
end
end Go.Proofs.Ytohglckebkgbpaa
