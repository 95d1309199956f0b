/-
  What the evaluator says of an operation is so: literals, new memory, append.
-/
import Derived.Test.YtohglckebkgbpaaUh
import Derived.Test.YtohglckebkgbpaaTwo
namespace Go.Proofs.Ytohglckebkgbpaa
open Go.RowKit

theorem foldl_seg (off : Nat) : ∀ (l : List Value) (n : Nat) (cs : Array Value), off + n + l.length ≤ cs.size → (l.zipIdx n).foldl (fun cs p => cs.setIfInBounds (off + p.2) p.1) cs = (seg cs.toList l (off + n)).toArray
  | [], n, cs, _ => by simp [seg]
  | v :: l, n, cs, h => by
    simp only [List.length_cons] at h
    simp only [List.zipIdx_cons, List.foldl_cons]
    rw [foldl_seg off l (n + 1) _ (by simp; omega)]
    congr 1
    unfold seg
    have := list_seg_step cs.toList (off + n) v l (by simp; omega)
    simp only [List.length_cons, Array.toList_setIfInBounds]
    rw [← this]
    rfl
theorem fold_seg (off : Nat) (vs cells : Array Value) (h : off + vs.size ≤ cells.size) : vs.zipIdx.foldl (fun cs p => cs.setIfInBounds (off + p.2) p.1) cells = (seg cells.toList vs.toList off).toArray := by
  rw [← Array.foldl_toList, Array.toList_zipIdx]
  have := foldl_seg off vs.toList 0 cells (by simpa using h)
  simpa using this
theorem fill_step (place : Nat → Option (Nat × Nat)) (cells : Array Value) (i off size : Nat) (v : Value) (rest : List (Nat × Value)) (hp : place i = some (off, size)) (hs : v.cells.size = size) (hf : off + size ≤ cells.size) :
    Instr.fill place cells ((i, v) :: rest) = Instr.fill place (seg cells.toList v.cells.toList off).toArray rest := by
  subst hs
  simp only [Instr.fill, hp]
  rw [if_neg (by simp; omega)]
  congr 1
  exact fold_seg off v.cells cells hf
theorem RepC.put {F : Mem} : ∀ {b : Ty} {us : List Value} {x x' : b.T} {k : Nat} {v : AV}, RepC F b us x → setF b x k v = some x' → ∃ t y, fieldT b k = some t ∧ v.as t = some y ∧ offF b k + t.sz ≤ us.length ∧ ∀ vs, RepC F t vs y → RepC F b (seg us vs (offF b k)) x'
  | .pair a r, us, x, x', 0, v, h, hs => by
    simp only [setF] at hs
    split at hs <;> simp only [Option.some.injEq, reduceCtorEq] at hs
    rename_i y hy
    subst hs
    obtain ⟨u1, u2, rfl, h1, h2⟩ := h
    refine ⟨a, y, rfl, hy, by simp [offF, h1.len], fun vs hv => ⟨vs, u2, ?_, hv, h2⟩⟩
    simp only [offF, seg, List.take_zero, List.nil_append, Nat.zero_add]
    rw [hv.len, ← h1.len, List.drop_left]
  | .pair a r, us, x, x', k + 1, v, h, hs => by
    simp only [setF] at hs
    split at hs <;> simp only [Option.some.injEq, reduceCtorEq] at hs
    rename_i z hz
    subst hs
    obtain ⟨u1, u2, rfl, h1, h2⟩ := h
    obtain ⟨t, y, e1, e2, e3, e4⟩ := RepC.put h2 hz
    refine ⟨t, y, e1, e2, by simp [offF, h1.len]; omega, fun vs hv => ⟨u1, seg u2 vs (offF r k), ?_, h1, e4 vs hv⟩⟩
    simp only [offF, seg]
    rw [← h1.len, List.take_length_add_append, Nat.add_assoc, List.drop_length_add_append]
    simp
  | .unit, _, _, _, _, _, _, hs => by simp [setF] at hs
  | .int _, _, _, _, _, _, _, hs => by simp [setF] at hs
  | .bool, _, _, _, _, _, _, hs => by simp [setF] at hs
  | .str, _, _, _, _, _, _, hs => by simp [setF] at hs
  | .sl _, _, _, _, _, _, _, hs => by simp [setF] at hs
  | .arr _ _, _, _, _, _, _, _, hs => by simp [setF] at hs
  | .st _, _, _, _, _, _, _, hs => by simp [setF] at hs
  | .tup _, _, _, _, _, _, _, hs => by simp [setF] at hs

theorem places_at {P : Program} {T : Tab} (hT : tabB P T = true) : ∀ {fs : List Field} {b : Ty} {off : Nat}, fieldsB T fs b off = true →
    ∃ places : List (Nat × Nat), fs.mapM (fun f => (P.info? f.type).map fun i => (f.offset, i.size)) = some places ∧ ∀ k t, fieldT b k = some t → places[k]? = some (off + offF b k, t.sz) ∧ t.isT = false
  | [], b, off, h => by
    refine ⟨[], rfl, fun k t hk => ?_⟩
    obtain ⟨f, hf, _⟩ := fields_at h hk
    simp at hf
  | f :: fs, .pair a r, off, h => by
    simp only [fieldsB, Bool.and_eq_true, decide_eq_true_eq] at h
    obtain ⟨ti, hl, rfl⟩ := ty_look h.1.1
    obtain ⟨inf, z, hi, hs, _⟩ := ti_info (tab_ti hT hl)
    obtain ⟨places, e1, e2⟩ := places_at hT h.2
    refine ⟨(f.offset, inf.size) :: places, by simp [List.mapM_cons, hi, e1], fun k t hk => ?_⟩
    cases k with
    | zero =>
      simp only [fieldT, Option.some.injEq] at hk
      subst hk
      have := Nat.eq_of_beq_eq_true h.1.2
      exact ⟨by simp [offF, hs, this], ti_isT (tab_ti hT hl)⟩
    | succ k =>
      have := e2 k t hk
      exact ⟨by simp [offF, this.1]; omega, this.2⟩
  | _ :: _, .unit, _, h => by simp [fieldsB] at h
  | _ :: _, .int _, _, h => by simp [fieldsB] at h
  | _ :: _, .bool, _, h => by simp [fieldsB] at h
  | _ :: _, .str, _, h => by simp [fieldsB] at h
  | _ :: _, .sl _, _, h => by simp [fieldsB] at h
  | _ :: _, .arr _ _, _, h => by simp [fieldsB] at h
  | _ :: _, .st _, _, h => by simp [fieldsB] at h
  | _ :: _, .tup _, _, h => by simp [fieldsB] at h

section
variable {P : Program} {T : Tab} {B : Bx} {ρ : Nat → Value} {F : Mem} {M : Mm} {w : World} {o : Oper} {ρ0 : Operand → Value} {d : Nat} {dd : Option Nat} {evf : Operand → AV}
theorem fill_fields (hev : ∀ x, RepA ρ F (evf x) (ρ0 x)) {b : Ty} {place : Nat → Option (Nat × Nat)} (hpl : ∀ k t, fieldT b k = some t → place k = some (offF b k, t.sz) ∧ t.isT = false) :
    ∀ (ps : List (Nat × Operand)) (cells : Array Value) (x x' : b.T), RepC F b cells.toList x → setFs b (ps.map fun p => (p.1, evf p.2)) x = some x' → ∃ cells', Instr.fill place cells (ps.map fun p => (p.1, ρ0 p.2)) = some cells' ∧ RepC F b cells'.toList x'
  | [], cells, x, x', h, hs => by
    simp only [List.map_nil, setFs, Option.some.injEq] at hs
    subst hs
    exact ⟨cells, rfl, h⟩
  | p :: ps, cells, x, x', h, hs => by
    simp only [List.map_cons, setFs] at hs
    split at hs <;> try (simp at hs; done)
    rename_i y hy
    obtain ⟨t, z, e1, e2, e3, e4⟩ := h.put hy
    obtain ⟨q1, q2⟩ := hpl _ _ e1
    have hr := (as_rep e2 (hev p.2)).cells q2
    have hl := hr.len
    rw [Array.length_toList] at hl
    obtain ⟨cells', f1, f2⟩ := fill_fields hev hpl ps (seg cells.toList (ρ0 p.2).cells.toList (offF b p.1)).toArray y x' (by simpa using e4 _ hr) hs
    refine ⟨cells', ?_, f2⟩
    rw [List.map_cons, fill_step place cells p.1 _ _ _ _ q1 hl (by simpa using e3)]
    exact f1
theorem s_build {t : TypeId} {ps : Array (Nat × Operand)} {b : Ty} {x : b.T} (hT : tabB P T = true) (st : St B ρ F M w) (hev : ∀ x, RepA ρ F (evf x) (ρ0 x)) (ho : o.op = .build t ps) (ht : T.ty t = some (.st b)) (h : setFs b (ps.toList.map fun p => (p.1, evf p.2)) b.d = some x) : OpOk P B ρ F w o ρ0 dd (.d (.st b) x) M := by
  obtain ⟨ti, hl, he⟩ := ty_look ht
  have hti := tab_ti hT hl
  obtain ⟨inf, z, hi, hs, _, hz, hzv⟩ := ti_info hti
  obtain ⟨fs, hu, hfs⟩ := ti_struct hti he
  obtain ⟨places, hp1, hp2⟩ := places_at hT hfs
  rw [he] at hzv
  have hz2 := (zeroVB_rep (F := F) hzv).1
  obtain ⟨cells, f1, f2⟩ := fill_fields (place := (places.toArray[·]?)) hev (fun k t hk => by have := hp2 k t hk; simpa using this) ps.toList z.cells b.d x hz2 h
  refine ok_value (v := .agg cells) st ?_ ⟨cells.toList, by simp, f2⟩
  have hb : P.built t (ps.map fun (i, x) => (i, ρ0 x)).toList = some cells := by
    simp only [Program.built, hi, hu, hz, hp1]
    rw [Array.toList_map]
    exact f1
  simp only [execOp, ho, Sem.run_bind, run_build w t _ cells hb, Result.andThen_ok, Sem.run_pure]

theorem setAg_fill (hev : ∀ x, RepA ρ F (evf x) (ρ0 x)) {b : Ty} {place : Nat → Option (Nat × Nat)} (hpl : ∀ k t, fieldT b k = some t → place k = some (offF b k, t.sz) ∧ t.isT = false) (hfit : ∀ k t, fieldT b k = some t → offF b k + t.sz ≤ b.sz) (st : St B ρ F M w) :
    ∀ (ps : List (Nat × Operand)) (cells : Array Value) (l l' : List Cap), RepCs' ρ F l cells.toList → l.length = b.sz → setAg M b (ps.map fun p => (p.1, evf p.2)) l = some l' → ∃ cells', Instr.fill place cells (ps.map fun p => (p.1, ρ0 p.2)) = some cells' ∧ RepCs' ρ F l' cells'.toList ∧ l'.length = b.sz
  | [], cells, l, l', h, hb, hs => by
    simp only [List.map_nil, setAg, Option.some.injEq] at hs
    subst hs
    exact ⟨cells, rfl, h, hb⟩
  | p :: ps, cells, l, l', h, hb, hs => by
    simp only [List.map_cons, setAg] at hs
    split at hs <;> try (simp at hs; done)
    rename_i t ht
    split at hs <;> try (simp at hs; done)
    rename_i vs hvs
    cases hbq : Nat.beq (lenL vs) t.sz with
    | false => rw [hbq] at hs; simp at hs
    | true =>
      rw [hbq] at hs
      simp only [cond_true, segL_eq] at hs
      have hvl := Nat.eq_of_beq_eq_true hbq
      rw [lenL_eq] at hvl
      obtain ⟨q1, q2⟩ := hpl _ _ ht
      have hr := leaves_rep q2 st hvs (hev p.2)
      have hl : (ρ0 p.2).cells.size = t.sz := by rw [← Array.length_toList, hr.1, hvl]
      have hft := hfit _ _ ht
      have hcl : cells.size = b.sz := by rw [← Array.length_toList, h.1, hb]
      have hsegl : offF b p.1 + vs.length ≤ l.length := by rw [hvl, hb]; exact hft
      have hsegc : offF b p.1 + (ρ0 p.2).cells.toList.length ≤ cells.toList.length := by rw [Array.length_toList, Array.length_toList, hl, hcl]; exact hft
      have hseg : RepCs' ρ F (seg l vs (offF b p.1)) (seg cells.toList (ρ0 p.2).cells.toList (offF b p.1)) := by
        refine ⟨by rw [seg_len hsegl, seg_len hsegc]; exact h.1, fun j c hj => ?_⟩
        rw [seg_at hsegl] at hj
        rw [List.getD_eq_getElem?_getD, seg_at hsegc, hr.1]
        split at hj
        · rename_i h1
          rw [if_pos h1]
          have := h.2 j c hj
          simpa [List.getD_eq_getElem?_getD] using this
        · rename_i h1
          rw [if_neg h1]
          split at hj
          · rename_i h2
            rw [if_pos h2]
            have := hr.2 _ c hj
            simpa [List.getD_eq_getElem?_getD] using this
          · rename_i h2
            rw [if_neg h2]
            have := h.2 j c hj
            simpa [List.getD_eq_getElem?_getD] using this
      obtain ⟨cells', f1, f2, f3⟩ := setAg_fill hev hpl hfit st ps (seg cells.toList (ρ0 p.2).cells.toList (offF b p.1)).toArray (seg l vs (offF b p.1)) l' (by simpa using hseg) (by rw [seg_len hsegl, hb]) hs
      refine ⟨cells', ?_, f2, f3⟩
      rw [List.map_cons, fill_step place cells p.1 _ _ _ _ q1 hl (by rw [hcl]; exact hft)]
      exact f1
theorem field_fit : ∀ {b : Ty} {k : Nat} {t : Ty}, fieldT b k = some t → offF b k + t.sz ≤ b.sz
  | .pair a r, 0, t, h => by simp only [fieldT, Option.some.injEq] at h; subst h; simp [offF, Ty.sz]
  | .pair a r, k + 1, t, h => by
    have := field_fit (b := r) (k := k) (t := t) h
    simp only [offF, Ty.sz]; omega
  | .unit, _, _, h => by simp [fieldT] at h
  | .int _, _, _, h => by simp [fieldT] at h
  | .bool, _, _, h => by simp [fieldT] at h
  | .str, _, _, h => by simp [fieldT] at h
  | .sl _, _, _, h => by simp [fieldT] at h
  | .arr _ _, _, _, h => by simp [fieldT] at h
  | .st _, _, _, h => by simp [fieldT] at h
  | .tup _, _, _, h => by simp [fieldT] at h
theorem s_buildAg {t : TypeId} {ps : Array (Nat × Operand)} {b : Ty} {l : List Cap} (hT : tabB P T = true) (st : St B ρ F M w) (hev : ∀ x, RepA ρ F (evf x) (ρ0 x)) (ho : o.op = .build t ps) (ht : T.ty t = some (.st b)) (h : setAg M b (ps.toList.map fun p => (p.1, evf p.2)) (leafN b) = some l) : OpOk P B ρ F w o ρ0 dd (.ag l) M := by
  obtain ⟨ti, hl, he⟩ := ty_look ht
  have hti := tab_ti hT hl
  obtain ⟨inf, z, hi, hs, _, hz, hzv⟩ := ti_info hti
  obtain ⟨fs, hu, hfs⟩ := ti_struct hti he
  obtain ⟨places, hp1, hp2⟩ := places_at hT hfs
  rw [he] at hzv
  have hz2 := (zeroVB_rep (F := F) hzv).1
  have hz3 : RepCs' ρ F (leafN b) z.cells.toList := leafN_zero (t := .st b) hzv
  obtain ⟨cells, f1, f2, _⟩ := setAg_fill (place := (places.toArray[·]?)) hev (fun k t hk => by have := hp2 k t hk; simpa using this) (fun k t hk => field_fit hk) st ps.toList z.cells (leafN b) l hz3 (by rw [← hz3.1]; exact RepC.len (t := b) (show RepC F b _ _ from hz2)) h
  refine ok_value (v := .agg cells) st ?_ ⟨cells.toList, by simp, f2⟩
  have hb : P.built t (ps.map fun (i, x) => (i, ρ0 x)).toList = some cells := by
    simp only [Program.built, hi, hu, hz, hp1]
    rw [Array.toList_map]
    exact f1
  simp only [execOp, ho, Sem.run_bind, run_build w t _ cells hb, Result.andThen_ok, Sem.run_pure]
theorem replicate_rep {t : Ty} {z : Array Value} (hz : RepC F t z.toList t.d) (n : Nat) : RepCs F t (madeCells z (n * t.sz)).toList (List.replicate n t.d) := by
  have hl := hz.len
  rw [Array.length_toList] at hl
  refine ⟨by simp [madeCells], fun i hi => ?_⟩
  rw [List.length_replicate] at hi
  have e : ((madeCells z (n * t.sz)).toList.drop (i * t.sz)).take t.sz = z.toList := by
    apply List.ext_getElem?
    intro k
    rw [List.getElem?_take]
    split
    · rename_i hk
      have h1 : i * t.sz + k < n * t.sz := by have : (i + 1) * t.sz ≤ n * t.sz := Nat.mul_le_mul_right _ hi; rw [Nat.succ_mul] at this; omega
      have h2 : (i * t.sz + k) % z.size = k := by rw [hl, Nat.add_comm, Nat.add_mul_mod_self_right, Nat.mod_eq_of_lt hk]
      rw [List.getElem?_drop]
      have h3 : k < z.size := by omega
      simp [madeCells, h1, h2, h3]
    · rename_i hk
      rw [List.getElem?_eq_none (by rw [Array.length_toList]; omega)]
  rw [e, List.getElem_replicate]
  exact hz
theorem fill_elems (hev : ∀ x, RepA ρ F (evf x) (ρ0 x)) {t : Ty} (htt : t.isT = false) :
    ∀ (ps : List (Nat × Operand)) (cells : Array Value) (xs xs' : List t.T), RepCs F t cells.toList xs → setEs t (ps.map fun p => (p.1, evf p.2)) xs = some xs' → ∃ cells', Instr.fill (fun i => some (i * t.sz, t.sz)) cells (ps.map fun p => (p.1, ρ0 p.2)) = some cells' ∧ RepCs F t cells'.toList xs' ∧ xs'.length = xs.length
  | [], cells, xs, xs', h, hs => by
    simp only [List.map_nil, setEs, Option.some.injEq] at hs
    subst hs
    exact ⟨cells, rfl, h, rfl⟩
  | p :: ps, cells, xs, xs', h, hs => by
    simp only [List.map_cons, setEs, lenL_eq, setL_eq] at hs
    split at hs <;> try (simp at hs; done)
    rename_i y hy
    cases hb : Nat.blt p.1 (List.length xs) with
    | false => rw [hb] at hs; simp at hs
    | true =>
      rw [hb] at hs
      simp only [cond_true] at hs
      have hlt : p.1 < xs.length := by simp [Nat.blt] at hb; omega
      have hr := (as_rep hy (hev p.2)).cells htt
      have hl := hr.len
      rw [Array.length_toList] at hl
      obtain ⟨cells', f1, f2, f3⟩ := fill_elems hev htt ps (seg cells.toList (ρ0 p.2).cells.toList (p.1 * t.sz)).toArray (xs.set p.1 y) xs' (by simpa using h.set hlt hr) hs
      refine ⟨cells', ?_, f2, by rw [f3, List.length_set]⟩
      have h1 := h.1
      rw [Array.length_toList] at h1
      rw [List.map_cons, fill_step (fun i => some (i * t.sz, t.sz)) cells p.1 (p.1 * t.sz) t.sz _ _ rfl hl (by rw [h1, ← Nat.succ_mul]; exact Nat.mul_le_mul_right _ hlt)]
      exact f1

/-- new memory that stays as it is -/
theorem St.newFact (st : St B ρ F M w) (arr : Array Value) (e : TypeId) : ∃ F', St B ρ F' M (w.alloc (.cells arr e)) ∧ Sub F F' ∧ ∀ j u, arr[j]? = some u → F' ⟨w.heap.size, j, none⟩ = some u := by
  have s1 : St B ρ F M (w.alloc (.cells arr e)) := st.grow (World.grownBy_alloc w _ none) (by simp) fun h o ho => ⟨ho, .inl rfl⟩
  have hM : ∀ h o, M h = some o → blk (ρ h) ≠ some w.heap.size := fun h o ho hb => by have := (st.obs h o ho).lt _ hb; omega
  obtain ⟨s2, s3⟩ := s1.fact w.heap.size (fun hz => by have := st.zlt _ hz; have := st.size; omega) hM
  refine ⟨_, s2, s3, fun j u hu => ?_⟩
  simp only [if_true]
  rw [cell_of_row _ w.heap.size j arr e (0, 0) (heap_alloc_new w _)]
  exact hu
/-- a new object in a new block -/
theorem St.newOb (st : St B ρ F M w) (bo : Obj) (r : Value) (ob : Ob) (hd : NoName B M d) (hr : blk r = some w.heap.size) (ho : ObR B (upd ρ d r) F (w.alloc bo) d r ob) :
    St B (upd ρ d r) F (upd M d (some ob)) (w.alloc bo) := by
  have s1 : St B ρ F M (w.alloc bo) := st.grow (World.grownBy_alloc w _ none) (by simp) fun h o ho => ⟨ho, .inl rfl⟩
  refine s1.add d r ob hd ho fun b hb => ?_
  rw [hr] at hb
  cases hb
  refine ⟨fun hz => by have := st.zlt _ hz; have := st.size; omega, fun a u ha => ?_, fun h o ho hb => ?_⟩
  · have := World.block_lt_of_cell? w a (st.sub a u ha); omega
  · have := (st.obs h o ho).lt _ hb; omega
theorem rep_row {t : Ty} {xs : List t.T} {us : List Value} {b : Nat} (h : RepCs F t us xs) (hc : ∀ j u, us[j]? = some u → F ⟨b, j, none⟩ = some u) (hm : xs.length ≤ maxLen) : RepC F (.sl t) [.slice (some ⟨b, 0, none⟩) xs.length xs.length] xs :=
  ⟨_, _, rfl, Nat.le_refl _, hm, fun i hi => ⟨b, 0, _, rfl, fun j u hj => by
    obtain ⟨k1, k2⟩ := seg_get hj
    rw [Nat.zero_add]
    exact hc _ u k1, h.2 i hi⟩⟩
theorem s_buildSlice {t e : TypeId} {by_ n : Nat} {ps : Array (Nat × Operand)} {τ : Ty} {xs : List τ.T} (hT : tabB P T = true) (st : St B ρ F M w) (hev : ∀ x, RepA ρ F (evf x) (ρ0 x)) (ho : o.op = .buildSlice t n ps) (ht : look T.tys t = some ⟨.sl τ, by_, e⟩) (hn : n * τ.sz ≤ 16777216) (hz : 0 < τ.sz)
    (h : setEs τ (ps.toList.map fun p => (p.1, evf p.2)) (replL n τ.d) = some xs) {own1 : Bool} (hd : own1 = true → NoName B M d) {out : Out} (hout : out = bif own1 then ⟨none, .hs d, upd M d (some (.row e τ xs))⟩ else ⟨none, .d (.sl τ) xs, M⟩) : OpOk P B ρ F w o ρ0 (bif own1 then some d else none) out.val out.M := by
  have hti := tab_ti hT ht
  obtain ⟨hu, hte⟩ := ti_slice hti rfl
  obtain ⟨te, hle, hee⟩ := ty_look hte
  simp only at hu hte hle
  have htie := tab_ti hT hle
  obtain ⟨inf, z, hi, hs, _, hzz, hzv⟩ := ti_info htie
  rw [hee] at hs hzv
  have hz2 := zeroVB_rep (F := F) hzv
  obtain ⟨cells, f1, f2, f3⟩ := fill_elems hev (by rw [← hee]; exact ti_isT htie) ps.toList (madeCells z.cells (n * τ.sz)) _ xs (replicate_rep hz2.1 n) (by rw [← replL_eq]; exact h)
  rw [List.length_replicate] at f3
  have hmax : n ≤ maxLen := by
    have : n * 1 ≤ n * τ.sz := Nat.mul_le_mul_left _ hz
    simp only [maxLen]; omega
  have hrun : (execOp ρ0 o).run P w = .ok (.value (.slice (some ⟨w.heap.size, 0, none⟩) n n)) (w.alloc (.cells cells e)) := by
    have h24 : ¬ (n * τ.sz > 2 ^ 24) := by omega
    have f1' : Instr.fill (fun i => some (i * τ.sz, τ.sz)) (madeCells z.cells (n * τ.sz)) (List.map (fun p => (p.1, ρ0 p.2)) ps.toList) = some cells := f1
    by_cases h0 : n * τ.sz = 0
    · have e0 : Array.map (fun x => (#[] : Array Value)[x % (#[] : Array Value).size]!) (Array.range (n * τ.sz)) = madeCells z.cells (n * τ.sz) := by simp [h0, madeCells, Array.range_zero']
      simp only [execOp, ho, Instr.buildSlice, Sem.run_bind, run_underlying hu, Result.andThen_ok, sizeOf, typeInfo, run_program, hi, Sem.run_pure, hs, h24, if_false, Array.toList_map]
      rw [if_pos h0]
      simp only [Sem.run_bind, Sem.run_pure, Result.andThen_ok, e0, f1']
      rfl
    · have e0 : Array.map (fun x => z.cells[x % z.cells.size]!) (Array.range (n * τ.sz)) = madeCells z.cells (n * τ.sz) := rfl
      simp only [execOp, ho, Instr.buildSlice, Sem.run_bind, run_underlying hu, Result.andThen_ok, sizeOf, typeInfo, run_program, hi, Sem.run_pure, hs, h24, if_false, Array.toList_map]
      rw [if_neg h0]
      simp only [zeroValue, typeInfo, Sem.run_bind, run_program, hi, hzz, Sem.run_pure, Result.andThen_ok, e0, f1']
      rfl
  have hsz : cells.size = n * τ.sz := by have := f2.1; rw [Array.length_toList] at this; rw [this, f3]
  subst hout
  cases hb : own1 with
  | false =>
    obtain ⟨F', s1, s2, s3⟩ := st.newFact cells e
    refine ⟨_, _, _, ρ, F', hrun, .inl rfl, ?_, s1, fun _ _ => rfl, s2⟩
    have := rep_row (b := w.heap.size) (f2.mono s2) (fun j u hj => s3 j u (by simpa using hj)) (by rw [f3]; exact hmax)
    rw [f3] at this
    exact this
  | true =>
    have hd1 := hd hb
    refine ⟨_, _, _, upd ρ d (.slice (some ⟨w.heap.size, 0, none⟩) n n), F, hrun, .inl rfl, (upd_self _ _ _).symm, ?_, by simpa [hb] using upd_oth ρ d _, fun _ _ e => e⟩
    refine st.newOb _ _ _ hd1 rfl ⟨cells.toList, ?_, f2⟩
    have := World.ownsRow_lit w (base := 0) (e := e) (size := τ.sz) cells n (Nat.zero_le _) hmax hsz
    rw [f3]
    exact this
end
end Go.Proofs.Ytohglckebkgbpaa
