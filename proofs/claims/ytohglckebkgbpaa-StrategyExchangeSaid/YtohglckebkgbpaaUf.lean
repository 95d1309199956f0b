/-
  What the evaluator says of an operation is so: addresses of parts, parts of lists, stores.
-/
import Derived.Test.YtohglckebkgbpaaUe
namespace Go.Proofs.Ytohglckebkgbpaa
open Go.RowKit

theorem fields_at {T : Tab} : ∀ {fs : List Field} {b : Ty} {off k : Nat} {t : Ty}, fieldsB T fs b off = true → fieldT b k = some t → ∃ f, fs[k]? = some f ∧ T.ty f.type = some t ∧ f.offset = off + offF b k
  | [], .pair _ _, _, _, _, h, _ => by simp [fieldsB] at h
  | f :: fs, .pair a r, off, 0, t, h, hk => by
    simp only [fieldsB, Bool.and_eq_true, decide_eq_true_eq] at h
    simp only [fieldT, Option.some.injEq] at hk
    subst hk
    exact ⟨f, rfl, h.1.1, by have := Nat.eq_of_beq_eq_true h.1.2; simp [offF, this]⟩
  | f :: fs, .pair a r, off, k + 1, t, h, hk => by
    simp only [fieldsB, Bool.and_eq_true, decide_eq_true_eq] at h
    obtain ⟨g, h1, h2, h3⟩ := fields_at h.2 (show fieldT r k = some t from hk)
    exact ⟨g, h1, h2, by rw [h3]; simp [offF]; omega⟩
  | _, .unit, _, _, _, _, hk => by simp [fieldT] at hk
  | _, .int _, _, _, _, _, hk => by simp [fieldT] at hk
  | _, .bool, _, _, _, _, hk => by simp [fieldT] at hk
  | _, .str, _, _, _, _, hk => by simp [fieldT] at hk
  | _, .sl _, _, _, _, _, hk => by simp [fieldT] at hk
  | _, .arr _ _, _, _, _, _, hk => by simp [fieldT] at hk
  | _, .st _, _, _, _, _, hk => by simp [fieldT] at hk
  | _, .tup _, _, _, _, _, hk => by simp [fieldT] at hk
theorem proj_rep {F : Mem} : ∀ {b : Ty} {us : List Value} {x : b.T} {k : Nat} {t : Ty}, RepC F b us x → fieldT b k = some t → ∃ y, projA b x k = some (.d t y) ∧ projK b x k = some (.kp t y) ∧ RepC F t ((us.drop (offF b k)).take t.sz) y ∧ offF b k + t.sz ≤ us.length
  | .pair a r, us, x, 0, t, h, hk => by
    simp only [fieldT, Option.some.injEq] at hk
    subst hk
    obtain ⟨u1, u2, rfl, h1, h2⟩ := h
    refine ⟨x.1, rfl, rfl, ?_, ?_⟩
    · simp only [offF, List.drop_zero]
      rw [← h1.len, List.take_left]
      exact h1
    · simp [offF, ← h1.len]
  | .pair a r, us, x, k + 1, t, h, hk => by
    obtain ⟨u1, u2, rfl, h1, h2⟩ := h
    obtain ⟨y, e1, e2, e3, e4⟩ := proj_rep h2 (show fieldT r k = some t from hk)
    refine ⟨y, e1, e2, ?_, ?_⟩
    · simp only [offF]
      rw [← h1.len, ← List.drop_drop, List.drop_left]
      exact e3
    · simp only [offF, List.length_append, h1.len]; omega
  | .unit, _, _, _, _, _, hk => by simp [fieldT] at hk
  | .int _, _, _, _, _, _, hk => by simp [fieldT] at hk
  | .bool, _, _, _, _, _, hk => by simp [fieldT] at hk
  | .str, _, _, _, _, _, hk => by simp [fieldT] at hk
  | .sl _, _, _, _, _, _, hk => by simp [fieldT] at hk
  | .arr _ _, _, _, _, _, _, hk => by simp [fieldT] at hk
  | .st _, _, _, _, _, _, hk => by simp [fieldT] at hk
  | .tup _, _, _, _, _, _, hk => by simp [fieldT] at hk

theorem projA_field : ∀ {b : Ty} {x : b.T} {k : Nat} {v : AV}, projA b x k = some v → ∃ t, fieldT b k = some t
  | .pair a r, x, 0, v, h => ⟨a, rfl⟩
  | .pair a r, x, k + 1, v, h => projA_field (b := r) h
  | .unit, _, _, _, h => by simp [projA] at h
  | .int _, _, _, _, h => by simp [projA] at h
  | .bool, _, _, _, h => by simp [projA] at h
  | .str, _, _, _, h => by simp [projA] at h
  | .sl _, _, _, _, h => by simp [projA] at h
  | .arr _ _, _, _, _, h => by simp [projA] at h
  | .st _, _, _, _, h => by simp [projA] at h
  | .tup _, _, _, _, h => by simp [projA] at h
theorem part_cell {P : Program} {T : Tab} {w : World} {t : TypeId} {ti : TI} {cs : Array Value} {off : Nat} {u : Value} (hti : tiB P T t ti = true) (hk : ti.ty.cell = true) (hg : cs[off]? = some u) : (part t cs off).run P w = .ok u w := by
  obtain ⟨dd, hu, hd⟩ := ti_cell hti hk
  have hagg := run_isAgg hu w
  rw [hd] at hagg
  simp [part, Sem.run_bind, hagg, hg]
theorem part_rep {P : Program} {T : Tab} {F : Mem} {w : World} {t : TypeId} {ti : TI} {cs : Array Value} {off : Nat} {y : ti.ty.T} (hti : tiB P T t ti = true) (h : RepC F ti.ty ((cs.toList.drop off).take ti.ty.sz) y) : ∃ v, (part t cs off).run P w = .ok v w ∧ RepV F ti.ty v y := by
  obtain ⟨inf, z, hi, hs, _⟩ := ti_info hti
  rcases ti_kind hti with ⟨hk, _⟩ | ⟨hk, dd, hu, hd⟩
  · have hl := h.len
    rw [cell_sz hk] at hl h
    obtain ⟨u, hu2⟩ := take_one hl
    rw [hu2] at h
    have hg : cs[off]? = some u := by
      have : (((cs.toList.drop off).take 1)[0]? : Option Value) = some u := by rw [hu2]; rfl
      have := (seg_get this).1
      simpa using this
    exact ⟨u, part_cell hti hk hg, h.single hk⟩
  · have hagg := run_isAgg hu w
    rw [hd] at hagg
    refine ⟨.agg (cs.extract off (off + inf.size)), by simp [part, Sem.run_bind, hagg, sizeOf, typeInfo, hi], ?_⟩
    have := agg_rep hk h
    have e : cs.extract off (off + inf.size) = ((cs.toList.drop off).take ti.ty.sz).toArray := by
      apply Array.ext'
      rw [hs]
      simp [Array.toList_extract, List.extract_eq_take_drop]
    rw [e]
    exact this

section
variable {P : Program} {T : Tab} {B : Bx} {ρ : Nat → Value} {F : Mem} {M : Mm} {w : World} {o : Oper} {ρ0 : Operand → Value} {d : Option Nat} {evf : Operand → AV}
theorem run_fieldAt {s : TypeId} {fs : Array Field} {f : Field} {inf : TypeInfo} {b off k : Nat} (hu : P.underlying s = some (.struct fs)) (hf : fs[k]? = some f) (hi : P.info? f.type = some inf) (hs : inf.size ≠ 0) :
    (Instr.fieldAt s (.pointer (some ⟨b, off, none⟩)) k).run P w = .ok (.pointer (some ⟨b, off + f.offset, none⟩)) w := by
  simp [Instr.fieldAt, run_underlying hu, hf, Instr.sureAddr, fieldPlace, sizeOf, typeInfo, hi, hs, add_mk]
theorem s_fieldAddr {s : TypeId} {x : Operand} {k : Nat} {b t : Ty} {v : AV} (hT : tabB P T = true) (st : St B ρ F M w) (hev : ∀ x, RepA ρ F (evf x) (ρ0 x)) (ho : o.op = .fieldAddr s x k) (ht : T.ty s = some (.st b)) (hk : fieldT b k = some t) (hz : Nat.beq t.sz 0 = false)
    (h : (∃ y, evf x = .kp (.st b) y ∧ projK b y k = some v) ∨ ∃ hh off, evf x = .hp hh off ∧ v = .hp hh (off + offF b k)) : OpOk P B ρ F w o ρ0 d v M := by
  obtain ⟨ti, hl, he⟩ := ty_look ht
  have hti := tab_ti hT hl
  obtain ⟨fs, hu, hfs⟩ := ti_struct hti he
  obtain ⟨f, hf, hft, hoff⟩ := fields_at hfs hk
  obtain ⟨tf, hlf, hef⟩ := ty_look hft
  obtain ⟨inf, z, hi, hs, _⟩ := ti_info (tab_ti hT hlf)
  have hx := hev x
  have hs0 : inf.size ≠ 0 := by
    rw [hs, hef]
    intro e
    rw [e] at hz
    simp at hz
  have hf' : fs[k]? = some f := by simpa using hf
  have key : ∀ (bb off : Nat), ρ0 x = .pointer (some ⟨bb, off, none⟩) → RepA ρ F v (.pointer (some ⟨bb, off + offF b k, none⟩)) → OpOk P B ρ F w o ρ0 d v M := fun bb off h1 h2 =>
    ok_value (v := .pointer (some ⟨bb, off + offF b k, none⟩)) st (by
      simp only [execOp, ho, h1, Sem.run_bind, run_fieldAt hu hf' hi hs0, Result.andThen_ok, Sem.run_pure]
      rw [hoff, Nat.zero_add]) h2
  rcases h with ⟨y, e, h⟩ | ⟨hh, off, e, rfl⟩
  · rw [e] at hx
    obtain ⟨bb, off, us, hv, h1, h2⟩ := hx
    obtain ⟨z, e1, e2, e3, e4⟩ := proj_rep (show RepC F b us y from h2) hk
    rw [e2] at h
    simp only [Option.some.injEq] at h
    subst h
    refine key bb off hv ⟨bb, off + offF b k, _, rfl, fun j u hj => ?_, e3⟩
    obtain ⟨k1, k2⟩ := seg_get hj
    rw [Nat.add_assoc]
    exact h1 _ _ k1
  · rw [e] at hx
    obtain ⟨bb, hρ, hv⟩ := hx
    exact key bb off hv ⟨bb, hρ, rfl⟩
theorem s_field {s : TypeId} {x : Operand} {k : Nat} {b : Ty} {y : b.T} {v : AV} (hT : tabB P T = true) (st : St B ρ F M w) (hev : ∀ x, RepA ρ F (evf x) (ρ0 x)) (ho : o.op = .field s x k) (ht : T.ty s = some (.st b)) (he : evf x = .d (.st b) y) (h : projA b y k = some v) : OpOk P B ρ F w o ρ0 d v M := by
  obtain ⟨ti, hl, het⟩ := ty_look ht
  have hti := tab_ti hT hl
  obtain ⟨fs, hu, hfs⟩ := ti_struct hti het
  obtain ⟨t, hk⟩ := projA_field h
  obtain ⟨f, hf, hft, hoff⟩ := fields_at hfs hk
  obtain ⟨tf, hlf, rfl⟩ := ty_look hft
  have hf' : fs[k]? = some f := by simpa using hf
  have hx := hev x
  rw [he] at hx
  obtain ⟨us, hv, h2⟩ := hx
  obtain ⟨z, e1, e2, e3, e4⟩ := proj_rep (show RepC F b us y from h2) hk
  rw [e1] at h
  simp only [Option.some.injEq] at h
  subst h
  obtain ⟨u, h3, h4⟩ := part_rep (P := P) (w := w) (cs := us.toArray) (off := f.offset) (tab_ti hT hlf) (by rw [hoff, Nat.zero_add]; simpa using e3)
  refine ok_value (v := u) st ?_ h4
  simp [execOp, ho, hv, Instr.field, run_underlying hu, hf', asAgg, h3]

theorem head_drop {α : Type} {l : List α} {k : Nat} {c : α} (h : (l.drop k).head? = some c) : l[k]? = some c := by
  rw [List.head?_eq_getElem?, List.getElem?_drop] at h
  simpa using h
theorem s_fieldAg {s : TypeId} {x : Operand} {k : Nat} {b t : Ty} {l : List Cap} {c : Cap} (hT : tabB P T = true) (st : St B ρ F M w) (hev : ∀ x, RepA ρ F (evf x) (ρ0 x)) (ho : o.op = .field s x k) (ht : T.ty s = some (.st b)) (he : evf x = .ag l) (hk : fieldT b k = some t) (hc : t.cell = true) (h : (l.drop (offF b k)).head? = some c) : OpOk P B ρ F w o ρ0 d (.c c) M := by
  obtain ⟨ti, hl, het⟩ := ty_look ht
  have hti := tab_ti hT hl
  obtain ⟨fs, hu, hfs⟩ := ti_struct hti het
  obtain ⟨f, hf, hft, hoff⟩ := fields_at hfs hk
  obtain ⟨tf, hlf, rfl⟩ := ty_look hft
  have hf' : fs[k]? = some f := by simpa using hf
  have hx := hev x
  rw [he] at hx
  obtain ⟨us, hv, h1, h2⟩ := hx
  have hj := head_drop h
  have hr := h2 _ c hj
  have hlt : offF b k < us.length := by rw [h1]; exact (List.getElem?_eq_some_iff.1 hj).1
  have hg : us.toArray[f.offset]? = some (us.getD (offF b k) undef) := by
    rw [hoff, Nat.zero_add]
    simp [List.getD_eq_getElem?_getD, hlt]
  refine ok_value (v := us.getD (offF b k) undef) st ?_ hr
  simp [execOp, ho, hv, Instr.field, run_underlying hu, hf', asAgg, part_cell (tab_ti hT hlf) hc hg]

theorem s_indexAddr {t : TypeId} {x i : Operand} {τ : Ty} {k : IntKind} {n : Int} (hT : tabB P T = true) (st : St B ρ F M w) (hev : ∀ x, RepA ρ F (evf x) (ρ0 x)) (ho : o.op = .indexAddr t x i) (ht : T.ty t = some (.sl τ)) (hi : evf i = .d (.int k) n) {v : AV}
    (h : (∃ xs : List τ.T, evf x = .d (.sl τ) xs ∧ (0 ≤ n ∧ n < ((xs.length : Nat) : Int)) ∧ v = .kp τ (xs.getD n.toNat τ.d)) ∨
      ∃ hh E, ∃ xs : List τ.T, evf x = .hs hh ∧ M hh = some (.row E τ xs) ∧ (0 ≤ n ∧ n < ((xs.length : Nat) : Int)) ∧ v = .he hh τ n.toNat) : OpOk P B ρ F w o ρ0 d v M := by
  obtain ⟨ti, hl, het⟩ := ty_look ht
  have hti := tab_ti hT hl
  obtain ⟨hu, hte⟩ := ti_slice hti het
  obtain ⟨te, hle, hee⟩ := ty_look hte
  obtain ⟨inf, z, hinf, hs, _⟩ := ti_info (tab_ti hT hle)
  have hx := hev x
  have hiv := hev i
  rw [hi] at hiv
  obtain ⟨hiv, _⟩ := rep_int hiv
  have key : ∀ (b off len cap : Nat), ρ0 x = .slice (some ⟨b, off, none⟩) len cap → 0 ≤ n ∧ n < (len : Int) → RepA ρ F v (.pointer (some ⟨b, off + n.toNat * τ.sz, none⟩)) → OpOk P B ρ F w o ρ0 d v M := fun b off len cap h1 h2 h3 =>
    ok_value (v := .pointer (some ⟨b, off + n.toNat * τ.sz, none⟩)) st (by
      simp [execOp, ho, h1, hiv, Instr.indexAt, asIntOf, run_underlying hu, h2, sizeOf, typeInfo, hinf, hs, hee, add_mk]) h3
  rcases h with ⟨xs, e, hb, rfl⟩ | ⟨hh, E, xs, e, hM, hb, rfl⟩
  · rw [e] at hx
    obtain ⟨ad, cap, hv, c1, c2, c3⟩ := rep_sl hx
    have hlt : n.toNat < xs.length := by omega
    obtain ⟨b, off, vs, rfl, h1, h2⟩ := c3 n.toNat hlt
    refine key b off _ _ hv hb ⟨b, _, vs, rfl, fun j u hj => ?_, by rw [getD_at hlt]; exact h2⟩
    rw [Nat.add_assoc]
    exact h1 j u hj
  · rw [e] at hx
    obtain ⟨us, h1, h2⟩ := st.obs hh _ hM
    have hv : ρ0 x = ρ hh := hx
    rcases h1.2 with ⟨e1, e2⟩ | ⟨g, cap, cur, e1, _, _, hc1, hc2, _⟩
    · omega
    · refine key g 0 _ _ (hv.trans e1) hb ⟨g, _, _, e1, by omega, ?_⟩
      rw [Nat.zero_add]
theorem arr_elem {F : Mem} {n : Nat} {e : Ty} {us : List Value} {xs : List e.T} (h : RepC F (.arr n e) us xs) {i : Nat} (hi : i < xs.length) : RepC F e ((us.drop (i * e.sz)).take e.sz) (xs.getD i e.d) := by
  rw [getD_at hi]
  exact h.2.2.2 i hi
theorem s_indexAddrArr {t : TypeId} {x i : Operand} {N : Nat} {τ : Ty} {k : IntKind} {n : Int} {xs : List τ.T} (hT : tabB P T = true) (st : St B ρ F M w) (hev : ∀ x, RepA ρ F (evf x) (ρ0 x)) (ho : o.op = .indexAddr t x i) (ht : T.ty t = some (.arr N τ)) (hi : evf i = .d (.int k) n)
    (hx : evf x = .kp (.arr N τ) xs) (hb : 0 ≤ n ∧ n < ((xs.length : Nat) : Int)) : OpOk P B ρ F w o ρ0 d (.kp τ (xs.getD n.toNat τ.d)) M := by
  obtain ⟨ti, hl, het⟩ := ty_look ht
  have hti := tab_ti hT hl
  obtain ⟨e, hu, hte, hpos⟩ := ti_arr hti het
  obtain ⟨te, hle, hee⟩ := ty_look hte
  obtain ⟨inf, z, hinf, hs, _⟩ := ti_info (tab_ti hT hle)
  have hxv := hev x
  rw [hx] at hxv
  have hiv := hev i
  rw [hi] at hiv
  obtain ⟨hiv, _⟩ := rep_int hiv
  obtain ⟨b, off, us, hv, h1, h2⟩ := hxv
  have hlen : xs.length = N := h2.2.1
  have hlt : n.toNat < xs.length := by omega
  have hb' : 0 ≤ n ∧ n < (N : Int) := by omega
  refine ok_value (v := .pointer (some ⟨b, off + n.toNat * τ.sz, none⟩)) st ?_ ⟨b, _, _, rfl, fun j u hj => ?_, arr_elem h2 hlt⟩
  · have hs0 : inf.size ≠ 0 := by rw [hs, hee]; omega
    simp [execOp, ho, hv, hiv, Instr.indexAt, asIntOf, run_underlying hu, hb', sizeOf, typeInfo, hinf, hs, hee, add_mk, Instr.sureAddr]
  · obtain ⟨k1, k2⟩ := seg_get hj
    rw [Nat.add_assoc]
    exact h1 _ _ k1
theorem s_indexArr {t : TypeId} {x i : Operand} {N : Nat} {τ : Ty} {k : IntKind} {n : Int} {xs : List τ.T} (hT : tabB P T = true) (st : St B ρ F M w) (hev : ∀ x, RepA ρ F (evf x) (ρ0 x)) (ho : o.op = .index t x i) (ht : T.ty t = some (.arr N τ)) (hi : evf i = .d (.int k) n)
    (hx : evf x = .d (.arr N τ) xs) (hb : 0 ≤ n ∧ n < ((xs.length : Nat) : Int)) : OpOk P B ρ F w o ρ0 d (.d τ (xs.getD n.toNat τ.d)) M := by
  obtain ⟨ti, hl, het⟩ := ty_look ht
  have hti := tab_ti hT hl
  obtain ⟨e, hu, hte, hpos⟩ := ti_arr hti het
  obtain ⟨te, hle, rfl⟩ := ty_look hte
  obtain ⟨inf, z, hinf, hs, _⟩ := ti_info (tab_ti hT hle)
  have hxv := hev x
  rw [hx] at hxv
  have hiv := hev i
  rw [hi] at hiv
  obtain ⟨hiv, _⟩ := rep_int hiv
  obtain ⟨us, hv, h2⟩ := hxv
  have hlen : xs.length = N := h2.2.1
  have hlt : n.toNat < xs.length := by omega
  have hb' : 0 ≤ n ∧ n < (N : Int) := by omega
  obtain ⟨u, h3, h4⟩ := part_rep (P := P) (w := w) (cs := us.toArray) (off := n.toNat * te.ty.sz) (tab_ti hT hle) (by simpa using arr_elem h2 hlt)
  refine ok_value (v := u) st ?_ h4
  simp [execOp, ho, hv, hiv, Instr.index, asIntOf, run_underlying hu, hb', asAgg, sizeOf, typeInfo, hinf, hs, h3]
theorem s_index {t : TypeId} {x i : Operand} {s : List UInt8} {k : IntKind} {n : Int} (hT : tabB P T = true) (st : St B ρ F M w) (hev : ∀ x, RepA ρ F (evf x) (ρ0 x)) (ho : o.op = .index t x i) (ht : T.ty t = some .str) (hx : evf x = .d .str s) (hi : evf i = .d (.int k) n) (hb : 0 ≤ n ∧ n < ((s.length : Nat) : Int)) :
    OpOk P B ρ F w o ρ0 d (.d (.int .u8) ((s.getD n.toNat 0).toNat : Int)) M := by
  obtain ⟨ti, hl, het⟩ := ty_look ht
  have hu := ti_str (tab_ti hT hl) het
  have hxv := hev x
  rw [hx] at hxv
  obtain ⟨hxv, _⟩ := rep_str hxv
  have hiv := hev i
  rw [hi] at hiv
  obtain ⟨hiv, _⟩ := rep_int hiv
  have hlt : n.toNat < s.length := by omega
  refine ok_value (v := .int .u8 ((s.getD n.toNat 0).toNat : Int)) st ?_ (mk_int ⟨by show (0 : Int) ≤ _; omega, by show _ ≤ (255 : Int); have := (s.getD n.toNat 0).toNat_lt; omega⟩)
  have hg : (ByteArray.mk s.toArray)[n.toNat]? = some (s.getD n.toNat 0) := by
    rw [getD_at hlt]
    have h2 : n.toNat < (ByteArray.mk s.toArray).size := by rw [bytes_size]; exact hlt
    rw [getElem?_pos (ByteArray.mk s.toArray) n.toNat h2]
    rfl
  simp [execOp, ho, hxv, hiv, Instr.index, asIntOf, run_underlying hu, hb.1, hg]
end
end Go.Proofs.Ytohglckebkgbpaa
