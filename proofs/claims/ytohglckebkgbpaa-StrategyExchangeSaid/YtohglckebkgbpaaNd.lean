/-
  From the form's own reading of a law's arguments to plain data.
-/
import Derived.Test.YtohglckebkgbpaaNc
import Derived.Test.YtohglckebkgbpaaFrame
import Derived.Lib.SmallJoins
namespace Go.Proofs.Ytohglckebkgbpaa
open Go.RowKit Go.ChangeShapes Go.WideShapes Go.ChangeAt Go.Joins

section
variable {H : Type} {enc : TypeId × Value → H} {P : Program} {T : Tab}
theorem ti_cells {i : TypeId} {ti : TI} (h : tiB P T i ti = true) : P.cellsOf i = ti.ty.sz := by
  obtain ⟨inf, z, hi, hs, _⟩ := ti_info h
  simp [Program.cellsOf, hi, hs]
theorem cellsN {w : World} {b : Nat} {a : Addr} : ∀ {n : Nat} {cs : List Value}, w.cells? b a n = some cs → cs.length = n ∧ ∀ j u, cs[j]? = some u → w.cell? (a.add j) = some u := by
  intro n cs h
  unfold World.cells? at h
  split at h
  · have key : ∀ (l : List Nat) (cs : List Value), l.mapM (fun i => w.cell? (a.add i)) = some cs → cs.length = l.length ∧ ∀ (j k : Nat) (u : Value), cs[j]? = some u → l[j]? = some k → w.cell? (a.add k) = some u := by
      intro l
      induction l with
      | nil => intro cs h; simp at h; subst h; simp
      | cons x l ih =>
        intro cs h
        simp only [List.mapM_cons, Option.bind_eq_bind, Option.bind_eq_some_iff] at h
        obtain ⟨c, hc, ys, hys, e⟩ := h
        cases e
        obtain ⟨h1, h2⟩ := ih ys hys
        refine ⟨by simp [h1], fun j k u hj hk => ?_⟩
        cases j with
        | zero => simp at hj hk; subst hj hk; exact hc
        | succ j => exact h2 j k u (by simpa using hj) (by simpa using hk)
    obtain ⟨h1, h2⟩ := key _ _ h
    refine ⟨by simpa using h1, fun j u hj => h2 j j u hj ?_⟩
    have := (List.getElem?_eq_some_iff.1 hj).1
    rw [h1] at this
    exact List.getElem?_range (by simpa using this)
  · cases h
theorem lit_inK {k : IntKind} {n : Int} (h : (Lit.int k n).wf = true) : inK k n := by
  simp only [Lit.wf, Bool.and_eq_true, decide_eq_true_eq] at h
  unfold inK lo hi
  cases k <;> simp [IntKind.min, IntKind.max, IntKind.bits, IntKind.signed] at h ⊢ <;> omega
/-- types without arrays -/
def _root_.Go.Proofs.Ytohglckebkgbpaa.Ty.flat : Ty → Bool
  | .sl e => e.flat
  | .arr _ _ => false
  | .pair a b => a.flat && b.flat
  | .st b => b.flat
  | .tup _ => false
  | _ => true
theorem ti_kind3 {P : Program} {T : Tab} {i : TypeId} {ti : TI} (h : tiB P T i ti = true) (hf : ti.ty.flat = true) : ti.ty.cell = true ∨ ∃ b, ti.ty = .st b := by
  unfold tiB at h
  rw [Bool.and_eq_true] at h
  have h1 := h.2
  cases hu : P.underlying i with
  | none => rw [hu] at h1; simp at h1
  | some d =>
    rw [hu] at h1
    cases d <;> cases ht' : ti.ty <;> rw [ht'] at h1 hf <;> simp [Ty.flat] at h1 hf <;> first | exact .inl rfl | exact .inr ⟨_, rfl⟩
theorem fields_rep {w : World} {rd : TypeId → List Value → Option (DataW H × List MemPlace)} (hT : tabB P T = true) (hrd : ∀ (t : TypeId) (ti : TI) (us : List Value) (y : DataW H × List MemPlace), look T.tys t = some ti → ti.ty.flat = true → us.length = ti.ty.sz → rd t us = some y → ∃ x, RepC w.cell? ti.ty us x) :
    ∀ (fs : List Field) (b : Ty) (off : Nat) (cs : List Value) (ys : List (DataW H × List MemPlace)), fieldsB T fs b off = true → b.flat = true → cs.length = off + b.sz → (fs.mapM fun f => rd f.type ((cs.drop f.offset).take (P.cellsOf f.type))) = some ys → ∃ x, RepC w.cell? b (cs.drop off) x
  | [], .unit, off, cs, ys, _, _, hl, _ => ⟨(), by show _ = _; rw [List.drop_eq_nil_iff]; simp [Ty.sz] at hl; omega⟩
  | f :: fs, .pair a r, off, cs, ys, h, hfl, hl, hm => by
    simp only [Ty.flat, Bool.and_eq_true] at hfl
    simp only [fieldsB, Bool.and_eq_true, decide_eq_true_eq] at h
    obtain ⟨⟨h1, h2⟩, h3⟩ := h
    have ho := Nat.eq_of_beq_eq_true h2
    obtain ⟨ti, hlk, rfl⟩ := ty_look h1
    simp only [List.mapM_cons, Option.bind_eq_bind, Option.bind_eq_some_iff] at hm
    obtain ⟨y, hy, zs, hzs, _⟩ := hm
    rw [ti_cells (tab_ti hT hlk), ho] at hy
    simp only [Ty.sz] at hl
    have hlen : ((cs.drop off).take ti.ty.sz).length = ti.ty.sz := by simp; omega
    obtain ⟨x, hx⟩ := hrd _ ti _ y hlk hfl.1 hlen hy
    obtain ⟨z, hz⟩ := fields_rep hT hrd fs r (off + ti.ty.sz) cs zs h3 hfl.2 (by omega) hzs
    refine ⟨(x, z), _, _, ?_, hx, hz⟩
    rw [← List.drop_drop, List.take_append_drop]
  | [], .pair _ _, _, _, _, h, _, _, _ => by simp [fieldsB] at h
  | [], .int _, _, _, _, h, _, _, _ => by simp [fieldsB] at h
  | [], .bool, _, _, _, h, _, _, _ => by simp [fieldsB] at h
  | [], .str, _, _, _, h, _, _, _ => by simp [fieldsB] at h
  | [], .sl _, _, _, _, h, _, _, _ => by simp [fieldsB] at h
  | [], .st _, _, _, _, h, _, _, _ => by simp [fieldsB] at h
  | [], .tup _, _, _, _, h, _, _, _ => by simp [fieldsB] at h
  | [], .arr _ _, _, _, _, h, _, _, _ => by simp [fieldsB] at h
  | _ :: _, .unit, _, _, _, h, _, _, _ => by simp [fieldsB] at h
  | _ :: _, .int _, _, _, _, h, _, _, _ => by simp [fieldsB] at h
  | _ :: _, .bool, _, _, _, h, _, _, _ => by simp [fieldsB] at h
  | _ :: _, .str, _, _, _, h, _, _, _ => by simp [fieldsB] at h
  | _ :: _, .sl _, _, _, _, h, _, _, _ => by simp [fieldsB] at h
  | _ :: _, .st _, _, _, _, h, _, _, _ => by simp [fieldsB] at h
  | _ :: _, .tup _, _, _, _, h, _, _, _ => by simp [fieldsB] at h
  | _ :: _, .arr _ _, _, _, _, h, _, _, _ => by simp [fieldsB] at h
theorem repC_of_trod (hT : tabB P T = true) {w : World} {sp : Nat → Bool} : ∀ (fuel : Nat) (t : TypeId) (ti : TI) (us : List Value) (y : DataW H × List MemPlace), look T.tys t = some ti → ti.ty.flat = true → us.length = ti.ty.sz → DataW.trod enc P w 0 sp true fuel t us = some y → ∃ x, RepC w.cell? ti.ty us x := by
  intro fuel
  induction fuel with
  | zero => intro t ti us y _ _ _ h; simp [DataW.trod] at h
  | succ fuel ih =>
    intro t ti us y hlk hfl hl h
    have hti := tab_ti hT hlk
    unfold DataW.trod at h
    rcases ti_kind3 hti hfl with hk | ⟨b, hk⟩
    · obtain ⟨u, rfl⟩ := take_one (hl.trans (cell_sz hk))
      cases htt : ti.ty <;> rw [htt] at hk <;> try (simp [Ty.cell] at hk; done)
      · rename_i k
        rw [ti_int hti htt] at h
        cases u <;> simp only [reduceCtorEq] at h
        split at h
        · rename_i hc
          obtain ⟨rfl, hw⟩ := hc
          exact ⟨_, rfl, lit_inK hw⟩
        · cases h
      · rw [ti_bool hti htt] at h
        cases u <;> simp only [reduceCtorEq] at h
        exact ⟨_, rfl⟩
      · rw [ti_str hti htt] at h
        cases u <;> simp only [reduceCtorEq] at h
        rename_i s
        split at h
        · rename_i hc
          exact ⟨s.data.toList, by cases s; rfl, by rw [Array.length_toList]; exact hc⟩
        · cases h
      · rename_i e
        obtain ⟨hu, hte⟩ := ti_slice hti htt
        obtain ⟨te, hle, hee⟩ := ty_look hte
        have hce := ti_cells (tab_ti hT hle)
        rw [hu] at h
        cases u <;> simp only [reduceCtorEq] at h
        rename_i a len cap
        cases a with
        | none =>
          match len, cap, h with
          | 0, 0, _ => exact ⟨[], none, 0, rfl, Nat.zero_le _, by simp [maxLen], fun j hj => absurd hj (Nat.not_lt_zero _)⟩
        | some a =>
          simp only at h
          split at h
          · rename_i hb
            simp only [Option.bind_eq_some_iff] at h
            obtain ⟨elems, he, _⟩ := h
            have hel : ∀ j, j < len → ∃ (vs : List Value) (x : e.T), (∀ k u, vs[k]? = some u → w.cell? ((a.add (j * e.sz)).add k) = some u) ∧ RepC w.cell? e vs x := by
              intro j hj
              obtain ⟨q, hq⟩ := mapM_at he j (by simpa using hj)
              simp only [List.getElem_range, Option.bind_eq_some_iff, hce, hee] at hq
              obtain ⟨cs, hcs, hy⟩ := hq
              obtain ⟨l1, l2⟩ := cellsN hcs
              obtain ⟨x, hx⟩ := ih _ te cs q hle (by rw [hee]; rw [htt] at hfl; exact hfl) (by rw [hee]; exact l1) hy
              obtain ⟨tt, tb, tel⟩ := te
              simp only at hee
              subst hee
              exact ⟨cs, x, l2, hx⟩
            have hspot : ∀ j, j < len → ∀ (vs : List Value), (∀ k u, vs[k]? = some u → w.cell? ((a.add (j * e.sz)).add k) = some u) → e.sz = vs.length → ∀ k u, vs[k]? = some u → w.cell? ⟨a.block, a.off + (j * e.sz + k), none⟩ = some u := by
              intro j hj vs hv hs k u hku
              have h1 := hv k u hku
              have h2 := spot_none h1
              have e1 : ((a.add (j * e.sz)).add k) = ⟨a.block, a.off + (j * e.sz + k), none⟩ := by
                rw [h2]
                unfold Addr.add
                split <;> split <;> simp_all <;> omega
              rw [← e1]
              exact h1
            have hnone : ∀ j, j < len → e.sz ≠ 0 → a = ⟨a.block, a.off, none⟩ := by
              intro j hj hs
              obtain ⟨vs, x, h1, h2⟩ := hel 0 (by omega)
              have hlen := h2.len
              have h0 : vs[0]? = some (vs[0]'(by omega)) := List.getElem?_eq_getElem _
              have h3 := h1 0 _ h0
              have := spot_none (by simpa [Addr.add] using h3)
              exact this
            have hz : e.sz ≠ 0 := by have := ti_pos hti htt; omega
            refine ⟨List.ofFn (fun j : Fin len => (hel j.1 j.2).choose_spec.choose), some a, cap, by simp, by simpa using hb.2.1, hb.2.2, fun j hj => ?_⟩
            have hj' : j < len := by simpa using hj
            obtain ⟨h1, h2⟩ := (hel j hj').choose_spec.choose_spec
            refine ⟨a.block, a.off, _, by rw [← hnone j hj' hz], fun k u hku => hspot j hj' _ h1 h2.len.symm k u hku, ?_⟩
            have e2 : List.get (List.ofFn (fun j : Fin len => (hel j.1 j.2).choose_spec.choose)) ⟨j, hj⟩ = (hel j hj').choose_spec.choose := by simp
            rw [e2]
            exact h2
          · cases h
    · obtain ⟨fs, hu, hfs⟩ := ti_struct hti hk
      rw [hu] at h
      simp only at h
      split at h
      · simp only [Option.map_eq_some_iff] at h
        obtain ⟨xs, hm, _⟩ := h
        have hl' : us.length = 0 + b.sz := by rw [hl, hk, Nat.zero_add]; rfl
        obtain ⟨x, hx⟩ := fields_rep (H := H) (P := P) (T := T) hT (fun t ti us y a b c d => ih t ti us y a b c d) fs.toList b 0 us xs hfs (by rw [hk] at hfl; exact hfl) hl' hm
        obtain ⟨tt, tb, tel⟩ := ti
        cases hk
        exact ⟨x, hx⟩
      · cases h

/-- arguments that are plain data -/
def TypedL : List Ty → List AV → Prop
  | [], [] => True
  | τ :: τs, a :: l => (∃ x : τ.T, a = .d τ x) ∧ TypedL τs l
  | _, _ => False
theorem repV_of_trod (hT : tabB P T = true) {w : World} {r : Reach} {b0 : Nat} {sp : Nat → Bool} {t : TypeId} {ti : TI} {v : Value} {d : DataW H} {p : List MemPlace} (hlk : look T.tys t = some ti) (hfl : ti.ty.flat = true) (hv : Value.okWide P w r b0 t v) (h : DataW.Trod enc P w 0 sp true t v d p) : ∃ x, RepV w.cell? ti.ty v x := by
  have hti := tab_ti hT hlk
  obtain ⟨fuel, hf⟩ := h
  rcases ti_kind3 hti hfl with hk | ⟨b, hk⟩
  · have hc : v.cells = #[v] := by
      cases htt : ti.ty <;> rw [htt] at hk <;> try (simp [Ty.cell] at hk; done)
      · obtain ⟨n, rfl⟩ := okWide_int (ti_int hti htt) hv; rfl
      · obtain ⟨n, rfl⟩ := okWide_bool (ti_bool hti htt) hv; rfl
      · obtain ⟨n, rfl⟩ := okWide_string (ti_str hti htt) hv; rfl
      · obtain ⟨a, l, c, rfl⟩ := okWide_slice (ti_slice hti htt).1 hv; rfl
    rw [hc] at hf
    obtain ⟨x, hx⟩ := repC_of_trod hT fuel t ti [v] _ hlk hfl (by rw [cell_sz hk]; rfl) hf
    exact ⟨x, hx.single hk⟩
  · obtain ⟨fs, hu, _⟩ := ti_struct hti hk
    obtain ⟨cs, rfl, hsz⟩ := okWide_struct hu hv
    obtain ⟨x, hx⟩ := repC_of_trod hT fuel t ti cs.toList _ hlk hfl (by rw [Array.length_toList, hsz, ti_cells hti]) (by simpa [Value.cells] using hf)
    obtain ⟨tt, tb, tel⟩ := ti
    cases hk
    exact ⟨x, cs.toList, by simp, hx⟩
theorem args_of_trod (hT : tabB P T = true) {w : World} {r : Reach} {b0 : Nat} {sp : Nat → Bool} : ∀ (ts : List TypeId) (τs : List Ty) (vs : List Value) (ds : List (DataW H)) (ps : List MemPlace), ts.map T.ty = τs.map some → τs.all (·.flat) = true → (∀ (j : Nat) t v, ts[j]? = some t → vs[j]? = some v → Value.okWide P w r b0 t v) →
    DataW.TrodAll enc P w 0 sp true ts vs ds ps → ∃ l, TypedL τs l ∧ RepL w.cell? l vs
  | [], [], vs, ds, ps, _, _, _, h => by
    cases vs <;> cases ds <;> simp [DataW.TrodAll] at h
    exact ⟨[], trivial, rfl, by simp⟩
  | t :: ts, τ :: τs, vs, ds, ps, hm, hfl, hv, h => by
    simp only [List.all_cons, Bool.and_eq_true] at hfl
    simp only [List.map_cons, List.cons.injEq] at hm
    cases vs with
    | nil => cases ds <;> simp [DataW.TrodAll] at h
    | cons v vs =>
      cases ds with
      | nil => simp [DataW.TrodAll] at h
      | cons d ds =>
        obtain ⟨p, q, h1, h2, rfl⟩ := h
        obtain ⟨ti, hl, rfl⟩ := ty_look hm.1
        obtain ⟨x, hx⟩ := repV_of_trod hT hl hfl.1 (hv 0 t v rfl rfl) h1
        obtain ⟨l, k1, k2⟩ := args_of_trod hT ts τs vs ds q hm.2 hfl.2 (fun j t v a b => hv (j + 1) t v (by simpa using a) (by simpa using b)) h2
        refine ⟨.d ti.ty x :: l, ⟨⟨x, rfl⟩, k1⟩, by simp [k2.1], fun j a hj => ?_⟩
        cases j with
        | zero => simp at hj; subst hj; exact hx
        | succ j => simpa using k2.2 j a (by simpa using hj)
  | [], _ :: _, _, _, _, hm, _, _, _ => by simp at hm
  | _ :: _, [], _, _, _, hm, _, _, _ => by simp at hm

end
end Go.Proofs.Ytohglckebkgbpaa
