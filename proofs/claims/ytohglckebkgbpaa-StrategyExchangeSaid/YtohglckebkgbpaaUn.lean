/-
  Regions on plain data: what an operation does to the objects.
-/
import Derived.Test.YtohglckebkgbpaaUm
namespace Go.Proofs.Ytohglckebkgbpaa
open Go.RowKit

theorem opA_rd {T : Tab} {own : List Nat} {wr : Nat → Bool} {d nm : Nat} {ty : TypeId} {op : Op} {f : Operand → AV} {M : Mm} {out : Out} (ht : touch own d op ≤ 1) (h : opA T own wr d nm ty op f M = some out) : out.M = M := by
  cases op <;> try (simp [opA] at h; done)
  case move x => simp only [opA, Option.some.injEq] at h; subst h; rfl
  case assign x => simp only [opA, Option.some.injEq] at h; subst h; rfl
  case panic x => simp only [opA, Option.some.injEq] at h; subst h; rfl
  case pick c a b =>
    simp only [opA] at h
    split at h <;> try (simp at h; done)
    obtain ⟨q, _, rfl⟩ := out1_some h; rfl
  case binOp => simp only [opA] at h; obtain ⟨q, _, rfl⟩ := out1_some h; rfl
  case unOp => simp only [opA] at h; obtain ⟨q, _, rfl⟩ := out1_some h; rfl
  case convert =>
    simp only [opA] at h
    split at h <;> try (simp at h; done)
    obtain ⟨q, _, rfl⟩ := out1_some h; rfl
  case nilCheck => simp only [opA] at h; obtain ⟨q, _, rfl⟩ := out0_some h; rfl
  case load =>
    simp only [opA] at h
    split at h <;> try (simp at h; done)
    obtain ⟨q, _, rfl⟩ := out0_some h; rfl
  case store => simp [touch] at ht
  case fieldAddr =>
    simp only [opA] at h
    split at h <;> try (simp at h; done)
    split at h <;> try (simp at h; done)
    rename_i t _
    cases hz : Nat.beq t.sz 0 with
    | true => rw [hz] at h; simp at h
    | false =>
      rw [hz] at h
      simp only [cond_false] at h
      split at h <;> try (simp at h; done)
      · split at h <;> try (simp at h; done)
        obtain ⟨q, _, rfl⟩ := out0_some h; rfl
      · simp only [Option.some.injEq] at h; subst h; rfl
  case field =>
    simp only [opA] at h
    split at h <;> try (simp at h; done)
    split at h <;> try (simp at h; done)
    · split at h <;> try (simp at h; done)
      obtain ⟨q, _, rfl⟩ := out0_some h; rfl
    · split at h <;> try (simp at h; done)
      obtain ⟨_, h⟩ := bif_some h
      split at h <;> simp only [Option.some.injEq, reduceCtorEq] at h
      subst h; rfl
  case indexAddr =>
    simp only [opA] at h
    split at h <;> try (simp at h; done)
    · split at h <;> try (simp at h; done)
      · split at h <;> simp only [Option.some.injEq, reduceCtorEq] at h
        subst h; rfl
      · split at h <;> try (simp at h; done)
        split at h <;> simp only [Option.some.injEq, reduceCtorEq] at h
        subst h; rfl
    · split at h <;> try (simp at h; done)
      split at h <;> simp only [Option.some.injEq, reduceCtorEq] at h
      subst h; rfl
  case index =>
    simp only [opA] at h
    split at h <;> try (simp at h; done)
    · simp only [Option.some.injEq] at h
      subst h; rfl
    · split at h <;> simp only [Option.some.injEq, reduceCtorEq] at h
      subst h; rfl
  case slice =>
    simp only [touch] at ht
    have hm : memB own d = false := by cases hq : memB own d; rfl; rw [hq] at ht; simp at ht
    simp only [opA, hm, cond_false] at h
    split at h <;> try (simp at h; done)
    split at h <;> try (simp at h; done)
    split at h
    · obtain ⟨q, _, rfl⟩ := out1_some h; rfl
    · obtain ⟨q, _, rfl⟩ := out1_some h; rfl
  case build =>
    simp only [opA] at h
    split at h <;> try (simp at h; done)
    split at h
    · simp only [Option.some.injEq] at h
      subst h; rfl
    · split at h <;> simp only [Option.some.injEq, reduceCtorEq] at h
      subst h; rfl
  case makeMap => simp [touch] at ht
  case mapUpdate => simp [touch] at ht
  case lookup =>
    simp only [opA] at h
    split at h <;> try (simp at h; done)
    obtain ⟨_, h⟩ := bif_some h
    obtain ⟨q, _, rfl⟩ := out0_some h; rfl
  case makeInterface =>
    simp only [opA] at h
    split at h <;> try (simp at h; done)
    split at h <;> simp only [Option.some.injEq, reduceCtorEq] at h
    subst h; rfl
  case buildSlice =>
    simp only [touch] at ht
    have hm : memB own d = false := by cases hq : memB own d; rfl; rw [hq] at ht; simp at ht
    simp only [opA, hm, cond_false] at h
    split at h <;> try (simp at h; done)
    obtain ⟨_, h⟩ := bif_some h
    split at h <;> simp only [Option.some.injEq, reduceCtorEq] at h
    subst h; rfl
  case makeSlice => simp [touch] at ht
  case box =>
    simp only [touch] at ht
    have hm : memB own d = false := by cases hq : memB own d; rfl; rw [hq] at ht; simp at ht
    simp only [opA, hm, cond_false] at h
    split at h <;> try (simp at h; done)
    split at h <;> simp only [Option.some.injEq, reduceCtorEq] at h
    subst h; rfl
  case alloc =>
    simp only [touch] at ht
    have hm : memB own d = false := by cases hq : memB own d; rfl; rw [hq] at ht; simp at ht
    simp only [opA, hm, cond_false] at h
    split at h <;> simp only [Option.some.injEq, reduceCtorEq] at h
    subst h; rfl
  case makeFunc fn _ _ =>
    cases fn <;> try (simp [opA] at h; done)
    simp only [opA] at h
    obtain ⟨_, h⟩ := bif_some h
    split at h <;> simp only [Option.some.injEq, reduceCtorEq] at h
    subst h; rfl
  case extract =>
    simp only [opA] at h
    split at h <;> try (simp at h; done)
    · obtain ⟨q, _, rfl⟩ := out0_some h; rfl
    · split at h <;> simp only [Option.some.injEq, reduceCtorEq] at h
      subst h; rfl
  case call c =>
    obtain ⟨callee, args, tys⟩ := c
    cases callee with
    | value f => simp [opA] at h
    | invoke r n => simp [opA] at h
    | builtin b =>
      cases b <;> try (simp [opA] at h; done)
      case append => simp [touch] at ht
      case copy => simp [touch] at ht
      case len =>
        simp only [opA] at h
        split at h <;> try (simp at h; done)
        split at h <;> try (simp at h; done)
        obtain ⟨q, _, rfl⟩ := out0_some h; rfl
      all_goals
        simp only [opA] at h
        split at h <;> try (simp at h; done)
        split at h <;> try (simp at h; done)
        split at h <;> simp only [Option.some.injEq, reduceCtorEq] at h
        subst h; rfl
theorem opA_noM {T : Tab} {own : List Nat} {wr : Nat → Bool} {d nm : Nat} {ty : TypeId} {op : Op} {f : Operand → AV} {M : Mm} {out : Out} (ht : touch own d op = 0) (h : opA T own wr d nm ty op f M = some out) (M2 : Mm) : opA T own wr d nm ty op f M2 = some ⟨out.ob, out.val, M2⟩ := by
  have o1 : ∀ {p : Option (Option Prop × AV)} {out : Out}, out1 M p = some out → out1 M2 p = some ⟨out.ob, out.val, M2⟩ := by
    intro p out h; obtain ⟨q, rfl, rfl⟩ := out1_some h; rfl
  have o0 : ∀ {p : Option AV} {out : Out}, out0 M p = some out → out0 M2 p = some ⟨out.ob, out.val, M2⟩ := by
    intro p out h; obtain ⟨q, rfl, rfl⟩ := out0_some h; rfl
  cases op <;> try (simp [opA] at h; done)
  case move x => simp only [opA, Option.some.injEq] at h ⊢; subst h; rfl
  case assign x => simp only [opA, Option.some.injEq] at h ⊢; subst h; rfl
  case panic x => simp only [opA, Option.some.injEq] at h ⊢; subst h; rfl
  case pick c a b =>
    simp only [opA] at h ⊢
    split at h <;> try (simp at h; done)
    exact o1 h
  case binOp => simp only [opA] at h ⊢; exact o1 h
  case unOp => simp only [opA] at h ⊢; exact o1 h
  case convert =>
    simp only [opA] at h ⊢
    split at h <;> try (simp at h; done)
    exact o1 h
  case nilCheck => simp only [opA] at h ⊢; exact o0 h
  case load => simp [touch] at ht
  case store => simp [touch] at ht
  case fieldAddr =>
    simp only [opA] at h ⊢
    split at h <;> try (simp at h; done)
    split at h <;> try (simp at h; done)
    rename_i t _
    cases hz : Nat.beq t.sz 0 with
    | true => rw [hz] at h; simp at h
    | false =>
      rw [hz] at h
      simp only [cond_false] at h ⊢
      split at h <;> try (simp at h; done)
      · split at h <;> try (simp at h; done)
        rename_i e
        simp only [e, if_true]
        exact o0 h
      · simp only [Option.some.injEq] at h ⊢; subst h; rfl
  case field =>
    simp only [opA] at h ⊢
    split at h <;> try (simp at h; done)
    split at h <;> try (simp at h; done)
    · split at h <;> try (simp at h; done)
      rename_i e
      simp only [e, if_true]
      exact o0 h
    · split at h <;> try (simp at h; done)
      obtain ⟨c, h⟩ := bif_some h
      simp only [c, cond_true]
      split at h <;> simp only [Option.some.injEq, reduceCtorEq] at h
      subst h; rfl
  case indexAddr => simp [touch] at ht
  case index =>
    simp only [opA] at h ⊢
    split at h <;> try (simp at h; done)
    · simp only [Option.some.injEq] at h ⊢
      subst h; rfl
    · split at h <;> simp only [Option.some.injEq, reduceCtorEq] at h
      rename_i e
      simp only [e, if_true]
      subst h; rfl
  case slice =>
    simp only [touch] at ht
    cases hq : memB own d <;> rw [hq] at ht <;> simp at ht
  case build => simp [touch] at ht
  case makeMap => simp [touch] at ht
  case mapUpdate => simp [touch] at ht
  case lookup => simp [touch] at ht
  case makeInterface =>
    simp only [opA] at h ⊢
    split at h <;> try (simp at h; done)
    split at h <;> simp only [Option.some.injEq, reduceCtorEq] at h
    subst h; rfl
  case buildSlice =>
    simp only [touch] at ht
    have hm : memB own d = false := by cases hq : memB own d; rfl; rw [hq] at ht; simp at ht
    simp only [opA, hm, cond_false] at h ⊢
    split at h <;> try (simp at h; done)
    obtain ⟨c, h⟩ := bif_some h
    simp only [c, cond_true]
    split at h <;> simp only [Option.some.injEq, reduceCtorEq] at h
    subst h; rfl
  case makeSlice => simp [touch] at ht
  case box =>
    simp only [touch] at ht
    have hm : memB own d = false := by cases hq : memB own d; rfl; rw [hq] at ht; simp at ht
    simp only [opA, hm, cond_false] at h ⊢
    split at h <;> try (simp at h; done)
    split at h <;> simp only [Option.some.injEq, reduceCtorEq] at h
    subst h; rfl
  case alloc =>
    simp only [touch] at ht
    have hm : memB own d = false := by cases hq : memB own d; rfl; rw [hq] at ht; simp at ht
    simp only [opA, hm, cond_false] at h ⊢
    split at h <;> simp only [Option.some.injEq, reduceCtorEq] at h
    subst h; rfl
  case makeFunc fn _ _ =>
    cases fn <;> try (simp [opA] at h; done)
    simp only [opA] at h ⊢
    obtain ⟨c, h⟩ := bif_some h
    simp only [c, cond_true]
    split at h <;> simp only [Option.some.injEq, reduceCtorEq] at h
    subst h; rfl
  case extract =>
    simp only [opA] at h ⊢
    split at h <;> try (simp at h; done)
    · exact o0 h
    · split at h <;> simp only [Option.some.injEq, reduceCtorEq] at h
      subst h; rfl
  case call c =>
    obtain ⟨callee, args, tys⟩ := c
    cases callee with
    | value f => simp [opA] at h
    | invoke r n => simp [opA] at h
    | builtin b =>
      cases b <;> try (simp [opA] at h; done)
      case append => simp [touch] at ht
      case copy => simp [touch] at ht
      case len => simp [touch] at ht
      all_goals
        simp only [opA] at h ⊢
        split at h <;> try (simp at h; done)
        split at h <;> try (simp at h; done)
        split at h <;> simp only [Option.some.injEq, reduceCtorEq] at h
        rename_i e
        simp only [e, if_true]
        subst h; rfl

theorem d_uses {h : Nat} {t : Ty} {x : t.T} : (AV.d t x).uses h = false := rfl
theorem typed_uses {T : Tab} {ty : TypeId} {h : Nat} {a : AV} (k : a.uses h = false) : (typed T ty a).uses h = false := by
  unfold typed
  split
  · split
    · split <;> rfl
    · split <;> rfl
    · rfl
  · exact k
/-- no slot and no object names h -/
def NoUse (f : Operand → AV) (M : Mm) (h : Nat) : Prop := (∀ x, (f x).uses h = false) ∧ ∀ k o, M k = some o → o.uses h = false
theorem bin_uses {op : BinOp} {t : Option Ty} {x y : AV} {p : Option Prop × AV} {h : Nat} (k : binA op t x y = some p) : p.2.uses h = false := by
  unfold binA at k
  split at k
  · split at k
    · unfold intB at k
      split at k <;> simp only [Option.some.injEq, reduceCtorEq] at k <;> subst k <;> rfl
    · simp at k
  · unfold strB at k
    split at k <;> simp only [Option.some.injEq, reduceCtorEq] at k <;> subst k <;> rfl
  · split at k
    · unfold boolB at k
      split at k <;> simp only [Option.some.injEq, reduceCtorEq] at k <;> subst k <;> rfl
    · simp at k
  · simp at k
theorem projA_uses : ∀ {b : Ty} {x : b.T} {k : Nat} {v : AV} {h : Nat}, projA b x k = some v → v.uses h = false
  | .pair a r, x, 0, v, h, e => by simp only [projA, Option.some.injEq] at e; subst e; rfl
  | .pair a r, x, k + 1, v, h, e => projA_uses (b := r) e
  | .unit, _, _, _, _, e => by simp [projA] at e
  | .int _, _, _, _, _, e => by simp [projA] at e
  | .bool, _, _, _, _, e => by simp [projA] at e
  | .str, _, _, _, _, e => by simp [projA] at e
  | .sl _, _, _, _, _, e => by simp [projA] at e
  | .arr _ _, _, _, _, _, e => by simp [projA] at e
  | .st _, _, _, _, _, e => by simp [projA] at e
  | .tup _, _, _, _, _, e => by simp [projA] at e
theorem projK_uses : ∀ {b : Ty} {x : b.T} {k : Nat} {v : AV} {h : Nat}, projK b x k = some v → v.uses h = false
  | .pair a r, x, 0, v, h, e => by simp only [projK, Option.some.injEq] at e; subst e; rfl
  | .pair a r, x, k + 1, v, h, e => projK_uses (b := r) e
  | .unit, _, _, _, _, e => by simp [projK] at e
  | .int _, _, _, _, _, e => by simp [projK] at e
  | .bool, _, _, _, _, e => by simp [projK] at e
  | .str, _, _, _, _, e => by simp [projK] at e
  | .sl _, _, _, _, _, e => by simp [projK] at e
  | .arr _ _, _, _, _, _, e => by simp [projK] at e
  | .st _, _, _, _, _, e => by simp [projK] at e
  | .tup _, _, _, _, _, e => by simp [projK] at e
theorem ag_uses {l : List Cap} {h : Nat} (k : ∀ c ∈ l, c.uses h = false) : (AV.ag l).uses h = false := by
  simp only [AV.uses, List.any_eq_false]
  intro c hc
  simpa using k c hc
theorem capsA_uses {l : List AV} {cs : List Cap} {h : Nat} (k : capsA l = some cs) (hu : ∀ a ∈ l, a.uses h = false) : ∀ c ∈ cs, c.uses h = false := by
  have := capsA_len k
  subst this
  intro c hc
  obtain ⟨j, hj, e⟩ := List.mem_iff_getElem.1 hc
  refine hu (.c c) (List.mem_of_getElem? (i := j) ?_)
  rw [avs_get, List.getElem?_eq_getElem hj, e]; rfl
theorem load_uses {M : Mm} {t : Ty} {p v : AV} {h : Nat} (hM : ∀ k o, M k = some o → o.uses h = false) (e : loadA M t p = some v) : v.uses h = false := by
  unfold loadA at e
  split at e
  · split at e <;> simp only [Option.some.injEq, reduceCtorEq] at e; subst e; rfl
  · split at e <;> try (simp at e; done)
    split at e <;> try (simp at e; done)
    split at e <;> simp only [Option.some.injEq, reduceCtorEq] at e; subst e; rfl
  · split at e <;> try (simp at e; done)
    rename_i cs hc
    have hu := hM _ _ hc
    simp only [Ob.uses, List.any_eq_false] at hu
    cases ht : t.cell with
    | true => rw [ht] at e; simp only [cond_true] at e; simpa using hu v (List.mem_of_getElem? e)
    | false =>
      rw [ht] at e
      simp only [cond_false] at e
      split at e <;> try (simp at e; done)
      split at e <;> try (simp at e; done)
      rename_i l hl
      obtain ⟨_, e⟩ := bif_some e
      have hlu := capsA_uses (h := h) hl (fun a ha => by
        rw [takeL_eq, dropL_eq] at ha
        simpa using hu a (List.mem_of_mem_drop (List.mem_of_mem_take ha)))
      split at e
      · simp only [Option.some.injEq] at e; subst e; rfl
      · simp only [Option.some.injEq] at e; subst e; exact ag_uses hlu
  · simp at e
theorem upd_uses {M : Mm} {h k : Nat} {ob : Ob} (hM : ∀ k o, M k = some o → o.uses h = false) (ho : ob.uses h = false) : ∀ j o, upd M k (some ob) j = some o → o.uses h = false := by
  intro j o hj
  by_cases e : j = k
  · subst e; rw [upd_self] at hj; cases hj; exact ho
  · rw [upd_other _ _ _ j e] at hj; exact hM j o hj
theorem seg_mem {α : Type} {l vs : List α} {o : Nat} {c : α} (h : c ∈ seg l vs o) : c ∈ l ∨ c ∈ vs := by
  simp only [seg, List.mem_append] at h
  rcases h with (h | h) | h
  · exact .inl (List.mem_of_mem_take h)
  · exact .inr h
  · exact .inl (List.mem_of_mem_drop h)
theorem avs_mem {l : List Cap} {a : AV} (h : a ∈ avs l) : ∃ c ∈ l, a = .c c := by
  obtain ⟨j, hj, e⟩ := List.mem_iff_getElem.1 h
  have h1 : (avs l)[j]? = some a := by rw [List.getElem?_eq_getElem hj, e]
  rw [avs_get] at h1
  cases h2 : l[j]? with
  | none => rw [h2] at h1; simp at h1
  | some c => rw [h2] at h1; exact ⟨c, List.mem_of_getElem? h2, (by simpa using h1.symm)⟩
theorem key_uses {M : Mm} {h : Nat} (hM : ∀ k o, M k = some o → o.uses h = false) {k : Nat} {o ob : Ob} (hk : M k = some o) (ho : ob.uses h = false) : (∀ j o, upd M k (some ob) j = some o → o.uses h = false) ∧ (M h = none → upd M k (some ob) h = none) := by
  refine ⟨upd_uses hM ho, fun hh => ?_⟩
  rw [upd_other _ _ _ h (by intro e; subst e; rw [hk] at hh; simp at hh)]
  exact hh
theorem store_uses {M M' : Mm} {wr : Nat → Bool} {t : Ty} {p v : AV} {h : Nat} (hM : ∀ k o, M k = some o → o.uses h = false) (hv : v.uses h = false) (e : storeA M wr t p v = some M') : (∀ k o, M' k = some o → o.uses h = false) ∧ (M h = none → M' h = none) := by
  unfold storeA at e
  simp only [lenL_eq, setL_eq, segL_eq] at e
  split at e
  · split at e <;> try (simp at e; done)
    obtain ⟨_, e⟩ := bif_some e
    split at e <;> try (simp at e; done)
    rename_i hk
    split at e <;> try (simp at e; done)
    split at e <;> simp only [Option.some.injEq, reduceCtorEq] at e
    subst e
    exact key_uses hM hk rfl
  · obtain ⟨_, e⟩ := bif_some e
    split at e <;> try (simp at e; done)
    rename_i cs hk
    have hu := hM _ _ hk
    simp only [Ob.uses, List.any_eq_false] at hu
    cases ht : t.cell with
    | true =>
      rw [ht] at e
      simp only [cond_true] at e
      obtain ⟨_, e⟩ := bif_some e
      simp only [Option.some.injEq] at e
      subst e
      refine key_uses hM hk ?_
      simp only [Ob.uses, List.any_eq_false]
      intro c hc
      rcases List.mem_or_eq_of_mem_set hc with h1 | h1
      · exact hu c h1
      · rw [h1]; simpa using hv
    | false =>
      rw [ht] at e
      simp only [cond_false] at e
      split at e <;> try (simp at e; done)
      split at e <;> try (simp at e; done)
      rename_i l hl
      obtain ⟨_, e⟩ := bif_some e
      simp only [Option.some.injEq] at e
      subst e
      refine key_uses hM hk ?_
      simp only [Ob.uses, List.any_eq_false]
      intro c hc
      rcases seg_mem hc with h1 | h1
      · exact hu c h1
      · obtain ⟨c', h2, rfl⟩ := avs_mem h1
        simpa [AV.uses] using leaves_uses hl hv c' h2
  · simp at e
theorem setAg_uses {M : Mm} {f : Operand → AV} {b : Ty} {h : Nat} (hu : ∀ x, (f x).uses h = false) : ∀ {ps : List (Nat × Operand)} {l l' : List Cap}, (∀ c ∈ l, c.uses h = false) → setAg M b (ps.map fun p => (p.1, f p.2)) l = some l' → ∀ c ∈ l', c.uses h = false
  | [], l, l', h1, hs => by simp only [List.map_nil, setAg, Option.some.injEq] at hs; subst hs; exact h1
  | p :: ps, l, l', h1, hs => by
    simp only [List.map_cons, setAg] at hs
    split at hs <;> try (simp at hs; done)
    split at hs <;> try (simp at hs; done)
    rename_i vs hvs
    obtain ⟨_, hs⟩ := bif_some hs
    rw [segL_eq] at hs
    refine setAg_uses hu (l := seg l vs _) (fun c hc => ?_) hs
    rcases seg_mem hc with h2 | h2
    · exact h1 c h2
    · exact leaves_uses hvs (hu p.2) c h2
theorem view_uses {M : Mm} {τ : Ty} {x : AV} {l r m : Option Int} {p : Option Prop × AV} {h : Nat} (hu : x.uses h = false) (e : viewA M τ x l r m = some p) : p.2.uses h = false := by
  unfold viewA at e
  split at e <;> try (simp at e; done)
  split at e <;> try (simp at e; done)
  split at e <;> simp only [Option.some.injEq, reduceCtorEq] at e
  subst e
  exact hu
theorem lookup_uses {M : Mm} {kt vt : Ty} {m i a : AV} {ok : Bool} {h : Nat} (e : lookupA M kt vt m i ok = some a) : a.uses h = false := by
  unfold lookupA at e
  split at e <;> try (simp at e; done)
  split at e <;> try (simp at e; done)
  split at e <;> try (simp at e; done)
  split at e <;> try (simp at e; done)
  split at e <;> simp only [Option.some.injEq, reduceCtorEq] at e
  subst e
  cases ok <;> rfl
theorem put_uses {M M' : Mm} {wr : Nat → Bool} {kt vt : Ty} {m i x : AV} {h : Nat} (hM : ∀ k o, M k = some o → o.uses h = false) (e : putA M wr kt vt m i x = some M') : (∀ k o, M' k = some o → o.uses h = false) ∧ (M h = none → M' h = none) := by
  unfold putA at e
  split at e <;> try (simp at e; done)
  obtain ⟨_, e⟩ := bif_some e
  split at e <;> try (simp at e; done)
  rename_i hk
  split at e <;> try (simp at e; done)
  split at e <;> try (simp at e; done)
  split at e <;> simp only [Option.some.injEq, reduceCtorEq] at e
  subst e
  exact key_uses hM hk rfl
theorem copy_uses {M M' : Mm} {wr : Nat → Bool} {t : Ty} {d : AV} {ys : List t.T} {n h : Nat} (hM : ∀ k o, M k = some o → o.uses h = false) (e : copyA M wr t d ys = some (n, M')) : (∀ k o, M' k = some o → o.uses h = false) ∧ (M h = none → M' h = none) := by
  unfold copyA at e
  split at e
  · obtain ⟨_, e⟩ := bif_some e
    split at e <;> try (simp at e; done)
    rename_i hk
    split at e <;> simp only [Option.some.injEq, reduceCtorEq, Prod.mk.injEq] at e
    obtain ⟨_, rfl⟩ := e
    exact key_uses hM hk rfl
  · obtain ⟨_, e⟩ := bif_some e
    split at e <;> try (simp at e; done)
    rename_i hk
    split at e <;> try (simp at e; done)
    split at e <;> simp only [Option.some.injEq, reduceCtorEq, Prod.mk.injEq] at e
    obtain ⟨_, rfl⟩ := e
    exact key_uses hM hk rfl
  · simp at e
theorem kill_some {M : Mm} {hh : Option Nat} {k : Nat} {o : Ob} (hk : killM M hh k = some o) : M k = some o := by
  cases hh with
  | none => exact hk
  | some j =>
    simp only [killM] at hk
    cases hq : Nat.beq k j with
    | true => rw [hq] at hk; simp at hk
    | false => rw [hq] at hk; exact hk
theorem kill_none {M : Mm} {hh : Option Nat} {k : Nat} (hk : M k = none) : killM M hh k = none := by
  cases hq : killM M hh k with
  | none => rfl
  | some o => have := kill_some hq; rw [hk] at this; simp at this
theorem opA_uses {T : Tab} {own : List Nat} {wr : Nat → Bool} {d nm : Nat} {ty : TypeId} {op : Op} {f : Operand → AV} {M : Mm} {out : Out} {h : Nat} (hu : NoUse f M h) (hd : h ≠ nm ∨ allocB own d op = false) (e : opA T own wr d nm ty op f M = some out) :
    out.val.uses h = false ∧ (∀ k o, out.M k = some o → o.uses h = false) ∧ (M h = none → out.M h = none) := by
  obtain ⟨h1, h2⟩ := hu
  have same : ∀ {v : AV}, v.uses h = false → out.val = v → out.M = M → out.val.uses h = false ∧ (∀ k o, out.M k = some o → o.uses h = false) ∧ (M h = none → out.M h = none) := fun a b c => by rw [b, c]; exact ⟨a, h2, id⟩
  have newb : allocB own d op = true → ∀ {ob : Ob} {M2 : Mm}, ob.uses h = false → (∀ k o, M2 k = some o → o.uses h = false) → (M h = none → M2 h = none) → (∀ k o, upd M2 nm (some ob) k = some o → o.uses h = false) ∧ (M h = none → upd M2 nm (some ob) h = none) := by
    intro ha ob M2 ho hm hn
    refine ⟨upd_uses hm ho, fun hh => ?_⟩
    rw [upd_other _ _ _ h (by rcases hd with hd | hd; exact hd; rw [ha] at hd; simp at hd)]
    exact hn hh
  have hne : allocB own d op = true → (Nat.beq nm h) = false := by
    intro ha
    cases hq : Nat.beq nm h with
    | false => rfl
    | true => have := Nat.eq_of_beq_eq_true hq; rcases hd with hd | hd; exact absurd this.symm hd; rw [ha] at hd; simp at hd
  cases op <;> try (simp [opA] at e; done)
  case move x => simp only [opA, Option.some.injEq] at e; subst e; exact ⟨typed_uses (h1 x), h2, id⟩
  case assign x => simp only [opA, Option.some.injEq] at e; subst e; exact ⟨typed_uses (h1 x), h2, id⟩
  case panic x => simp only [opA, Option.some.injEq] at e; subst e; exact ⟨rfl, h2, id⟩
  case pick c a b =>
    simp only [opA] at e
    split at e <;> try (simp at e; done)
    obtain ⟨q, hq, rfl⟩ := out1_some e
    refine ⟨?_, h2, id⟩
    unfold pickA at hq
    split at hq <;> simp only [Option.some.injEq, reduceCtorEq] at hq <;> subst hq <;> rfl
  case binOp => simp only [opA] at e; obtain ⟨q, hq, rfl⟩ := out1_some e; exact ⟨bin_uses hq, h2, id⟩
  case unOp =>
    simp only [opA] at e; obtain ⟨q, hq, rfl⟩ := out1_some e
    refine ⟨?_, h2, id⟩
    unfold unA at hq
    split at hq <;> try (simp at hq; done)
    all_goals split at hq <;> simp only [Option.some.injEq, reduceCtorEq] at hq <;> subst hq <;> rfl
  case convert =>
    simp only [opA] at e
    split at e <;> try (simp at e; done)
    obtain ⟨q, hq, rfl⟩ := out1_some e
    refine ⟨?_, h2, id⟩
    unfold convA at hq
    split at hq <;> simp only [Option.some.injEq, reduceCtorEq] at hq <;> subst hq <;> rfl
  case nilCheck x =>
    simp only [opA] at e
    obtain ⟨q, hq, rfl⟩ := out0_some e
    exact ⟨by rw [nilA_eq hq]; exact h1 x, h2, id⟩
  case load =>
    simp only [opA] at e
    split at e <;> try (simp at e; done)
    obtain ⟨q, hq, rfl⟩ := out0_some e
    exact ⟨load_uses h2 hq, h2, id⟩
  case store t p x =>
    simp only [opA] at e
    split at e <;> try (simp at e; done)
    split at e <;> simp only [Option.some.injEq, reduceCtorEq] at e
    rename_i hs
    subst e
    have := store_uses h2 (h1 x) hs
    exact ⟨rfl, this.1, this.2⟩
  case fieldAddr s x k =>
    simp only [opA] at e
    split at e <;> try (simp at e; done)
    split at e <;> try (simp at e; done)
    rename_i t _
    cases hz : Nat.beq t.sz 0 with
    | true => rw [hz] at e; simp at e
    | false =>
      rw [hz] at e
      simp only [cond_false] at e
      split at e <;> try (simp at e; done)
      · split at e <;> try (simp at e; done)
        obtain ⟨q, hq, rfl⟩ := out0_some e
        exact ⟨projK_uses hq, h2, id⟩
      · rename_i hh off hx
        simp only [Option.some.injEq] at e; subst e
        have := h1 x
        rw [hx] at this
        exact ⟨this, h2, id⟩
  case field s x k =>
    simp only [opA] at e
    split at e <;> try (simp at e; done)
    split at e <;> try (simp at e; done)
    · split at e <;> try (simp at e; done)
      obtain ⟨q, hq, rfl⟩ := out0_some e
      exact ⟨projA_uses hq, h2, id⟩
    · rename_i l hx
      split at e <;> try (simp at e; done)
      obtain ⟨_, e⟩ := bif_some e
      split at e <;> simp only [Option.some.injEq, reduceCtorEq] at e
      rename_i c hc
      subst e
      rw [dropL_eq] at hc
      have hl := h1 x
      rw [hx] at hl
      simp only [AV.uses, List.any_eq_false] at hl
      exact ⟨by simpa [AV.uses] using hl c (List.mem_of_getElem? (head_drop hc)), h2, id⟩
  case indexAddr t x i =>
    simp only [opA] at e
    split at e <;> try (simp at e; done)
    · split at e <;> try (simp at e; done)
      · split at e <;> simp only [Option.some.injEq, reduceCtorEq] at e
        subst e; exact ⟨rfl, h2, id⟩
      · rename_i hh hx
        split at e <;> try (simp at e; done)
        split at e <;> simp only [Option.some.injEq, reduceCtorEq] at e
        subst e
        have := h1 x
        rw [hx] at this
        exact ⟨this, h2, id⟩
    · split at e <;> try (simp at e; done)
      split at e <;> simp only [Option.some.injEq, reduceCtorEq] at e
      subst e; exact ⟨rfl, h2, id⟩
  case index =>
    simp only [opA] at e
    split at e <;> try (simp at e; done)
    · simp only [Option.some.injEq] at e
      subst e; exact ⟨rfl, h2, id⟩
    · split at e <;> simp only [Option.some.injEq, reduceCtorEq] at e
      subst e; exact ⟨rfl, h2, id⟩
  case slice t x l hh m =>
    simp only [opA] at e
    split at e <;> try (simp at e; done)
    split at e <;> try (simp at e; done)
    cases hb : memB own d with
    | true =>
      rw [hb] at e
      simp only [cond_true] at e
      split at e <;> try (simp at e; done)
      unfold cutA at e
      split at e <;> try (simp at e; done)
      obtain ⟨_, e⟩ := bif_some e
      split at e <;> simp only [Option.some.injEq, reduceCtorEq] at e
      subst e
      have ha : allocB own d (.slice t x l hh m) = true := hb
      exact ⟨hne ha, newb ha rfl (fun k o ho => h2 k o (kill_some ho)) (fun hn => kill_none hn)⟩
    | false =>
      rw [hb] at e
      simp only [cond_false] at e
      split at e
      · rename_i p hp
        obtain ⟨q, hq, rfl⟩ := out1_some e
        cases hq
        exact ⟨view_uses (h1 x) hp, h2, id⟩
      · obtain ⟨q, hq, rfl⟩ := out1_some e
        refine ⟨?_, h2, id⟩
        unfold partA at hq
        split at hq
        · split at hq <;> simp only [Option.some.injEq, reduceCtorEq] at hq; subst hq; rfl
        · simp only [Option.some.injEq] at hq; subst hq; rfl
        · split at hq <;> simp only [Option.some.injEq, reduceCtorEq] at hq; subst hq; rfl
        · simp at hq
  case build =>
    simp only [opA] at e
    split at e <;> try (simp at e; done)
    split at e
    · simp only [Option.some.injEq] at e
      subst e; exact ⟨rfl, h2, id⟩
    · split at e <;> simp only [Option.some.injEq, reduceCtorEq] at e
      rename_i l hl
      subst e
      exact ⟨ag_uses (setAg_uses h1 (fun c hc => leafN_uses hc) hl), h2, id⟩
  case makeMap t r =>
    cases r with
    | some r => simp [opA] at e
    | none =>
      simp only [opA] at e
      split at e <;> simp only [Option.some.injEq, reduceCtorEq] at e
      subst e
      exact ⟨hne rfl, newb rfl rfl h2 id⟩
  case lookup =>
    simp only [opA] at e
    split at e <;> try (simp at e; done)
    obtain ⟨_, e⟩ := bif_some e
    obtain ⟨q, hq, rfl⟩ := out0_some e
    refine ⟨?_, h2, id⟩
    exact lookup_uses hq
  case mapUpdate =>
    simp only [opA] at e
    split at e <;> try (simp at e; done)
    obtain ⟨_, e⟩ := bif_some e
    split at e <;> simp only [Option.some.injEq, reduceCtorEq] at e
    rename_i hs
    subst e
    have := put_uses h2 hs
    exact ⟨rfl, this.1, this.2⟩
  case makeInterface =>
    simp only [opA] at e
    split at e <;> try (simp at e; done)
    split at e <;> simp only [Option.some.injEq, reduceCtorEq] at e
    subst e; exact ⟨rfl, h2, id⟩
  case buildSlice t n ps =>
    simp only [opA] at e
    split at e <;> try (simp at e; done)
    obtain ⟨_, e⟩ := bif_some e
    split at e <;> try (simp at e; done)
    cases hb : memB own d with
    | false => rw [hb] at e; simp only [cond_false, Option.some.injEq] at e; subst e; exact ⟨rfl, h2, id⟩
    | true =>
      rw [hb] at e
      simp only [cond_true, Option.some.injEq] at e
      subst e
      have ha : allocB own d (.buildSlice t n ps) = true := hb
      exact ⟨hne ha, newb ha rfl h2 id⟩
  case makeSlice =>
    simp only [opA] at e
    split at e <;> try (simp at e; done)
    split at e <;> try (simp at e; done)
    obtain ⟨_, e⟩ := bif_some e
    simp only [Option.some.injEq] at e
    subst e
    exact ⟨hne rfl, newb rfl rfl h2 id⟩
  case box t x =>
    simp only [opA] at e
    split at e <;> try (simp at e; done)
    cases hb : memB own d with
    | false =>
      rw [hb] at e; simp only [cond_false] at e
      split at e <;> simp only [Option.some.injEq, reduceCtorEq] at e
      subst e; exact ⟨rfl, h2, id⟩
    | true =>
      rw [hb] at e
      simp only [cond_true] at e
      have ha : allocB own d (.box t x) = true := hb
      split at e
      · split at e <;> try (simp at e; done)
        rename_i l hl
        obtain ⟨_, e⟩ := bif_some e
        simp only [Option.some.injEq] at e
        subst e
        refine ⟨hne ha, newb ha ?_ h2 id⟩
        simp only [Ob.uses, List.any_eq_false]
        intro c hc
        obtain ⟨c', h3, rfl⟩ := avs_mem hc
        simpa [AV.uses] using leaves_uses hl (h1 x) c' h3
      · obtain ⟨_, e⟩ := bif_some e
        simp only [Option.some.injEq] at e
        subst e
        refine ⟨hne ha, newb ha ?_ h2 id⟩
        simpa [Ob.uses] using h1 x
  case alloc t =>
    simp only [opA] at e
    split at e <;> try (simp at e; done)
    cases hb : memB own d with
    | false => rw [hb] at e; simp only [cond_false, Option.some.injEq] at e; subst e; exact ⟨rfl, h2, id⟩
    | true =>
      rw [hb] at e
      simp only [cond_true, Option.some.injEq] at e
      subst e
      have ha : allocB own d (.alloc t) = true := hb
      refine ⟨hne ha, newb ha ?_ h2 id⟩
      simp only [Ob.uses, List.any_eq_false]
      intro c hc
      obtain ⟨c', h3, rfl⟩ := avs_mem hc
      simpa [AV.uses] using leafN_uses h3
  case makeFunc fn first caps =>
    cases fn <;> try (simp [opA] at e; done)
    simp only [opA] at e
    obtain ⟨_, e⟩ := bif_some e
    split at e <;> simp only [Option.some.injEq, reduceCtorEq] at e
    rename_i cs hcs
    subst e
    refine ⟨?_, h2, id⟩
    simp only [AV.uses, List.any_eq_false]
    intro c hc
    have := capsA_uses (h := h) hcs (fun a ha => by obtain ⟨x, _, rfl⟩ := List.mem_map.1 ha; exact h1 x) c hc
    simpa using this
  case extract x k =>
    simp only [opA] at e
    split at e <;> try (simp at e; done)
    · obtain ⟨q, hq, rfl⟩ := out0_some e
      exact ⟨projA_uses hq, h2, id⟩
    · rename_i l hx
      split at e <;> simp only [Option.some.injEq, reduceCtorEq] at e
      rename_i c hc
      subst e
      rw [dropL_eq] at hc
      have hl := h1 x
      rw [hx] at hl
      simp only [AV.uses, List.any_eq_false] at hl
      exact ⟨by simpa [AV.uses] using hl c (List.mem_of_getElem? (head_drop hc)), h2, id⟩
  case call c =>
    obtain ⟨callee, args, tys⟩ := c
    cases callee with
    | value f => simp [opA] at e
    | invoke r n => simp [opA] at e
    | builtin b =>
      cases b <;> try (simp [opA] at e; done)
      case append =>
        simp only [opA] at e
        split at e <;> try (simp at e; done)
        obtain ⟨_, e⟩ := bif_some e
        split at e <;> try (simp at e; done)
        split at e <;> try (simp at e; done)
        rename_i hh xs ys _ _ _
        obtain ⟨_, e⟩ := bif_some e
        cases hmo : memB own d with
        | true =>
          rw [hmo] at e
          simp only [cond_true, Option.some.injEq] at e
          subst e
          exact ⟨hne rfl, newb rfl rfl (fun k o ho => h2 k o (kill_some ho)) (fun hn => kill_none hn)⟩
        | false =>
          rw [hmo] at e
          simp only [cond_false, Option.some.injEq] at e
          subst e
          exact ⟨rfl, fun k o ho => h2 k o (kill_some ho), fun hn => kill_none hn⟩
      case copy =>
        simp only [opA] at e
        split at e <;> try (simp at e; done)
        obtain ⟨_, e⟩ := bif_some e
        split at e <;> try (simp at e; done)
        obtain ⟨_, e⟩ := bif_some e
        split at e <;> try (simp at e; done)
        split at e <;> simp only [Option.some.injEq, reduceCtorEq] at e
        rename_i hs
        subst e
        have := copy_uses h2 hs
        exact ⟨rfl, this.1, this.2⟩
      case len =>
        simp only [opA] at e
        split at e <;> try (simp at e; done)
        split at e <;> try (simp at e; done)
        obtain ⟨q, hq, rfl⟩ := out0_some e
        refine ⟨?_, h2, id⟩
        unfold lenA at hq
        split at hq <;> try (simp only [Option.some.injEq, reduceCtorEq] at hq; (try subst hq; rfl); done)
        all_goals (split at hq <;> simp only [Option.some.injEq, reduceCtorEq] at hq; subst hq; rfl)
      all_goals
        simp only [opA] at e
        split at e <;> try (simp at e; done)
        split at e <;> try (simp at e; done)
        split at e <;> simp only [Option.some.injEq, reduceCtorEq] at e
        subst e; exact ⟨rfl, h2, id⟩
end Go.Proofs.Ytohglckebkgbpaa
