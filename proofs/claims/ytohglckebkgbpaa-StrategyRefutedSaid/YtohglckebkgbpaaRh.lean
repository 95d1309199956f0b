/-
  Regions on plain data: what an operation does to the objects.
-/
import Derived.Test.YtohglckebkgbpaaRg
namespace Go.Proofs.Ytohglckebkgbpaa
open Go.RowKit

theorem opA_rd {T : Tab} {own : List Nat} {d : Nat} {ty : TypeId} {op : Op} {f : Operand → AV} {M : Mm} {out : Out} (ht : touch own d op ≤ 1) (h : opA T own d ty op f M = some out) : out.M = M := by
  cases op <;> try (simp [opA] at h; done)
  case move x => simp only [opA, Option.some.injEq] at h; subst h; rfl
  case assign x => simp only [opA, Option.some.injEq] at h; subst h; rfl
  case pick c a b =>
    simp only [opA] at h
    split at h <;> try (simp at h; done)
    obtain ⟨q, _, rfl⟩ := out1_some h; rfl
  case binOp => simp only [opA] at h; obtain ⟨q, _, rfl⟩ := out1_some h; rfl
  case unOp => simp only [opA] at h; obtain ⟨q, _, rfl⟩ := out1_some h; rfl
  case convert =>
    simp only [opA] at h
    split at h <;> try (simp at h; done)
    obtain ⟨q, _, rfl⟩ := out1_some h; rfl
  case load =>
    simp only [opA] at h
    split at h <;> try (simp at h; done)
    obtain ⟨q, _, rfl⟩ := out0_some h; rfl
  case store => simp [touch] at ht
  case fieldAddr =>
    simp only [opA] at h
    split at h <;> try (simp at h; done)
    split at h <;> try (simp at h; done)
    rename_i t _
    cases hz : Nat.beq t.sz 0 with
    | true => rw [hz] at h; simp at h
    | false =>
      rw [hz] at h
      simp only [cond_false] at h
      split at h <;> try (simp at h; done)
      · split at h <;> try (simp at h; done)
        obtain ⟨q, _, rfl⟩ := out0_some h; rfl
      · simp only [Option.some.injEq] at h; subst h; rfl
  case field =>
    simp only [opA] at h
    split at h <;> try (simp at h; done)
    split at h <;> try (simp at h; done)
    obtain ⟨q, _, rfl⟩ := out0_some h; rfl
  case indexAddr =>
    simp only [opA] at h
    split at h <;> try (simp at h; done)
    split at h <;> try (simp at h; done)
    · split at h <;> simp only [Option.some.injEq, reduceCtorEq] at h
      subst h; rfl
    · split at h <;> try (simp at h; done)
      split at h <;> simp only [Option.some.injEq, reduceCtorEq] at h
      subst h; rfl
  case index =>
    simp only [opA] at h
    split at h <;> simp only [Option.some.injEq, reduceCtorEq] at h
    subst h; rfl
  case slice =>
    simp only [opA] at h
    split at h <;> try (simp at h; done)
    split at h <;> try (simp at h; done)
    obtain ⟨q, _, rfl⟩ := out1_some h; rfl
  case build =>
    simp only [opA] at h
    split at h <;> try (simp at h; done)
    split at h <;> simp only [Option.some.injEq, reduceCtorEq] at h
    subst h; rfl
  case buildSlice =>
    simp only [touch] at ht
    have hm : memB own d = false := by cases hq : memB own d; rfl; rw [hq] at ht; simp at ht
    simp only [opA, hm, cond_false] at h
    split at h <;> try (simp at h; done)
    obtain ⟨_, h⟩ := bif_some h
    split at h <;> simp only [Option.some.injEq, reduceCtorEq] at h
    subst h; rfl
  case makeSlice => simp [touch] at ht
  case box =>
    simp only [touch] at ht
    have hm : memB own d = false := by cases hq : memB own d; rfl; rw [hq] at ht; simp at ht
    simp only [opA, hm, cond_false] at h
    split at h <;> try (simp at h; done)
    split at h <;> simp only [Option.some.injEq, reduceCtorEq] at h
    subst h; rfl
  case alloc =>
    simp only [touch] at ht
    have hm : memB own d = false := by cases hq : memB own d; rfl; rw [hq] at ht; simp at ht
    simp only [opA, hm, cond_false] at h
    split at h <;> simp only [Option.some.injEq, reduceCtorEq] at h
    subst h; rfl
  case makeFunc fn _ _ =>
    cases fn <;> try (simp [opA] at h; done)
    simp only [opA] at h
    obtain ⟨_, h⟩ := bif_some h
    split at h <;> simp only [Option.some.injEq, reduceCtorEq] at h
    subst h; rfl
  case extract =>
    simp only [opA] at h
    split at h <;> try (simp at h; done)
    obtain ⟨q, _, rfl⟩ := out0_some h; rfl
  case call c =>
    obtain ⟨callee, args, tys⟩ := c
    cases callee with
    | value f => simp [opA] at h
    | invoke r n => simp [opA] at h
    | builtin b =>
      cases b <;> try (simp [opA] at h; done)
      case append => simp [touch] at ht
      case len =>
        simp only [opA] at h
        split at h <;> try (simp at h; done)
        split at h <;> try (simp at h; done)
        obtain ⟨q, _, rfl⟩ := out0_some h; rfl
      all_goals
        simp only [opA] at h
        split at h <;> try (simp at h; done)
        split at h <;> try (simp at h; done)
        split at h <;> simp only [Option.some.injEq, reduceCtorEq] at h
        subst h; rfl
theorem opA_noM {T : Tab} {own : List Nat} {d : Nat} {ty : TypeId} {op : Op} {f : Operand → AV} {M : Mm} {out : Out} (ht : touch own d op = 0) (h : opA T own d ty op f M = some out) (M2 : Mm) : opA T own d ty op f M2 = some ⟨out.ob, out.val, M2⟩ := by
  have o1 : ∀ {p : Option (Option Prop × AV)} {out : Out}, out1 M p = some out → out1 M2 p = some ⟨out.ob, out.val, M2⟩ := by
    intro p out h; obtain ⟨q, rfl, rfl⟩ := out1_some h; rfl
  have o0 : ∀ {p : Option AV} {out : Out}, out0 M p = some out → out0 M2 p = some ⟨out.ob, out.val, M2⟩ := by
    intro p out h; obtain ⟨q, rfl, rfl⟩ := out0_some h; rfl
  cases op <;> try (simp [opA] at h; done)
  case move x => simp only [opA, Option.some.injEq] at h ⊢; subst h; rfl
  case assign x => simp only [opA, Option.some.injEq] at h ⊢; subst h; rfl
  case pick c a b =>
    simp only [opA] at h ⊢
    split at h <;> try (simp at h; done)
    exact o1 h
  case binOp => simp only [opA] at h ⊢; exact o1 h
  case unOp => simp only [opA] at h ⊢; exact o1 h
  case convert =>
    simp only [opA] at h ⊢
    split at h <;> try (simp at h; done)
    exact o1 h
  case load => simp [touch] at ht
  case store => simp [touch] at ht
  case fieldAddr =>
    simp only [opA] at h ⊢
    split at h <;> try (simp at h; done)
    split at h <;> try (simp at h; done)
    rename_i t _
    cases hz : Nat.beq t.sz 0 with
    | true => rw [hz] at h; simp at h
    | false =>
      rw [hz] at h
      simp only [cond_false] at h ⊢
      split at h <;> try (simp at h; done)
      · split at h <;> try (simp at h; done)
        rename_i e
        simp only [e, if_true]
        exact o0 h
      · simp only [Option.some.injEq] at h ⊢; subst h; rfl
  case field =>
    simp only [opA] at h ⊢
    split at h <;> try (simp at h; done)
    split at h <;> try (simp at h; done)
    rename_i e
    simp only [e, if_true]
    exact o0 h
  case indexAddr => simp [touch] at ht
  case index =>
    simp only [opA] at h ⊢
    split at h <;> simp only [Option.some.injEq, reduceCtorEq] at h ⊢
    subst h; rfl
  case slice =>
    simp only [opA] at h ⊢
    split at h <;> try (simp at h; done)
    split at h <;> try (simp at h; done)
    exact o1 h
  case build =>
    simp only [opA] at h ⊢
    split at h <;> try (simp at h; done)
    split at h <;> simp only [Option.some.injEq, reduceCtorEq] at h
    subst h; rfl
  case buildSlice =>
    simp only [touch] at ht
    have hm : memB own d = false := by cases hq : memB own d; rfl; rw [hq] at ht; simp at ht
    simp only [opA, hm, cond_false] at h ⊢
    split at h <;> try (simp at h; done)
    obtain ⟨c, h⟩ := bif_some h
    simp only [c, cond_true]
    split at h <;> simp only [Option.some.injEq, reduceCtorEq] at h
    subst h; rfl
  case makeSlice => simp [touch] at ht
  case box =>
    simp only [touch] at ht
    have hm : memB own d = false := by cases hq : memB own d; rfl; rw [hq] at ht; simp at ht
    simp only [opA, hm, cond_false] at h ⊢
    split at h <;> try (simp at h; done)
    split at h <;> simp only [Option.some.injEq, reduceCtorEq] at h
    subst h; rfl
  case alloc =>
    simp only [touch] at ht
    have hm : memB own d = false := by cases hq : memB own d; rfl; rw [hq] at ht; simp at ht
    simp only [opA, hm, cond_false] at h ⊢
    split at h <;> simp only [Option.some.injEq, reduceCtorEq] at h
    subst h; rfl
  case makeFunc fn _ _ =>
    cases fn <;> try (simp [opA] at h; done)
    simp only [opA] at h ⊢
    obtain ⟨c, h⟩ := bif_some h
    simp only [c, cond_true]
    split at h <;> simp only [Option.some.injEq, reduceCtorEq] at h
    subst h; rfl
  case extract =>
    simp only [opA] at h ⊢
    split at h <;> try (simp at h; done)
    exact o0 h
  case call c =>
    obtain ⟨callee, args, tys⟩ := c
    cases callee with
    | value f => simp [opA] at h
    | invoke r n => simp [opA] at h
    | builtin b =>
      cases b <;> try (simp [opA] at h; done)
      case append => simp [touch] at ht
      case len => simp [touch] at ht
      all_goals
        simp only [opA] at h ⊢
        split at h <;> try (simp at h; done)
        split at h <;> try (simp at h; done)
        split at h <;> simp only [Option.some.injEq, reduceCtorEq] at h
        rename_i e
        simp only [e, if_true]
        subst h; rfl

theorem d_uses {h : Nat} {t : Ty} {x : t.T} : (AV.d t x).uses h = false := rfl
theorem typed_uses {T : Tab} {ty : TypeId} {h : Nat} {a : AV} (k : a.uses h = false) : (typed T ty a).uses h = false := by
  unfold typed
  split
  · split
    · split <;> rfl
    · rfl
  · exact k
/-- no slot and no object names h -/
def NoUse (f : Operand → AV) (M : Mm) (h : Nat) : Prop := (∀ x, (f x).uses h = false) ∧ ∀ k o, M k = some o → o.uses h = false
theorem bin_uses {op : BinOp} {t : Option Ty} {x y : AV} {p : Option Prop × AV} {h : Nat} (k : binA op t x y = some p) : p.2.uses h = false := by
  unfold binA at k
  split at k
  · split at k
    · unfold intB at k
      split at k <;> simp only [Option.some.injEq, reduceCtorEq] at k <;> subst k <;> rfl
    · simp at k
  · unfold strB at k
    split at k <;> simp only [Option.some.injEq, reduceCtorEq] at k <;> subst k <;> rfl
  · split at k
    · unfold boolB at k
      split at k <;> simp only [Option.some.injEq, reduceCtorEq] at k <;> subst k <;> rfl
    · simp at k
  · simp at k
theorem projA_uses : ∀ {b : Ty} {x : b.T} {k : Nat} {v : AV} {h : Nat}, projA b x k = some v → v.uses h = false
  | .pair a r, x, 0, v, h, e => by simp only [projA, Option.some.injEq] at e; subst e; rfl
  | .pair a r, x, k + 1, v, h, e => projA_uses (b := r) e
  | .unit, _, _, _, _, e => by simp [projA] at e
  | .int _, _, _, _, _, e => by simp [projA] at e
  | .bool, _, _, _, _, e => by simp [projA] at e
  | .str, _, _, _, _, e => by simp [projA] at e
  | .sl _, _, _, _, _, e => by simp [projA] at e
  | .st _, _, _, _, _, e => by simp [projA] at e
  | .tup _, _, _, _, _, e => by simp [projA] at e
theorem projK_uses : ∀ {b : Ty} {x : b.T} {k : Nat} {v : AV} {h : Nat}, projK b x k = some v → v.uses h = false
  | .pair a r, x, 0, v, h, e => by simp only [projK, Option.some.injEq] at e; subst e; rfl
  | .pair a r, x, k + 1, v, h, e => projK_uses (b := r) e
  | .unit, _, _, _, _, e => by simp [projK] at e
  | .int _, _, _, _, _, e => by simp [projK] at e
  | .bool, _, _, _, _, e => by simp [projK] at e
  | .str, _, _, _, _, e => by simp [projK] at e
  | .sl _, _, _, _, _, e => by simp [projK] at e
  | .st _, _, _, _, _, e => by simp [projK] at e
  | .tup _, _, _, _, _, e => by simp [projK] at e
theorem load_uses {M : Mm} {t : Ty} {p v : AV} {h : Nat} (hM : ∀ k o, M k = some o → o.uses h = false) (e : loadA M t p = some v) : v.uses h = false := by
  unfold loadA at e
  split at e
  · split at e <;> simp only [Option.some.injEq, reduceCtorEq] at e; subst e; rfl
  · split at e <;> try (simp at e; done)
    split at e <;> try (simp at e; done)
    split at e <;> simp only [Option.some.injEq, reduceCtorEq] at e; subst e; rfl
  · split at e <;> try (simp at e; done)
    rename_i cs hc
    have hu := hM _ _ hc
    simp only [Ob.uses, List.any_eq_false] at hu
    cases ht : t.cell with
    | true => rw [ht] at e; simp only [cond_true] at e; simpa using hu v (List.mem_of_getElem? e)
    | false =>
      rw [ht] at e
      simp only [cond_false] at e
      split at e <;> try (simp at e; done)
      split at e <;> simp only [Option.some.injEq, reduceCtorEq] at e; subst e; rfl
  · simp at e
theorem upd_uses {M : Mm} {h k : Nat} {ob : Ob} (hM : ∀ k o, M k = some o → o.uses h = false) (ho : ob.uses h = false) : ∀ j o, upd M k (some ob) j = some o → o.uses h = false := by
  intro j o hj
  by_cases e : j = k
  · subst e; rw [upd_self] at hj; cases hj; exact ho
  · rw [upd_other _ _ _ j e] at hj; exact hM j o hj
theorem store_uses {M M' : Mm} {t : Ty} {p v : AV} {h : Nat} (hM : ∀ k o, M k = some o → o.uses h = false) (hv : v.uses h = false) (e : storeA M t p v = some M') : (∀ k o, M' k = some o → o.uses h = false) ∧ (M h = none → M' h = none) := by
  have key : ∀ (k : Nat) (o ob : Ob), M k = some o → ob.uses h = false → (∀ j o, upd M k (some ob) j = some o → o.uses h = false) ∧ (M h = none → upd M k (some ob) h = none) := by
    intro k o ob hk ho
    refine ⟨upd_uses hM ho, fun hh => ?_⟩
    rw [upd_other _ _ _ h (by intro e; subst e; rw [hk] at hh; simp at hh)]
    exact hh
  unfold storeA at e
  simp only [lenL_eq, setL_eq, appL_eq, takeL_eq, dropL_eq] at e
  split at e
  · split at e <;> try (simp at e; done)
    split at e <;> try (simp at e; done)
    rename_i hk
    split at e <;> try (simp at e; done)
    split at e <;> simp only [Option.some.injEq, reduceCtorEq] at e
    subst e
    exact key _ _ _ hk rfl
  · split at e <;> try (simp at e; done)
    rename_i cs hk
    have hu := hM _ _ hk
    simp only [Ob.uses, List.any_eq_false] at hu
    cases ht : t.cell with
    | true =>
      rw [ht] at e
      simp only [cond_true] at e
      obtain ⟨_, e⟩ := bif_some e
      simp only [Option.some.injEq] at e
      subst e
      refine key _ _ _ hk ?_
      simp only [Ob.uses, List.any_eq_false]
      intro c hc
      rcases List.mem_or_eq_of_mem_set hc with h1 | h1
      · exact hu c h1
      · rw [h1]; simpa using hv
    | false =>
      rw [ht] at e
      simp only [cond_false] at e
      split at e <;> try (simp at e; done)
      split at e <;> try (simp at e; done)
      obtain ⟨_, e⟩ := bif_some e
      simp only [Option.some.injEq] at e
      subst e
      refine key _ _ _ hk ?_
      simp only [Ob.uses, List.any_eq_false]
      intro c hc
      simp only [List.mem_append] at hc
      rcases hc with (h1 | h1) | h1
      · exact hu c (List.mem_of_mem_take h1)
      · simpa using leafA_uses h1
      · exact hu c (List.mem_of_mem_drop h1)
  · simp at e
theorem opA_uses {T : Tab} {own : List Nat} {d : Nat} {ty : TypeId} {op : Op} {f : Operand → AV} {M : Mm} {out : Out} {h : Nat} (hu : NoUse f M h) (hd : h ≠ d ∨ allocB own d op = false) (e : opA T own d ty op f M = some out) :
    out.val.uses h = false ∧ (∀ k o, out.M k = some o → o.uses h = false) ∧ (M h = none → out.M h = none) := by
  obtain ⟨h1, h2⟩ := hu
  have same : ∀ {v : AV}, v.uses h = false → out.val = v → out.M = M → out.val.uses h = false ∧ (∀ k o, out.M k = some o → o.uses h = false) ∧ (M h = none → out.M h = none) := fun a b c => by rw [b, c]; exact ⟨a, h2, id⟩
  have newb : allocB own d op = true → ∀ {ob : Ob} {M2 : Mm}, ob.uses h = false → (∀ k o, M2 k = some o → o.uses h = false) → (M h = none → M2 h = none) → (∀ k o, upd M2 d (some ob) k = some o → o.uses h = false) ∧ (M h = none → upd M2 d (some ob) h = none) := by
    intro ha ob M2 ho hm hn
    refine ⟨upd_uses hm ho, fun hh => ?_⟩
    rw [upd_other _ _ _ h (by rcases hd with hd | hd; exact hd; rw [ha] at hd; simp at hd)]
    exact hn hh
  have hne : allocB own d op = true → (Nat.beq d h) = false := by
    intro ha
    cases hq : Nat.beq d h with
    | false => rfl
    | true => have := Nat.eq_of_beq_eq_true hq; rcases hd with hd | hd; exact absurd this.symm hd; rw [ha] at hd; simp at hd
  cases op <;> try (simp [opA] at e; done)
  case move x => simp only [opA, Option.some.injEq] at e; subst e; exact ⟨typed_uses (h1 x), h2, id⟩
  case assign x => simp only [opA, Option.some.injEq] at e; subst e; exact ⟨typed_uses (h1 x), h2, id⟩
  case pick c a b =>
    simp only [opA] at e
    split at e <;> try (simp at e; done)
    obtain ⟨q, hq, rfl⟩ := out1_some e
    refine ⟨?_, h2, id⟩
    unfold pickA at hq
    split at hq <;> simp only [Option.some.injEq, reduceCtorEq] at hq <;> subst hq <;> rfl
  case binOp => simp only [opA] at e; obtain ⟨q, hq, rfl⟩ := out1_some e; exact ⟨bin_uses hq, h2, id⟩
  case unOp =>
    simp only [opA] at e; obtain ⟨q, hq, rfl⟩ := out1_some e
    refine ⟨?_, h2, id⟩
    unfold unA at hq
    split at hq <;> try (simp at hq; done)
    all_goals split at hq <;> simp only [Option.some.injEq, reduceCtorEq] at hq <;> subst hq <;> rfl
  case convert =>
    simp only [opA] at e
    split at e <;> try (simp at e; done)
    obtain ⟨q, hq, rfl⟩ := out1_some e
    refine ⟨?_, h2, id⟩
    unfold convA at hq
    split at hq <;> simp only [Option.some.injEq, reduceCtorEq] at hq <;> subst hq <;> rfl
  case load =>
    simp only [opA] at e
    split at e <;> try (simp at e; done)
    obtain ⟨q, hq, rfl⟩ := out0_some e
    exact ⟨load_uses h2 hq, h2, id⟩
  case store t p x =>
    simp only [opA] at e
    split at e <;> try (simp at e; done)
    split at e <;> simp only [Option.some.injEq, reduceCtorEq] at e
    rename_i hs
    subst e
    have := store_uses h2 (h1 x) hs
    exact ⟨rfl, this.1, this.2⟩
  case fieldAddr s x k =>
    simp only [opA] at e
    split at e <;> try (simp at e; done)
    split at e <;> try (simp at e; done)
    rename_i t _
    cases hz : Nat.beq t.sz 0 with
    | true => rw [hz] at e; simp at e
    | false =>
      rw [hz] at e
      simp only [cond_false] at e
      split at e <;> try (simp at e; done)
      · split at e <;> try (simp at e; done)
        obtain ⟨q, hq, rfl⟩ := out0_some e
        exact ⟨projK_uses hq, h2, id⟩
      · rename_i hh off hx
        simp only [Option.some.injEq] at e; subst e
        have := h1 x
        rw [hx] at this
        exact ⟨this, h2, id⟩
  case field =>
    simp only [opA] at e
    split at e <;> try (simp at e; done)
    split at e <;> try (simp at e; done)
    obtain ⟨q, hq, rfl⟩ := out0_some e
    exact ⟨projA_uses hq, h2, id⟩
  case indexAddr t x i =>
    simp only [opA] at e
    split at e <;> try (simp at e; done)
    split at e <;> try (simp at e; done)
    · split at e <;> simp only [Option.some.injEq, reduceCtorEq] at e
      subst e; exact ⟨rfl, h2, id⟩
    · rename_i hh hx
      split at e <;> try (simp at e; done)
      split at e <;> simp only [Option.some.injEq, reduceCtorEq] at e
      subst e
      have := h1 x
      rw [hx] at this
      exact ⟨this, h2, id⟩
  case index =>
    simp only [opA] at e
    split at e <;> simp only [Option.some.injEq, reduceCtorEq] at e
    subst e; exact ⟨rfl, h2, id⟩
  case slice =>
    simp only [opA] at e
    split at e <;> try (simp at e; done)
    split at e <;> try (simp at e; done)
    obtain ⟨q, hq, rfl⟩ := out1_some e
    refine ⟨?_, h2, id⟩
    unfold partA at hq
    split at hq
    · split at hq <;> simp only [Option.some.injEq, reduceCtorEq] at hq; subst hq; rfl
    · split at hq <;> simp only [Option.some.injEq, reduceCtorEq] at hq; subst hq; rfl
    · simp at hq
  case build =>
    simp only [opA] at e
    split at e <;> try (simp at e; done)
    split at e <;> simp only [Option.some.injEq, reduceCtorEq] at e
    subst e; exact ⟨rfl, h2, id⟩
  case buildSlice t n ps =>
    simp only [opA] at e
    split at e <;> try (simp at e; done)
    obtain ⟨_, e⟩ := bif_some e
    split at e <;> try (simp at e; done)
    cases hb : memB own d with
    | false => rw [hb] at e; simp only [cond_false, Option.some.injEq] at e; subst e; exact ⟨rfl, h2, id⟩
    | true =>
      rw [hb] at e
      simp only [cond_true, Option.some.injEq] at e
      subst e
      have ha : allocB own d (.buildSlice t n ps) = true := hb
      exact ⟨hne ha, newb ha rfl h2 id⟩
  case makeSlice =>
    simp only [opA] at e
    split at e <;> try (simp at e; done)
    split at e <;> try (simp at e; done)
    obtain ⟨_, e⟩ := bif_some e
    simp only [Option.some.injEq] at e
    subst e
    exact ⟨hne rfl, newb rfl rfl h2 id⟩
  case box t x =>
    simp only [opA] at e
    split at e <;> try (simp at e; done)
    cases hb : memB own d with
    | false =>
      rw [hb] at e; simp only [cond_false] at e
      split at e <;> simp only [Option.some.injEq, reduceCtorEq] at e
      subst e; exact ⟨rfl, h2, id⟩
    | true =>
      rw [hb] at e
      simp only [cond_true] at e
      have ha : allocB own d (.box t x) = true := hb
      split at e
      · split at e <;> simp only [Option.some.injEq, reduceCtorEq] at e
        subst e
        refine ⟨hne ha, newb ha ?_ h2 id⟩
        simp only [Ob.uses, List.any_eq_false]
        intro c hc
        simpa using leafA_uses hc
      · obtain ⟨_, e⟩ := bif_some e
        simp only [Option.some.injEq] at e
        subst e
        refine ⟨hne ha, newb ha ?_ h2 id⟩
        simpa [Ob.uses] using h1 x
  case alloc t =>
    simp only [opA] at e
    split at e <;> try (simp at e; done)
    cases hb : memB own d with
    | false => rw [hb] at e; simp only [cond_false, Option.some.injEq] at e; subst e; exact ⟨rfl, h2, id⟩
    | true =>
      rw [hb] at e
      simp only [cond_true, Option.some.injEq] at e
      subst e
      have ha : allocB own d (.alloc t) = true := hb
      refine ⟨hne ha, newb ha ?_ h2 id⟩
      simp only [Ob.uses, List.any_eq_false]
      intro c hc
      simpa using leafA_uses hc
  case makeFunc fn _ _ =>
    cases fn <;> try (simp [opA] at e; done)
    simp only [opA] at e
    obtain ⟨_, e⟩ := bif_some e
    split at e <;> simp only [Option.some.injEq, reduceCtorEq] at e
    subst e; exact ⟨rfl, h2, id⟩
  case extract =>
    simp only [opA] at e
    split at e <;> try (simp at e; done)
    obtain ⟨q, hq, rfl⟩ := out0_some e
    exact ⟨projA_uses hq, h2, id⟩
  case call c =>
    obtain ⟨callee, args, tys⟩ := c
    cases callee with
    | value f => simp [opA] at e
    | invoke r n => simp [opA] at e
    | builtin b =>
      cases b <;> try (simp [opA] at e; done)
      case append =>
        simp only [opA] at e
        split at e <;> try (simp at e; done)
        obtain ⟨_, e⟩ := bif_some e
        split at e <;> try (simp at e; done)
        split at e <;> try (simp at e; done)
        rename_i hh xs ys _ _ _
        obtain ⟨_, e⟩ := bif_some e
        simp only [Option.some.injEq] at e
        subst e
        have hk : ∀ k o, killM M hh k = some o → M k = some o := by
          intro k o hk
          cases hh with
          | none => exact hk
          | some j =>
            simp only [killM] at hk
            cases hq : Nat.beq k j with
            | true => rw [hq] at hk; simp at hk
            | false => rw [hq] at hk; exact hk
        exact ⟨hne rfl, newb rfl rfl (fun k o ho => h2 k o (hk k o ho)) (fun hn => by
          cases hq : killM M hh h with
          | none => rfl
          | some o => have := hk h o hq; rw [hn] at this; simp at this)⟩
      case len =>
        simp only [opA] at e
        split at e <;> try (simp at e; done)
        split at e <;> try (simp at e; done)
        obtain ⟨q, hq, rfl⟩ := out0_some e
        refine ⟨?_, h2, id⟩
        unfold lenA at hq
        split at hq <;> try (simp only [Option.some.injEq, reduceCtorEq] at hq; (try subst hq; rfl); done)
        split at hq <;> simp only [Option.some.injEq, reduceCtorEq] at hq; subst hq; rfl
      all_goals
        simp only [opA] at e
        split at e <;> try (simp at e; done)
        split at e <;> try (simp at e; done)
        split at e <;> simp only [Option.some.injEq, reduceCtorEq] at e
        subst e; exact ⟨rfl, h2, id⟩
end Go.Proofs.Ytohglckebkgbpaa
