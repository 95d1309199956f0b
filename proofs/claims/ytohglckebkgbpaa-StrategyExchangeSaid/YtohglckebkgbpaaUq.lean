/-
  Regions on plain data: any order that Go may take comes to what the text's order comes to.
-/
import Derived.Test.YtohglckebkgbpaaUp
namespace Go.Proofs.Ytohglckebkgbpaa
open Go.RowKit

/-- what must be shown of one operation -/
def vcOp (P : Program) (T : Tab) (X : Sx) (ops : List Oper) (o : Oper) (K : Env → Mm → Prop) (e : Env) (M : Mm) : Prop :=
  match o.guard with
  | none => (bif isCallB o.op then (match callA T (ev T e) M o.op with
        | some q => (bif X.alc o then (match q.clo, elemT T o.type with
            | none, some e0 => ∃ r : q.ret.T, CallR P T q.f q.args e0 q.ret r ∧ (match rowOb e0 q.ret r with | some ob => K (updD e o.dst (.hs (X.nm o))) (upd M (X.nm o) (some ob)) | none => False)
            | _, _ => False)
          else ∃ r : q.ret.T, CallQ P T q r ∧ K (updD e o.dst (q.val r)) M)
        | none => False)
      else (match opX T X o (ev T e) M with | some out => andP out.ob (K (updD e o.dst out.val) out.M) | none => False))
  | some (j, want) => (match guardC (match (ops[j]?).bind (·.dst) with | some s => e s | none => .any) want with
    | some g => (bif isCallB o.op then (match callA T (gev o.op (ev T e)) M o.op with
        | some q => ∃ r : q.ret.T, (g = true → andP (condsO (ev T e) (condL o.op)) (CallQ P T q r)) ∧ K (updD e o.dst (.opt g (q.val r))) M
        | none => False)
      else (bif Nat.ble (X.tch o) 1 then (match opX T X o (gev o.op (ev T e)) M with
        | some out => andP (match andO (condsO (ev T e) (condL o.op)) out.ob with | some p => some (g = true → p) | none => none) (K (updD e o.dst (.opt g out.val)) M)
        | none => False) else False))
    | none => False)
/-- the objects that a value names -/
def Cap.names : Cap → List Nat
  | .hp k _ => [k]
  | .hs k => [k]
  | _ => []
def capNames : List Cap → List Nat
  | [] => []
  | c :: l => appL c.names (capNames l)
def AV.names : AV → List Nat
  | AV.c x => x.names
  | .he k _ _ => [k]
  | .hv k _ _ _ => [k]
  | .fn _ l => capNames l
  | .ag l => capNames l
  | .tg l => capNames l
  | .opt _ a => a.names
  | _ => []
def namesL (T : Tab) (e : Env) : List Operand → List Nat
  | [] => []
  | x :: l => appL (ev T e x).names (namesL T e l)
def foot (T : Tab) (X : Sx) (o : Oper) (e : Env) : List Nat := bif X.alc o then X.nm o :: namesL T e o.op.operands.toList else namesL T e o.op.operands.toList
theorem cap_names_uses {c : Cap} {h : Nat} (k : c.uses h = true) : h ∈ c.names := by
  cases c with
  | hp j _ => have := Nat.eq_of_beq_eq_true k; subst this; simp [Cap.names]
  | hs j => have := Nat.eq_of_beq_eq_true k; subst this; simp [Cap.names]
  | _ => simp [Cap.uses] at k
theorem capNames_uses : ∀ {l : List Cap} {h : Nat}, l.any (·.uses h) = true → h ∈ capNames l
  | [], _, k => by simp at k
  | c :: l, h, k => by
    simp only [List.any_cons, Bool.or_eq_true] at k
    simp only [capNames, appL_eq, List.mem_append]
    rcases k with k | k
    · exact .inl (cap_names_uses k)
    · exact .inr (capNames_uses k)
theorem names_uses {a : AV} {h : Nat} (k : a.uses h = true) : h ∈ a.names := by
  induction a with
  | c x => exact cap_names_uses k
  | he j _ _ => have := Nat.eq_of_beq_eq_true k; subst this; simp [AV.names]
  | hv j _ _ _ => have := Nat.eq_of_beq_eq_true k; subst this; simp [AV.names]
  | fn f l => exact capNames_uses k
  | ag l => exact capNames_uses k
  | tg l => exact capNames_uses k
  | opt _ a ih => exact ih k
  | _ => simp [AV.uses] at k
theorem namesL_mem {T : Tab} {e : Env} {h : Nat} : ∀ {l : List Operand} {x : Operand}, x ∈ l → (ev T e x).uses h = true → h ∈ namesL T e l
  | [], _, hx, _ => by simp at hx
  | y :: l, x, hx, k => by
    simp only [namesL, appL_eq, List.mem_append]
    rcases List.mem_cons.1 hx with rfl | hx
    · exact .inl (names_uses k)
    · exact .inr (namesL_mem hx k)
theorem foot_ok {T : Tab} {X : Sx} {o : Oper} {e : Env} : Foot T X o e (foot T X o e) := by
  unfold foot
  refine ⟨fun x hx h k => ?_, fun ha => ?_⟩
  · have := namesL_mem hx k
    cases X.alc o with
    | true => simp [this]
    | false => exact this
  · rw [ha]; simp
/-- a list's spine is worked out first -/
def forceL : List Nat → (List Nat → Prop) → Prop
  | [], k => k []
  | a :: l, k => forceL l fun l' => k (a :: l')
theorem forceL_eq : ∀ (l : List Nat) (k : List Nat → Prop), forceL l k = k l
  | [], _ => rfl
  | a :: l, k => by simp only [forceL]; rw [forceL_eq l]
def vcOps (P : Program) (T : Tab) (X : Sx) (ops : List Oper) (dyn : Bool) : List Oper → (List (List Nat) → Env → Mm → Prop) → Env → Mm → Prop
  | [], K => K []
  | o :: l, K => fun e M => bif dyn then forceL (foot T X o e) fun f => vcOp P T X ops o (vcOps P T X ops dyn l fun fs => K (f :: fs)) e M
    else vcOp P T X ops o (vcOps P T X ops dyn l fun fs => K (foot T X o e :: fs)) e M
theorem vcOps_cons {P : Program} {T : Tab} {X : Sx} {ops : List Oper} {dyn : Bool} {o : Oper} {l : List Oper} {K : List (List Nat) → Env → Mm → Prop} {e : Env} {M : Mm} (h : vcOps P T X ops dyn (o :: l) K e M) : vcOp P T X ops o (vcOps P T X ops dyn l fun fs => K (foot T X o e :: fs)) e M := by
  cases dyn with
  | false => exact h
  | true =>
    have h' : forceL (foot T X o e) fun f => vcOp P T X ops o (vcOps P T X ops true l fun fs => K (f :: fs)) e M := h
    rw [forceL_eq] at h'
    exact h'
def nthL : List (List Nat) → Nat → List Nat
  | [], _ => []
  | a :: _, 0 => a
  | _ :: l, i + 1 => nthL l i
def disjB : List Nat → List Nat → Bool
  | [], _ => true
  | a :: l, s => !memB s a && disjB l s

theorem andP_iff {p : Option Prop} {q : Prop} : andP p q ↔ (∀ r, p = some r → r) ∧ q := by
  cases p with
  | none => simp [andP]
  | some p => exact ⟨fun h => ⟨fun r e => by cases e; exact h.1, h.2⟩, fun h => ⟨h.1 _ rfl, h.2⟩⟩
theorem andO_all {p q : Option Prop} (h : ∀ r, andO p q = some r → r) : (∀ r, p = some r → r) ∧ ∀ r, q = some r → r := by
  cases p with
  | none => exact ⟨by simp, h⟩
  | some p =>
    cases q with
    | none => exact ⟨fun r e => h r e, by simp⟩
    | some q => have := h _ rfl; exact ⟨fun r e => by cases e; exact this.1, fun r e => by cases e; exact this.2⟩
theorem vcOp_stp {P : Program} {T : Tab} {X : Sx} {ops : List Oper} {o : Oper} {K : Env → Mm → Prop} {e : Env} {M : Mm} (h : vcOp P T X ops o K e M) : ∃ val M', Stp P T X ops o e M val M' ∧ K (updD e o.dst val) M' := by
  unfold vcOp at h
  unfold Stp
  cases hg : o.guard with
  | none =>
    rw [hg] at h
    simp only at h ⊢
    cases hc : isCallB o.op with
    | true =>
      rw [hc] at h
      simp only [cond_true] at h ⊢
      split at h
      · rename_i q hq
        cases hal : X.alc o with
        | true =>
          rw [hal] at h
          simp only [cond_true] at h ⊢
          split at h
          · rename_i e0 hcl he
            obtain ⟨r, h1, h2⟩ := h
            split at h2
            · rename_i ob hob
              exact ⟨_, _, ⟨q, r, e0, ob, hq, hcl, he, hob, h1, rfl, rfl⟩, h2⟩
            · exact h2.elim
          · exact h.elim
        | false =>
          rw [hal] at h
          obtain ⟨r, h1, h2⟩ := h
          exact ⟨_, _, ⟨q, r, hq, h1, rfl, rfl⟩, h2⟩
      · exact h.elim
    | false =>
      rw [hc] at h
      simp only [cond_false] at h ⊢
      split at h
      · rename_i out ho
        obtain ⟨h1, h2⟩ := andP_iff.1 h
        exact ⟨_, _, ⟨out, ho, h1, rfl, rfl⟩, h2⟩
      · exact h.elim
  | some p =>
    obtain ⟨j, want⟩ := p
    rw [hg] at h
    simp only at h ⊢
    split at h
    · rename_i g hgv
      cases hc : isCallB o.op with
      | true =>
        rw [hc] at h
        simp only [cond_true] at h ⊢
        split at h
        · rename_i q hq
          obtain ⟨r, h1, h2⟩ := h
          exact ⟨_, _, ⟨g, hgv, q, r, hq, fun hw => andP_iff.1 (h1 hw), rfl, rfl⟩, h2⟩
        · exact h.elim
      | false =>
        rw [hc] at h
        simp only [cond_false] at h ⊢
        cases hb : Nat.ble (X.tch o) 1 with
        | false => rw [hb] at h; exact h.elim
        | true =>
          rw [hb] at h
          simp only [cond_true] at h
          split at h
          · rename_i out ho
            obtain ⟨h1, h2⟩ := andP_iff.1 h
            refine ⟨_, _, ⟨g, hgv, out, Nat.le_of_ble_eq_true hb, ho, fun hw => ?_, rfl, rfl⟩, h2⟩
            apply andO_all
            intro r hr
            rw [hr] at h1
            exact h1 _ rfl hw
          · exact h.elim
    · exact h.elim

section
variable {P : Program} {T : Tab} {X : Sx} {ops : List Oper} {o : Oper} {e : Env} {M M' : Mm} {val : AV}
theorem call_touch {own : List Nat} {op : Op} {d : Nat} (h : isCallB op = true) : touch own d op = (bif allocB own d op then 2 else 1) := by
  cases op <;> try (simp [isCallB] at h; done)
  rename_i c
  obtain ⟨callee, args, tys⟩ := c
  cases callee <;> first | rfl | (simp [isCallB] at h; done)
theorem Stp.rd (ht : X.tch o ≤ 1) (h : Stp P T X ops o e M val M') : M' = M := by
  unfold Stp at h
  split at h
  · cases hc : isCallB o.op with
    | true =>
      rw [hc] at h
      have hal : X.alc o = false := by
        cases hal : X.alc o with
        | false => rfl
        | true =>
          unfold Sx.tch at ht
          unfold Sx.alc at hal
          rw [call_touch hc, hal] at ht
          simp at ht
      rw [hal] at h
      obtain ⟨q, r, _, _, _, h⟩ := h; exact h
    | false => rw [hc] at h; obtain ⟨out, h1, _, _, h2⟩ := h; rw [h2]; exact opA_rd ht h1
  · obtain ⟨g, _, h⟩ := h
    cases hc : isCallB o.op with
    | true => rw [hc] at h; obtain ⟨q, r, _, _, _, h⟩ := h; exact h
    | false => rw [hc] at h; obtain ⟨out, _, _, _, _, h⟩ := h; exact h
theorem Stp.noM (ht : X.tch o = 0) (h : Stp P T X ops o e M val M') (M2 : Mm) : Stp P T X ops o e M2 val M2 := by
  have hc : isCallB o.op = false := by
    cases hc : isCallB o.op with
    | false => rfl
    | true =>
      unfold Sx.tch at ht
      rw [call_touch hc] at ht
      cases hq : allocB X.own (dstN o) o.op <;> rw [hq] at ht <;> simp at ht
  unfold Stp at *
  simp only [hc, cond_false] at h ⊢
  split at h
  · obtain ⟨out, h1, h2, h3, _⟩ := h
    exact ⟨_, opA_noM ht h1 M2, h2, h3, (by first | rfl | trivial)⟩
  · obtain ⟨g, hgv, out, h0, h1, h2, h3, _⟩ := h
    exact ⟨g, hgv, _, h0, opA_noM ht h1 M2, h2, h3, (by first | rfl | trivial)⟩
theorem Stp.nouse {h : Nat} (hu : (∀ t, (e t).uses h = false) ∧ ∀ k ob, M k = some ob → ob.uses h = false) (hd : h ≠ X.nm o ∨ X.alc o = false) (k : Stp P T X ops o e M val M') : val.uses h = false ∧ (∀ k ob, M' k = some ob → ob.uses h = false) ∧ (M h = none → M' h = none) := by
  have hev : ∀ x, (ev T e x).uses h = false := ev_uses hu.1
  have hst : ∀ x, (gev o.op (ev T e) x).uses h = false := fun x => gev_uses (hev x)
  unfold Stp at k
  split at k
  · cases hc : isCallB o.op with
    | true =>
      rw [hc] at k
      simp only [cond_true] at k
      cases hal : X.alc o with
      | true =>
        rw [hal] at k
        obtain ⟨q, r, e0, ob', _, _, _, hro, _, rfl, rfl⟩ := k
        have hne : h ≠ X.nm o := by rcases hd with hd | hd; exact hd; rw [hal] at hd; simp at hd
        have hb : Nat.beq (X.nm o) h = false := by
          cases hq : Nat.beq (X.nm o) h with
          | false => rfl
          | true => exact absurd (Nat.eq_of_beq_eq_true hq).symm hne
        refine ⟨by simp [AV.uses, Cap.uses, hb], fun k ob hk => ?_, fun hM => by rw [upd_other _ _ _ h hne]; exact hM⟩
        by_cases hkn : k = X.nm o
        · subst hkn
          rw [upd_self] at hk
          cases hk
          generalize q.ret = t at r hro
          cases t <;> try (simp [rowOb] at hro; done)
          simp only [rowOb, Option.some.injEq] at hro
          subst hro
          rfl
        · rw [upd_other _ _ _ k hkn] at hk
          exact hu.2 k ob hk
      | false =>
        rw [hal] at k
        obtain ⟨q, r, hq0, _, rfl, rfl⟩ := k; exact ⟨callA_val hq0 r h, hu.2, id⟩
    | false => rw [hc] at k; obtain ⟨out, h1, _, rfl, rfl⟩ := k; exact opA_uses ⟨hev, hu.2⟩ hd h1
  · obtain ⟨g, _, k⟩ := k
    cases hc : isCallB o.op with
    | true => rw [hc] at k; obtain ⟨q, r, hq0, _, rfl, rfl⟩ := k; exact ⟨callA_val hq0 r h, hu.2, id⟩
    | false =>
      rw [hc] at k
      obtain ⟨out, h0, h1, _, rfl, rfl⟩ := k
      have := opA_uses ⟨hst, hu.2⟩ hd h1
      exact ⟨this.1, hu.2, id⟩
/-- an operation leaves an object be that it may not write -/
theorem opA_lock {own : List Nat} {wr : Nat → Bool} {d nm : Nat} {ty : TypeId} {op : Op} {f : Operand → AV} {out : Out} {h : Nat} (hw : wr h = false) (hd : h ≠ nm ∨ allocB own d op = false) (e : opA T own wr d nm ty op f M = some out) : out.M h = M h := by
  by_cases ht : touch own d op ≤ 1
  · rw [opA_rd ht e]
  · have newb : allocB own d op = true → ∀ (ob : Option Ob) (M2 : Mm), upd M2 nm ob h = M2 h := by
      intro ha ob M2
      rcases hd with hd | hd
      · exact upd_other _ _ _ h hd
      · rw [ha] at hd; simp at hd
    have keep : ∀ (k : Nat) (ob : Option Ob), wr k = true → upd M k ob h = M h := by
      intro k ob hk
      exact upd_other _ _ _ h (fun e => by subst e; rw [hw] at hk; simp at hk)
    have kl : ∀ (k : Nat), wr k = true → killM M (some k) h = M h := by
      intro k hk
      simp only [killM]
      cases hq : Nat.beq h k with
      | false => rfl
      | true => have := Nat.eq_of_beq_eq_true hq; subst this; rw [hw] at hk; simp at hk
    cases op <;> try (simp [touch] at ht; done)
    case store t p x =>
      simp only [opA] at e
      split at e <;> try (simp at e; done)
      rename_i τ _
      split at e <;> simp only [Option.some.injEq, reduceCtorEq] at e
      rename_i hs
      subst e
      unfold storeA at hs
      split at hs
      · split at hs <;> try (simp at hs; done)
        obtain ⟨hk, hs⟩ := bif_some hs
        split at hs <;> try (simp at hs; done)
        split at hs <;> try (simp at hs; done)
        split at hs <;> simp only [Option.some.injEq, reduceCtorEq] at hs
        subst hs
        exact keep _ _ hk
      · obtain ⟨hk, hs⟩ := bif_some hs
        split at hs <;> try (simp at hs; done)
        cases ht : τ.cell with
        | true =>
          rw [ht] at hs
          simp only [cond_true] at hs
          obtain ⟨_, hs⟩ := bif_some hs
          simp only [Option.some.injEq] at hs
          subst hs
          exact keep _ _ hk
        | false =>
          rw [ht] at hs
          simp only [cond_false] at hs
          split at hs <;> try (simp at hs; done)
          split at hs <;> try (simp at hs; done)
          obtain ⟨_, hs⟩ := bif_some hs
          simp only [Option.some.injEq] at hs
          subst hs
          exact keep _ _ hk
      · simp at hs
    case mapUpdate =>
      simp only [opA] at e
      split at e <;> try (simp at e; done)
      obtain ⟨_, e⟩ := bif_some e
      split at e <;> simp only [Option.some.injEq, reduceCtorEq] at e
      rename_i hs
      subst e
      unfold putA at hs
      split at hs <;> try (simp at hs; done)
      obtain ⟨hk, hs⟩ := bif_some hs
      split at hs <;> try (simp at hs; done)
      split at hs <;> try (simp at hs; done)
      split at hs <;> try (simp at hs; done)
      split at hs <;> simp only [Option.some.injEq, reduceCtorEq] at hs
      subst hs
      exact keep _ _ hk
    case makeMap t r =>
      cases r with
      | some r => simp [opA] at e
      | none =>
        simp only [opA] at e
        split at e <;> simp only [Option.some.injEq, reduceCtorEq] at e
        subst e
        exact newb rfl _ _
    case makeSlice =>
      simp only [opA] at e
      split at e <;> try (simp at e; done)
      split at e <;> try (simp at e; done)
      obtain ⟨_, e⟩ := bif_some e
      simp only [Option.some.injEq] at e
      subst e
      exact newb rfl _ _
    case slice t x l hh m =>
      simp only [opA] at e
      split at e <;> try (simp at e; done)
      split at e <;> try (simp at e; done)
      cases hb : memB own d with
      | false => simp [touch, hb] at ht
      | true =>
        rw [hb] at e
        simp only [cond_true] at e
        split at e <;> try (simp at e; done)
        unfold cutA at e
        split at e <;> try (simp at e; done)
        obtain ⟨hk, e⟩ := bif_some e
        split at e <;> simp only [Option.some.injEq, reduceCtorEq] at e
        subst e
        exact (newb hb _ _).trans (kl _ hk)
    case buildSlice t n ps =>
      simp only [opA] at e
      split at e <;> try (simp at e; done)
      obtain ⟨_, e⟩ := bif_some e
      split at e <;> try (simp at e; done)
      cases hb : memB own d with
      | false => simp [touch, hb] at ht
      | true =>
        rw [hb] at e
        simp only [cond_true, Option.some.injEq] at e
        subst e
        exact newb hb _ _
    case box t x =>
      simp only [opA] at e
      split at e <;> try (simp at e; done)
      cases hb : memB own d with
      | false => simp [touch, hb] at ht
      | true =>
        rw [hb] at e
        simp only [cond_true] at e
        split at e
        · split at e <;> try (simp at e; done)
          obtain ⟨_, e⟩ := bif_some e
          simp only [Option.some.injEq] at e
          subst e
          exact newb hb _ _
        · obtain ⟨_, e⟩ := bif_some e
          simp only [Option.some.injEq] at e
          subst e
          exact newb hb _ _
    case alloc t =>
      simp only [opA] at e
      split at e <;> try (simp at e; done)
      cases hb : memB own d with
      | false => simp [touch, hb] at ht
      | true =>
        rw [hb] at e
        simp only [cond_true, Option.some.injEq] at e
        subst e
        exact newb hb _ _
    case call c =>
      obtain ⟨callee, args, tys⟩ := c
      cases callee with
      | value f => simp [opA] at e
      | invoke r n => simp [opA] at e
      | builtin b =>
        cases b <;> try (simp [opA] at e; done)
        case append =>
          simp only [opA] at e
          split at e <;> try (simp at e; done)
          obtain ⟨_, e⟩ := bif_some e
          split at e <;> try (simp at e; done)
          split at e <;> try (simp at e; done)
          rename_i hh xs ys _ hr _
          obtain ⟨_, e⟩ := bif_some e
          have hout : out.M h = killM M hh h := by
            cases hmo : memB own d with
            | true =>
              rw [hmo] at e
              simp only [cond_true, Option.some.injEq] at e
              subst e
              exact newb rfl _ _
            | false =>
              rw [hmo] at e
              simp only [cond_false, Option.some.injEq] at e
              subst e
              rfl
          refine hout.trans ?_
          unfold rowOf at hr
          split at hr
          · simp only [Option.some.injEq, Prod.mk.injEq] at hr
            rw [← hr.1]; rfl
          · obtain ⟨hk, hr⟩ := bif_some hr
            split at hr <;> try (simp at hr; done)
            obtain ⟨_, hr⟩ := bif_some hr
            split at hr <;> simp only [Option.some.injEq, Prod.mk.injEq, reduceCtorEq] at hr
            rw [← hr.1]; exact kl _ hk
          · simp at hr
        case copy =>
          simp only [opA] at e
          split at e <;> try (simp at e; done)
          obtain ⟨_, e⟩ := bif_some e
          split at e <;> try (simp at e; done)
          obtain ⟨_, e⟩ := bif_some e
          split at e <;> try (simp at e; done)
          split at e <;> simp only [Option.some.injEq, reduceCtorEq] at e
          rename_i hs
          subst e
          unfold copyA at hs
          split at hs
          · obtain ⟨hk, hs⟩ := bif_some hs
            split at hs <;> try (simp at hs; done)
            split at hs <;> simp only [Option.some.injEq, reduceCtorEq, Prod.mk.injEq] at hs
            obtain ⟨_, rfl⟩ := hs
            exact keep _ _ hk
          · obtain ⟨hk, hs⟩ := bif_some hs
            split at hs <;> try (simp at hs; done)
            split at hs <;> try (simp at hs; done)
            split at hs <;> simp only [Option.some.injEq, reduceCtorEq, Prod.mk.injEq] at hs
            obtain ⟨_, rfl⟩ := hs
            exact keep _ _ hk
          · simp at hs
        all_goals (simp [touch] at ht; done)
theorem Stp.lock {h : Nat} (hw : X.wr h = false) (hd : h ≠ X.nm o ∨ X.alc o = false) (k : Stp P T X ops o e M val M') : M' h = M h := by
  unfold Stp at k
  split at k
  · cases hc : isCallB o.op with
    | true =>
      rw [hc] at k
      simp only [cond_true] at k
      cases hal : X.alc o with
      | true =>
        rw [hal] at k
        obtain ⟨q, r, e0, ob', _, _, _, _, _, _, rfl⟩ := k
        have hne : h ≠ X.nm o := by rcases hd with hd | hd; exact hd; rw [hal] at hd; simp at hd
        exact upd_other _ _ _ h hne
      | false =>
        rw [hal] at k
        obtain ⟨q, r, _, _, _, rfl⟩ := k; rfl
    | false => rw [hc] at k; obtain ⟨out, h1, _, _, rfl⟩ := k; exact opA_lock hw hd h1
  · obtain ⟨g, _, k⟩ := k
    cases hc : isCallB o.op with
    | true => rw [hc] at k; obtain ⟨q, r, _, _, _, rfl⟩ := k; rfl
    | false => rw [hc] at k; obtain ⟨out, h0, h1, _, _, rfl⟩ := k; rfl
end

theorem memB_mem {l : List Nat} {d : Nat} : memB l d = true ↔ d ∈ l := by
  induction l with
  | nil => simp [memB]
  | cons a l ih =>
    simp only [memB, Bool.or_eq_true, ih, List.mem_cons]
    constructor
    · rintro (h | h)
      · exact .inl (Nat.eq_of_beq_eq_true h).symm
      · exact .inr h
    · rintro (h | h)
      · left; subst h; exact Nat.beq_refl _
      · exact .inr h
theorem updD_comm {e : Env} {x y : Option Nat} {v u : AV} (h : ∀ d, x = some d → y ≠ some d) : updD (updD e x v) y u = updD (updD e y u) x v := by
  funext t
  rw [updD_at, updD_at, updD_at, updD_at]
  by_cases h1 : x = some t
  · have := h t h1
    simp [h1, this]
  · simp [h1]

section
variable {P : Program} {T : Tab} {X : Sx} {ops : List Oper}
/-- the steps of these operations, one after the other -/
def Run (P : Program) (T : Tab) (X : Sx) (ops : List Oper) (Fp : Nat → List Nat) (K : Env → Mm → Prop) : List Nat → Env → Mm → Prop
  | [], e, M => K e M
  | i :: l, e, M => match ops[i]? with
    | none => Run P T X ops Fp K l e M
    | some o => ∃ val M', (Stp P T X ops o e M val M' ∧ Foot T X o e (Fp i)) ∧ Run P T X ops Fp K l (updD e o.dst val) M'
theorem Run.end_ {Fp : Nat → List Nat} {K : Env → Mm → Prop} : ∀ {l : List Nat} {e : Env} {M : Mm}, Run P T X ops Fp K l e M → ∃ e M, K e M
  | [], e, M, h => ⟨e, M, h⟩
  | i :: l, e, M, h => by
    unfold Run at h
    split at h
    · exact Run.end_ h
    · obtain ⟨_, _, _, h⟩ := h; exact Run.end_ h
theorem Run.mono {Fp : Nat → List Nat} {K K' : Env → Mm → Prop} (hk : ∀ e M, K e M → K' e M) : ∀ {l : List Nat} {e : Env} {M : Mm}, Run P T X ops Fp K l e M → Run P T X ops Fp K' l e M
  | [], e, M, h => hk _ _ h
  | i :: l, e, M, h => by
    unfold Run at h ⊢
    split at h
    · exact Run.mono hk h
    · obtain ⟨v, M', s, h⟩ := h; exact ⟨v, M', s, Run.mono hk h⟩
theorem vcOps_run {dyn : Bool} : ∀ (l : List Oper) {K : List (List Nat) → Env → Mm → Prop} (k : Nat) (e : Env) (M : Mm), ops.drop k = l → vcOps P T X ops dyn l K e M → ∃ fs, ∀ Fp : Nat → List Nat, (∀ j, Fp (k + j) = nthL fs j) → Run P T X ops Fp (K fs) ((List.range l.length).map (k + ·)) e M
  | [], K, _, _, _, _, h => ⟨[], fun _ _ => h⟩
  | o :: l, K, k, e, M, hd, h => by
    obtain ⟨val, M', s, h'⟩ := vcOp_stp (vcOps_cons h)
    have hk : ops[k]? = some o := by
      have : (ops.drop k)[0]? = some o := by rw [hd]; rfl
      rw [List.getElem?_drop] at this
      simpa using this
    obtain ⟨fs, ih⟩ := vcOps_run l (k + 1) _ _ (by rw [← List.drop_drop, hd]; rfl) h'
    refine ⟨foot T X o e :: fs, fun Fp hF => ?_⟩
    have ih := ih Fp fun j => by have := hF (j + 1); rw [show k + 1 + j = k + (j + 1) by omega, this]; rfl
    rw [List.length_cons, List.range_succ_eq_map, List.map_cons, List.map_map, Nat.add_zero]
    unfold Run
    rw [hk]
    have h0 := hF 0
    rw [Nat.add_zero] at h0
    refine ⟨val, M', ⟨s, by rw [h0]; exact foot_ok⟩, ?_⟩
    have e1 : ((fun x => k + x) ∘ Nat.succ) = fun x => k + 1 + x := by funext x; simp; omega
    rw [e1]
    exact ih
end
end Go.Proofs.Ytohglckebkgbpaa
