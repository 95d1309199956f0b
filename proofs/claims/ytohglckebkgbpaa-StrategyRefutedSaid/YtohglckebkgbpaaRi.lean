/-
  Regions on plain data: one step is so in the machine.
-/
import Derived.Test.YtohglckebkgbpaaRh
namespace Go.Proofs.Ytohglckebkgbpaa
open Go.RowKit

/-- the slots, the memory and the objects stand for this state -/
structure Rel (T : Tab) (nt : Nat) (w0 : World) (F0 : Mem) (ρ : Nat → Value) (F : Mem) (e : Env) (M : Mm) (a : Act) (w : World) : Prop where
  st : St w0 F0 ρ F M w
  env : ∀ t, RepA ρ F (e t) (a.tmps.getD t undef)
  size : a.tmps.size = nt
  defs : a.defers = []
  glob : GlobOk T F0

theorem constA_rep {ρ : Nat → Value} {F : Mem} (v : Value) : RepA ρ F (constA v) v := by
  unfold constA
  split
  · split
    · rename_i h; exact ⟨rfl, h⟩
    · trivial
  · rfl
  · rename_i s
    cases hb : Nat.ble s.data.toList.length 4294967296 with
    | false => trivial
    | true =>
      refine ⟨by cases s; simp, ?_⟩
      have := Nat.le_of_ble_eq_true hb
      simp only [maxLen]; omega
  · rfl
  · rfl
theorem Rel.ev {T : Tab} {nt : Nat} {w0 : World} {F0 : Mem} {ρ : Nat → Value} {F : Mem} {e : Env} {M : Mm} {a : Act} {w : World} (h : Rel T nt w0 F0 ρ F e M a w) (x : Operand) : RepA ρ F (ev T e x) (a.eval x) := by
  cases x with
  | tmp t => exact h.env t
  | const v => exact constA_rep v
  | func f => exact ⟨[], rfl, rfl, fun j c hc => by simp at hc⟩
  | global g =>
    simp only [Go.Proofs.Ytohglckebkgbpaa.ev]
    split
    · rename_i x hx
      exact (h.glob g x hx).mono h.st.sub0
    · trivial
theorem strip_rep {ρ : Nat → Value} {F : Mem} {a : AV} {v : Value} (h : RepA ρ F a v) (hg : ∀ p, optO a = some p → p) : RepA ρ F a.strip v := by
  cases a <;> try exact h
  rename_i g b
  exact h.1 (hg _ rfl)
theorem conds_all {f : Operand → AV} : ∀ {l : List Operand}, (∀ p, condsO f l = some p → p) → ∀ x ∈ l, ∀ p, optO (f x) = some p → p
  | [], _, x, hx, _, _ => by simp at hx
  | y :: l, h, x, hx, p, hp => by
    have h1 : (∀ p, optO (f y) = some p → p) ∧ ∀ p, condsO f l = some p → p := by
      simp only [condsO] at h
      cases h1 : optO (f y) with
      | none => rw [h1] at h; simp only [andO] at h; exact ⟨by simp, h⟩
      | some q1 =>
        cases h2 : condsO f l with
        | none => rw [h1, h2] at h; simp only [andO] at h; exact ⟨fun p e => h p e, by simp⟩
        | some q2 =>
          rw [h1, h2] at h
          simp only [andO] at h
          have := h _ rfl
          exact ⟨fun p e => by cases e; exact this.1, fun p e => by cases e; exact this.2⟩
    rcases List.mem_cons.1 hx with rfl | hx
    · exact h1.1 p hp
    · exact conds_all h1.2 x hx p hp

theorem guardC_some {a : AV} {want g : Bool} (h : guardC a want = some g) : (∃ c : Bool, a = .d .bool c ∧ g = bif want then c else !c) ∨ ∃ g0, ∃ c : Bool, a = .opt g0 (.d .bool c) ∧ g = (g0 && bif want then c else !c) := by
  cases a with
  | d t x =>
    cases t <;> try (simp [guardC] at h; done)
    exact .inl ⟨x, rfl, (Option.some.inj h).symm⟩
  | opt g0 b =>
    cases b <;> try (simp [guardC] at h; done)
    rename_i t x
    cases t <;> try (simp [guardC] at h; done)
    exact .inr ⟨g0, x, rfl, (Option.some.inj h).symm⟩
  | _ => simp [guardC] at h
theorem gev_rep {op : Op} {f : Operand → AV} {ρ : Nat → Value} {F : Mem} {ρ0 : Operand → Value} (h : ∀ x, RepA ρ F (f x) (ρ0 x)) (hc : ∀ p, condsO f (condL op) = some p → p) : ∀ x ∈ op.operands.toList, RepA ρ F (gev op f x) (ρ0 x) := by
  have all := conds_all hc
  cases op <;> try exact fun x hx => strip_rep (h x) (all x hx)
  rename_i c p q
  intro x _
  simp only [gev]
  cases hs : sameOp x c with
  | false => exact h x
  | true =>
    have := same_eq hs
    subst this
    exact strip_rep (h x) (all x (by simp [condL]))
theorem put_getD (a : Act) (dst : Option Tmp) (v : Value) (nt : Nat) (hs : a.tmps.size = nt) (hd : ∀ d, dst = some d → d < nt) (t : Nat) : (a.put dst v).tmps.getD t undef = if dst = some t then v else a.tmps.getD t undef := by
  cases dst with
  | none => simp [Act.put]
  | some d =>
    have := hd d rfl
    simp only [Act.put, Array.getD_eq_getD_getElem?, Option.some.injEq]
    rw [Array.getElem?_setIfInBounds]
    by_cases h : d = t
    · subst h; simp [hs, this]
    · simp [h]
theorem updD_at (e : Env) (dst : Option Nat) (v : AV) (t : Nat) : updD e dst v t = if dst = some t then v else e t := by
  cases dst with
  | none => simp [updD]
  | some d =>
    simp only [updD, upd, Option.some.injEq]
    by_cases h : d = t
    · subst h; simp [Nat.beq_refl]
    · have : Nat.beq t d = false := by cases hq : Nat.beq t d; rfl; exact absurd (Nat.eq_of_beq_eq_true hq).symm h
      simp [this, h]
/-- slots that no operation of the region writes stay as they are -/
def Same (ds : List Nat) (a a' : Act) : Prop := ∀ t, t ∉ ds → a'.tmps.getD t undef = a.tmps.getD t undef
/-- what a piece of text leaves: the frame -/
structure Fr (ds hs : List Nat) (ρ : Nat → Value) (F : Mem) (a : Act) (ρ' : Nat → Value) (F' : Mem) (a' : Act) : Prop where
  same : Same ds a a'
  sub : Sub F F'
  names : ∀ h, h ∉ hs → ρ' h = ρ h
theorem Fr.refl (ds hs : List Nat) (ρ : Nat → Value) (F : Mem) (a : Act) : Fr ds hs ρ F a ρ F a := ⟨fun _ _ => rfl, Sub.refl _, fun _ _ => rfl⟩
theorem Fr.trans {ds hs : List Nat} {ρ ρ' ρ'' : Nat → Value} {F F' F'' : Mem} {a a' a'' : Act} (h : Fr ds hs ρ F a ρ' F' a') (k : Fr ds hs ρ' F' a' ρ'' F'' a'') : Fr ds hs ρ F a ρ'' F'' a'' :=
  ⟨fun t ht => (k.same t ht).trans (h.same t ht), h.sub.trans k.sub, fun n hn => (k.names n hn).trans (h.names n hn)⟩
theorem Fr.mono {ds hs ds' hs' : List Nat} {ρ ρ' : Nat → Value} {F F' : Mem} {a a' : Act} (h : Fr ds hs ρ F a ρ' F' a') (h1 : ∀ t ∈ ds, t ∈ ds') (h2 : ∀ t ∈ hs, t ∈ hs') : Fr ds' hs' ρ F a ρ' F' a' :=
  ⟨fun t ht => h.same t fun k => ht (h1 t k), h.sub, fun n hn => h.names n fun k => hn (h2 n k)⟩
def oDs (o : Oper) : List Nat := match o.dst with | some d => [d] | none => []
def oHs (own : List Nat) (o : Oper) : List Nat := bif allocB own (dstN o) o.op then [dstN o] else []
theorem put_same (a : Act) (o : Oper) (v : Value) : Same (oDs o) a (a.put o.dst v) := by
  intro t ht
  cases hd : o.dst with
  | none => rfl
  | some d =>
    have : d ≠ t := fun e => ht (by simp [oDs, hd, e])
    simp [Act.put, Array.getD_eq_getD_getElem?, Array.getElem?_setIfInBounds_ne this]
section
variable {P : Program} {T : Tab} {own : List Nat} {nt : Nat} {w0 : World} {F0 : Mem} {ρ : Nat → Value} {F : Mem} {e : Env} {M : Mm} {a : Act} {w : World} {ops : Array Oper} {o : Oper} {i : Nat}
/-- a step's value in its slot -/
theorem Rel.put {ρ' : Nat → Value} {F' : Mem} {M' : Mm} {w' : World} {dst : Option Tmp} {v : Value} {val : AV} (h : Rel T nt w0 F0 ρ F e M a w) (hd : ∀ d, dst = some d → d < nt) (hs : St w0 F0 ρ' F' M' w') (hF : Sub F F') (hv : RepA ρ' F' val v)
    (hρ : ∀ t, RepA ρ F (e t) (a.tmps.getD t undef) → RepA ρ' F (e t) (a.tmps.getD t undef)) : Rel T nt w0 F0 ρ' F' (updD e dst val) M' (a.put dst v) w' where
  st := hs
  env t := by
    rw [put_getD a dst v nt h.size hd, updD_at]
    split
    · exact hv
    · exact (hρ t (h.env t)).mono hF
  size := by cases dst <;> simp [Act.put, h.size]
  defs := by cases dst <;> simp [Act.put, h.defs]
  glob := h.glob
theorem op_run (hT : tabB P T = true) (h : Rel T nt w0 F0 ρ F e M a w) (hd : ∀ d, o.dst = some d → d < nt) {evf : Operand → AV} (hev : ∀ x, RepA ρ F (evf x) (a.eval x)) (hfr : allocB own (dstN o) o.op = true → Fresh M evf (dstN o) ∧ ∀ t, (e t).uses (dstN o) = false) {out : Out} (hop : opA T own (dstN o) o.type o.op evf M = some out) (hob : ∀ p, out.ob = some p → p)
    {Q : Exit → Act → World → Prop} {K : Act → World → Prop} (val : AV) (hval : ∀ ρ' F' v, RepA ρ' F' out.val v → RepA ρ' F' val v) (hK : ∀ ρ' F' a' w', Rel T nt w0 F0 ρ' F' (updD e o.dst val) out.M a' w' → Fr (oDs o) (oHs own o) ρ F a ρ' F' a' → K a' w') : o.wp P a w K Q := by
  obtain ⟨n, w', v, ρ', F', hr, hn, h1, h2, h3, h4⟩ := op_sound hT h.st hev (fun ha => (hfr ha).1) hop hob
  have hρ : ∀ t, RepA ρ F (e t) (a.tmps.getD t undef) → RepA ρ' F (e t) (a.tmps.getD t undef) := by
    intro t r
    cases ha : allocB own (dstN o) o.op with
    | false =>
      have : ρ' = ρ := funext fun k => h3 k (by rw [ha]; simp)
      rw [this]; exact r
    | true => exact r.other (fun k hk => h3 k (by rw [ha]; simpa using hk)) ((hfr ha).2 t)
  have hrel := h.put (dst := o.dst) (val := val) hd h2 h4 (hval _ _ _ h1) hρ
  have hfrm : Fr (oDs o) (oHs own o) ρ F a ρ' F' (a.put o.dst v) := ⟨put_same a o v, h4, fun k hk => h3 k fun e => hk (by
    unfold oHs
    revert e
    cases allocB own (dstN o) o.op <;> simp)⟩
  unfold Oper.wp
  rw [hr]
  rcases hn with rfl | ⟨rfl, rfl⟩
  · rw [Oper.upon_value]; exact hK _ _ _ _ hrel hfrm
  · rw [Oper.upon_skip]; exact hK _ _ _ _ hrel hfrm

theorem as_nouse {t : Ty} {a : AV} {x : t.T} {v : Value} (h : a.as t = some x) (r : RepA ρ F a v) : RepA ρn F (.d t x) v := as_rep h r
/-- an owned row, read by a callee that hands on no address -/
theorem row_read {h E : Nat} {t : Ty} {xs : List t.T} (st : St w0 F0 ρ F M w) (hM : M h = some (.row E t xs)) : RepV w.cell? (.sl t) (ρ h) xs := by
  obtain ⟨us, h1, h2⟩ := st.obs h _ hM
  rcases h1.2 with ⟨e1, e2⟩ | ⟨g, cap, cur, e1, _, hg, hc1, hc2, _⟩
  · rw [e1]
    have hx : xs = [] := List.eq_nil_of_length_eq_zero e2
    subst hx
    exact ⟨none, 0, rfl, Nat.zero_le _, by simp [maxLen], fun i hi => absurd hi (Nat.not_lt_zero _)⟩
  · rw [e1] at h1 ⊢
    refine ⟨_, cap, rfl, hc1, hc2, fun i hi => ⟨g, 0, _, rfl, fun j u hj => ?_, (h2.2 i hi).mono st.sub⟩⟩
    obtain ⟨k1, k2⟩ := seg_get hj
    rw [Nat.zero_add, h1.cellAt (i * t.sz + j) (by rw [← h2.1]; exact (List.getElem?_eq_some_iff.1 k1).1)]
    exact k1
theorem arg_rep {ret : Ty} {p : Option Ty} {x y : AV} {v : Value} (st : St w0 F0 ρ F M w) (h : argA M ret p x = some y) (r : RepA ρ F x v) : RepA ρn w.cell? y v ∧ (ret.plain = false ∨ ret.isT = true → RepA ρn F y v) := by
  unfold argA at h
  split at h
  · rename_i τ hh
    obtain ⟨c, h⟩ := bif_some h
    split at h <;> simp only [Option.some.injEq, reduceCtorEq] at h
    rename_i x hx
    subst h
    simp only [asM] at hx
    split at hx <;> try (simp at hx; done)
    rename_i E te xs hM
    obtain ⟨e, rfl⟩ := castT_some hx
    subst e
    rw [Bool.and_eq_true] at c
    refine ⟨by rw [show v = ρ hh from r]; exact row_read st hM, fun hp => ?_⟩
    rcases hp with hp | hp
    · rw [c.1] at hp; simp at hp
    · rw [hp] at c; simp at c
  · split at h <;> simp only [Option.some.injEq, reduceCtorEq] at h
    rename_i z hz
    subst h
    have := as_nouse hz r
    exact ⟨this.mono st.sub, fun _ => this⟩
  · simp only [Option.some.injEq] at h
    subst h
    have : RepA ρn F (.fn _ _) v := r
    exact ⟨this.mono st.sub, fun _ => this⟩
  · simp only [Option.some.injEq] at h
    subst h
    have : RepA ρn F (.kp _ _) v := r
    exact ⟨this.mono st.sub, fun _ => this⟩
  · simp at h
theorem args_rep {ret : Ty} (st : St w0 F0 ρ F M w) : ∀ {ps : List (Option Ty)} {l ys : List AV} {vs : List Value}, argsA M ret ps l = some ys → vs.length = l.length → (∀ j x, l[j]? = some x → RepA ρ F x (vs.getD j undef)) →
    RepL w.cell? ys vs ∧ (ret.plain = false ∨ ret.isT = true → RepL F ys vs)
  | [], [], ys, vs, h, hl, _ => by
    simp only [argsA, Option.some.injEq] at h
    subst h
    exact ⟨⟨by simpa using hl, by simp⟩, fun _ => ⟨by simpa using hl, by simp⟩⟩
  | p :: ps, x :: l, ys, vs, h, hl, hr => by
    simp only [argsA] at h
    split at h <;> try (simp at h; done)
    rename_i y hy
    split at h <;> simp only [Option.some.injEq, reduceCtorEq] at h
    rename_i zs hzs
    subst h
    cases vs with
    | nil => simp at hl
    | cons v vs =>
      obtain ⟨a1, a2⟩ := arg_rep st hy (hr 0 x rfl)
      obtain ⟨b1, b2⟩ := args_rep st hzs (by simpa using hl) (vs := vs) (fun j z hz => by simpa using hr (j + 1) z (by simpa using hz))
      refine ⟨⟨by simp [b1.1], fun j z hz => ?_⟩, fun hp => ⟨by simp [b1.1], fun j z hz => ?_⟩⟩
      · cases j with
        | zero => simp at hz; subst hz; exact a1
        | succ j => simpa using b1.2 j z (by simpa using hz)
      · cases j with
        | zero => simp at hz; subst hz; exact a2 hp
        | succ j => simpa using (b2 hp).2 j z (by simpa using hz)
  | [], _ :: _, _, _, h, _, _ => by simp [argsA] at h
  | _ :: _, [], _, _, h, _, _ => by simp [argsA] at h
/-- behind a call that only makes memory -/
theorem St.called {w' : World} {F' : Mem} (st : St w0 F0 ρ F M w) (hb : Below w.heap.size w w') (h1 : Sub F F') (h2 : Sub F' w'.cell?) (h3 : ∀ a u, F' a = some u → F a = none → w.heap.size ≤ a.block) : St w0 F0 ρ F' M w' := by
  have s1 : St w0 F0 ρ F M w' := st.grow (row := none) ⟨hb.os, hb.tape, hb.output, hb.size, fun k hk _ => hb.block k hk⟩ (by simp) fun h o ho => ⟨ho, .inl rfl⟩
  refine ⟨s1.below, h2, s1.sub0.trans h1, ?_, fun h o ho => (s1.obs h o ho).kept h1 (row := none) ⟨rfl, rfl, rfl, Nat.le_refl _, fun _ _ _ => rfl⟩ (by cases blk (ρ h) <;> simp), ?_, s1.inj⟩
  · intro x u hx h0
    cases hf : F x with
    | none => have := h3 x u hx hf; have := st.below.size; omega
    | some u' => exact s1.new x u' hf h0
  · intro h o b ho hb' x u hx
    cases hf : F x with
    | none => have := h3 x u hx hf; have := ((st.obs h o ho).lt b hb').2; omega
    | some u' => exact s1.apart h o b ho hb' x u' hf
theorem call_run (h : Rel T nt w0 F0 ρ F e M a w) (hd : ∀ d, o.dst = some d → d < nt) {evf : Operand → AV} (hev : ∀ x, RepA ρ F (evf x) (a.eval x)) {q : CallA} {r : q.ret.T} (hq : callA T evf M o.op = some q) (hc : CallP P T q.f q.args q.ret r)
    {Q : Exit → Act → World → Prop} {K : Act → World → Prop} (val : AV) (hval : ∀ F' v, RepV F' q.ret v r → RepA ρ F' val v) (hK : ∀ F' a' w', Rel T nt w0 F0 ρ F' (updD e o.dst val) M a' w' → Fr (oDs o) (oHs own o) ρ F a ρ F' a' → K a' w') : o.wp P a w K Q := by
  cases hop : o.op <;> rw [hop] at hq <;> try (simp [callA] at hq; done)
  rename_i c
  obtain ⟨callee, args, tys⟩ := c
  cases callee with
  | builtin b => simp [callA] at hq
  | invoke r n => simp [callA] at hq
  | value f =>
    simp only [callA] at hq
    split at hq <;> try (simp at hq; done)
    rename_i g caps hf
    split at hq <;> try (simp at hq; done)
    rename_i fi hfi
    rw [appL_eq] at hq
    split at hq <;> simp only [Option.some.injEq, reduceCtorEq] at hq
    rename_i zs hzs
    subst hq
    have hfv := hev f
    rw [hf] at hfv
    obtain ⟨cv, e1, e2, e3⟩ := hfv
    have hargs := args_rep h.st (vs := args.toList.map a.eval ++ cv) hzs (by simp [e2]) (fun j x hx => by
      rw [List.getElem?_append] at hx
      split at hx
      · rename_i hlt
        rw [List.getElem?_map] at hx
        cases hj : args.toList[j]? with
        | none => rw [hj] at hx; simp at hx
        | some y =>
          rw [hj] at hx
          simp only [Option.map_some, Option.some.injEq] at hx
          subst hx
          have hy := hev y
          simp at hlt
          rw [List.getD_eq_getElem?_getD, List.getElem?_append, if_pos (by simpa using hlt), List.getElem?_map, hj]
          simpa using hy
      · rename_i hlt
        rw [List.getElem?_map] at hx
        cases hj : caps[j - (List.map evf args.toList).length]? with
        | none => rw [hj] at hx; simp at hx
        | some y =>
          rw [hj] at hx
          simp only [Option.map_some, Option.some.injEq] at hx
          subst hx
          have hy := e3 _ y hj
          simp at hlt
          rw [List.getD_eq_getElem?_getD, List.getElem?_append, if_neg (by simpa using hlt)]
          simp only [List.length_map] at hy ⊢
          rw [List.getD_eq_getElem?_getD] at hy
          cases y <;> exact hy)
    have henter : (execOp a.eval o).run P w = .ok (.enter g (args.toList.map a.eval ++ cv).toArray) w := by
      have := hc.enters.out ((args.toList.map a.eval ++ cv).toArray) w
      have e4 : #[] ++ args.map a.eval ++ cv.toArray = (args.toList.map a.eval ++ cv).toArray := by
        apply Array.ext'
        simp
      simp only [execOp, hop, resolve, e1, Deferred.ofValue, Sem.run_bind, Sem.run_pure, Result.andThen_ok, invoke]
      rw [e4]
      exact this
    unfold Oper.wp
    rw [henter, Oper.upon_enter]
    cases hp : (fi.ret.plain && !fi.ret.isT) with
    | true =>
      rw [Bool.and_eq_true] at hp
      refine (hc.out w.cell? w _ (h.glob.mono (h.st.sub0.trans h.st.sub)) (Sub.refl _) hargs.1).mono ?_
      rintro en w' ⟨v, F', rfl, hb, k1, k2, k3, k4⟩
      have hs := h.st.called hb (Sub.refl _) (h.st.sub.trans (bsub hb)) (fun x u hx hn => by rw [hx] at hn; simp at hn)
      exact hK _ _ _ (h.put (dst := o.dst) (val := val) hd hs (Sub.refl _) (hval _ _ (k4.plain (by simpa using hp.2) hp.1)) fun _ r => r) ⟨put_same a o _, Sub.refl _, fun _ _ => rfl⟩
    | false =>
      rw [Bool.and_eq_false_iff] at hp
      have hp' : fi.ret.plain = false ∨ fi.ret.isT = true := by rcases hp with hp | hp; exact .inl hp; exact .inr (by simpa using hp)
      refine (hc.out F w _ (h.glob.mono h.st.sub0) h.st.sub (hargs.2 hp')).mono ?_
      rintro en w' ⟨v, F', rfl, hb, k1, k2, k3, k4⟩
      exact hK _ _ _ (h.put (dst := o.dst) (val := val) hd (h.st.called hb k1 k2 k3) k1 (hval _ _ k4) fun _ r => r) ⟨put_same a o _, k1, fun _ _ => rfl⟩
/-- one operation of a region -/
theorem stp_run (hT : tabB P T = true) (h : Rel T nt w0 F0 ρ F e M a w) (hi : ops[i]? = some o) (hd : ∀ d, o.dst = some d → d < nt) (hfr : allocB own (dstN o) o.op = true → Fresh M (ev T e) (dstN o) ∧ ∀ t, (e t).uses (dstN o) = false) {val : AV} {M' : Mm} (hs : Stp P T own ops.toList o e M val M')
    {Q : Exit → Act → World → Prop} {K : Act → World → Prop} (hK : ∀ ρ' F' a' w', Rel T nt w0 F0 ρ' F' (updD e o.dst val) M' a' w' → Fr (oDs o) (oHs own o) ρ F a ρ' F' a' → K a' w') : wpOp P ops Q i K a w := by
  classical
  unfold wpOp
  rw [hi]
  unfold Stp at hs
  cases hg : o.guard with
  | none =>
    rw [hg] at hs
    simp only at hs ⊢
    have hw : Region.wanted o (yielded ops a.tmps) = true := by simp [Region.wanted, hg]
    rw [if_pos hw]
    left
    cases hc : isCallB o.op with
    | true =>
      rw [hc] at hs
      obtain ⟨q, r, h1, h2, rfl, rfl⟩ := hs
      exact call_run h hd h.ev h1 h2 (.d q.ret r) (fun F' v hv => hv) fun F' a' w' hr hfrm => hK _ _ _ _ hr hfrm
    | false =>
      rw [hc] at hs
      obtain ⟨out, h1, h2, rfl, rfl⟩ := hs
      exact op_run hT h hd h.ev hfr h1 h2 _ (fun _ _ _ hv => hv) hK
  | some p =>
    obtain ⟨j, want⟩ := p
    rw [hg] at hs
    simp only at hs ⊢
    obtain ⟨g, hgv, hs⟩ := hs
    have hwant : Region.wanted o (yielded ops a.tmps) = g := by
      have fin : ∀ q, yielded ops a.tmps j = q → (q == some want) = g → Region.wanted o (yielded ops a.tmps) = g := by
        intro q h1 h2
        simp only [Region.wanted, hg, h1]
        exact h2
      cases hj : (ops[j]?).bind (·.dst) with
      | none =>
        have hj' : (ops.toList[j]?).bind (·.dst) = none := by simpa using hj
        rw [hj'] at hgv; simp [guardC] at hgv
      | some s =>
        have hj' : (ops.toList[j]?).bind (·.dst) = some s := by simpa using hj
        rw [hj'] at hgv
        have hv := h.env s
        simp only at hgv
        have two : ∀ c : Bool, RepA ρ F (.d .bool c) (a.tmps.getD s undef) → yielded ops a.tmps j = some c := by
          intro c hc
          have hv' := rep_bool hc
          simp only [Array.getD_eq_getD_getElem?] at hv'
          unfold yielded
          cases ht : a.tmps[s]? with
          | none => rw [ht] at hv'; simp [undef] at hv'
          | some u => rw [ht] at hv'; simp at hv'; subst hv'; simp [hj, ht]
        rcases guardC_some hgv with ⟨c, he, rfl⟩ | ⟨g0, c, he, rfl⟩
        · rw [he] at hv
          refine fin _ (two c hv) ?_
          cases c <;> cases want <;> rfl
        · rw [he] at hv
          cases g0 with
          | true =>
            refine fin _ (two c (hv.1 rfl)) ?_
            cases c <;> cases want <;> rfl
          | false =>
            have hv' := hv.2 rfl
            refine fin none ?_ rfl
            simp only [Array.getD_eq_getD_getElem?] at hv'
            unfold yielded
            cases ht : a.tmps[s]? with
            | none => simp [hj, ht]
            | some u => rw [ht] at hv'; simp at hv'; subst hv'; simp [hj, ht, undef]
    rw [hwant]
    by_cases hgw : g = true
    · subst hgw
      simp only [if_true]
      left
      have hopt : ∀ (x : AV) (ρ' : Nat → Value) (F' : Mem) (v : Value), RepA ρ' F' x v → RepA ρ' F' (.opt true x) v := fun x ρ' F' v hv => ⟨fun _ => hv, fun e => by simp at e⟩
      have hev := fun hc => gev_rep (op := o.op) h.ev hc
      have hloc : ∀ x ∈ o.op.operands.toList, (fun y => if y ∈ o.op.operands.toList then gev o.op (ev T e) y else AV.any) x = gev o.op (ev T e) x := fun x hx => by simp only [hx, if_true]
      have hev2 : (∀ p, condsO (ev T e) (condL o.op) = some p → p) → ∀ x, RepA ρ F ((fun y => if y ∈ o.op.operands.toList then gev o.op (ev T e) y else AV.any) x) (a.eval x) := fun hc x => by
        by_cases hx : x ∈ o.op.operands.toList
        · simp only [hx, if_true]; exact hev hc x hx
        · simp only [hx, if_false]; trivial
      cases hc : isCallB o.op with
      | true =>
        rw [hc] at hs
        obtain ⟨q, r, h1, h2, rfl, rfl⟩ := hs
        obtain ⟨h3, h4⟩ := h2 rfl
        rw [← callA_local hloc] at h1
        exact call_run h hd (hev2 h3) h1 h4 _ (fun F' v hv => hopt (.d q.ret r) _ _ _ hv) fun F' a' w' hr hfrm => hK _ _ _ _ hr hfrm
      | false =>
        rw [hc] at hs
        obtain ⟨out, h0, h1, h2, rfl, rfl⟩ := hs
        obtain ⟨h3, h4⟩ := h2 rfl
        have hM : out.M = M' := opA_rd h0 h1
        rw [← opA_local hloc] at h1
        refine op_run hT h hd (hev2 h3) (fun ha => ?_) h1 h4 _ (fun _ _ _ hv => hopt _ _ _ _ hv) (by rw [hM]; exact hK)
        obtain ⟨⟨f1, f2, f3⟩, f4⟩ := hfr ha
        refine ⟨⟨f1, f2, fun x => ?_⟩, f4⟩
        simp only
        split
        · exact gev_uses (f3 x)
        · rfl
    · have hne : g = false := by cases g <;> first | rfl | exact absurd rfl hgw
      subst hne
      simp only [Bool.false_eq_true, if_false]
      have hval : ∃ x, val = .opt false x ∧ M' = M := by
        cases hc : isCallB o.op with
        | true => rw [hc] at hs; obtain ⟨q, r, _, _, rfl, rfl⟩ := hs; exact ⟨_, rfl, rfl⟩
        | false => rw [hc] at hs; obtain ⟨out, _, _, _, rfl, rfl⟩ := hs; exact ⟨_, rfl, rfl⟩
      obtain ⟨x, rfl, rfl⟩ := hval
      refine hK ρ F _ _ (h.put hd h.st (Sub.refl _) ?_ fun _ r => r) ⟨put_same a o _, Sub.refl _, fun _ _ => rfl⟩
      exact ⟨fun hh => by simp at hh, fun _ => rfl⟩
end
end Go.Proofs.Ytohglckebkgbpaa
