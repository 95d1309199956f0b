/-
  Regions on plain data: one step is so in the machine.
-/
import Derived.Test.YtohglckebkgbpaaUn
namespace Go.Proofs.Ytohglckebkgbpaa
open Go.RowKit

/-- a fence that lets all in; in a round of a loop over a function, or outside one -/
abbrev Fw (ro : Option Nat) : Fence := { Fence.wide with round := ro }
theorem Fw.room (ro : Option Nat) (n : Nat) : (Fw ro).room n := fun _ h => by simp [Fence.wide] at h
/-- the mark for the deferred calls of a loop's rounds -/
def mark (ρ : Nat → Value) (k : Nat) : Deferred := { target := .collected (match ρ k with | .chan (some D) => D | _ => 0), args := #[] }
/-- the slots, the memory and the objects stand for this state -/
structure Rel (T : Tab) (nt : Nat) (B : Bx) (df : List Nat) (ρ : Nat → Value) (F : Mem) (e : Env) (M : Mm) (a : Act) (w : World) : Prop where
  st : St B ρ F M w
  env : ∀ t, RepA ρ F (e t) (a.tmps.getD t undef)
  size : a.tmps.size = nt
  defs : a.defers = df.map (mark ρ)
  glob : GlobOk T B.F0
/-- the name h is free -/
structure NoN (B : Bx) (df : List Nat) (e : Env) (M : Mm) (h : Nat) : Prop where
  nam : NoName B M h
  env : ∀ t, (e t).uses h = false
  df : h ∉ df

theorem constA_rep {ρ : Nat → Value} {F : Mem} (v : Value) : RepA ρ F (constA v) v := by
  unfold constA
  split
  · split
    · rename_i h; exact ⟨rfl, h⟩
    · trivial
  · rfl
  · rename_i s
    cases hb : Nat.ble s.data.toList.length 4294967296 with
    | false => trivial
    | true =>
      refine ⟨by cases s; simp, ?_⟩
      have := Nat.le_of_ble_eq_true hb
      simp only [maxLen]; omega
  · rfl
  · rfl
theorem Rel.ev {T : Tab} {nt : Nat} {B : Bx} {df : List Nat} {ρ : Nat → Value} {F : Mem} {e : Env} {M : Mm} {a : Act} {w : World} (h : Rel T nt B df ρ F e M a w) (x : Operand) : RepA ρ F (ev T e x) (a.eval x) := by
  cases x with
  | tmp t => exact h.env t
  | const v => exact constA_rep v
  | func f => exact ⟨[], rfl, RepCs'.nil⟩
  | global g =>
    simp only [Go.Proofs.Ytohglckebkgbpaa.ev]
    split
    · rename_i x hx
      exact (h.glob g x hx).mono h.st.sub0
    · trivial
theorem strip_rep {ρ : Nat → Value} {F : Mem} {a : AV} {v : Value} (h : RepA ρ F a v) (hg : ∀ p, optO a = some p → p) : RepA ρ F a.strip v := by
  cases a <;> try exact h
  rename_i g b
  exact h.1 (hg _ rfl)
theorem conds_all {f : Operand → AV} : ∀ {l : List Operand}, (∀ p, condsO f l = some p → p) → ∀ x ∈ l, ∀ p, optO (f x) = some p → p
  | [], _, x, hx, _, _ => by simp at hx
  | y :: l, h, x, hx, p, hp => by
    have h1 : (∀ p, optO (f y) = some p → p) ∧ ∀ p, condsO f l = some p → p := by
      simp only [condsO] at h
      cases h1 : optO (f y) with
      | none => rw [h1] at h; simp only [andO] at h; exact ⟨by simp, h⟩
      | some q1 =>
        cases h2 : condsO f l with
        | none => rw [h1, h2] at h; simp only [andO] at h; exact ⟨fun p e => h p e, by simp⟩
        | some q2 =>
          rw [h1, h2] at h
          simp only [andO] at h
          have := h _ rfl
          exact ⟨fun p e => by cases e; exact this.1, fun p e => by cases e; exact this.2⟩
    rcases List.mem_cons.1 hx with rfl | hx
    · exact h1.1 p hp
    · exact conds_all h1.2 x hx p hp

theorem guardC_some {a : AV} {want g : Bool} (h : guardC a want = some g) : (∃ c : Bool, a = .d .bool c ∧ g = bif want then c else !c) ∨ ∃ g0, ∃ c : Bool, a = .opt g0 (.d .bool c) ∧ g = (g0 && bif want then c else !c) := by
  unfold guardC at h
  split at h <;> simp only [Option.some.injEq, reduceCtorEq] at h
  · exact .inl ⟨_, rfl, h.symm⟩
  · exact .inr ⟨_, _, rfl, h.symm⟩
theorem gev_rep {op : Op} {f : Operand → AV} {ρ : Nat → Value} {F : Mem} {ρ0 : Operand → Value} (h : ∀ x, RepA ρ F (f x) (ρ0 x)) (hc : ∀ p, condsO f (condL op) = some p → p) : ∀ x ∈ op.operands.toList, RepA ρ F (gev op f x) (ρ0 x) := by
  have all := conds_all hc
  cases op <;> try exact fun x hx => strip_rep (h x) (all x hx)
  rename_i c p q
  intro x _
  simp only [gev]
  cases hs : sameOp x c with
  | false => exact h x
  | true =>
    have := same_eq hs
    subst this
    exact strip_rep (h x) (all x (by simp [condL]))
theorem put_getD (a : Act) (dst : Option Tmp) (v : Value) (nt : Nat) (hs : a.tmps.size = nt) (hd : ∀ d, dst = some d → d < nt) (t : Nat) : (a.put dst v).tmps.getD t undef = if dst = some t then v else a.tmps.getD t undef := by
  cases dst with
  | none => simp [Act.put]
  | some d =>
    have := hd d rfl
    simp only [Act.put, Array.getD_eq_getD_getElem?, Option.some.injEq]
    rw [Array.getElem?_setIfInBounds]
    by_cases h : d = t
    · subst h; simp [hs, this]
    · simp [h]
theorem updD_at (e : Env) (dst : Option Nat) (v : AV) (t : Nat) : updD e dst v t = if dst = some t then v else e t := by
  cases dst with
  | none => simp [updD]
  | some d =>
    simp only [updD, upd, Option.some.injEq]
    by_cases h : d = t
    · subst h; simp [Nat.beq_refl]
    · have : Nat.beq t d = false := by cases hq : Nat.beq t d; rfl; exact absurd (Nat.eq_of_beq_eq_true hq).symm h
      simp [this, h]
/-- slots that no operation of the region writes stay as they are -/
def Same (ds : List Nat) (a a' : Act) : Prop := ∀ t, t ∉ ds → a'.tmps.getD t undef = a.tmps.getD t undef
/-- what a piece of text leaves: the frame -/
structure Fr (ds : List Nat) (hs : Nat → Prop) (ρ : Nat → Value) (F : Mem) (a : Act) (ρ' : Nat → Value) (F' : Mem) (a' : Act) : Prop where
  same : Same ds a a'
  sub : Sub F F'
  names : ∀ h, ¬ hs h → ρ' h = ρ h
theorem Fr.refl (ds : List Nat) (hs : Nat → Prop) (ρ : Nat → Value) (F : Mem) (a : Act) : Fr ds hs ρ F a ρ F a := ⟨fun _ _ => rfl, Sub.refl _, fun _ _ => rfl⟩
theorem Fr.trans {ds : List Nat} {hs : Nat → Prop} {ρ ρ' ρ'' : Nat → Value} {F F' F'' : Mem} {a a' a'' : Act} (h : Fr ds hs ρ F a ρ' F' a') (k : Fr ds hs ρ' F' a' ρ'' F'' a'') : Fr ds hs ρ F a ρ'' F'' a'' :=
  ⟨fun t ht => (k.same t ht).trans (h.same t ht), h.sub.trans k.sub, fun n hn => (k.names n hn).trans (h.names n hn)⟩
theorem Fr.mono {ds ds' : List Nat} {hs hs' : Nat → Prop} {ρ ρ' : Nat → Value} {F F' : Mem} {a a' : Act} (h : Fr ds hs ρ F a ρ' F' a') (h1 : ∀ t ∈ ds, t ∈ ds') (h2 : ∀ t, hs t → hs' t) : Fr ds' hs' ρ F a ρ' F' a' :=
  ⟨fun t ht => h.same t fun k => ht (h1 t k), h.sub, fun n hn => h.names n fun k => hn (h2 n k)⟩
def oDs (o : Oper) : List Nat := match o.dst with | some d => [d] | none => []
def oHs (X : Sx) (o : Oper) (h : Nat) : Prop := X.alc o = true ∧ h = X.nm o
theorem put_same (a : Act) (o : Oper) (v : Value) : Same (oDs o) a (a.put o.dst v) := by
  intro t ht
  cases hd : o.dst with
  | none => rfl
  | some d =>
    have : d ≠ t := fun e => ht (by simp [oDs, hd, e])
    simp [Act.put, Array.getD_eq_getD_getElem?, Array.getElem?_setIfInBounds_ne this]
section
variable {P : Program} {T : Tab} {X : Sx} {nt : Nat} {B : Bx} {df : List Nat} {ro : Option Nat} {ρ : Nat → Value} {F : Mem} {e : Env} {M : Mm} {a : Act} {w : World} {ops : Array Oper} {o : Oper} {i : Nat}
theorem mark_agree {ρ ρ' : Nat → Value} {df : List Nat} (h : ∀ k ∈ df, ρ' k = ρ k) : df.map (mark ρ') = df.map (mark ρ) := List.map_congr_left fun k hk => by simp only [mark, h k hk]
/-- a step's value in its slot -/
theorem Rel.put {ρ' : Nat → Value} {F' : Mem} {M' : Mm} {w' : World} {dst : Option Tmp} {v : Value} {val : AV} (h : Rel T nt B df ρ F e M a w) (hd : ∀ d, dst = some d → d < nt) (hs : St B ρ' F' M' w') (hF : Sub F F') (hv : RepA ρ' F' val v)
    (hρ : ∀ t, RepA ρ F (e t) (a.tmps.getD t undef) → RepA ρ' F (e t) (a.tmps.getD t undef)) (hdf : ∀ k ∈ df, ρ' k = ρ k) : Rel T nt B df ρ' F' (updD e dst val) M' (a.put dst v) w' where
  st := hs
  env t := by
    rw [put_getD a dst v nt h.size hd, updD_at]
    split
    · exact hv
    · exact (hρ t (h.env t)).mono hF
  size := by cases dst <;> simp [Act.put, h.size]
  defs := by rw [mark_agree hdf]; cases dst <;> simp [Act.put, h.defs]
  glob := h.glob
theorem sem_plain (o : Oper) (ρ0 : Operand → Value) (h : ∀ c, o.op ≠ .defer c) : o.semAt ro ρ0 = execOp ρ0 o := Oper.semAt_eq ro ρ0 o h
theorem opX_defer {out : Out} {f : Operand → AV} (h : opX T X o f M = some out) : ∀ c, o.op ≠ .defer c := by
  intro c hc
  unfold opX at h
  rw [hc] at h
  simp [opA] at h
theorem op_run (hT : tabB P T = true) (h : Rel T nt B df ρ F e M a w) (hd : ∀ d, o.dst = some d → d < nt) {evf : Operand → AV} (hev : ∀ x, RepA ρ F (evf x) (a.eval x)) (hfr : X.alc o = true → (∀ x, (evf x).uses (X.nm o) = false) ∧ NoN B df e M (X.nm o)) {out : Out} (hop : opX T X o evf M = some out) (hob : ∀ p, out.ob = some p → p)
    {Q : Exit → Act → World → Prop} {K : Act → World → Prop} (val : AV) (hval : ∀ ρ' F' v, RepA ρ' F' out.val v → RepA ρ' F' val v) (hK : ∀ ρ' F' a' w', Rel T nt B df ρ' F' (updD e o.dst val) out.M a' w' → Fr (oDs o) (oHs X o) ρ F a ρ' F' a' → K a' w') : o.wpIn (Fw ro) 0 P a w K Q := by
  obtain ⟨n, w', v, ρ', F', hr, hn, h1, h2, h3, h4⟩ := op_sound (nm := X.nm o) hT h.st hev (fun ha => ⟨(hfr ha).2.nam, (hfr ha).1⟩) hop hob
  have hal : ∀ k, (¬ oHs X o k) → ρ' k = ρ k := fun k hk => h3 k fun e => hk (by
    cases ha : allocB X.own (dstN o) o.op with
    | false => rw [ha] at e; simp at e
    | true => rw [ha] at e; simp at e; exact ⟨ha, e⟩)
  have hρ : ∀ t, RepA ρ F (e t) (a.tmps.getD t undef) → RepA ρ' F (e t) (a.tmps.getD t undef) := by
    intro t r
    refine r.agree fun k hk => hal k fun q => ?_
    obtain ⟨q1, rfl⟩ := q
    rw [(hfr q1).2.env t] at hk
    simp at hk
  have hdf : ∀ k ∈ df, ρ' k = ρ k := fun k hk => hal k fun q => by
    obtain ⟨q1, rfl⟩ := q
    exact (hfr q1).2.df hk
  have hrel := h.put (dst := o.dst) (val := val) hd h2 h4 (hval _ _ _ h1) hρ hdf
  have hfrm : Fr (oDs o) (oHs X o) ρ F a ρ' F' (a.put o.dst v) := ⟨put_same a o v, h4, hal⟩
  unfold Oper.wpIn
  rw [sem_plain o a.eval (opX_defer hop), hr]
  refine ⟨fun _ _ => trivial, ?_⟩
  rcases hn with rfl | ⟨rfl, rfl⟩
  · rw [Oper.uponIn_value]; exact hK _ _ _ _ hrel hfrm
  · rw [Oper.uponIn_skip]; exact hK _ _ _ _ hrel hfrm

theorem as_nouse {t : Ty} {a : AV} {x : t.T} {v : Value} (h : a.as t = some x) (r : RepA ρ F a v) : RepA ρn F (.d t x) v := as_rep h r
/-- an owned row, read by a callee that hands on no address -/
theorem row_read {h E : Nat} {t : Ty} {xs : List t.T} (st : St B ρ F M w) (hM : M h = some (.row E t xs)) : RepV w.cell? (.sl t) (ρ h) xs := by
  obtain ⟨us, h1, h2⟩ := st.obs h _ hM
  rcases h1.2 with ⟨e1, e2⟩ | ⟨g, cap, cur, e1, _, hg, hc1, hc2, _⟩
  · rw [e1]
    have hx : xs = [] := List.eq_nil_of_length_eq_zero e2
    subst hx
    exact ⟨none, 0, rfl, Nat.zero_le _, by simp [maxLen], fun i hi => absurd hi (Nat.not_lt_zero _)⟩
  · rw [e1] at h1 ⊢
    refine ⟨_, cap, rfl, hc1, hc2, fun i hi => ⟨g, 0, _, rfl, fun j u hj => ?_, (h2.2 i hi).mono st.sub⟩⟩
    obtain ⟨k1, k2⟩ := seg_get hj
    rw [Nat.zero_add, h1.cellAt (i * t.sz + j) (by rw [← h2.1]; exact (List.getElem?_eq_some_iff.1 k1).1)]
    exact k1
theorem view_read {h E l r : Nat} {t : Ty} {xs : List t.T} {v : Value} (st : St B ρ F M w) (hM : M h = some (.row E t xs)) (hv : RepA ρ F (.hv h t l r) v) : RepV w.cell? (.sl t) v ((xs.take r).drop l) := by
  obtain ⟨ad, n, cap, e1, k1, k2, k3, k4, rfl⟩ := hv
  have h0 := row_read st hM
  have hn : n = xs.length := by
    obtain ⟨_, _, q, _⟩ := h0
    rw [e1] at q
    simp only [List.cons.injEq, Value.slice.injEq, and_true] at q
    exact q.2.1
  subst hn
  have h1 : RepC w.cell? (.sl t) [.slice ad xs.length cap] xs := by rw [← e1]; exact h0
  exact sub_rep h1 k1 k2 (Nat.le_trans k2 k3) (Nat.le_refl _)
theorem plain_uses : ∀ {l : List Cap}, plainB l = true → ∀ c ∈ l, ∀ k, c.uses k = false
  | [], _, c, hc, _ => by simp at hc
  | x :: l, h, c, hc, k => by
    have h1 : (∀ j, x.uses j = false) ∧ plainB l = true := by
      cases x <;> simp [plainB] at h <;> exact ⟨fun _ => rfl, h⟩
    rcases List.mem_cons.1 hc with rfl | hc
    · exact h1.1 k
    · exact plain_uses h1.2 c hc k
theorem arg_rep {ret : Ty} {p : Option Ty} {x y : AV} {v : Value} (st : St B ρ F M w) (h : argA M ret p x = some y) (r : RepA ρ F x v) : RepA ρn w.cell? y v ∧ (ret.plain = false ∨ ret.isT = true → RepA ρn F y v) := by
  unfold argA at h
  split at h
  · rename_i τ hh
    obtain ⟨c, h⟩ := bif_some h
    split at h <;> simp only [Option.some.injEq, reduceCtorEq] at h
    rename_i x hx
    subst h
    simp only [asM] at hx
    split at hx <;> try (simp at hx; done)
    rename_i E te xs hM
    obtain ⟨e, rfl⟩ := castT_some hx
    subst e
    rw [Bool.and_eq_true] at c
    refine ⟨by rw [show v = ρ hh from r]; exact row_read st hM, fun hp => ?_⟩
    rcases hp with hp | hp
    · rw [c.1] at hp; simp at hp
    · rw [hp] at c; simp at c
  · rename_i τ hh te l q
    obtain ⟨c, h⟩ := bif_some h
    split at h <;> simp only [Option.some.injEq, reduceCtorEq] at h
    rename_i x hx
    subst h
    simp only [asM] at hx
    split at hx <;> try (simp at hx; done)
    rename_i E te' xs hM
    split at hx <;> try (simp at hx; done)
    rename_i e0
    subst e0
    obtain ⟨e, rfl⟩ := castT_some hx
    subst e
    rw [Bool.and_eq_true] at c
    refine ⟨view_read st hM r, fun hp => ?_⟩
    rcases hp with hp | hp
    · rw [c.1] at hp; simp at hp
    · rw [hp] at c; simp at c
  · split at h <;> simp only [Option.some.injEq, reduceCtorEq] at h
    rename_i z hz
    subst h
    have := as_nouse hz r
    exact ⟨this.mono st.sub, fun _ => this⟩
  · rename_i f cs
    obtain ⟨hp, h⟩ := bif_some h
    simp only [Option.some.injEq] at h
    subst h
    have : RepA ρn F (.fn f cs) v := r.agree fun k hk => by
      simp only [AV.uses, List.any_eq_true] at hk
      obtain ⟨c, hc, hk⟩ := hk
      rw [plain_uses hp c hc k] at hk
      simp at hk
    exact ⟨this.mono st.sub, fun _ => this⟩
  · simp only [Option.some.injEq] at h
    subst h
    have : RepA ρn F (.kp _ _) v := r
    exact ⟨this.mono st.sub, fun _ => this⟩
  · simp at h
theorem args_rep {ret : Ty} (st : St B ρ F M w) : ∀ {ps : List (Option Ty)} {l ys : List AV} {vs : List Value}, argsA M ret ps l = some ys → vs.length = l.length → (∀ j x, l[j]? = some x → RepA ρ F x (vs.getD j undef)) →
    RepL w.cell? ys vs ∧ (ret.plain = false ∨ ret.isT = true → RepL F ys vs)
  | [], [], ys, vs, h, hl, _ => by
    simp only [argsA, Option.some.injEq] at h
    subst h
    exact ⟨⟨by simpa using hl, by simp⟩, fun _ => ⟨by simpa using hl, by simp⟩⟩
  | p :: ps, x :: l, ys, vs, h, hl, hr => by
    simp only [argsA] at h
    split at h <;> try (simp at h; done)
    rename_i y hy
    split at h <;> simp only [Option.some.injEq, reduceCtorEq] at h
    rename_i zs hzs
    subst h
    cases vs with
    | nil => simp at hl
    | cons v vs =>
      obtain ⟨a1, a2⟩ := arg_rep st hy (hr 0 x rfl)
      obtain ⟨b1, b2⟩ := args_rep st hzs (by simpa using hl) (vs := vs) (fun j z hz => by simpa using hr (j + 1) z (by simpa using hz))
      refine ⟨⟨by simp [b1.1], fun j z hz => ?_⟩, fun hp => ⟨by simp [b1.1], fun j z hz => ?_⟩⟩
      · cases j with
        | zero => simp at hz; subst hz; exact a1
        | succ j => simpa using b1.2 j z (by simpa using hz)
      · cases j with
        | zero => simp at hz; subst hz; exact a2 hp
        | succ j => simpa using (b2 hp).2 j z (by simpa using hz)
  | [], _ :: _, _, _, h, _, _ => by simp [argsA] at h
  | _ :: _, [], _, _, h, _, _ => by simp [argsA] at h
/-- behind a call that only makes memory -/
theorem St.called {w' : World} {F' : Mem} (st : St B ρ F M w) (hb : Below w.heap.size w w') (h1 : Sub F F') (h2 : Sub F' w'.cell?) (h3 : ∀ a u, F' a = some u → F a = none → w.heap.size ≤ a.block) : St B ρ F' M w' := by
  have s1 : St B ρ F M w' := st.grow (row := none) ⟨hb.os, hb.tape, hb.output, hb.size, fun k hk _ => hb.block k hk⟩ (by simp) fun h o ho => ⟨ho, .inl rfl⟩
  refine ⟨s1.os, s1.tape, s1.output, s1.size, s1.zlt, s1.old, h2, s1.sub0.trans h1, ?_, fun h o ho => (s1.obs h o ho).kept h1 (grown_self _) (by cases blk (ρ h) <;> simp), s1.mine, ?_, s1.inj⟩
  · intro x u hx h0
    cases hf : F x with
    | none => have := h3 x u hx hf; exact fun hz => by have := st.zlt _ hz; have := st.size; omega
    | some u' => exact s1.new x u' hf h0
  · intro h o b ho hb' x u hx
    cases hf : F x with
    | none => have := h3 x u hx hf; have := (st.obs h o ho).lt b hb'; omega
    | some u' => exact s1.apart h o b ho hb' x u' hf
theorem calls_in {f : FuncId} {args : Array Value} {R : Ending → World → Prop} (h : Calls P f args w R) : CallsIn (Fw ro) 0 P f args w R := (callsIn_wide (n := 0)).2 h
theorem call_args {evf : Operand → AV} (hev : ∀ x, RepA ρ F (evf x) (a.eval x)) {args : Array Operand} {caps : List Cap} {cv : List Value} (hc : RepCs' ρ F caps cv) :
    (args.toList.map a.eval ++ cv).length = (appL (args.toList.map evf) (avs caps)).length ∧ ∀ j x, (appL (args.toList.map evf) (avs caps))[j]? = some x → RepA ρ F x ((args.toList.map a.eval ++ cv).getD j undef) := by
  rw [appL_eq]
  refine ⟨by simp [hc.1, avs_len], fun j x hx => ?_⟩
  rw [List.getElem?_append] at hx
  split at hx
  · rename_i hlt
    rw [List.getElem?_map] at hx
    cases hj : args.toList[j]? with
    | none => rw [hj] at hx; simp at hx
    | some y =>
      rw [hj] at hx
      simp only [Option.map_some, Option.some.injEq] at hx
      subst hx
      have hy := hev y
      simp at hlt
      rw [List.getD_eq_getElem?_getD, List.getElem?_append, if_pos (by simpa using hlt), List.getElem?_map, hj]
      simpa using hy
  · rename_i hlt
    rw [avs_get] at hx
    cases hj : caps[j - (List.map evf args.toList).length]? with
    | none => rw [hj] at hx; simp at hx
    | some y =>
      rw [hj] at hx
      simp only [Option.map_some, Option.some.injEq] at hx
      subst hx
      have hy := hc.2 _ y hj
      simp at hlt
      rw [List.getD_eq_getElem?_getD, List.getElem?_append, if_neg (by simpa using hlt)]
      simp only [List.length_map] at hy ⊢
      rw [List.getD_eq_getElem?_getD] at hy
      exact hy
theorem run_enter {c : Call} {f : Operand} {g : FuncId} {cv : List Value} (hop : o.op = .call c) (hcal : c.callee = .value f) (e1 : a.eval f = .func (.func g) #[] cv.toArray) (hen : Enters P g) :
    (execOp a.eval o).run P w = .ok (.enter g (c.args.toList.map a.eval ++ cv).toArray) w := by
  have := hen.out ((c.args.toList.map a.eval ++ cv).toArray) w
  have e4 : #[] ++ c.args.map a.eval ++ cv.toArray = (c.args.toList.map a.eval ++ cv).toArray := by
    apply Array.ext'
    simp
  simp only [execOp, hop, resolve, hcal, e1, Deferred.ofValue, Sem.run_bind, Sem.run_pure, Result.andThen_ok, invoke]
  rw [e4]
  exact this
theorem call_run (h : Rel T nt B df ρ F e M a w) (hd : ∀ d, o.dst = some d → d < nt) {evf : Operand → AV} (hev : ∀ x, RepA ρ F (evf x) (a.eval x)) {q : CallA} {r : q.ret.T} (hq : callA T evf M o.op = some q) (hc : CallQ P T q r)
    {Q : Exit → Act → World → Prop} {K : Act → World → Prop} (val : AV) (hval : ∀ F' v, RepA ρ F' (q.val r) v → RepA ρ F' val v) (hK : ∀ F' a' w', Rel T nt B df ρ F' (updD e o.dst val) M a' w' → Fr (oDs o) (oHs X o) ρ F a ρ F' a' → K a' w') : o.wpIn (Fw ro) 0 P a w K Q := by
  have hdf : ∀ c, o.op ≠ .defer c := fun c hc' => by rw [hc'] at hq; simp [callA] at hq
  unfold Oper.wpIn
  rw [sem_plain o a.eval hdf]
  refine ⟨fun _ _ => trivial, ?_⟩
  cases hop : o.op <;> rw [hop] at hq <;> try (simp [callA] at hq; done)
  rename_i c
  obtain ⟨callee, args, tys⟩ := c
  cases callee with
  | builtin b => simp [callA] at hq
  | invoke r n => simp [callA] at hq
  | value f =>
    simp only [callA] at hq
    split at hq <;> try (simp at hq; done)
    rename_i g caps hf
    have hfv := hev f
    rw [hf] at hfv
    obtain ⟨cv, e1, e2⟩ := hfv
    obtain ⟨l1, l2⟩ := call_args (a := a) (args := args) hev e2
    split at hq
    · rename_i fi hfi
      split at hq <;> simp only [Option.some.injEq, reduceCtorEq] at hq
      rename_i zs hzs
      subst hq
      have hc : CallP P T g zs fi.ret r := hc
      have hargs := args_rep h.st (vs := args.toList.map a.eval ++ cv) hzs l1 l2
      rw [run_enter hop rfl e1 hc.enters, Oper.uponIn_enter]
      refine ⟨fun hh => by simp [Fence.wide] at hh, ?_⟩
      cases hp : (fi.ret.plain && !fi.ret.isT) with
      | true =>
        rw [Bool.and_eq_true] at hp
        refine calls_in ((hc.out w.cell? w _ (h.glob.mono (h.st.sub0.trans h.st.sub)) (Sub.refl _) hargs.1).mono ?_)
        rintro en w' ⟨v, F', rfl, hb, k1, k2, k3, k4⟩
        have hs := h.st.called hb (Sub.refl _) (h.st.sub.trans (bsub hb)) (fun x u hx hn => by rw [hx] at hn; simp at hn)
        exact hK _ _ _ (h.put (dst := o.dst) (val := val) hd hs (Sub.refl _) (hval _ _ (k4.plain (by simpa using hp.2) hp.1)) (fun _ r => r) fun _ _ => rfl) ⟨put_same a o _, Sub.refl _, fun _ _ => rfl⟩
      | false =>
        rw [Bool.and_eq_false_iff] at hp
        have hp' : fi.ret.plain = false ∨ fi.ret.isT = true := by rcases hp with hp | hp; exact .inl hp; exact .inr (by simpa using hp)
        refine calls_in ((hc.out F w _ (h.glob.mono h.st.sub0) h.st.sub (hargs.2 hp')).mono ?_)
        rintro en w' ⟨v, F', rfl, hb, k1, k2, k3, k4⟩
        exact hK _ _ _ (h.put (dst := o.dst) (val := val) hd (h.st.called hb k1 k2 k3) k1 (hval _ _ k4) (fun _ r => r) fun _ _ => rfl) ⟨put_same a o _, k1, fun _ _ => rfl⟩
    · split at hq <;> try (simp at hq; done)
      rename_i k hk
      split at hq <;> try (simp at hq; done)
      rename_i zs hzs
      split at hq <;> simp only [Option.some.injEq, reduceCtorEq] at hq
      rename_i cs hcs
      subst hq
      have hc : CallK P T g zs k.g cs := hc
      have hargs := args_rep h.st (vs := args.toList.map a.eval ++ cv) hzs l1 l2
      rw [run_enter hop rfl e1 hc.enters, Oper.uponIn_enter]
      refine ⟨fun hh => by simp [Fence.wide] at hh, ?_⟩
      refine calls_in ((hc.out F w _ (h.glob.mono h.st.sub0) h.st.sub (hargs.2 (.inr rfl))).mono ?_)
      rintro en w' ⟨v, F', rfl, hb, k1, k2, k3, k4⟩
      have k5 : RepA ρ F' (.fn k.g cs) v := k4.agree fun n hn => by
        simp only [AV.uses, List.any_eq_true] at hn
        obtain ⟨c, hc, hn⟩ := hn
        rw [boxesA_uses hcs c hc] at hn
        simp at hn
      exact hK _ _ _ (h.put (dst := o.dst) (val := val) hd (h.st.called hb k1 k2 k3) k1 (hval _ _ k5) (fun _ r => r) fun _ _ => rfl) ⟨put_same a o _, k1, fun _ _ => rfl⟩
/-- a call whose result the caller owns -/
theorem callR_run (h : Rel T nt B df ρ F e M a w) (hd : ∀ d, o.dst = some d → d < nt) {evf : Operand → AV} (hev : ∀ x, RepA ρ F (evf x) (a.eval x)) (hfr : NoN B df e M (X.nm o)) (hal : X.alc o = true) {q : CallA} {r : q.ret.T} {e0 : Nat} {ob : Ob} (hq : callA T evf M o.op = some q) (hcl : q.clo = none) (hro : rowOb e0 q.ret r = some ob) (hc : CallR P T q.f q.args e0 q.ret r)
    {Q : Exit → Act → World → Prop} {K : Act → World → Prop} (hK : ∀ ρ' F' a' w', Rel T nt B df ρ' F' (updD e o.dst (.hs (X.nm o))) (upd M (X.nm o) (some ob)) a' w' → Fr (oDs o) (oHs X o) ρ F a ρ' F' a' → K a' w') : o.wpIn (Fw ro) 0 P a w K Q := by
  have hdf : ∀ c, o.op ≠ .defer c := fun c hc' => by rw [hc'] at hq; simp [callA] at hq
  unfold Oper.wpIn
  rw [sem_plain o a.eval hdf]
  refine ⟨fun _ _ => trivial, ?_⟩
  cases hop : o.op <;> rw [hop] at hq <;> try (simp [callA] at hq; done)
  rename_i c
  obtain ⟨callee, args, tys⟩ := c
  cases callee with
  | builtin b => simp [callA] at hq
  | invoke r n => simp [callA] at hq
  | value f =>
    simp only [callA] at hq
    split at hq <;> try (simp at hq; done)
    rename_i g caps hf
    have hfv := hev f
    rw [hf] at hfv
    obtain ⟨cv, e1, e2⟩ := hfv
    obtain ⟨l1, l2⟩ := call_args (a := a) (args := args) hev e2
    split at hq
    · rename_i fi hfi
      split at hq <;> simp only [Option.some.injEq, reduceCtorEq] at hq
      rename_i zs hzs
      subst hq
      have hc : CallR P T g zs e0 fi.ret r := hc
      have hro : rowOb e0 fi.ret r = some ob := hro
      have hargs := args_rep h.st (vs := args.toList.map a.eval ++ cv) hzs l1 l2
      rw [run_enter hop rfl e1 hc.enters, Oper.uponIn_enter]
      refine ⟨fun hh => by simp [Fence.wide] at hh, ?_⟩
      have hp' : fi.ret.plain = false ∨ fi.ret.isT = true := by
        generalize fi.ret = t at r hro
        cases t <;> first | (simp [rowOb] at hro; done) | exact .inl rfl
      refine calls_in ((hc.out F w _ (h.glob.mono h.st.sub0) h.st.sub (hargs.2 hp')).mono ?_)
      rintro en w' ⟨v, F', rfl, hb, k1, k2, k3, k4⟩
      have s1 := h.st.called hb k1 k2 k3
      have hown : ObR B (upd ρ (X.nm o) v) F' w' (X.nm o) v ob ∧ ∀ b, blk v = some b → w.heap.size ≤ b ∧ ∀ a u, F' a = some u → a.block ≠ b := by
        clear hc hargs
        generalize fi.ret = t at r hro k4
        cases t <;> try (simp [rowOb] at hro; done)
        simp only [rowOb, Option.some.injEq] at hro
        subst hro
        obtain ⟨⟨us, g1, g2⟩, g3⟩ := k4
        refine ⟨⟨us, ⟨g1.1, ?_⟩, g2⟩, fun b hbv => ⟨?_, fun a u hu hab => g3 a u hu (by rw [hbv, hab])⟩⟩
        · rcases g1.2 with g | ⟨b, cap, cur, x1, _, x2⟩
          · exact .inl g
          · exact .inr ⟨b, cap, cur, x1, Nat.zero_le _, x2⟩
        · rcases g1.2 with ⟨g, _⟩ | ⟨b', cap, cur, x1, x2, _⟩
          · rw [g] at hbv; simp [blk] at hbv
          · rw [x1] at hbv
            simp only [blk, Option.some.injEq] at hbv
            omega
      have s2 := s1.add (X.nm o) v ob hfr.nam hown.1 fun b hbv => ⟨fun hz => by have := (hown.2 b hbv).1; have := h.st.zlt _ hz; have := h.st.size; omega, (hown.2 b hbv).2, fun k o' hk hb' => by
        have := (h.st.obs k o' hk).lt _ hb'
        have := (hown.2 b hbv).1
        omega⟩
      have hρ : ∀ t, RepA ρ F (e t) (a.tmps.getD t undef) → RepA (upd ρ (X.nm o) v) F (e t) (a.tmps.getD t undef) := by
        intro t rr
        refine rr.agree fun k hk => upd_other _ _ _ k fun hh => ?_
        subst hh
        rw [hfr.env t] at hk
        simp at hk
      have hdfk : ∀ k ∈ df, upd ρ (X.nm o) v k = ρ k := fun k hk => upd_other _ _ _ k fun hh => by
        subst hh
        exact hfr.df hk
      exact hK _ _ _ _ (h.put (dst := o.dst) (val := .hs (X.nm o)) hd s2 k1 (upd_self _ _ _).symm hρ hdfk) ⟨put_same a o _, k1, fun k hk => upd_other _ _ _ k fun hh => hk ⟨hal, hh⟩⟩
    · split at hq <;> try (simp at hq; done)
      split at hq <;> try (simp at hq; done)
      split at hq <;> simp only [Option.some.injEq, reduceCtorEq] at hq
      subst hq
      simp at hcl
theorem ev_uses {T : Tab} {e : Env} {k : Nat} (h : ∀ t, (e t).uses k = false) (x : Operand) : (ev T e x).uses k = false := by
  cases x with
  | tmp t => exact h t
  | const v =>
    simp only [ev]
    unfold constA
    split
    · split <;> rfl
    · rfl
    · rename_i s
      cases Nat.ble s.data.toList.length 4294967296 <;> rfl
    · rfl
    · rfl
  | func f => rfl
  | global g =>
    simp only [ev]
    split <;> rfl
/-- one operation of a region -/
theorem stp_run (hT : tabB P T = true) (h : Rel T nt B df ρ F e M a w) (hi : ops[i]? = some o) (hd : ∀ d, o.dst = some d → d < nt) (hfr : X.alc o = true → NoN B df e M (X.nm o)) {val : AV} {M' : Mm} (hs : Stp P T X ops.toList o e M val M')
    {Q : Exit → Act → World → Prop} {K : Act → World → Prop} (hK : ∀ ρ' F' a' w', Rel T nt B df ρ' F' (updD e o.dst val) M' a' w' → Fr (oDs o) (oHs X o) ρ F a ρ' F' a' → K a' w') : wpOpIn (Fw ro) 0 P ops Q i K a w := by
  classical
  unfold wpOpIn
  rw [hi]
  unfold Stp at hs
  cases hg : o.guard with
  | none =>
    rw [hg] at hs
    simp only at hs ⊢
    have hw : Region.wanted o (yielded ops a.tmps) = true := by simp [Region.wanted, hg]
    rw [if_pos hw]
    cases hc : isCallB o.op with
    | true =>
      rw [hc] at hs
      simp only [cond_true] at hs
      cases hal : X.alc o with
      | true =>
        rw [hal] at hs
        obtain ⟨q, r, e0, ob, h1, h2, _, h3, h4, rfl, rfl⟩ := hs
        exact callR_run h hd h.ev (hfr hal) hal h1 h2 h3 h4 hK
      | false =>
        rw [hal] at hs
        obtain ⟨q, r, h1, h2, rfl, rfl⟩ := hs
        exact call_run h hd h.ev h1 h2 (q.val r) (fun F' v hv => hv) fun F' a' w' hr hfrm => hK _ _ _ _ hr hfrm
    | false =>
      rw [hc] at hs
      obtain ⟨out, h1, h2, rfl, rfl⟩ := hs
      exact op_run hT h hd h.ev (fun ha => ⟨fun x => ev_uses (hfr ha).env x, hfr ha⟩) h1 h2 _ (fun _ _ _ hv => hv) hK
  | some p =>
    obtain ⟨j, want⟩ := p
    rw [hg] at hs
    simp only at hs ⊢
    obtain ⟨g, hgv, hs⟩ := hs
    have hwant : Region.wanted o (yielded ops a.tmps) = g := by
      have fin : ∀ q, yielded ops a.tmps j = q → (q == some want) = g → Region.wanted o (yielded ops a.tmps) = g := by
        intro q h1 h2
        simp only [Region.wanted, hg, h1]
        exact h2
      cases hj : (ops[j]?).bind (·.dst) with
      | none =>
        have hj' : (ops.toList[j]?).bind (·.dst) = none := by simpa using hj
        rw [hj'] at hgv; simp [guardC] at hgv
      | some s =>
        have hj' : (ops.toList[j]?).bind (·.dst) = some s := by simpa using hj
        rw [hj'] at hgv
        have hv := h.env s
        simp only at hgv
        have two : ∀ c : Bool, RepA ρ F (.d .bool c) (a.tmps.getD s undef) → yielded ops a.tmps j = some c := by
          intro c hc
          have hv' := rep_bool hc
          simp only [Array.getD_eq_getD_getElem?] at hv'
          unfold yielded
          cases ht : a.tmps[s]? with
          | none => rw [ht] at hv'; simp [undef] at hv'
          | some u => rw [ht] at hv'; simp at hv'; subst hv'; simp [hj, ht]
        rcases guardC_some hgv with ⟨c, he, rfl⟩ | ⟨g0, c, he, rfl⟩
        · rw [he] at hv
          refine fin _ (two c hv) ?_
          cases c <;> cases want <;> rfl
        · rw [he] at hv
          cases g0 with
          | true =>
            refine fin _ (two c (hv.1 rfl)) ?_
            cases c <;> cases want <;> rfl
          | false =>
            have hv' := hv.2 rfl
            refine fin none ?_ rfl
            simp only [Array.getD_eq_getD_getElem?] at hv'
            unfold yielded
            cases ht : a.tmps[s]? with
            | none => simp [hj, ht]
            | some u => rw [ht] at hv'; simp at hv'; subst hv'; simp [hj, ht, undef]
    rw [hwant]
    by_cases hgw : g = true
    · subst hgw
      simp only [if_true]
      have hopt : ∀ (x : AV) (ρ' : Nat → Value) (F' : Mem) (v : Value), RepA ρ' F' x v → RepA ρ' F' (.opt true x) v := fun x ρ' F' v hv => ⟨fun _ => hv, fun e => by simp at e⟩
      have hev := fun hc => gev_rep (op := o.op) h.ev hc
      have hloc : ∀ x ∈ o.op.operands.toList, (fun y => if y ∈ o.op.operands.toList then gev o.op (ev T e) y else AV.any) x = gev o.op (ev T e) x := fun x hx => by simp only [hx, if_true]
      have hev2 : (∀ p, condsO (ev T e) (condL o.op) = some p → p) → ∀ x, RepA ρ F ((fun y => if y ∈ o.op.operands.toList then gev o.op (ev T e) y else AV.any) x) (a.eval x) := fun hc x => by
        by_cases hx : x ∈ o.op.operands.toList
        · simp only [hx, if_true]; exact hev hc x hx
        · simp only [hx, if_false]; trivial
      cases hc : isCallB o.op with
      | true =>
        rw [hc] at hs
        obtain ⟨q, r, h1, h2, rfl, rfl⟩ := hs
        obtain ⟨h3, h4⟩ := h2 rfl
        rw [← callA_local hloc] at h1
        exact call_run h hd (hev2 h3) h1 h4 _ (fun F' v hv => hopt (q.val r) _ _ _ hv) fun F' a' w' hr hfrm => hK _ _ _ _ hr hfrm
      | false =>
        rw [hc] at hs
        obtain ⟨out, h0, h1, h2, rfl, rfl⟩ := hs
        obtain ⟨h3, h4⟩ := h2 rfl
        have hM : out.M = M' := opA_rd h0 h1
        rw [← opX_local hloc] at h1
        refine op_run hT h hd (hev2 h3) (fun ha => ?_) h1 h4 _ (fun _ _ _ hv => hopt _ _ _ _ hv) (by rw [hM]; exact hK)
        refine ⟨fun x => ?_, hfr ha⟩
        split
        · exact gev_uses (ev_uses (hfr ha).env x)
        · rfl
    · have hne : g = false := by cases g <;> first | rfl | exact absurd rfl hgw
      subst hne
      simp only [Bool.false_eq_true, if_false]
      refine ⟨fun _ _ => trivial, ?_⟩
      have hval : ∃ x, val = .opt false x ∧ M' = M := by
        cases hc : isCallB o.op with
        | true => rw [hc] at hs; obtain ⟨q, r, _, _, rfl, rfl⟩ := hs; exact ⟨_, rfl, rfl⟩
        | false => rw [hc] at hs; obtain ⟨out, _, _, _, rfl, rfl⟩ := hs; exact ⟨_, rfl, rfl⟩
      obtain ⟨x, rfl, rfl⟩ := hval
      refine hK ρ F _ _ (h.put hd h.st (Sub.refl _) ?_ (fun _ r => r) fun _ _ => rfl) ⟨put_same a o _, Sub.refl _, fun _ _ => rfl⟩
      exact ⟨fun hh => by simp at hh, fun _ => rfl⟩
end
end Go.Proofs.Ytohglckebkgbpaa
