/-
  A function's text on plain data: regions, and calls that are walked where they stand.
-/
import Derived.Test.YtohglckebkgbpaaUv
namespace Go.Proofs.Ytohglckebkgbpaa
open Go.RowKit

/-- what a call that is walked where it stands leaves -/
def HPost (B : Bx) (ρ : Nat → Value) (F : Mem) (M : Mm) (n : Nat) (wr : Nat → Bool) (args : List AV) (Post : AV → Mm → Nat → Prop) (en : Ending) (w' : World) : Prop :=
  ∃ v a ρ' F' M' n', en = .returned v ∧ RepA ρ' F' a v ∧ St B ρ' F' M' w' ∧ Sub F F' ∧ (∀ h, h < n → ρ' h = ρ h) ∧ n ≤ n' ∧
    (∀ h, (n' ≤ h ∨ (h < n ∧ NoName B M h ∧ ∀ x ∈ args, x.uses h = false)) → NoName B M' h ∧ a.uses h = false) ∧ (∀ h, h < n → wr h = false → M' h = M h) ∧ Post a M' n'
def LcOk (lc : LCs) (B : Bx) : Prop := ∀ k i, look lc k = some i → ∃ fn, B.LC k = some { i with fn := fn }
/-- what is shown of calls that are walked where they stand is so in the machine -/
structure HOk (P : Program) (T : Tab) (H : Hnd) : Prop where
  fn : ∀ {lc : LCs} {wr : Nat → Bool} {f : FuncId} {args : List AV} {Post : AV → Mm → Nat → Prop} {M : Mm} {n : Nat}, H lc wr (.fn f args) Post M n → ∀ {B : Bx} {ρ : Nat → Value} {F : Mem} {w : World} {vs : List Value}, LcOk lc B → St B ρ F M w → GlobOk T B.F0 →
    (∀ h, n ≤ h → NoName B M h ∧ ∀ x ∈ args, x.uses h = false) → vs.length = args.length → (∀ j x, args[j]? = some x → RepA ρ F x (vs.getD j undef)) → CallsIn (Fw none) 0 P f vs.toArray w (HPost B ρ F M n wr args Post)
  yl : ∀ {lc : LCs} {wr : Nat → Bool} {k : Nat} {args : List AV} {Post : AV → Mm → Nat → Prop} {M : Mm} {n : Nat}, H lc wr (.yl k args) Post M n → ∀ {B : Bx} {ρ : Nat → Value} {F : Mem} {w : World} {vs : List Value}, LcOk lc B → St B ρ F M w → GlobOk T B.F0 →
    (∀ h, n ≤ h → NoName B M h ∧ ∀ x ∈ args, x.uses h = false) → vs.length = args.length → (∀ j x, args[j]? = some x → RepA ρ F x (vs.getD j undef)) →
    ∃ b r, ρ k = .func (.yield b) #[] #[] ∧ w.heap[b]? = some (.loop r) ∧ vs.length = r.params.size ∧
      RoundIn (Fw none) 0 P b r.fn ((r.params.zip vs.toArray).foldl (fun tmps (t, a) => tmps.setIfInBounds t a) r.tmps) r.assign r.body w (HPost B ρ F M n wr args Post)
section
variable {P : Program} {T : Tab} {X : Sx} {nt : Nat} {B : Bx} {df : List Nat} {ro : Option Nat} {ρ : Nat → Value} {F : Mem} {e : Env} {M : Mm} {a : Act} {w : World} {ops : Array Oper} {o : Oper} {i : Nat}
theorem want_of (h : Rel T nt B df ρ F e M a w) {j : Nat} {want : Bool} {g : Bool} (hg : o.guard = some (j, want)) (hgv : guardC (match (ops.toList[j]?).bind (·.dst) with | some s => e s | none => .any) want = some g) : Region.wanted o (yielded ops a.tmps) = g := by
  have fin : ∀ q, yielded ops a.tmps j = q → (q == some want) = g → Region.wanted o (yielded ops a.tmps) = g := by
    intro q h1 h2
    simp only [Region.wanted, hg, h1]
    exact h2
  cases hj : (ops[j]?).bind (·.dst) with
  | none =>
    have hj' : (ops.toList[j]?).bind (·.dst) = none := by simpa using hj
    rw [hj'] at hgv; simp [guardC] at hgv
  | some s =>
    have hj' : (ops.toList[j]?).bind (·.dst) = some s := by simpa using hj
    rw [hj'] at hgv
    have hv := h.env s
    simp only at hgv
    have two : ∀ c : Bool, RepA ρ F (.d .bool c) (a.tmps.getD s undef) → yielded ops a.tmps j = some c := by
      intro c hc
      have hv' := rep_bool hc
      simp only [Array.getD_eq_getD_getElem?] at hv'
      unfold yielded
      cases ht : a.tmps[s]? with
      | none => rw [ht] at hv'; simp [undef] at hv'
      | some u => rw [ht] at hv'; simp at hv'; subst hv'; simp [hj, ht]
    rcases guardC_some hgv with ⟨c, he, rfl⟩ | ⟨g0, c, he, rfl⟩
    · rw [he] at hv
      refine fin _ (two c hv) ?_
      cases c <;> cases want <;> rfl
    · rw [he] at hv
      cases g0 with
      | true =>
        refine fin _ (two c (hv.1 rfl)) ?_
        cases c <;> cases want <;> rfl
      | false =>
        have hv' := hv.2 rfl
        refine fin none ?_ rfl
        simp only [Array.getD_eq_getD_getElem?] at hv'
        unfold yielded
        cases ht : a.tmps[s]? with
        | none => simp [hj, ht]
        | some u => rw [ht] at hv'; simp at hv'; subst hv'; simp [hj, ht, undef]
theorem run_yl {c : Call} {f : Operand} {b : Nat} {r : Loop} (hop : o.op = .call c) (hcal : c.callee = .value f) (e1 : a.eval f = .func (.yield b) #[] #[]) (hb : w.heap[b]? = some (.loop r)) (hs : (c.args.toList.map a.eval).length = r.params.size) :
    (execOp a.eval o).run P w = .ok (.round b r.fn ((r.params.zip (c.args.toList.map a.eval).toArray).foldl (fun tmps (t, a) => tmps.setIfInBounds t a) r.tmps) r.assign r.body) w := by
  have e4 : #[] ++ c.args.map a.eval = (c.args.toList.map a.eval).toArray := by
    apply Array.ext'
    simp
  simp only [execOp, hop, resolve, hcal, e1, Deferred.ofValue, Sem.run_bind, Sem.run_pure, Result.andThen_ok, invoke]
  rw [e4]
  exact run_yield hb (by simpa using hs)
/-- a call that is walked where it stands -/
theorem inl_run {cx : Cx} {H : Hnd} {lc : LCs} {wr : Nat → Bool} (hH : HOk P T H) (hen : ∀ f, f ∈ cx.inl → Enters P f) (hlc : LcOk lc B) (h : Rel T nt B df ρ F e M a w) {N : Nat} (hfree : ∀ k, N ≤ k → NoN B df e M k) (hd : ∀ d, o.dst = some d → d < nt) {evf : Operand → AV} (hev : ∀ x ∈ o.op.operands.toList, RepA ρ F (evf x) (a.eval x)) (hus : ∀ k, (∀ t, (e t).uses k = false) → ∀ x, (evf x).uses k = false) {q : Req} (hq : inlA cx lc evf o.op = some q) {Post : AV → Mm → Nat → Prop} (hc : H lc wr q Post M N)
    {Q : Exit → Act → World → Prop} {K : Act → World → Prop} (val : AV → AV) (hval : ∀ ρ' F' x v, RepA ρ' F' x v → RepA ρ' F' (val x) v) (hvu : ∀ x k, x.uses k = false → (val x).uses k = false)
    (hK : ∀ ρ' F' a' w' x M' n', Rel T nt B df ρ' F' (updD e o.dst (val x)) M' a' w' → Fr (oDs o) (fun k => N ≤ k) ρ F a ρ' F' a' → N ≤ n' → (∀ k, (n' ≤ k ∨ (k < N ∧ NoN B df e M k)) → NoN B df (updD e o.dst (val x)) M' k) → (∀ k, k < N → wr k = false → M' k = M k) → Post x M' n' → K a' w') : o.wpIn (Fw ro) 0 P a w K Q := by
  have hdf : ∀ c, o.op ≠ .defer c := fun c hc' => by rw [hc'] at hq; simp [inlA] at hq
  unfold Oper.wpIn
  rw [sem_plain o a.eval hdf]
  refine ⟨fun _ _ => trivial, ?_⟩
  have hlow : ∀ t k, (e t).uses k = true → k < N := fun t k hk => by
    rcases Nat.lt_or_ge k N with h1 | h1
    · exact h1
    · rw [(hfree k h1).env t] at hk; simp at hk
  have hdlow : ∀ k ∈ df, k < N := fun k hk => by
    rcases Nat.lt_or_ge k N with h1 | h1
    · exact h1
    · exact absurd hk (hfree k h1).df
  have key : ∀ {args : List AV} {w'' : World} {v : Value}, (∀ k, (∀ t, (e t).uses k = false) → ∀ x ∈ args, x.uses k = false) → HPost B ρ F M N wr args Post (.returned v) w'' → K (a.put o.dst v) w'' := by
    rintro args w'' v ha ⟨v', x, ρ', F', M', n', e1, r1, r2, r3, r4, r5, r6, r7, r8⟩
    cases e1
    refine hK ρ' F' _ _ x M' n' (h.put hd r2 r3 (hval _ _ _ _ r1) (fun t r => r.agree fun k hk => r4 k (hlow t k hk)) fun k hk => r4 k (hdlow k hk)) ⟨put_same a o v, r3, fun k hk => r4 k (by omega)⟩ r5 ?_ r7 r8
    intro k hk
    have hn : NoName B M' k ∧ x.uses k = false := r6 k (hk.imp id fun q => ⟨q.1, q.2.nam, ha k q.2.env⟩)
    have hek : (∀ t, (e t).uses k = false) ∧ k ∉ df := by
      rcases hk with hk | hk
      · exact ⟨(hfree k (by omega)).env, (hfree k (by omega)).df⟩
      · exact ⟨hk.2.env, hk.2.df⟩
    refine ⟨hn.1, fun t => ?_, hek.2⟩
    rw [updD_at]
    split
    · exact hvu x k hn.2
    · exact hek.1 t
  cases hop : o.op <;> rw [hop] at hq <;> try (simp [inlA] at hq; done)
  rename_i c
  obtain ⟨callee, args, tys⟩ := c
  cases callee with
  | builtin b => simp [inlA] at hq
  | invoke r n => simp [inlA] at hq
  | value f =>
    have hargs : ∀ x ∈ args.toList, x ∈ o.op.operands.toList := fun x hx => by rw [hop]; simp [Op.operands, Call.operands]; right; simpa using hx
    have hfm : f ∈ o.op.operands.toList := by rw [hop]; simp [Op.operands, Call.operands]
    have hmap : ∀ j x, (args.toList.map evf)[j]? = some x → RepA ρ F x ((args.toList.map a.eval).getD j undef) := by
      intro j x hx
      rw [List.getElem?_map] at hx
      cases hj : args.toList[j]? with
      | none => rw [hj] at hx; simp at hx
      | some y =>
        rw [hj] at hx
        simp only [Option.map_some, Option.some.injEq] at hx
        subst hx
        have hy := hev y (hargs y (List.mem_of_getElem? hj))
        rw [List.getD_eq_getElem?_getD, List.getElem?_map, hj]
        exact hy
    simp only [inlA] at hq
    split at hq
    · rename_i g caps hf
      cases hm : memB cx.inl g with
      | false => rw [hm] at hq; simp at hq
      | true =>
        rw [hm] at hq
        simp only [cond_true, Option.some.injEq] at hq
        subst hq
        have hfv := hev f hfm
        rw [hf] at hfv
        obtain ⟨cv, e1, e2⟩ := hfv
        have hua : ∀ k, (∀ t, (e t).uses k = false) → ∀ x ∈ appL (args.toList.map evf) (avs caps), x.uses k = false := by
          intro k hk x hx
          rw [appL_eq, List.mem_append] at hx
          rcases hx with hx | hx
          · obtain ⟨y, hy, rfl⟩ := List.mem_map.1 hx
            exact hus k hk y
          · obtain ⟨c, hc, rfl⟩ := avs_mem hx
            have := hus k hk f
            rw [hf] at this
            simp only [AV.uses, List.any_eq_false] at this
            have h5 : c.uses k = false := by simpa using this c hc
            exact h5
        have hrep : ∀ j x, (appL (args.toList.map evf) (avs caps))[j]? = some x → RepA ρ F x ((args.toList.map a.eval ++ cv).getD j undef) := by
          intro j x hx
          rw [appL_eq, List.getElem?_append] at hx
          split at hx
          · rename_i hlt
            have := hmap j x hx
            rw [List.getD_eq_getElem?_getD, List.getElem?_append, if_pos (by simpa using hlt), ← List.getD_eq_getElem?_getD]
            exact this
          · rename_i hlt
            rw [avs_get] at hx
            cases hj : caps[j - (List.map evf args.toList).length]? with
            | none => rw [hj] at hx; simp at hx
            | some y =>
              rw [hj] at hx
              simp only [Option.map_some, Option.some.injEq] at hx
              subst hx
              have hy := e2.2 _ y hj
              simp at hlt
              rw [List.getD_eq_getElem?_getD, List.getElem?_append, if_neg (by simpa using hlt), ← List.getD_eq_getElem?_getD]
              have h5 : RepCap ρ F y (cv[j - args.size]?.getD undef) := by simpa using hy
              simpa using (show RepA ρ F (.c y) _ from h5)
        rw [run_enter hop rfl e1 (hen g (memB_mem.1 hm)), Oper.uponIn_enter]
        refine ⟨fun hh => by simp [Fence.wide] at hh, ?_⟩
        have hcall := hH.fn hc (vs := args.toList.map a.eval ++ cv) hlc h.st h.glob (fun k hk => ⟨(hfree k hk).nam, hua k (hfree k hk).env⟩) (by rw [appL_eq]; simp [e2.1, avs_len]) hrep
        obtain ⟨c1, c2⟩ := hcall
        refine ⟨trivial, fun cs hroom => ?_⟩
        obtain ⟨en, w', fr, k1, k2, k3, k4⟩ := c2 cs hroom
        refine ⟨en, w', fr, ?_, k2, k3, k4⟩
        obtain ⟨v', rest⟩ := id k1
        obtain ⟨x, ρ', F', M', n', e1, _⟩ := rest
        subst e1
        exact key hua k1
    · rename_i k hf
      rw [lookL_eq] at hq
      split at hq <;> simp only [Option.some.injEq, reduceCtorEq] at hq
      rename_i inf hl
      subst hq
      have hua : ∀ k, (∀ t, (e t).uses k = false) → ∀ x ∈ args.toList.map evf, x.uses k = false := by
        intro k hk x hx
        obtain ⟨y, hy, rfl⟩ := List.mem_map.1 hx
        exact hus k hk y
      obtain ⟨b, r, b1, b2, b3, b4⟩ := hH.yl hc (vs := args.toList.map a.eval) hlc h.st h.glob (fun k hk => ⟨(hfree k hk).nam, hua k (hfree k hk).env⟩) (by simp) hmap
      have hfv := hev f hfm
      rw [hf] at hfv
      rw [run_yl hop rfl ((show a.eval f = ρ k from hfv).trans b1) b2 b3, Oper.uponIn_round]
      refine ⟨fun hh => by simp [Fence.wide] at hh, trivial, fun c cs hroom => ?_⟩
      obtain ⟨en, w', k1, k2⟩ := b4.2 c cs hroom
      refine ⟨en, w', ?_, k2⟩
      obtain ⟨v', rest⟩ := id k1
      obtain ⟨x, ρ', F', M', n', e1, _⟩ := rest
      subst e1
      exact key hua k1
    · simp at hq
/-- what a run of operations has come to -/
def LiftN (T : Tab) (X : Sx) (nt : Nat) (B : Bx) (df : List Nat) (ds : List Nat) (N0 : Nat → Prop) (M0 : Mm) (ρ0 : Nat → Value) (F0 : Mem) (a0 : Act) (K : Env → Mm → Nat → Prop) (a' : Act) (w' : World) : Prop :=
  ∃ ρ' F' e' M' N', Rel T nt B df ρ' F' e' M' a' w' ∧ Fr ds (fun h => X.n ≤ h) ρ0 F0 a0 ρ' F' a' ∧ X.n + nt ≤ N' ∧ (∀ h, (N' ≤ h ∨ (h < X.n ∧ N0 h)) → NoN B df e' M' h) ∧ (∀ h, h < X.n → X.wr h = false → M' h = M0 h) ∧ K e' M' N'
theorem vcSeq_run {cx : Cx} {H : Hnd} {lc : LCs} {X : Sx} (hT : tabB P cx.T = true) (hH : HOk P cx.T H) (hen : ∀ f, f ∈ cx.inl → Enters P f) (hlc : LcOk lc B) (hnt : 0 < nt) (hdst : dstsB nt ops.toList = true) (hdis : distinctB (allocDs X.own ops.toList) = true) {N0 : Nat → Prop} {M0 : Mm} {ρ0 : Nat → Value} {F0 : Mem} {a0 : Act} {K : Env → Mm → Nat → Prop} {Q : Exit → Act → World → Prop} (hQ : ∀ a w, LiftN cx.T X nt B df (dstL ops.toList) N0 M0 ρ0 F0 a0 K a w → Q .normal a w) :
    ∀ (l : List Oper) (k : Nat) {ρ : Nat → Value} {F : Mem} {e : Env} {M : Mm} {a : Act} {w : World} {N : Nat}, ops.toList.drop k = l → Mid cx.T X nt B df ops N N0 M0 ρ0 F0 a0 ((List.range l.length).map (k + ·)) ρ F e M a w → vcSeq P cx H lc X ops.toList l K e M N → wpOpsIn (Fw ro) 0 P ops Q ((List.range l.length).map (k + ·)) a w := by
  intro l
  induction l with
  | nil =>
    intro k ρ F e M a w N _ h hv
    exact hQ _ _ ⟨ρ, F, e, M, N, h.rel, h.fr, h.top, h.high, h.lock, hv⟩
  | cons o l ih =>
    intro k ρ F e M a w N hdrop h hv
    have hk : ops.toList[k]? = some o := by
      have := congrArg (fun x => x[0]?) hdrop
      simpa using this
    have hk' : ops[k]? = some o := by simpa using hk
    have hmem : o ∈ ops.toList := List.mem_of_getElem? hk
    have hlt := dst_lt hdst hmem
    have hdrop' : ops.toList.drop (k + 1) = l := by rw [← List.drop_drop, hdrop]; rfl
    have hr : (List.range (o :: l).length).map (k + ·) = k :: (List.range l.length).map (k + 1 + ·) := by
      simp only [List.length_cons, List.range_succ_eq_map, List.map_cons, List.map_map, Nat.add_zero]
      congr 1
      apply List.map_congr_left
      intro x _
      simp only [Function.comp]
      omega
    rw [hr] at h ⊢
    rw [wpOpsIn_cons]
    have hsub : ∀ j ∈ (List.range l.length).map (k + 1 + ·), j ∈ k :: (List.range l.length).map (k + 1 + ·) ∧ j ≠ k := by
      intro j hj
      refine ⟨List.mem_cons_of_mem _ hj, ?_⟩
      obtain ⟨x, _, rfl⟩ := List.mem_map.1 hj
      omega
    have plain : vcOp P cx.T X ops.toList o (fun e' M' => vcSeq P cx H lc X ops.toList l K e' M' N) e M → wpOpIn (Fw ro) 0 P ops Q k (wpOpsIn (Fw ro) 0 P ops Q ((List.range l.length).map (k + 1 + ·))) a w := by
      intro hv
      obtain ⟨val, M', hs, hv'⟩ := vcOp_stp hv
      exact Mid.step hT hnt hdst hdis h hk' (by simp) hsub hs fun ρ' F' a' w' hmid => ih (k + 1) hdrop' hmid hv'
    have htop := h.top
    have inl : ∀ {evf : Operand → AV} {q : Req}, (∀ x ∈ o.op.operands.toList, RepA ρ F (evf x) (a.eval x)) → (∀ k, (∀ t, (e t).uses k = false) → ∀ x, (evf x).uses k = false) → inlA cx lc evf o.op = some q → H lc X.wr q (fun x M' n' => vcSeq P cx H lc X ops.toList l K (updD e o.dst x) M' n') M N →
        o.wpIn (Fw ro) 0 P a w (wpOpsIn (Fw ro) 0 P ops Q ((List.range l.length).map (k + 1 + ·))) Q := by
      intro evf q hev hus hq hc
      refine inl_run hH hen hlc h.rel (fun j hj => h.high j (.inl hj)) hlt hev hus hq hc (fun x => x) (fun _ _ _ _ r => r) (fun _ _ r => r) fun ρ' F' a' w' x M' n' r1 r2 r3 r4 r5 r6 => ?_
      refine ih (k + 1) hdrop' ⟨r1, h.fr.trans (r2.mono (fun t ht => mem_dstL hmem ht) fun t ht => by omega), fun j hj o' ho' ha' => ?_, fun j hj => r4 j ?_, by omega, fun j hj hw => (r5 j (by omega) hw).trans (h.lock j hj hw)⟩ r6
      · have hlt' := dst_lt hdst (List.mem_of_getElem? (by simpa using ho' : ops.toList[j]? = some o'))
        have hnm := nm_range hlt' ha' hnt
        exact r4 _ (.inr ⟨by omega, h.free j (hsub j hj).1 o' ho' ha'⟩)
      · rcases hj with hj | hj
        · exact .inl hj
        · exact .inr ⟨by omega, h.high j (.inr hj)⟩
    simp only [vcSeq] at hv
    cases hg : o.guard with
    | none =>
      rw [hg] at hv
      simp only at hv
      split at hv
      · rename_i q hq
        unfold wpOpIn
        rw [hk']
        have hw : Region.wanted o (yielded ops a.tmps) = true := by simp [Region.wanted, hg]
        simp only [hw, if_true]
        exact inl (fun x _ => h.rel.ev x) (fun k hk x => ev_uses hk x) hq hv
      · exact plain hv
    | some p =>
      obtain ⟨j, want⟩ := p
      rw [hg] at hv
      simp only at hv
      split at hv
      · rename_i q hq
        split at hv
        · rename_i g hgv
          have hwant := want_of h.rel hg hgv
          unfold wpOpIn
          rw [hk']
          simp only [hwant]
          by_cases hgt : g = true
          · subst hgt
            simp only [if_true]
            obtain ⟨h3, h4⟩ := andP_iff.1 (hv.1 rfl)
            exact inl (gev_rep (op := o.op) h.rel.ev h3) (fun k hk x => gev_uses (ev_uses hk x)) hq h4
          · have hne : g = false := by cases g <;> first | rfl | exact absurd rfl hgt
            subst hne
            simp only [Bool.false_eq_true, if_false]
            refine ⟨fun _ _ => trivial, ih (k + 1) hdrop' ⟨h.rel.put (val := .opt false .any) hlt h.rel.st (Sub.refl _) ⟨fun hh => by simp at hh, fun _ => rfl⟩ (fun _ r => r) fun _ _ => rfl, h.fr.trans ((⟨put_same a o _, Sub.refl _, fun _ _ => rfl⟩ : Fr (oDs o) (fun _ => False) ρ F a ρ F _).mono (fun t ht => mem_dstL hmem ht) fun t ht => ht.elim), fun i hi o' ho' ha' => ?_, fun i hi => ?_, htop, h.lock⟩ (hv.2 rfl)⟩
            · have := h.free i (hsub i hi).1 o' ho' ha'
              exact ⟨this.nam, fun t => by rw [updD_at]; split; rfl; exact this.env t, this.df⟩
            · have := h.high i hi
              exact ⟨this.nam, fun t => by rw [updD_at]; split; rfl; exact this.env t, this.df⟩
        · exact hv.elim
      · exact plain hv
/-- a region of any kind -/
theorem vcReg_run {cx : Cx} {H : Hnd} {lc : LCs} {fx : Fx} {wr : Nat → Bool} (hm : P.follows .mixedOrders = true) (hT : tabB P cx.T = true) (hH : HOk P cx.T H) (hen : ∀ f, f ∈ cx.inl → Enters P f) (hlc : LcOk lc B) (hnt : 0 < fx.nt) {id : Nat} {draw : Bool} {Kq : VS → Prop} {s : VS} (h : Rel cx.T fx.nt B s.df ρ F s.e s.M a w) (hfree : ∀ k, s.n ≤ k → NoN B s.df s.e s.M k) (hv : vcReg P cx H lc fx wr ops.toList draw Kq s) :
    (Code.region id ops draw).wpIn (Fw ro) 0 P (fun ex a' w' => ex = .normal ∧ LiftN cx.T ⟨ownF cx fx.f, wr, s.n⟩ fx.nt B s.df (dstL ops.toList) (fun h => NoN B s.df s.e s.M h) s.M ρ F a (fun e M n => Kq ⟨e, M, n, s.df⟩) a' w') a w := by
  unfold vcReg at hv
  rw [forceN_eq] at hv
  cases draw with
  | true =>
    simp only [cond_true] at hv
    refine wpIn_mono (vcAny_run hm hT hnt h hfree hv) ?_
    rintro ex a' w' ⟨rfl, ρ', F', e', M', r1, r2, r3, r4, r5⟩
    exact ⟨rfl, ρ', F', e', M', s.n + fx.nt, r1, r2, Nat.le_refl _, r3, r4, r5⟩
  | false =>
    simp only [cond_false] at hv
    cases hb : (dstsB fx.nt ops.toList && distinctB (allocDs (ownF cx fx.f) ops.toList)) with
    | false => rw [hb] at hv; exact hv.elim
    | true =>
      rw [hb] at hv
      simp only [cond_true] at hv
      simp only [Bool.and_eq_true] at hb
      refine wpIn_region ?_
      have hlist : List.range ops.size = (List.range ops.toList.length).map (0 + ·) := by simp
      rw [hlist]
      refine vcSeq_run (X := ⟨ownF cx fx.f, wr, s.n⟩) hT hH hen hlc hnt hb.1 hb.2 (fun a w hl => ⟨rfl, hl⟩) ops.toList 0 rfl ⟨h, Fr.refl _ _ _ _ _, fun i _ o ho ha => ?_, fun k hk => hk.elim (fun q => hfree k (Nat.le_trans (Nat.le_add_right s.n fx.nt) q)) (fun q => q.2), Nat.le_refl _, fun _ _ _ => rfl⟩ hv
      exact hfree _ (nm_range (X := ⟨ownF cx fx.f, wr, s.n⟩) (dst_lt hb.1 (List.mem_of_getElem? (by simpa using ho : ops.toList[i]? = some o))) ha hnt).1
end
end Go.Proofs.Ytohglckebkgbpaa
