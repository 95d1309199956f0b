/-
  A function's text on plain data: the contract that follows.
-/
import Derived.Test.YtohglckebkgbpaaCt
import Derived.Deep.LoopGhost
namespace Go.Proofs.Ytohglckebkgbpaa
open Go.RowKit

theorem vcHead_some {α : Type} {q : Option (α × List (Nat × Option Nat))} {K : α → Prop} (h : vcHead q K) : ∃ p, q = some p ∧ distinctB (srcs p.2) = true ∧ distinctB (keys p.2) = true ∧ K p.1 := by
  unfold vcHead at h
  split at h
  · rename_i p
    cases hb : (distinctB (srcs p.2) && distinctB (keys p.2)) with
    | false => rw [hb] at h; exact h.elim
    | true =>
      rw [hb] at h
      rw [Bool.and_eq_true] at hb
      exact ⟨p, rfl, hb.1, hb.2, h⟩
  · exact h.elim
theorem freeB_spec {m : List Nat} : ∀ {l : List Nat}, freeB l m = true → ∀ k ∈ l, k ∉ m
  | [], _, k, hk => by simp at hk
  | a :: l, h, k, hk => by
    simp only [freeB, Bool.and_eq_true, Bool.not_eq_true'] at h
    rcases List.mem_cons.1 hk with rfl | hk
    · intro hm; have := memB_mem.2 hm; rw [h.1] at this; simp at this
    · exact freeB_spec h.2 k hk
section
variable {P : Program} {cx : Cx} {w0 : World} {F0 : Mem}
theorem code_sound (hm : P.follows .mixedOrders = true) (hT : tabB P cx.T = true) : ∀ (c : Code) (Q : XE → Env → Mm → Prop) (ρ : Nat → Value) (F : Mem) (e : Env) (M : Mm) (a : Act) (w : World), Rel cx.T cx.nt w0 F0 ρ F e M a w → vcCode P cx c Q e M →
    c.wp P (LiftX cx w0 F0 (modC c) (namC cx c) ρ F a Q) a w := by
  intro c
  induction c with
  | skip => intro Q ρ F e M a w h hv; exact wp_skip ⟨ρ, F, e, M, h, Fr.refl _ _ _ _ _, hv⟩
  | region id ops draw =>
    intro Q ρ F e M a w h hv
    simp only [vcCode] at hv
    have fin : ∀ {F' : Mem} {e' : Env} {M' : Mm}, Sub F F' → Rel cx.T cx.nt w0 F0 ρ F' e' M' a w → vcReg P cx.T cx.own cx.nt ops.toList draw (Q .normal) e' M' → (Code.region id ops draw).wp P (LiftX cx w0 F0 (modC (.region id ops draw)) (namC cx (.region id ops draw)) ρ F a Q) a w := by
      intro F' e' M' hs h' hv'
      refine wp_mono (vcReg_run hm hT h' hv') ?_
      rintro ex a' w' ⟨rfl, hl⟩
      exact Lift.mono (cx := cx) (F := F) ⟨fun _ _ => rfl, hs, fun _ _ => rfl⟩ (fun _ h => h) (fun _ h => h) (fun _ _ k => k) hl
    split at hv
    · obtain ⟨F', h', hs⟩ := frzs_rel h
      exact fin hs h' hv
    · exact fin (Sub.refl _) h hv
  | seq x y ihx ihy =>
    intro Q ρ F e M a w h hv
    refine wp_seq (wp_mono (ihx _ ρ F e M a w h hv) ?_)
    intro ex a' w' hq
    cases ex with
    | normal =>
      obtain ⟨ρ', F', e', M', r, f, k⟩ := hq
      refine wp_mono (ihy Q ρ' F' e' M' a' w' r k) ?_
      intro ex2 a2 w2 hq2
      have f' : Fr (modC (.seq x y)) (namC cx (.seq x y)) ρ F a ρ' F' a' := f.mono (fun t ht => by simp [modC, ht]) (fun t ht => by simp [namC, ht])
      cases ex2 <;> first
        | exact Lift.mono f' (fun t ht => by simp [modC, ht]) (fun t ht => by simp [namC, ht]) (fun _ _ k => k) hq2
        | exact hq2.elim
    | exit n => exact Lift.mono (Fr.refl _ _ _ _ _) (fun t ht => by simp [modC, ht]) (fun t ht => by simp [namC, ht]) (fun _ _ k => k) hq
    | ret => exact Lift.mono (Fr.refl _ _ _ _ _) (fun t ht => by simp [modC, ht]) (fun t ht => by simp [namC, ht]) (fun _ _ k => k) hq
    | goto l => exact hq.elim
    | panic ch => exact hq.elim
    | outgrown => exact hq.elim
  | cond c x y ihx ihy =>
    intro Q ρ F e M a w h hv
    simp only [vcCode] at hv
    split at hv
    · rename_i g hg
      have hgv := h.ev c
      rw [hg] at hgv
      have hgv' := rep_bool hgv
      refine wp_cond_split hgv' (fun ht => ?_) (fun ht => ?_)
      · refine wp_mono (ihx Q ρ F e M a w h (hv.1 ht)) ?_
        intro ex2 a2 w2 hq2
        cases ex2 <;> first
          | exact Lift.mono (Fr.refl _ _ _ _ _) (fun t ht => by simp [modC, ht]) (fun t ht => by simp [namC, ht]) (fun _ _ k => k) hq2
          | exact hq2.elim
      · refine wp_mono (ihy Q ρ F e M a w h (hv.2 ht)) ?_
        intro ex2 a2 w2 hq2
        cases ex2 <;> first
          | exact Lift.mono (Fr.refl _ _ _ _ _) (fun t ht => by simp [modC, ht]) (fun t ht => by simp [namC, ht]) (fun _ _ k => k) hq2
          | exact hq2.elim
    · exact hv.elim
  | block id x ih =>
    intro Q ρ F e M a w h hv
    refine wp_block (wp_mono (ih _ ρ F e M a w h hv) ?_)
    intro ex a' w' hq
    cases ex with
    | normal => exact hq
    | exit n =>
      simp only [Exit.inBlock]
      by_cases hn : n = id
      · subst hn
        rw [if_pos rfl]
        obtain ⟨ρ', F', e', M', r, f, k⟩ := hq
        exact ⟨ρ', F', e', M', r, f, by simpa [Nat.beq_refl] using k⟩
      · rw [if_neg hn]
        obtain ⟨ρ', F', e', M', r, f, k⟩ := hq
        have : Nat.beq n id = false := by cases hq : Nat.beq n id; rfl; exact absurd (Nat.eq_of_beq_eq_true hq) hn
        exact ⟨ρ', F', e', M', r, f, by simpa [this] using k⟩
    | ret => exact hq
    | goto l => exact hq.elim
    | panic ch => exact hq.elim
    | outgrown => exact hq.elim
  | scope x ih =>
    intro Q ρ F e M a w h hv
    refine wp_scope_straight (wp_mono (ih Q ρ F e M a w h hv) ?_)
    intro ex a' w' hq
    cases ex <;> first | exact hq | exact hq.elim
  | loop x ih =>
    intro Q ρ F e M a w h hv
    simp only [vcCode] at hv
    split at hv
    · rename_i l hl
      cases hfb : freeB (objT l) (namC cx (.loop x)) with
      | false => rw [hfb] at hv; exact hv.elim
      | true =>
        rw [hfb] at hv
        simp only [cond_true] at hv
        have hobj := freeB_spec hfb
        have hnam : namC cx (.loop x) = canT l ++ namC cx x := by simp [namC, hl]
        have hcan : ∀ k ∈ canT l, k ∈ namC cx (.loop x) := fun k hk => by rw [hnam]; simp [hk]
        obtain ⟨p, hp, d1, d2, I, μ, i0, hround⟩ := vcHead_some hv
        let J : Nat → Act → World → Prop := fun n a' w' => ∃ x' ρ' F', I x' ∧ μ x' = n ∧ WF (trT l) x' ∧ Rel cx.T cx.nt w0 F0 ρ' F' (headV l x' (baseE (modC x) (canT l) e)) (headM l x') a' w' ∧ Fr (modC x) (namC cx (.loop x)) ρ F a ρ' F' a'
        have start : ∀ {ρ' : Nat → Value} {F' : Mem} {e' : Env} {M' : Mm} {a' : Act} {w' : World} {q : (trT l).T × List (Nat × Option Nat)}, Rel cx.T cx.nt w0 F0 ρ' F' e' M' a' w' → Fr (modC x) (namC cx (.loop x)) ρ F a ρ' F' a' → readT e' M' l = some q → distinctB (srcs q.2) = true → distinctB (keys q.2) = true → I q.1 → J (μ q.1) a' w' := by
          intro ρ' F' e' M' a' w' q r f hq k1 k2 hi
          obtain ⟨ρ'', r'', f''⟩ := head_rel h.env r f hq k1 k2 hcan hobj
          exact ⟨q.1, ρ'', F', hi, rfl, readT_wf r hq, r'', f''⟩
        refine wp_loop_ghost J (μ p.1) (start h (Fr.refl _ _ _ _ _) hp d1 d2 i0) ?_
        rintro n a1 w1 ⟨x', ρ', F', hi, rfl, hwf, r, f⟩
        refine wp_mono (ih _ ρ' F' _ _ a1 w1 r (hround x' hwf hi)) ?_
        intro ex a2 w2 hq
        have sub2 : ∀ t ∈ namC cx x, t ∈ namC cx (.loop x) := fun t ht => by rw [hnam]; simp [ht]
        cases ex with
        | normal =>
          obtain ⟨ρ2, F2, e2, M2, r2, f2, k⟩ := hq
          obtain ⟨p2, hp2, d3, d4, i2, lt2⟩ := vcHead_some k
          exact ⟨_, lt2, start r2 (f.trans (f2.mono (fun _ h => h) sub2)) hp2 d3 d4 i2⟩
        | exit n => exact Lift.mono f (fun _ h => h) sub2 (fun _ _ k => k) hq
        | ret => exact Lift.mono f (fun _ h => h) sub2 (fun _ _ k => k) hq
        | goto l => exact hq.elim
        | panic ch => exact hq.elim
        | outgrown => exact hq.elim
    · exact hv.elim
  | exit n => intro Q ρ F e M a w h hv; exact wp_exit ⟨ρ, F, e, M, h, Fr.refl _ _ _ _ _, hv⟩
  | ret => intro Q ρ F e M a w h hv; exact wp_ret ⟨ρ, F, e, M, h, Fr.refl _ _ _ _ _, hv⟩
  | label l => intro Q ρ F e M a w h hv; exact wp_label ⟨ρ, F, e, M, h, Fr.refl _ _ _ _ _, hv⟩
  | goto l => intro Q ρ F e M a w h hv; exact hv.elim
  | rangeFunc f ps x y => intro Q ρ F e M a w h hv; exact hv.elim
  | refuse s => intro Q ρ F e M a w h hv; exact hv.elim

/-- what every reading of the arguments knows -/
def wfA : AV → Prop
  | .d t x => t.isT = false → WF t x
  | .kp t x => WF t x
  | _ => True
def wfL : List AV → Prop
  | [] => True
  | a :: l => wfA a ∧ wfL l
theorem wfA_rep {ρ : Nat → Value} {F : Mem} {a : AV} {v : Value} (h : RepA ρ F a v) : wfA a := by
  cases a <;> try trivial
  · exact fun ht => RepV.wf ht h
  · obtain ⟨_, _, us, _, _, h⟩ := h; exact h.wf
theorem wfL_rep {F : Mem} : ∀ {l : List AV} {vs : List Value}, RepL F l vs → wfL l
  | [], _, _ => trivial
  | a :: l, vs, h => by
    cases vs with
    | nil => have := h.1; simp at this
    | cons v vs => exact ⟨wfA_rep (h.2 0 a rfl), wfL_rep (vs := vs) ⟨by simpa using h.1, fun j b hb => by simpa using h.2 (j + 1) b (by simpa using hb)⟩⟩

theorem argsE_at : ∀ (l : List AV) (t : Nat), argsE l t = (l[t]?).getD .any
  | [], t => by simp [argsE]
  | a :: l, 0 => rfl
  | a :: l, t + 1 => by simp [argsE, argsE_at l t]
/-- what the call has made, as memory that stays -/
def Fall (w0 : World) (F : Mem) (w : World) : Mem := fun a => if w0.heap.size ≤ a.block then w.cell? a else F a
theorem fall_sub {ρ : Nat → Value} {F : Mem} {M : Mm} {w : World} (st : St w0 F0 ρ F M w) : Sub F (Fall w0 F w) ∧ Sub (Fall w0 F w) w.cell? ∧ ∀ a u, Fall w0 F w a = some u → F0 a = none → w0.heap.size ≤ a.block := by
  refine ⟨fun a u hu => ?_, fun a u hu => ?_, fun a u hu h0 => ?_⟩
  · simp only [Fall]; split
    · exact st.sub a u hu
    · exact hu
  · simp only [Fall] at hu; split at hu
    · exact hu
    · exact st.sub a u hu
  · simp only [Fall] at hu; split at hu
    · assumption
    · exact st.new a u hu h0
theorem row_own {ρ : Nat → Value} {F : Mem} {e : Env} {M : Mm} {a : Act} {w : World} (h : Rel cx.T cx.nt w0 F0 ρ F e M a w) {x : AV} {v : Value} {t : Ty} {y : t.T} (hx : asM M t x = some y) (hr : RepA ρ F x v) : RepV (Fall w0 F w) t v y := by
  unfold asM at hx
  split at hx
  · rename_i k
    split at hx <;> try (simp at hx; done)
    rename_i E te xs hM
    obtain ⟨e1, rfl⟩ := castT_some hx
    subst e1
    obtain ⟨us, h1, h2⟩ := h.st.obs k _ hM
    have hv : v = ρ k := hr
    rcases h1.2 with ⟨e1, e2⟩ | ⟨g, cap, cur, e1, hg0, hg, hc1, hc2, _⟩
    · rw [hv, e1]
      have hx : xs = [] := List.eq_nil_of_length_eq_zero e2
      subst hx
      exact ⟨none, 0, rfl, Nat.zero_le _, by simp [maxLen], fun i hi => absurd hi (Nat.not_lt_zero _)⟩
    · rw [hv, e1]
      rw [e1] at h1
      refine ⟨_, cap, rfl, hc1, hc2, fun i hi => ⟨g, 0, _, rfl, fun j u hj => ?_, (h2.2 i hi).mono (fall_sub h.st).1⟩⟩
      obtain ⟨k1, k2⟩ := seg_get hj
      simp only [Fall, hg0, if_true]
      rw [Nat.zero_add, h1.cellAt (i * te.sz + j) (by rw [← h2.1]; exact (List.getElem?_eq_some_iff.1 k1).1)]
      exact k1
  · exact (as_rep hx hr).mono (fall_sub h.st).1
theorem fromLeafM_rep {ρ : Nat → Value} {F : Mem} {e : Env} {M : Mm} {a : Act} {w : World} (h : Rel cx.T cx.nt w0 F0 ρ F e M a w) : ∀ {t : Ty} {l l' : List AV} {us : List Value} {x : t.T}, us.length = l.length → (∀ (j : Nat) (c : AV), l[j]? = some c → RepA ρ F c (us.getD j undef)) → fromLeafM M t l = some (x, l') → RepC (Fall w0 F w) t (us.take t.sz) x ∧ l' = l.drop t.sz := by
  have leaf : ∀ {t : Ty} {v : AV} {l : List AV} {us : List Value} {x : t.T}, t.cell = true → us.length = (v :: l).length → (∀ (j : Nat) (c : AV), (v :: l)[j]? = some c → RepA ρ F c (us.getD j undef)) → asM M t v = some x → RepC (Fall w0 F w) t (us.take 1) x := by
    intro t v l us x ht hl hr ha
    cases us with
    | nil => simp at hl
    | cons u us =>
      have h0 := row_own h ha (hr 0 v rfl)
      simp at h0
      have := h0.cells (cell_isT ht)
      have hc : u.cells = #[u] := (repv_one ht h0).1
      rw [hc] at this
      simpa using this
  intro t
  induction t with
  | unit => intro l l' us x _ _ h; simp only [fromLeafM, Option.some.injEq, Prod.mk.injEq] at h; exact ⟨by simp [Ty.sz]; rfl, by simp [Ty.sz, h.2]⟩
  | pair a b iha ihb =>
    intro l l' us x hl hr h
    simp only [fromLeafM] at h
    cases h1 : fromLeafM M a l with
    | none => rw [h1] at h; simp at h
    | some p =>
      rw [h1] at h
      simp only at h
      cases h2 : fromLeafM M b p.2 with
      | none => rw [h2] at h; simp at h
      | some q =>
        rw [h2] at h
        simp only [Option.some.injEq, Prod.mk.injEq] at h
        obtain ⟨rfl, rfl⟩ := h
        obtain ⟨k1, k2⟩ := iha (l' := p.2) (x := p.1) hl hr h1
        have hl2 : (us.drop a.sz).length = p.2.length := by rw [k2]; simp [hl]
        obtain ⟨k3, k4⟩ := ihb (l' := q.2) (x := q.1) hl2 (fun j c hj => by
          rw [k2, List.getElem?_drop] at hj
          have := hr _ c hj
          simpa [List.getD_eq_getElem?_getD] using this) h2
        refine ⟨⟨us.take a.sz, (us.drop a.sz).take b.sz, ?_, k1, k3⟩, by rw [k4, k2]; simp [Ty.sz]⟩
        simp only [Ty.sz, List.take_add]
  | st b ih => intro l l' us x hl hr h; exact ih hl hr h
  | tup b => intro l l' us x hl hr h; simp [fromLeafM] at h
  | int k =>
    intro l l' us x hl hr h
    cases l with
    | nil => simp [fromLeafM] at h
    | cons v l =>
      simp only [fromLeafM] at h
      split at h <;> simp at h
      rename_i y hy
      obtain ⟨rfl, rfl⟩ := h
      exact ⟨leaf rfl hl hr hy, rfl⟩
  | bool =>
    intro l l' us x hl hr h
    cases l with
    | nil => simp [fromLeafM] at h
    | cons v l =>
      simp only [fromLeafM] at h
      split at h <;> simp at h
      rename_i y hy
      obtain ⟨rfl, rfl⟩ := h
      exact ⟨leaf rfl hl hr hy, rfl⟩
  | str =>
    intro l l' us x hl hr h
    cases l with
    | nil => simp [fromLeafM] at h
    | cons v l =>
      simp only [fromLeafM] at h
      split at h <;> simp at h
      rename_i y hy
      obtain ⟨rfl, rfl⟩ := h
      exact ⟨leaf rfl hl hr hy, rfl⟩
  | sl e =>
    intro l l' us x hl hr h
    cases l with
    | nil => simp [fromLeafM] at h
    | cons v l =>
      simp only [fromLeafM] at h
      split at h <;> simp at h
      rename_i y hy
      obtain ⟨rfl, rfl⟩ := h
      exact ⟨leaf rfl hl hr hy, rfl⟩
/-- a result variable, read -/
def readRes (tmps : Array Value) : ResultVar → Sem Value
  | .tmp t => pure (tmps.getD t undef)
  | .cell a t => do loadVar t (← asAddr (tmps.getD a undef))
theorem resV_run (hT : tabB P cx.T = true) {ρ : Nat → Value} {F : Mem} {e : Env} {M : Mm} {a : Act} {w : World} (h : Rel cx.T cx.nt w0 F0 ρ F e M a w) {t : Ty} {rv : ResultVar} {x : t.T} (hr : resV cx.T M e t rv = some x) : ∃ v, (readRes a.tmps rv).run P w = .ok v w ∧ RepV (Fall w0 F w) t v x := by
  cases rv with
  | tmp s => exact ⟨_, rfl, row_own h hr (h.env s)⟩
  | cell s i =>
    simp only [resV] at hr
    split at hr <;> try (simp at hr; done)
    rename_i τ hτ
    split at hr <;> try (simp at hr; done)
    rename_i y hy
    obtain ⟨e1, rfl⟩ := castT_some hr
    subst e1
    obtain ⟨ti, hl, rfl⟩ := ty_look hτ
    have hti := tab_ti hT hl
    have hs := h.env s
    have key : ∀ (b off : Nat) (us : List Value) (x : ti.ty.T), a.tmps.getD s undef = .pointer (some ⟨b, off, none⟩) → (∀ j u, us[j]? = some u → w.cell? ⟨b, off + j, none⟩ = some u) → RepC (Fall w0 F w) ti.ty us x → ∃ v, (readRes a.tmps (.cell s i)).run P w = .ok v w ∧ RepV (Fall w0 F w) ti.ty v x := by
      intro b off us x h1 h2 h3
      obtain ⟨v, h4, h5⟩ := load_rep (P := P) (w := w) hti h2 h3
      exact ⟨v, by simp only [readRes, h1, asAddr, Sem.run_bind, Sem.run_pure, Result.andThen_ok, h4], h5⟩
    unfold loadR at hy
    split at hy
    · rename_i t' x' he
      obtain ⟨e1, rfl⟩ := castT_some hy
      subst e1
      rw [he] at hs
      obtain ⟨b, off, us, k1, k2, k3⟩ := hs
      exact key b off us _ k1 (fun j u hj => h.st.sub _ _ (k2 j u hj)) (k3.mono (fall_sub h.st).1)
    · rename_i k off he
      rw [he] at hs
      split at hy <;> try (simp at hy; done)
      rename_i cs hM
      rw [dropL_eq] at hy
      split at hy <;> simp only [Option.some.injEq, reduceCtorEq] at hy
      rename_i p hp
      subst hy
      obtain ⟨b, hρ, hv⟩ := hs
      obtain ⟨b', arr, E, e1, e2, e3, e4, e5, e6⟩ := h.st.obs k _ hM
      rw [hρ] at e1
      simp only [Value.pointer.injEq, Option.some.injEq, Addr.mk.injEq, and_true] at e1
      subst e1
      have hlen : (arr.toList.drop off).length = (cs.drop off).length := by simp [e4]
      have hfl : fromLeafM M ti.ty (cs.drop off) = some (p.1, p.2) := hp
      obtain ⟨k1, k2⟩ := fromLeafM_rep h hlen (fun j c hj => by
        rw [List.getElem?_drop] at hj
        have := e6 _ c hj
        simpa [List.getD_eq_getElem?_getD, List.getElem?_drop, Array.getD_eq_getD_getElem?] using this) hfl
      refine key b off _ _ hv (fun j u hj => ?_) k1
      obtain ⟨k3, k4⟩ := seg_get hj
      rw [cell_of_row w b (off + j) arr E (0, 0) e3]
      simpa using k3
    · simp at hy
theorem resT_run (hT : tabB P cx.T = true) {ρ : Nat → Value} {F : Mem} {e : Env} {M : Mm} {a : Act} {w : World} (h : Rel cx.T cx.nt w0 F0 ρ F e M a w) : ∀ {l : List ResultVar} {b : Ty} {r : b.T}, resT cx.T M e l b = some r → ∃ vs : List Value, (l.mapM (readRes a.tmps)).run P w = .ok vs w ∧ vs.length = l.length ∧ RepV.RepTup (Fall w0 F w) b vs r
  | [], .unit, r, hr => ⟨[], rfl, rfl, rfl⟩
  | rv :: l, .pair x y, r, hr => by
    simp only [resT] at hr
    cases ht : x.isT with
    | true => rw [ht] at hr; simp at hr
    | false =>
      rw [ht] at hr
      simp only [cond_false] at hr
      cases hz : resV cx.T M e x rv with
      | none => rw [hz] at hr; simp at hr
      | some z =>
        rw [hz] at hr
        simp only at hr
        cases hu : resT cx.T M e l y with
        | none => rw [hu] at hr; simp at hr
        | some u =>
          rw [hu] at hr
          simp only [Option.some.injEq] at hr
          subst hr
          obtain ⟨v, v1, v2⟩ := resV_run hT h hz
          obtain ⟨vs, h1, h2, h3⟩ := resT_run hT h hu
          refine ⟨v :: vs, ?_, by simp [h2], _, _, rfl, ?_, h3⟩
          · rw [List.mapM_cons, Sem.run_bind, v1]
            simp only [Result.andThen_ok]
            rw [Sem.run_bind, h1]
            simp only [Sem.run_pure, Result.andThen_ok]
          · cases x with
            | tup b => simp [Ty.isT] at ht
            | _ => exact v2
  | [], .int _, _, hr => by simp [resT] at hr
  | [], .bool, _, hr => by simp [resT] at hr
  | [], .str, _, hr => by simp [resT] at hr
  | [], .sl _, _, hr => by simp [resT] at hr
  | [], .pair _ _, _, hr => by simp [resT] at hr
  | [], .st _, _, hr => by simp [resT] at hr
  | [], .tup _, _, hr => by simp [resT] at hr
  | _ :: _, .unit, _, hr => by simp [resT] at hr
  | _ :: _, .int _, _, hr => by simp [resT] at hr
  | _ :: _, .bool, _, hr => by simp [resT] at hr
  | _ :: _, .str, _, hr => by simp [resT] at hr
  | _ :: _, .sl _, _, hr => by simp [resT] at hr
  | _ :: _, .st _, _, hr => by simp [resT] at hr
  | _ :: _, .tup _, _, hr => by simp [resT] at hr
def resVal : List Value → Value
  | [v] => v
  | vs => .tuple vs.toArray
theorem run_results {tmps : Array Value} {w : World} {fn : Func} {vs : List Value} (hs : (fn.results.toList.mapM (readRes tmps)).run P w = .ok vs w) : (results fn tmps).run P w = .ok (resVal vs) w := by
  have e0 : results fn tmps = (do
      let vs ← fn.results.mapM (readRes tmps)
      pure (if h : vs.size = 1 then vs[0] else .tuple vs)) := rfl
  have e1 : (fn.results.mapM (readRes tmps)).run P w = .ok vs.toArray w := by
    rw [Array.mapM_eq_mapM_toList, Sem.run_map, hs]
    rfl
  rw [e0, Sem.run_bind, e1]
  simp only [Result.andThen_ok, Sem.run_pure]
  rcases vs with _ | ⟨s, _ | ⟨s2, ss⟩⟩
  · rfl
  · rfl
  · simp [resVal]
theorem res_sound (hT : tabB P cx.T = true) {ρ : Nat → Value} {F : Mem} {e : Env} {M : Mm} {a : Act} {w : World} {fn : Func} {t : Ty} {r : t.T} (h : Rel cx.T cx.nt w0 F0 ρ F e M a w) (hr : resA cx.T M e fn.results.toList t = some r) : ∃ v, (results fn a.tmps).run P w = .ok v w ∧ RepV (Fall w0 F w) t v r := by
  have one : res1 cx.T M e t fn.results.toList = some r → ∃ v, (results fn a.tmps).run P w = .ok v w ∧ RepV (Fall w0 F w) t v r := by
    intro hr
    unfold res1 at hr
    split at hr
    · rename_i rv hs
      obtain ⟨v, v1, v2⟩ := resV_run hT h hr
      refine ⟨v, run_results (vs := [v]) ?_, v2⟩
      rw [hs, List.mapM_cons, Sem.run_bind, v1]
      rfl
    · simp at hr
  cases t with
  | tup b =>
    simp only [resA] at hr
    split at hr
    · simp at hr
    · rename_i hnot
      obtain ⟨vs, h1, h2, h3⟩ := resT_run hT h hr
      refine ⟨_, run_results h1, ?_⟩
      rcases vs with _ | ⟨s, _ | ⟨s2, ss⟩⟩
      · exact ⟨_, rfl, h3⟩
      · exfalso
        match hfr : fn.results.toList, h2 with
        | [x], _ => exact hnot x hfr
      · exact ⟨_, rfl, h3⟩
  | unit => simp [resA] at hr
  | pair x y => simp [resA] at hr
  | _ => exact one hr
/-- a function's contract, from what is shown of its text -/
theorem callP_of {f : FuncId} {fn : Func} {args : List AV} {rt : Ty} {r : rt.T} (hm : P.follows .mixedOrders = true) (hT : tabB P cx.T = true) (hf : P.funcs[f]? = some fn) (hen : Enters P f) (hn : fn.ntmps = cx.nt) (hl : Nat.ble args.length cx.nt = true)
    (h : wfL args → vcFn P cx fn args rt fun x => x = r) : CallP P cx.T f args rt r := by
  refine ⟨hen, fun F w vs hg hs hr => ?_⟩
  have hv := h (wfL_rep hr)
  unfold vcFn at hv
  cases hb : fn.body with
  | none => rw [hb] at hv; exact hv.elim
  | some c =>
    rw [hb] at hv
    simp only at hv
    have hle := Nat.le_of_ble_eq_true hl
    let a0 : Act := { tmps := vs.toArray ++ Array.replicate (fn.ntmps - vs.toArray.size) undef, defers := [] }
    have hrel : Rel cx.T cx.nt w F (fun _ => undef) F (argsE args) (fun _ => none) a0 w := by
      refine ⟨⟨Below.refl _ _, hs, Sub.refl _, fun x u h1 h2 => (by rw [h1] at h2; simp at h2), fun k o hk => (by simp at hk), fun k o b hk => (by simp at hk), fun k k' o o' b hk => (by simp at hk)⟩, fun t => ?_, ?_, rfl, hg⟩
      · rw [argsE_at]
        cases ht : args[t]? with
        | none => trivial
        | some x =>
          have := hr.2 t x ht
          have hlt : t < vs.length := by rw [hr.1]; exact (List.getElem?_eq_some_iff.1 ht).1
          have e1 : a0.tmps.getD t undef = vs.getD t undef := by
            simp [a0, Array.getD_eq_getD_getElem?, Array.getElem?_append, hlt]
          rw [e1]
          exact this
      · have := hr.1
        simp [a0]; omega
    refine calls_of_wp hf hb (wp_mono (code_sound hm hT c _ _ F _ _ a0 w hrel hv) ?_)
    intro ex a' w' hq
    have fin : ∀ {K : Env → Mm → Prop}, (∀ e M, K e M → ∃ x, resA cx.T M e fn.results.toList rt = some x ∧ x = r) → Lift cx.T cx.nt w F (modC c) (namC cx c) (fun _ => undef) F a0 K a' w' →
        a'.defers = [] ∧ ∃ v, (results fn a'.tmps).run P w' = .ok v w' ∧ ∃ v' F', Ending.returned v = .returned v' ∧ Below w.heap.size w w' ∧ Sub F F' ∧ Sub F' w'.cell? ∧ (∀ a u, F' a = some u → F a = none → w.heap.size ≤ a.block) ∧ RepV F' rt v' r := by
      rintro K hK ⟨ρ', F', e', M', r1, _, k⟩
      obtain ⟨x, hx, rfl⟩ := hK _ _ k
      obtain ⟨v, h1, h2⟩ := res_sound (P := P) (fn := fn) hT r1 hx
      have h3 := fall_sub r1.st
      exact ⟨r1.defs, v, h1, v, _, rfl, r1.st.below, r1.st.sub0.trans h3.1, h3.2.1, h3.2.2, h2⟩
    have split_ : ∀ e M, (match resA cx.T M e fn.results.toList rt with | some x => x = r | none => False) → ∃ x, resA cx.T M e fn.results.toList rt = some x ∧ x = r := by
      intro e M hk
      split at hk
      · rename_i x hx; exact ⟨x, hx, hk⟩
      · exact hk.elim
    cases ex with
    | normal => exact fin split_ hq
    | ret => exact fin split_ hq
    | exit n => obtain ⟨_, _, _, _, _, _, k⟩ := hq; exact k.elim
    | goto l => exact hq.elim
    | panic ch => exact hq.elim
    | outgrown => exact hq.elim
end
end Go.Proofs.Ytohglckebkgbpaa
