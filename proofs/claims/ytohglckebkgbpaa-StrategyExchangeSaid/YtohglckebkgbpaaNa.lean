/-
  A function's text on plain data: its end.
-/
import Derived.Test.YtohglckebkgbpaaUz
import Derived.RangeFuncLeaves
namespace Go.Proofs.Ytohglckebkgbpaa
open Go.RowKit

/-- a result variable, read -/
def readRes (tmps : Array Value) : ResultVar → Sem Value
  | .tmp t => pure (tmps.getD t undef)
  | .cell a t => do loadVar t (← asAddr (tmps.getD a undef))
def resVal : List Value → Value
  | [v] => v
  | vs => .tuple vs.toArray
section
variable {P : Program} {T : Tab} {B : Bx} {ρ : Nat → Value} {F : Mem} {e : Env} {M : Mm} {w : World} {tmps : Array Value}
theorem run_results {fn : Func} {vs : List Value} (hs : (fn.results.toList.mapM (readRes tmps)).run P w = .ok vs w) : (results fn tmps).run P w = .ok (resVal vs) w := by
  have e0 : results fn tmps = (do
      let vs ← fn.results.mapM (readRes tmps)
      pure (if h : vs.size = 1 then vs[0] else .tuple vs)) := rfl
  have e1 : (fn.results.mapM (readRes tmps)).run P w = .ok vs.toArray w := by
    rw [Array.mapM_eq_mapM_toList, Sem.run_map, hs]
    rfl
  rw [e0, Sem.run_bind, e1]
  simp only [Result.andThen_ok, Sem.run_pure]
  rcases vs with _ | ⟨s, _ | ⟨s2, ss⟩⟩
  · rfl
  · rfl
  · simp [resVal]
theorem resA1_run (hT : tabB P T = true) (st : St B ρ F M w) (henv : ∀ t, RepA ρ F (e t) (tmps.getD t undef)) {rv : ResultVar} {x : AV} (hr : resA1 T M e rv = some x) : ∃ v, (readRes tmps rv).run P w = .ok v w ∧ RepA ρ F x v := by
  cases rv with
  | tmp s =>
    simp only [resA1] at hr
    refine ⟨tmps.getD s undef, rfl, ?_⟩
    have := henv s
    split at hr <;> simp only [Option.some.injEq, reduceCtorEq] at hr
    rw [← hr]
    exact this
  | cell s i =>
    simp only [resA1] at hr
    split at hr <;> try (simp at hr; done)
    rename_i τ hτ
    obtain ⟨b, off, u, h1, h2, h3⟩ := load_run hT st (henv s) hτ hr
    exact ⟨u, by simp only [readRes, h1, asAddr, Sem.run_bind, Sem.run_pure, Result.andThen_ok, h2], h3⟩
theorem resAs_run (hT : tabB P T = true) (st : St B ρ F M w) (henv : ∀ t, RepA ρ F (e t) (tmps.getD t undef)) : ∀ {l : List ResultVar} {xs : List AV}, resAs T M e l = some xs → ∃ vs : List Value, (l.mapM (readRes tmps)).run P w = .ok vs w ∧ vs.length = xs.length ∧ ∀ (j : Nat) (x : AV), xs[j]? = some x → RepA ρ F x (vs.getD j undef)
  | [], xs, hr => by simp only [resAs, Option.some.injEq] at hr; subst hr; exact ⟨[], rfl, rfl, by simp⟩
  | rv :: l, xs, hr => by
    simp only [resAs] at hr
    split at hr <;> try (simp at hr; done)
    rename_i x hx
    split at hr <;> simp only [Option.some.injEq, reduceCtorEq] at hr
    rename_i ys hys
    subst hr
    obtain ⟨v, v1, v2⟩ := resA1_run hT st henv hx
    obtain ⟨vs, h1, h2, h3⟩ := resAs_run hT st henv hys
    refine ⟨v :: vs, ?_, by simp [h2], fun j y hj => ?_⟩
    · rw [List.mapM_cons, Sem.run_bind, v1]
      simp only [Result.andThen_ok]
      rw [Sem.run_bind, h1]
      simp only [Sem.run_pure, Result.andThen_ok]
    · cases j with
      | zero => simp at hj; subst hj; exact v2
      | succ j => simpa using h3 j y (by simpa using hj)
theorem resAV_run (hT : tabB P T = true) (st : St B ρ F M w) (henv : ∀ t, RepA ρ F (e t) (tmps.getD t undef)) {fn : Func} {x : AV} (hr : resAV T M e fn.results.toList = some x) : ∃ v, (results fn tmps).run P w = .ok v w ∧ RepA ρ F x v := by
  unfold resAV at hr
  split at hr
  · rename_i y hy
    simp only [Option.some.injEq] at hr
    subst hr
    obtain ⟨vs, h1, h2, h3⟩ := resAs_run hT st henv hy
    rcases vs with _ | ⟨s, _ | ⟨s2, ss⟩⟩
    · simp at h2
    · exact ⟨_, run_results h1, by simpa [resVal] using h3 0 y rfl⟩
    · simp at h2
  · rename_i l hl hs
    split at hr <;> simp only [Option.some.injEq, reduceCtorEq] at hr
    rename_i cs hcs
    subst hr
    have := capsA_len hcs
    subst this
    obtain ⟨vs, h1, h2, h3⟩ := resAs_run hT st henv hs
    have hne : resVal vs = .tuple vs.toArray := by
      rcases vs with _ | ⟨s, _ | ⟨s2, ss⟩⟩
      · rfl
      · exfalso
        rw [avs_len] at h2
        cases cs with
        | nil => simp at h2
        | cons c cs =>
          cases cs with
          | nil => exact hl _ rfl
          | cons _ _ => simp at h2
      · rfl
    refine ⟨_, run_results h1, vs, hne, by rw [h2, avs_len], fun j c hc => ?_⟩
    have : RepA ρ F (.c c) (vs.getD j undef) := h3 j (.c c) (by rw [avs_get, hc]; rfl)
    exact this
  · simp at hr
theorem resAs_uses {h : Nat} (he : ∀ t, (e t).uses h = false) (hM : ∀ k o, M k = some o → o.uses h = false) : ∀ {l : List ResultVar} {xs : List AV}, resAs T M e l = some xs → ∀ x ∈ xs, x.uses h = false
  | [], xs, hr => by simp only [resAs, Option.some.injEq] at hr; subst hr; simp
  | rv :: l, xs, hr => by
    simp only [resAs] at hr
    split at hr <;> try (simp at hr; done)
    rename_i x hx
    split at hr <;> simp only [Option.some.injEq, reduceCtorEq] at hr
    rename_i ys hys
    subst hr
    intro y hy
    rcases List.mem_cons.1 hy with rfl | hy
    · cases rv with
      | tmp s =>
        simp only [resA1] at hx
        have := he s
        split at hx <;> simp only [Option.some.injEq, reduceCtorEq] at hx
        rw [← hx]
        exact this
      | cell s i =>
        simp only [resA1] at hx
        split at hx <;> try (simp at hx; done)
        exact load_uses hM hx
    · exact resAs_uses he hM hys y hy
theorem resAV_uses {h : Nat} (he : ∀ t, (e t).uses h = false) (hM : ∀ k o, M k = some o → o.uses h = false) {l : List ResultVar} {x : AV} (hr : resAV T M e l = some x) : x.uses h = false := by
  unfold resAV at hr
  split at hr
  · rename_i y hy
    simp only [Option.some.injEq] at hr
    subst hr
    exact resAs_uses he hM hy y (by simp)
  · rename_i l hl hs
    split at hr <;> simp only [Option.some.injEq, reduceCtorEq] at hr
    rename_i cs hcs
    subst hr
    simp only [AV.uses, List.any_eq_false]
    intro c hc
    have := capsA_uses hcs (resAs_uses he hM hs) c hc
    simp [this]
  · simp at hr
theorem killL_cons (M : Mm) (k : Nat) (l : List Nat) : ∀ h o, killL M (k :: l) h = some o → killL (killM M (some k)) l h = some o := by
  intro h o hk
  obtain ⟨h1, h2⟩ := killL_some hk
  simp only [List.mem_cons, not_or] at h2
  rw [killL_out h2.2]
  simp only [killM]
  have : Nat.beq h k = false := by cases hq : Nat.beq h k; rfl; exact absurd (Nat.eq_of_beq_eq_true hq) h2.1
  rw [this]
  exact h1
/-- the marks among the deferred calls are come to -/
theorem marks_run {n : Nat} {fn : Func} {R : Ending → World → Prop} : ∀ {df : List Nat} {M : Mm} {w : World}, St B ρ F M w → dfrB M df = true → distinctB df = true →
    (∀ w', St B ρ F (killL M df) w' → ∃ v, (results fn tmps).run P w' = .ok v w' ∧ R (.returned v) w') → LeavesInM (Fw none) n P fn tmps R (df.map (mark ρ)) .returning w
  | [], M, w, st, _, _, h => h w (st.drop fun k o hk => (killL_some hk).1)
  | k :: df, M, w, st, hd, hq, h => by
    simp only [dfrB, Bool.and_eq_true] at hd
    simp only [distinctB, Bool.and_eq_true, Bool.not_eq_true'] at hq
    have hk : M k = some .dfr := by
      have := hd.1
      split at this
      · assumption
      · simp at this
    obtain ⟨b, h1, h2⟩ := st.obs k _ hk
    have hb : blk (ρ k) = some b := by rw [h1]; rfl
    have hkm : memB df k = false := hq.1
    refine ⟨by simp, .inl ⟨b, w.putObj b (.deferred none), by simp [mark, h1], run_takeDeferred h2, ?_⟩⟩
    have st1 : St B ρ F (killM M (some k)) (w.putObj b (.deferred none)) := by
      refine st.grow (row := some b) (grownBy_putObj' w _ _) (fun c hc => ?_) fun j o hj => ?_
      · cases hc; exact ⟨st.mine k _ _ hk hb, st.apart k _ _ hk hb⟩
      · simp only [killM] at hj
        cases hq : Nat.beq j k with
        | true => rw [hq] at hj; simp at hj
        | false =>
          rw [hq] at hj
          exact ⟨hj, .inr fun e => beq_ne hq (st.inj j k _ _ _ hj hk e hb)⟩
    refine marks_run st1 ?_ hq.2 fun w' st' => h w' (st'.drop fun j o hj => killL_cons M k df j o hj)
    have : ∀ {l : List Nat}, dfrB M l = true → memB l k = false → dfrB (killM M (some k)) l = true := by
      intro l
      induction l with
      | nil => intro _ _; rfl
      | cons j l ih =>
        intro h1 h2
        simp only [dfrB, Bool.and_eq_true] at h1 ⊢
        have h3 : Nat.beq j k = false ∧ memB l k = false := by
          have : ¬ k ∈ j :: l := fun hc => by rw [memB_mem.2 hc] at h2; simp at h2
          simp only [List.mem_cons, not_or] at this
          refine ⟨?_, ?_⟩
          · cases hq : Nat.beq j k; rfl; exact absurd (Nat.eq_of_beq_eq_true hq).symm this.1
          · cases hq : memB l k; rfl; exact absurd (memB_mem.1 hq) this.2
        refine ⟨?_, ih h1.2 h3.2⟩
        have := h1.1
        simp only [killM, h3.1, cond_false]
        exact this
    exact this hd.2 hkm
theorem argsE_at : ∀ (l : List AV) (t : Nat), argsE l t = (l[t]?).getD .any
  | [], t => by simp [argsE]
  | a :: l, 0 => rfl
  | a :: l, t + 1 => by simp [argsE, argsE_at l t]
theorem enter_env {args : List AV} {vs : List Value} {m : Nat} (hl : vs.length = args.length) (hr : ∀ j x, args[j]? = some x → RepA ρ F x (vs.getD j undef)) (t : Nat) : RepA ρ F (argsE args t) ((vs.toArray ++ Array.replicate (m - vs.toArray.size) undef).getD t undef) := by
  rw [argsE_at]
  cases ht : args[t]? with
  | none => trivial
  | some x =>
    have := hr t x ht
    have hlt : t < vs.length := by rw [hl]; exact (List.getElem?_eq_some_iff.1 ht).1
    have e1 : (vs.toArray ++ Array.replicate (m - vs.toArray.size) undef).getD t undef = vs.getD t undef := by
      simp [Array.getD_eq_getD_getElem?, Array.getElem?_append, hlt]
    rw [e1]
    exact this
theorem argsE_uses {args : List AV} {k : Nat} (h : ∀ x ∈ args, x.uses k = false) (t : Nat) : (argsE args t).uses k = false := by
  rw [argsE_at]
  cases ht : args[t]? with
  | none => rfl
  | some x => exact h x (List.mem_of_getElem? ht)
end
end Go.Proofs.Ytohglckebkgbpaa
