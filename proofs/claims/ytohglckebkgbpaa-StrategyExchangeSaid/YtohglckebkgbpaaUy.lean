/-
  A function's text on plain data: what is shown of it is so in the machine (loops over functions, the whole text).
-/
import Derived.Test.YtohglckebkgbpaaUx
import Derived.RangeFuncOwn
import Derived.RangeFuncRecord
namespace Go.Proofs.Ytohglckebkgbpaa
open Go.RowKit

/-- other loops over functions around -/
def Bx.withL (B : Bx) (k : Nat) (i : LInfo) : Bx := { B with LC := fun j => bif Nat.beq j k then some i else B.LC j }
section
variable {B : Bx} {ρ : Nat → Value} {F : Mem} {M : Mm} {w : World}
theorem withL_at (B : Bx) (k : Nat) (i : LInfo) : (B.withL k i).LC k = some i := by simp [Bx.withL, Nat.beq_refl]
theorem withL_other (B : Bx) {k j : Nat} (i : LInfo) (h : j ≠ k) : (B.withL k i).LC j = B.LC j := by
  have : Nat.beq j k = false := by cases hq : Nat.beq j k; rfl; exact absurd (Nat.eq_of_beq_eq_true hq) h
  simp [Bx.withL, this]
theorem ObR.withL {k : Nat} {i : LInfo} {h : Nat} {r : Value} {o : Ob} (hk : ∀ j, o = .lp j → h ≠ k) (x : ObR B ρ F w h r o) : ObR (B.withL k i) ρ F w h r o := by
  cases o with
  | lp j =>
    obtain ⟨b, info, tmps, D, e1, e2, e3⟩ := x
    exact ⟨b, info, tmps, D, e1, by rw [withL_other B i (hk j rfl)]; exact e2, e3⟩
  | _ => exact x
theorem ObR.offL {k : Nat} {i : LInfo} {h : Nat} {r : Value} {o : Ob} (hk : h ≠ k) (x : ObR (B.withL k i) ρ F w h r o) : ObR B ρ F w h r o := by
  cases o with
  | lp j =>
    obtain ⟨b, info, tmps, D, e1, e2, e3⟩ := x
    exact ⟨b, info, tmps, D, e1, by rw [withL_other B i hk] at e2; exact e2, e3⟩
  | _ => exact x
theorem St.withL {k : Nat} {i : LInfo} (hk : ∀ h j, M h = some (.lp j) → h ≠ k) (s : St B ρ F M w) : St (B.withL k i) ρ F M w :=
  ⟨s.os, s.tape, s.output, s.size, s.zlt, s.old, s.sub, s.sub0, s.new, fun h o ho => (s.obs h o ho).withL fun j e => hk h j (e ▸ ho), s.mine, s.apart, s.inj⟩
theorem St.offL {k : Nat} {i : LInfo} (hk : M k = none) (s : St (B.withL k i) ρ F M w) : St B ρ F M w :=
  ⟨s.os, s.tape, s.output, s.size, s.zlt, s.old, s.sub, s.sub0, s.new, fun h o ho => (s.obs h o ho).offL fun e => by subst e; rw [hk] at ho; simp at ho, s.mine, s.apart, s.inj⟩
theorem usesL_off {k h j : Nat} {i : LInfo} (hk : B.LC k = none) (u : B.usesL h j) : (B.withL k i).usesL h j := by
  obtain ⟨info, e1, e2⟩ := u
  exact ⟨info, by rw [withL_other B i fun e => by subst e; rw [hk] at e1; simp at e1]; exact e1, e2⟩
theorem usesL_with {k h j : Nat} {i : LInfo} (u : (B.withL k i).usesL h j) : B.usesL h j ∨ (j = k ∧ ∃ t, (i.e t).uses h = true) := by
  obtain ⟨info, e1, t, e2⟩ := u
  by_cases e : j = k
  · subst e
    rw [withL_at] at e1
    cases e1
    exact .inr ⟨rfl, t, e2⟩
  · rw [withL_other B i e] at e1
    exact .inl ⟨info, e1, t, e2⟩
theorem St.alloc (s : St B ρ F M w) (o : Obj) : St B ρ F M (w.alloc o) := s.grow (row := none) (World.grownBy_alloc w o none) (by simp) fun h o ho => ⟨ho, .inl rfl⟩
theorem St.lt (s : St B ρ F M w) {h : Nat} {o : Ob} {b : Nat} (ho : M h = some o) (hb : blk (ρ h) = some b) : b < w.heap.size := (s.obs h o ho).lt b hb
theorem St.fresh (s : St B ρ F M w) : ¬ B.Z w.heap.size ∧ (∀ a u, F a = some u → a.block ≠ w.heap.size) ∧ ∀ h o, M h = some o → blk (ρ h) ≠ some w.heap.size := by
  refine ⟨fun hz => ?_, fun a u hu e => ?_, fun h o ho hb => ?_⟩
  · have := s.zlt _ hz; have := s.size; omega
  · have := s.sub a u hu
    simp only [World.cell?, e] at this
    rw [Array.getElem?_eq_none (Nat.le_refl _)] at this
    simp at this
  · have := s.lt ho hb; omega
end
section
variable {P : Program} {cx : Cx} {H : Hnd} {lc : LCs} {fx : Fx} {B : Bx} {ro : Option Nat} {ρ : Nat → Value} {F : Mem} {a : Act} {w : World} {s : VS} {wr : Nat → Bool}
/-- a loop over a function -/
theorem range_run (hH : HOk P cx.T H) (hen : ∀ f, f ∈ cx.inl → Enters P f) (hlc : LcOk lc B) {f : Operand} {ps : Array Tmp} {asg body : Code} {Q : XE → VS → Prop} (h : Rel cx.T fx.nt B s.df ρ F s.e s.M a w) (hfree : ∀ k, s.n ≤ k → NoN B s.df s.e s.M k) (hv : vcCode P cx H lc { fx with rd := false } (.rangeFunc f ps asg body) wr Q s) :
    (Code.rangeFunc f ps asg body).wpIn (Fw none) 0 P (LiftX cx.T fx.nt B [] s wr ρ F a Q) a w := by
  simp only [vcCode, cond_false, forceN_eq] at hv
  split at hv <;> try exact hv.elim
  rename_i g caps hf
  cases hm : memB cx.inl g with
  | false => rw [hm] at hv; exact hv.elim
  | true =>
  rw [hm] at hv
  simp only [cond_true] at hv
  obtain ⟨l1, l2, l3, l4⟩ := low_of hfree
  have hfv := h.ev f
  rw [hf] at hfv
  obtain ⟨cv, e1, e2⟩ := hfv
  have hcu : ∀ k, (∀ t, (s.e t).uses k = false) → ∀ c ∈ caps, c.uses k = false := by
    intro k hk c hc
    have := ev_uses (T := cx.T) hk f
    rw [hf] at this
    simp only [AV.uses, List.any_eq_false] at this
    simpa using this c hc
  refine wpIn_rangeFunc fun fn _ => ?_
  let info : LInfo := { fn := fn, e := s.e, nt := fx.nt, ps := ps.toList, asg := asg, body := body }
  let B' : Bx := B.withL s.n info
  let w1 : World := w.alloc (.deferred (some []))
  let w2 : World := w1.alloc (.loop { state := .ready, pending := none, fn := fn, tmps := a.tmps, params := ps, assign := asg, body := body, defers := w.heap.size })
  let ρ1 : Nat → Value := upd ρ (s.n + 1) (.chan (some w.heap.size))
  let ρ2 : Nat → Value := upd ρ1 s.n (.func (.yield w1.heap.size) #[] #[])
  have o1 : ∀ k, k < s.n → ρ2 k = ρ k := fun k hk => by
    simp only [ρ2, ρ1]
    rw [upd_other _ _ _ k (by omega), upd_other _ _ _ k (by omega)]
  have hd : NoN B s.df s.e s.M (s.n + 1) := hfree _ (by omega)
  have hl : NoN B s.df s.e s.M s.n := hfree _ (by omega)
  have s1 : St B ρ1 F (upd s.M (s.n + 1) (some .dfr)) w1 := by
    refine (h.st.alloc _).add (s.n + 1) _ _ hd.nam ⟨w.heap.size, rfl, World.alloc_heap_new w _⟩ fun b hb => ?_
    simp only [blk, Option.some.injEq] at hb
    subst hb
    exact h.st.fresh
  have s2 : St B' ρ2 F (upd (upd s.M (s.n + 1) (some .dfr)) s.n (some (.lp none))) w2 := by
    have s1' : St B' ρ1 F (upd s.M (s.n + 1) (some .dfr)) w1 := s1.withL fun k j hk e => by
      subst e
      rw [upd_other _ _ _ s.n (by omega), hl.nam.nom] at hk
      simp at hk
    refine (s1'.alloc _).add2 s.n _ _ ?_ ?_ ?_ fun b hb => ?_
    · intro k o hk
      by_cases e : k = s.n + 1
      · subst e
        rw [upd_self] at hk
        cases hk
        rfl
      · rw [upd_other _ _ _ k e] at hk
        exact hl.nam.obs k o hk
    · intro k hu
      rcases usesL_with hu with hu | ⟨rfl, t, hu⟩
      · exact hl.nam.lc k hu
      · have := hl.env t
        simp only [info] at hu
        rw [this] at hu
        simp at hu
    · refine ⟨w1.heap.size, info, a.tmps, w.heap.size, rfl, withL_at B s.n info, ?_, h.size, fun t => ?_⟩
      · show (w1.alloc _).heap[w1.heap.size]? = _
        rw [World.alloc_heap_new]
        simp [info, lstate]
      · exact (h.env t).agree fun k hk => o1 k (l1 t k hk)
    · simp only [blk, Option.some.injEq] at hb
      subst hb
      exact s1'.fresh
  have hus : ∀ k, k ≠ s.n → (∀ t, (s.e t).uses k = false) → ∀ x ∈ (AV.hs s.n :: avs caps), x.uses k = false := by
    intro k hne hk x hx
    rcases List.mem_cons.1 hx with rfl | hx
    · show Nat.beq s.n k = false
      cases hq : Nat.beq s.n k; rfl; exact absurd (Nat.eq_of_beq_eq_true hq).symm hne
    · obtain ⟨c, hc, rfl⟩ := avs_mem hx
      exact hcu k hk c hc
  have hnm : ∀ k, k ≠ s.n → k ≠ s.n + 1 → NoN B s.df s.e s.M k → NoName B' (upd (upd s.M (s.n + 1) (some .dfr)) s.n (some (.lp none))) k := by
    intro k h1 h2 hN
    refine ⟨by rw [upd_other _ _ _ k h1, upd_other _ _ _ k h2]; exact hN.nam.nom, fun j o hj => ?_, fun j hu => ?_, by rw [withL_other B info h1]; exact hN.nam.lh⟩
    · by_cases e : j = s.n
      · subst e; rw [upd_self] at hj; cases hj; rfl
      · rw [upd_other _ _ _ j e] at hj
        by_cases e' : j = s.n + 1
        · subst e'; rw [upd_self] at hj; cases hj; rfl
        · rw [upd_other _ _ _ j e'] at hj; exact hN.nam.obs j o hj
    · rcases usesL_with hu with hu | ⟨rfl, t, hu⟩
      · exact hN.nam.lc j hu
      · simp only [info] at hu
        rw [hN.env t] at hu
        simp at hu
  have hlc' : LcOk ((s.n, { fn := fx.f, e := s.e, nt := fx.nt, ps := ps.toList, asg := asg, body := body }) :: lc) B' := by
    intro k i hk
    simp only [look] at hk
    cases hq : Nat.beq s.n k with
    | true =>
      have := Nat.eq_of_beq_eq_true hq
      subst this
      rw [hq] at hk
      simp only [cond_true, Option.some.injEq] at hk
      subst hk
      exact ⟨fn, withL_at B s.n info⟩
    | false =>
      rw [hq] at hk
      obtain ⟨fn', hf'⟩ := hlc k i hk
      exact ⟨fn', by rw [withL_other B info (beq_ne hq).symm]; exact hf'⟩
  have hcall := hH.fn hv (B := B') (ρ := ρ2) (F := F) (w := w2) (vs := .func (.yield w1.heap.size) #[] #[] :: cv) hlc' s2 h.glob
    (fun k hk => ⟨hnm k (by omega) (by omega) (hfree k (by omega)), hus k (by omega) (hfree k (by omega)).env⟩) (by simp [e2.1, avs_len]) (fun j x hj => by
      cases j with
      | zero => simp at hj; subst hj; show _ = ρ2 s.n; simp [ρ2, upd_self]
      | succ j =>
        simp only [List.getElem?_cons_succ, avs_get] at hj
        cases hc : caps[j]? with
        | none => rw [hc] at hj; simp at hj
        | some c =>
          rw [hc] at hj
          simp only [Option.map_some, Option.some.injEq] at hj
          subst hj
          have hcm := List.mem_of_getElem? hc
          have : RepCap ρ2 F c (cv.getD j undef) := (e2.2 j c hc).agree fun k hk => o1 k (by
            rcases Nat.lt_or_ge k s.n with hlt | hge
            · exact hlt
            · rw [hcu k (hfree k hge).env c hcm] at hk; simp at hk)
          simpa using (show RepA ρ2 F (.c c) _ from this))
  have hsz : w1.heap.size = w.heap.size + 1 := by simp [w1]
  refine ⟨w1.heap.size, [{ target := .collected w.heap.size, args := #[] }], w2, { target := .fn (.func g) cv.toArray, args := #[.func (.yield w1.heap.size) #[] #[]] }, w2, g, (.func (.yield w1.heap.size) #[] #[] :: cv).toArray, w2, ?_, ?_, fun _ _ => trivial, ?_, fun hh => by simp [Fence.wide] at hh, trivial, fun cs hroom => ?_⟩
  · rw [hsz]; exact run_enterLoop_outer fn a.tmps ps asg body
  · simp only [rangeCall, resolve, e1, Deferred.ofValue, Sem.run_bind, Sem.run_pure, Result.andThen_ok]
    simp [Act.eval]
  · have := (hen g (memB_mem.1 hm)).out (#[.func (.yield w1.heap.size) #[] #[]] ++ cv.toArray) w2
    have e4 : #[Value.func (.yield w1.heap.size) #[] #[]] ++ cv.toArray = (Value.func (.yield w1.heap.size) #[] #[] :: cv).toArray := by
      apply Array.ext'
      simp
    simp only [invoke]
    rw [e4] at this ⊢
    exact this
  · obtain ⟨en, w3, fr, k1, k2, k3, k4⟩ := hcall.2 cs hroom
    refine ⟨en, w3, fr, ?_, k2, k3, k4⟩
    obtain ⟨v, x, ρ', F', M', n', rfl, r1, r2, r3, r4, r5, r6, r7, r8⟩ := k1
    -- the loop's record
    have hrec : ∃ j, M' s.n = some (.lp j) ∧ (match (Option.map Item.code j) with | _ => True) := by
      split at r8 <;> first | exact r8.elim | exact ⟨_, ‹_›, trivial⟩
    obtain ⟨j, hj, _⟩ := hrec
    obtain ⟨b, info', tmps, D, q1, q2, q3, q4, q5⟩ := r2.obs s.n _ hj
    have hρn : ρ' s.n = .func (.yield w1.heap.size) #[] #[] := by rw [r4 s.n (by omega)]; simp [ρ2, upd_self]
    rw [hρn] at q1
    simp only [Value.func.injEq, Fn.yield.injEq, and_self, and_true] at q1
    subst q1
    have hbn : blk (ρ' s.n) = some w1.heap.size := by rw [hρn]; rfl
    let w4 : World := w3.putObj w1.heap.size (.loop { state := .exhausted, pending := j, fn := info'.fn, tmps := tmps, params := info'.ps.toArray, assign := info'.asg, body := info'.body, defers := D })
    have hend : (Instr.endLoop w1.heap.size).run P w3 = .ok j w4 := run_endLoop q3 (by cases j <;> simp [lstate])
    have s3 : St B' ρ' F' (killM M' (some s.n)) w4 := by
      refine r2.grow (row := some w1.heap.size) (grownBy_putObj' w3 _ _) (fun c hc => ?_) fun k o hk => ?_
      · cases hc; exact ⟨r2.mine s.n _ _ hj hbn, r2.apart s.n _ _ hj hbn⟩
      · simp only [killM] at hk
        cases hq : Nat.beq k s.n with
        | true => rw [hq] at hk; simp at hk
        | false =>
          rw [hq] at hk
          exact ⟨hk, .inr fun e => beq_ne hq (r2.inj k s.n _ _ _ hk hj e hbn)⟩
    have s4 : St B ρ' F' (killM M' (some s.n)) w4 := s3.offL (by simp [killM, Nat.beq_refl])
    have hlow : ∀ k, k < s.n → ρ' k = ρ k := fun k hk => (r4 k (by omega)).trans (o1 k hk)
    let a' : Act := { a with defers := [{ target := .collected w.heap.size, args := #[] }] ++ a.defers }
    have hrel : Rel cx.T fx.nt B ((s.n + 1) :: s.df) ρ' F' s.e (killM M' (some s.n)) a' w4 := by
      refine ⟨s4, fun t => ((h.env t).agree fun k hk => hlow k (l1 t k hk)).mono r3, h.size, ?_, h.glob⟩
      have hD : ρ' (s.n + 1) = .chan (some w.heap.size) := by
        rw [r4 (s.n + 1) (by omega)]
        simp only [ρ2, ρ1]
        rw [upd_other _ _ _ _ (by omega), upd_self]
      simp only [a', List.map_cons, List.singleton_append, h.defs]
      congr 1
      · simp [mark, hD]
      · exact (mark_agree fun k hk => hlow k (l2 k hk)).symm
    have fin : ∀ K : VS → Prop, K ⟨s.e, killM M' (some s.n), n', (s.n + 1) :: s.df⟩ → LiftS cx.T fx.nt B [] s wr ρ F a K a' w4 := by
      intro K hK
      refine ⟨ρ', F', ⟨s.e, killM M' (some s.n), n', (s.n + 1) :: s.df⟩, hrel, ⟨fun _ _ => rfl, r3, fun k hk => hlow k (by omega)⟩, by show s.n ≤ n'; omega, fun k hk => ?_, fun k hk hw => ?_, hK⟩
      · have hkn : k ≠ s.n := by rcases hk with hk | hk <;> (try have := hk.1) <;> (try simp only at hk) <;> omega
        have hkd : k ≠ s.n + 1 := by rcases hk with hk | hk <;> (try have := hk.1) <;> (try simp only at hk) <;> omega
        have hN : NoN B s.df s.e s.M k := by
          rcases hk with hk | hk
          · exact hfree k (by simp only at hk; omega)
          · exact hk.2
        have hn : NoName B' M' k := by
          refine (r6 k ?_).1
          rcases hk with hk | hk
          · exact .inl hk
          · exact .inr ⟨by omega, hnm k hkn hkd hN, hus k hkn hN.env⟩
        refine ⟨⟨?_, fun i o hi => ?_, hN.nam.lc, hN.nam.lh⟩, hN.env, ?_⟩
        · simp only [killM]
          rw [hn.nom]
          cases Nat.beq k s.n <;> rfl
        · simp only [killM] at hi
          cases hq : Nat.beq i s.n with
          | true => rw [hq] at hi; simp at hi
          | false => rw [hq] at hi; exact hn.obs i o hi
        · simp only [List.mem_cons, not_or]
          exact ⟨hkd, hN.df⟩
      · have hkn : k ≠ s.n := by omega
        have hkd : k ≠ s.n + 1 := by omega
        have hb : Nat.beq k s.n = false := by cases hq : Nat.beq k s.n; rfl; exact absurd (Nat.eq_of_beq_eq_true hq) hkn
        show (bif Nat.beq k s.n then none else M' k) = s.M k
        rw [hb]
        show M' k = s.M k
        rw [r7 k (by omega) hw, upd_other _ _ _ k hkn, upd_other _ _ _ k hkd]
    refine ⟨j, w4, hend, ?_⟩
    split at r8
    · rename_i hj'
      rw [hj'] at hj
      cases hj
      exact fin _ r8
    · rename_i hj'
      rw [hj'] at hj
      cases hj
      exact wpIn_ret (fin _ r8)
    · rename_i id hj'
      rw [hj'] at hj
      cases hj
      exact wpIn_exit (fin _ r8)
    · exact r8.elim
end
end Go.Proofs.Ytohglckebkgbpaa
