/-
  A function's text on plain data: texts that share memory, walked where they stand.
-/
import Derived.Test.YtohglckebkgbpaaNa
namespace Go.Proofs.Ytohglckebkgbpaa
open Go.RowKit

/-- while a round of the loop whose record is block b runs -/
def Bx.around (B : Bx) (b : Nat) (w : World) (F : Mem) : Bx := { Z := fun c => B.Z c ∨ c = b, LC := B.LC, w0 := w, F0 := F }
section
variable {B : Bx} {ρ : Nat → Value} {F : Mem} {M : Mm} {w : World}
theorem St.around {b : Nat} (s : St B ρ F M w) (hb : b < w.heap.size) (hM : ∀ h o, M h = some o → blk (ρ h) ≠ some b) : St (B.around b w F) ρ F M w where
  os := rfl
  tape := rfl
  output := rfl
  size := Nat.le_refl _
  zlt c hc := by
    rcases hc with hc | rfl
    · exact Nat.lt_of_lt_of_le (s.zlt c hc) s.size
    · exact hb
  old _ _ := rfl
  sub := s.sub
  sub0 := Sub.refl _
  new a u h1 h2 := by rw [show (B.around b w F).F0 = F from rfl, h1] at h2; simp at h2
  obs h o ho := by
    have := s.obs h o ho
    cases o <;> exact this
  mine h o c ho hc := by
    rintro (hz | rfl)
    · exact s.mine h o c ho hc hz
    · exact hM h o ho hc
  apart := s.apart
  inj := s.inj
theorem St.back {b : Nat} {F' : Mem} {ρ' : Nat → Value} {M' : Mm} {w' : World} (s : St B ρ F M w) (k : St (B.around b w F) ρ' F' M' w') : St B ρ' F' M' w' where
  os := k.os.trans s.os
  tape := k.tape.trans s.tape
  output := k.output.trans s.output
  size := Nat.le_trans s.size k.size
  zlt := s.zlt
  old c hc := (k.old c (.inl hc)).trans (s.old c hc)
  sub := k.sub
  sub0 := s.sub0.trans k.sub0
  new a u h1 h2 := by
    cases hF : F a with
    | none => exact fun hz => k.new a u h1 hF (.inl hz)
    | some u' => exact s.new a u' hF h2
  obs h o ho := by
    have := k.obs h o ho
    cases o <;> exact this
  mine h o c ho hc hz := k.mine h o c ho hc (.inl hz)
  apart := k.apart
  inj := k.inj
theorem NoName.around {b : Nat} {w : World} {F : Mem} {h : Nat} (n : NoName B M h) : NoName (B.around b w F) M h := ⟨n.nom, n.obs, n.lc, n.lh⟩
theorem NoName.back {b : Nat} {w : World} {F : Mem} {h : Nat} (n : NoName (B.around b w F) M h) : NoName B M h := ⟨n.nom, n.obs, n.lc, n.lh⟩
/-- an object is told again -/
theorem St.readd (s : St B ρ F M w) (h : Nat) (o : Ob) (hM : M h = none) (ho : ObR B ρ F w h (ρ h) o) (hb : ∀ b, blk (ρ h) = some b → ¬ B.Z b ∧ (∀ a u, F a = some u → a.block ≠ b) ∧ ∀ k o, M k = some o → blk (ρ k) ≠ some b) : St B ρ F (upd M h (some o)) w := by
  have e2 := upd_other M h (some o)
  have src : ∀ k o', upd M h (some o) k = some o' → (k = h ∧ o' = o) ∨ (k ≠ h ∧ M k = some o') := fun k o' hk => by
    by_cases e : k = h
    · subst e; rw [upd_self] at hk; cases hk; exact .inl ⟨rfl, rfl⟩
    · rw [e2 k e] at hk; exact .inr ⟨e, hk⟩
  refine ⟨s.os, s.tape, s.output, s.size, s.zlt, s.old, s.sub, s.sub0, s.new, fun k o' hk => ?_, fun k o' b hk hkb => ?_, fun k o' b hk hkb => ?_, fun k k' o1 o2 b h1 h2 b1 b2 => ?_⟩
  · rcases src k o' hk with ⟨rfl, rfl⟩ | ⟨_, hk⟩
    · exact ho
    · exact s.obs k o' hk
  · rcases src k o' hk with ⟨rfl, rfl⟩ | ⟨_, hk⟩
    · exact (hb b hkb).1
    · exact s.mine k o' b hk hkb
  · rcases src k o' hk with ⟨rfl, rfl⟩ | ⟨_, hk⟩
    · exact (hb b hkb).2.1
    · exact s.apart k o' b hk hkb
  · rcases src k o1 h1 with ⟨rfl, rfl⟩ | ⟨_, g1⟩ <;> rcases src k' o2 h2 with ⟨rfl, rfl⟩ | ⟨_, g2⟩
    · rfl
    · exact absurd b2 ((hb b b1).2.2 k' o2 g2)
    · exact absurd b1 ((hb b b2).2.2 k o1 g1)
    · exact s.inj k k' o1 o2 b g1 g2 b1 b2
end
theorem setE_spec {ρ : Nat → Value} {F : Mem} : ∀ {ps : List Nat} {args : List AV} {e e1 : Env} {vs : List Value} {tmps : Array Value}, setE ps args e = some e1 → vs.length = args.length → (∀ j x, args[j]? = some x → RepA ρ F x (vs.getD j undef)) → (∀ p ∈ ps, p < tmps.size) → (∀ t, RepA ρ F (e t) (tmps.getD t undef)) →
    ps.length = args.length ∧ (((ps.zip vs).foldl (fun tmps p => tmps.setIfInBounds p.1 p.2) tmps).size = tmps.size) ∧ (∀ t, RepA ρ F (e1 t) (((ps.zip vs).foldl (fun tmps p => tmps.setIfInBounds p.1 p.2) tmps).getD t undef)) ∧ ∀ k, (∀ t, (e t).uses k = false) → (∀ x ∈ args, x.uses k = false) → ∀ t, (e1 t).uses k = false
  | [], [], e, e1, vs, tmps, h, hl, hr, hp, he => by
    simp only [setE, Option.some.injEq] at h
    subst h
    exact ⟨rfl, rfl, he, fun k h1 _ => h1⟩
  | p :: ps, a :: args, e, e1, vs, tmps, h, hl, hr, hp, he => by
    simp only [setE] at h
    cases vs with
    | nil => simp at hl
    | cons v vs =>
      have hpl : p < tmps.size := hp p (by simp)
      obtain ⟨k1, k2, k3, k4⟩ := setE_spec (vs := vs) (tmps := tmps.setIfInBounds p v) h (by simpa using hl) (fun j x hj => by simpa using hr (j + 1) x (by simpa using hj)) (fun q hq => by simpa using hp q (by simp [hq])) (fun t => by
        simp only [upd]
        rw [Array.getD_eq_getD_getElem?, Array.getElem?_setIfInBounds]
        by_cases ht : p = t
        · subst ht
          simp only [Nat.beq_refl, cond_true, if_true, hpl]
          simpa using hr 0 a rfl
        · have : Nat.beq t p = false := by cases hq : Nat.beq t p; rfl; exact absurd (Nat.eq_of_beq_eq_true hq).symm ht
          rw [this]
          simp only [cond_false, ht, if_false]
          rw [← Array.getD_eq_getD_getElem?]
          exact he t)
      refine ⟨by simp [k1], by simpa using k2, by simpa using k3, fun k h1 h2 => k4 k (fun t => ?_) fun x hx => h2 x (by simp [hx])⟩
      simp only [upd]
      cases Nat.beq t p
      · exact h1 t
      · exact h2 a (by simp)
  | [], _ :: _, _, _, _, _, h, _, _, _, _ => by simp [setE] at h
  | _ :: _, [], _, _, _, _, h, _, _, _, _ => by simp [setE] at h
theorem fold_toList (ps : Array Nat) (vs : Array Value) (tmps : Array Value) : (ps.zip vs).foldl (fun tmps (t, a) => tmps.setIfInBounds t a) tmps = (ps.toList.zip vs.toList).foldl (fun tmps p => tmps.setIfInBounds p.1 p.2) tmps := by
  rw [← Array.foldl_toList, Array.toList_zip]
section
variable {P : Program} {cx : Cx}
theorem hnd_fn (hm : P.follows .mixedOrders = true) (hT : tabB P cx.T = true) (hen : ∀ f, f ∈ cx.inl → Enters P f) {d : Nat} (ih : HOk P cx.T (hnd P cx d)) {lc : LCs} {wr : Nat → Bool} {f : FuncId} {args : List AV} {Post : AV → Mm → Nat → Prop} {M : Mm} {n : Nat} (h : hnd P cx (d + 1) lc wr (.fn f args) Post M n)
    {B : Bx} {ρ : Nat → Value} {F : Mem} {w : World} {vs : List Value} (hlc : LcOk lc B) (st : St B ρ F M w) (hg : GlobOk cx.T B.F0) (hfree : ∀ h, n ≤ h → NoName B M h ∧ ∀ x ∈ args, x.uses h = false) (hl : vs.length = args.length) (hr : ∀ j x, args[j]? = some x → RepA ρ F x (vs.getD j undef)) : CallsIn (Fw none) 0 P f vs.toArray w (HPost B ρ F M n wr args Post) := by
  simp only [hnd] at h
  split at h <;> try exact h.elim
  rename_i fn hf
  split at h <;> try exact h.elim
  rename_i c hb
  cases hc : (Nat.ble (lenL args) fn.ntmps && Nat.blt 0 fn.ntmps && memB cx.inl f) with
  | false => rw [hc] at h; exact h.elim
  | true =>
    rw [hc] at h
    simp only [cond_true] at h
    simp only [Bool.and_eq_true, lenL_eq] at hc
    have hle := Nat.le_of_ble_eq_true hc.1.1
    have hnt := blt_lt hc.1.2
    refine callsIn_of_wp_marks hf hb trivial ?_
    have hrel : Rel cx.T fn.ntmps B [] ρ F (argsE args) M { tmps := vs.toArray ++ Array.replicate (fn.ntmps - vs.toArray.size) undef, defers := [] } w :=
      ⟨st, enter_env hl hr, by simp; omega, rfl, hg⟩
    have hfr : ∀ k, n ≤ k → NoN B [] (argsE args) M k := fun k hk => ⟨(hfree k hk).1, argsE_uses (hfree k hk).2, by simp⟩
    refine wpIn_mono (code_sound (fx := ⟨f, fn.ntmps, false⟩) (B := B) (ro := none) hm hT ih hen hlc hnt (fun _ => rfl) c wr _ ρ F ⟨argsE args, M, n, []⟩ _ w hrel hfr h) ?_
    intro ex a' w' hq
    have fin : LiftS cx.T fn.ntmps B (modC c) ⟨argsE args, M, n, []⟩ wr ρ F { tmps := vs.toArray ++ Array.replicate (fn.ntmps - vs.toArray.size) undef, defers := [] } (fun s => match resAV cx.T (killL s.M s.df) s.e fn.results.toList with | some a => (bif dfrB s.M s.df && distinctB s.df && allB (Nat.ble n) s.df then Post a (killL s.M s.df) s.n else False) | none => False) a' w' →
        LeavesInM (Fw none) 0 P fn a'.tmps (HPost B ρ F M n wr args Post) a'.defers .returning w' := by
      rintro ⟨ρ', F', s', r1, r2, r3, r4, r5, r6⟩
      split at r6 <;> try exact r6.elim
      rename_i x hx
      cases hd : (dfrB s'.M s'.df && distinctB s'.df && allB (Nat.ble n) s'.df) with
      | false => rw [hd] at r6; exact r6.elim
      | true =>
        rw [hd] at r6
        simp only [cond_true] at r6
        simp only [Bool.and_eq_true] at hd
        rw [r1.defs]
        refine marks_run r1.st hd.1.1 hd.1.2 fun w'' st'' => ?_
        obtain ⟨v, v1, v2⟩ := resAV_run (P := P) hT st'' r1.env hx
        refine ⟨v, v1, v, x, ρ', F', _, s'.n, rfl, v2, st'', r2.sub, fun k hk => r2.names k (by simp only; omega), r3, fun k hk => ?_, fun k hk hw => ?_, r6⟩
        · have hN : NoN B s'.df s'.e s'.M k := r4 k (hk.imp (fun q => q) fun q => ⟨q.1, q.2.1, argsE_uses q.2.2, by simp⟩)
          have hNk : NoName B (killL s'.M s'.df) k := by
            refine ⟨?_, fun j o hj => hN.nam.obs j o (killL_some hj).1, hN.nam.lc, hN.nam.lh⟩
            cases hq : killL s'.M s'.df k with
            | none => rfl
            | some o => have := (killL_some hq).1; rw [hN.nam.nom] at this; simp at this
          exact ⟨hNk, resAV_uses hN.env hNk.obs hx⟩
        · rw [killL_out]
          · exact r5 k hk hw
          · intro hkd
            have := Nat.le_of_ble_eq_true (allB_mem hd.2 k hkd)
            omega
    cases ex with
    | normal => exact fin hq
    | ret => exact fin hq
    | exit n => obtain ⟨_, _, _, _, _, _, _, _, k⟩ := hq; exact k.elim
    | goto l => exact hq.elim
    | panic ch => exact hq.elim
    | outgrown => exact hq.elim
theorem hnd_yl (hm : P.follows .mixedOrders = true) (hT : tabB P cx.T = true) (hen : ∀ f, f ∈ cx.inl → Enters P f) {d : Nat} (ih : HOk P cx.T (hnd P cx d)) {lc : LCs} {wr : Nat → Bool} {k : Nat} {args : List AV} {Post : AV → Mm → Nat → Prop} {M : Mm} {n : Nat} (h : hnd P cx (d + 1) lc wr (.yl k args) Post M n)
    {B : Bx} {ρ : Nat → Value} {F : Mem} {w : World} {vs : List Value} (hlc : LcOk lc B) (st : St B ρ F M w) (hg : GlobOk cx.T B.F0) (hfree : ∀ h, n ≤ h → NoName B M h ∧ ∀ x ∈ args, x.uses h = false) (hl : vs.length = args.length) (hr : ∀ j x, args[j]? = some x → RepA ρ F x (vs.getD j undef)) :
    ∃ b r, ρ k = .func (.yield b) #[] #[] ∧ w.heap[b]? = some (.loop r) ∧ vs.length = r.params.size ∧
      RoundIn (Fw none) 0 P b r.fn ((r.params.zip vs.toArray).foldl (fun tmps (t, a) => tmps.setIfInBounds t a) r.tmps) r.assign r.body w (HPost B ρ F M n wr args Post) := by
  simp only [hnd, forceN_eq, lookL_eq] at h
  split at h <;> try exact h.elim
  rename_i i hi
  split at h <;> try exact h.elim
  rename_i e1 he1
  cases hc : (wr k && lpNone M k && allB (fun p => Nat.blt p i.nt) i.ps && Nat.blt 0 i.nt) with
  | false => rw [hc] at h; exact h.elim
  | true =>
  rw [hc] at h
  simp only [cond_true] at h
  simp only [Bool.and_eq_true] at hc
  obtain ⟨⟨⟨hwk, hlp⟩, hps⟩, hnt⟩ := hc
  have hnt := blt_lt hnt
  have hMk : M k = some (.lp none) := by
    unfold lpNone at hlp
    split at hlp
    · assumption
    · simp at hlp
  obtain ⟨b, info, tmps, D, q1, q2, q3, q4, q5⟩ := st.obs k _ hMk
  obtain ⟨fn', hfn⟩ := hlc k i hi
  rw [hfn] at q2
  cases q2
  simp only at q3 q4 q5
  have hbk : blk (ρ k) = some b := by rw [q1]; rfl
  have hkn : k < n := by
    rcases Nat.lt_or_ge k n with h1 | h1
    · exact h1
    · have := (hfree k h1).1.nom; rw [hMk] at this; simp at this
  have hblt : b < w.heap.size := st.lt hMk hbk
  obtain ⟨z1, z2, z3, z4⟩ := setE_spec (ρ := ρ) (F := F) (vs := vs) (tmps := tmps) he1 hl hr (fun p hp => by rw [q4]; exact blt_lt (allB_mem hps p hp)) q5
  have hfold : (i.ps.toArray.zip vs.toArray).foldl (fun tmps (t, a) => tmps.setIfInBounds t a) tmps = (i.ps.zip vs).foldl (fun tmps p => tmps.setIfInBounds p.1 p.2) tmps := by rw [fold_toList]
  refine ⟨b, _, q1, q3, by simp [hl, z1], ?_⟩
  simp only
  rw [hfold]
  refine roundIn_of_wpIn trivial ?_
  -- the assignment to the loop's left sides
  have stk : St B ρ F (killM M (some k)) w := st.drop fun j o hj => by
    simp only [killM] at hj
    cases hq : Nat.beq j k with
    | true => rw [hq] at hj; simp at hj
    | false => rw [hq] at hj; exact hj
  have hkk : ∀ j o, killM M (some k) j = some o → blk (ρ j) ≠ some b := fun j o hj e => by
    simp only [killM] at hj
    cases hq : Nat.beq j k with
    | true => rw [hq] at hj; simp at hj
    | false => rw [hq] at hj; exact beq_ne hq (st.inj j k _ _ _ hj hMk e hbk)
  have st1 := stk.around hblt hkk
  have hgF : GlobOk cx.T F := hg.mono st.sub0
  have nk : ∀ j, NoName B M j → NoName B (killM M (some k)) j := fun j hj => ⟨by simp only [killM]; rw [hj.nom]; cases Nat.beq j k <;> rfl, fun j' o ho => by
    simp only [killM] at ho
    cases hq : Nat.beq j' k with
    | true => rw [hq] at ho; simp at ho
    | false => rw [hq] at ho; exact hj.obs j' o ho, hj.lc, hj.lh⟩
  have hN0 : ∀ j, NoName B M j → (∀ x ∈ args, x.uses j = false) → NoN (B.around b w F) [] e1 (killM M (some k)) j := fun j hj ha => ⟨(nk j hj).around, z4 j (fun t => by
    cases hu : (i.e t).uses j with
    | false => rfl
    | true => exact absurd ⟨_, hfn, t, hu⟩ (hj.lc k)) ha, by simp⟩
  have hrel : Rel cx.T i.nt (B.around b w F) [] ρ F e1 (killM M (some k)) { tmps := (i.ps.zip vs).foldl (fun tmps p => tmps.setIfInBounds p.1 p.2) tmps, defers := [] } w := ⟨st1, z3, z2.trans q4, rfl, hgF⟩
  refine wpIn_mono (code_sound (fx := ⟨i.fn, i.nt, true⟩) (B := B.around b w F) (ro := some b) hm hT ih hen hlc hnt (fun hh => by simp at hh) i.asg wr _ ρ F ⟨e1, killM M (some k), n, []⟩ _ w hrel (fun j hj => hN0 j (hfree j hj).1 (hfree j hj).2) h) ?_
  intro ex a1 w1 hq
  cases ex with
  | exit n => obtain ⟨_, _, _, _, _, _, _, _, kk⟩ := hq; exact kk.elim
  | ret => obtain ⟨_, _, _, _, _, _, _, _, kk⟩ := hq; exact kk.elim
  | goto l => exact hq.elim
  | panic ch => exact hq.elim
  | outgrown => exact hq.elim
  | normal =>
    obtain ⟨ρ1, F1, s1, r1, r2, r3, r4, r5, r6⟩ := hq
    simp only at r6
    split at r6 <;> try exact r6.elim
    rename_i hdf
    rw [hdf] at r1 r4
    have hb1 : w1.heap[b]? = w.heap[b]? := r1.st.old b (.inr rfl)
    rw [q3] at hb1
    have sb1 : St B ρ1 F1 s1.M w1 := stk.back r1.st
    have hno1 : ∀ j o, s1.M j = some o → blk (ρ1 j) ≠ some b := fun j o hj e => r1.st.mine j o b hj e (.inr rfl)
    have hF1 : ∀ a u, F1 a = some u → a.block ≠ b := fun a u hu e => by
      cases hF : F a with
      | none => exact r1.st.new a u hu hF (.inr e)
      | some u' => exact st.apart k _ b hMk hbk a u' hF e
    have hzb : ¬ B.Z b := st.mine k _ b hMk hbk
    let w2 : World := w1.putObj b (.loop { state := .busy, pending := none, fn := fn', tmps := tmps, params := i.ps.toArray, assign := i.asg, body := i.body, defers := D })
    refine ⟨w2, run_beginRound hb1 rfl, ?_⟩
    have hlt1 : b < w1.heap.size := (Array.getElem?_eq_some_iff.1 hb1).1
    have sb2 : St B ρ1 F1 s1.M w2 := sb1.grow (row := some b) (grownBy_putObj' w1 _ _) (fun c hc => by cases hc; exact ⟨hzb, hF1⟩) fun j o hj => ⟨hj, .inr (hno1 j o hj)⟩
    have hlt2 : b < w2.heap.size := by simpa [w2] using hlt1
    have st2 := sb2.around hlt2 hno1
    have hN1 : ∀ j, NoN (B.around b w F) [] s1.e s1.M j → NoN (B.around b w2 F1) [] s1.e s1.M j := fun j hj => ⟨hj.nam.back.around, hj.env, hj.df⟩
    have hrel2 : Rel cx.T i.nt (B.around b w2 F1) [] ρ1 F1 s1.e s1.M a1 w2 := ⟨st2, r1.env, r1.size, r1.defs, hgF.mono r1.st.sub0⟩
    have s1df : s1 = ⟨s1.e, s1.M, s1.n, []⟩ := by cases s1; simp only at hdf; subst hdf; rfl
    refine wpIn_mono (code_sound (fx := ⟨i.fn, i.nt, true⟩) (B := B.around b w2 F1) (ro := some b) hm hT ih hen hlc hnt (fun hh => by simp at hh) i.body wr _ ρ1 F1 s1 a1 w2 (by rw [hdf]; exact hrel2) (fun j hj => by rw [hdf]; exact hN1 j (r4 j (.inl hj))) r6) ?_
    intro ex2 a3 w3 hq2
    -- a round's end
    have fin : ∀ (K : VS → Prop) (jump : Option Code), LiftS cx.T i.nt (B.around b w2 F1) (modC i.body) s1 wr ρ1 F1 a1 K a3 w3 → (∀ s2, K s2 → Post (.d .bool jump.isNone) (upd s2.M k (some (.lp jump))) s2.n) → ∃ v w', (Instr.endRound b jump).run P w3 = .ok v w' ∧ HPost B ρ F M n wr args Post (.returned v) w' := by
      rintro K jump ⟨ρ2, F2, s2, t1, t2, t3, t4, t5, t6⟩ hK
      have hb3 : w3.heap[b]? = w2.heap[b]? := t1.st.old b (.inr rfl)
      rw [World.putObj_heap_same hlt1] at hb3
      have sb3 : St B ρ2 F2 s2.M w3 := sb2.back t1.st
      have hno3 : ∀ j o, s2.M j = some o → blk (ρ2 j) ≠ some b := fun j o hj e => t1.st.mine j o b hj e (.inr rfl)
      have hF2 : ∀ a u, F2 a = some u → a.block ≠ b := fun a u hu e => by
        cases hF : F1 a with
        | none => exact t1.st.new a u hu hF (.inr e)
        | some u' => exact hF1 a u' hF e
      let w4 : World := w3.putObj b (.loop { state := lstate jump, pending := jump, fn := fn', tmps := tmps, params := i.ps.toArray, assign := i.asg, body := i.body, defers := D })
      have hend : (Instr.endRound b jump).run P w3 = .ok (.bool jump.isNone) w4 := run_endRound jump hb3
      have hlt3 : b < w3.heap.size := (Array.getElem?_eq_some_iff.1 hb3).1
      have hlow : ∀ j, j < n → ρ2 j = ρ j := fun j hj => (t2.names j (by have := r3; simp only at this; omega)).trans (r2.names j (by simp only; omega))
      have hρk : ρ2 k = .func (.yield b) #[] #[] := (hlow k hkn).trans q1
      have sb4 : St B ρ2 F2 (killM s2.M (some k)) w4 := sb3.grow (row := some b) (grownBy_putObj' w3 _ _) (fun c hc => by cases hc; exact ⟨hzb, hF2⟩) fun j o hj => by
        simp only [killM] at hj
        cases hq : Nat.beq j k with
        | true => rw [hq] at hj; simp at hj
        | false => rw [hq] at hj; exact ⟨hj, .inr (hno3 j o hj)⟩
      have sb5 : St B ρ2 F2 (upd (killM s2.M (some k)) k (some (.lp jump))) w4 := by
        refine sb4.readd k _ (by simp [killM, Nat.beq_refl]) ⟨b, _, tmps, D, hρk, hfn, World.putObj_heap_same hlt3, q4, fun t => ?_⟩ fun c hc => ?_
        · refine ((q5 t).agree fun j hj => hlow j ?_).mono (r2.sub.trans t2.sub)
          rcases Nat.lt_or_ge j n with h1 | h1
          · exact h1
          · exact absurd ⟨_, hfn, t, hj⟩ ((hfree j h1).1.lc k)
        · rw [hρk] at hc
          cases hc
          exact ⟨hzb, hF2, fun j o hj => by
            simp only [killM] at hj
            cases hq : Nat.beq j k with
            | true => rw [hq] at hj; simp at hj
            | false => rw [hq] at hj; exact hno3 j o hj⟩
      have hupd : upd (killM s2.M (some k)) k (some (.lp jump)) = upd s2.M k (some (.lp jump)) := by
        funext j
        simp only [upd, killM]
        cases Nat.beq j k <;> rfl
      rw [hupd] at sb5
      have hn2 : n ≤ s2.n := Nat.le_trans r3 t3
      refine ⟨_, w4, hend, _, .d .bool jump.isNone, ρ2, F2, _, s2.n, rfl, ?_, sb5, r2.sub.trans t2.sub, hlow, hn2, fun j hj => ⟨?_, rfl⟩, fun j hj hw => ?_, hK s2 t6⟩
      · show RepC F2 .bool [.bool jump.isNone] jump.isNone
        rfl
      · have hN : NoName B s2.M j ∧ j ≠ k := by
          rcases hj with hj | hj
          · exact ⟨(t4 j (.inl hj)).nam.back, by omega⟩
          · have e : j ≠ k := fun e => by subst e; have := hj.2.1.nom; rw [hMk] at this; simp at this
            have h1 := r4 j (.inr ⟨hj.1, hN0 j hj.2.1 hj.2.2⟩)
            have h2 := hN1 j h1
            exact ⟨(t4 j (.inr ⟨Nat.lt_of_lt_of_le hj.1 r3, by rw [hdf]; exact h2⟩)).nam.back, e⟩
        refine ⟨by rw [upd_other _ _ _ j hN.2]; exact hN.1.nom, fun j' o ho => ?_, hN.1.lc, hN.1.lh⟩
        by_cases e : j' = k
        · subst e; rw [upd_self] at ho; cases ho; rfl
        · rw [upd_other _ _ _ j' e] at ho; exact hN.1.obs j' o ho
      · have e : j ≠ k := fun e => by subst e; rw [hwk] at hw; simp at hw
        rw [upd_other _ _ _ j e, t5 j (Nat.lt_of_lt_of_le hj r3) hw, r5 j hj hw]
        simp only [killM]
        have : Nat.beq j k = false := by cases hq : Nat.beq j k; rfl; exact absurd (Nat.eq_of_beq_eq_true hq) e
        rw [this]; rfl
    cases ex2 with
    | normal =>
      obtain ⟨v, w', h1, h2⟩ := fin _ none hq2 fun s2 hk => by dsimp only at hk; split at hk <;> first | exact hk | exact hk.elim
      exact ⟨v, w', h1, h2⟩
    | ret =>
      obtain ⟨v, w', h1, h2⟩ := fin _ (some .ret) hq2 fun s2 hk => by dsimp only at hk; split at hk <;> first | exact hk | exact hk.elim
      exact ⟨v, w', h1, h2⟩
    | exit id =>
      obtain ⟨v, w', h1, h2⟩ := fin _ (some (.exit id)) hq2 fun s2 hk => by dsimp only at hk; split at hk <;> first | exact hk | exact hk.elim
      exact ⟨v, w', h1, h2⟩
    | goto l => exact hq2.elim
    | panic ch => exact hq2.elim
    | outgrown => exact hq2.elim
theorem hnd_ok (hm : P.follows .mixedOrders = true) (hT : tabB P cx.T = true) (hen : ∀ f, f ∈ cx.inl → Enters P f) : ∀ d, HOk P cx.T (hnd P cx d)
  | 0 => ⟨fun h => h.elim, fun h => h.elim⟩
  | d + 1 => ⟨fun h _ _ _ _ _ a b c d e f => hnd_fn hm hT hen (hnd_ok hm hT hen _) h a b c d e f, fun h _ _ _ _ _ a b c d e f => hnd_yl hm hT hen (hnd_ok hm hT hen _) h a b c d e f⟩
end
end Go.Proofs.Ytohglckebkgbpaa
