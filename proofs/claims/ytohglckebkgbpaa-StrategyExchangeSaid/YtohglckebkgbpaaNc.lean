/-
  A function's text on plain data: the contract that follows.
-/
import Derived.Test.YtohglckebkgbpaaNb
namespace Go.Proofs.Ytohglckebkgbpaa
open Go.RowKit

/-- what every reading of the arguments knows -/
def wfA : AV → Prop
  | .d t x => t.isT = false → WF t x
  | .kp t x => WF t x
  | _ => True
def wfL : List AV → Prop
  | [] => True
  | a :: l => wfA a ∧ wfL l
theorem wfA_rep {ρ : Nat → Value} {F : Mem} {a : AV} {v : Value} (h : RepA ρ F a v) : wfA a := by
  cases a with
  | c x => cases x <;> first | trivial | exact fun ht => RepV.wf ht h | (obtain ⟨_, _, us, _, _, h⟩ := h; exact h.wf)
  | _ => trivial
theorem wfL_rep {F : Mem} : ∀ {l : List AV} {vs : List Value}, RepL F l vs → wfL l
  | [], _, _ => trivial
  | a :: l, vs, h => by
    cases vs with
    | nil => have := h.1; simp at this
    | cons v vs => exact ⟨wfA_rep (h.2 0 a rfl), wfL_rep (vs := vs) ⟨by simpa using h.1, fun j b hb => by simpa using h.2 (j + 1) b (by simpa using hb)⟩⟩
/-- what the call has made, as memory that stays -/
def Fall (B : Bx) (F : Mem) (w : World) : Mem := fun a => if B.w0.heap.size ≤ a.block then w.cell? a else F a
section
variable {P : Program} {T : Tab} {B : Bx} {ρ : Nat → Value} {F : Mem} {e : Env} {M : Mm} {w : World}
theorem fall_sub (st : St B ρ F M w) : Sub F (Fall B F w) ∧ Sub (Fall B F w) w.cell? := by
  refine ⟨fun a u hu => ?_, fun a u hu => ?_⟩
  · simp only [Fall]; split
    · exact st.sub a u hu
    · exact hu
  · simp only [Fall] at hu; split at hu
    · exact hu
    · exact st.sub a u hu
theorem row_own (hz : ∀ b, b < B.w0.heap.size → B.Z b) (st : St B ρ F M w) {x : AV} {v : Value} {t : Ty} {y : t.T} (hx : asM M t x = some y) (hr : RepA ρ F x v) : RepV (Fall B F w) t v y := by
  have row : ∀ {k E : Nat} {te : Ty} {xs : List te.T}, M k = some (.row E te xs) → RepV (Fall B F w) (.sl te) (ρ k) xs := by
    intro k E te xs hM
    refine row_frz st hM (fall_sub st).1 fun b hb ad had => ?_
    have : B.w0.heap.size ≤ ad.block := by
      rcases Nat.lt_or_ge ad.block B.w0.heap.size with h1 | h1
      · rw [had] at h1; exact absurd (hz b h1) (st.mine k _ b hM hb)
      · exact h1
    simp [Fall, this]
  unfold asM at hx
  split at hx
  · rename_i k
    split at hx <;> try (simp at hx; done)
    rename_i E te xs hM
    obtain ⟨e1, rfl⟩ := castT_some hx
    subst e1
    have hv : v = ρ k := hr
    rw [hv]
    exact row hM
  · rename_i k t' l r
    split at hx <;> try (simp at hx; done)
    rename_i E te xs hM
    split at hx <;> try (simp at hx; done)
    rename_i e0
    subst e0
    obtain ⟨e1, rfl⟩ := castT_some hx
    subst e1
    have hr0 := row hM
    obtain ⟨ad, n, cap, q1, k1, k2, k3, k4, rfl⟩ := hr
    have hn : n = xs.length := by
      obtain ⟨_, _, q, _⟩ := hr0
      rw [q1] at q
      simp only [List.cons.injEq, Value.slice.injEq, and_true] at q
      exact q.2.1
    subst hn
    have h1 : RepC (Fall B F w) (.sl te) [.slice ad xs.length cap] xs := by rw [← q1]; exact hr0
    exact sub_rep h1 k1 k2 (Nat.le_trans k2 k3) (Nat.le_refl _)
  · exact (as_rep hx hr).mono (fall_sub st).1
theorem fromLeafM_rep (hz : ∀ b, b < B.w0.heap.size → B.Z b) (st : St B ρ F M w) : ∀ {t : Ty} {l l' : List AV} {us : List Value} {x : t.T}, us.length = l.length → (∀ (j : Nat) (c : AV), l[j]? = some c → RepA ρ F c (us.getD j undef)) → fromLeafM M t l = some (x, l') → RepC (Fall B F w) t (us.take t.sz) x ∧ l' = l.drop t.sz := by
  have leaf : ∀ {t : Ty} {v : AV} {l : List AV} {us : List Value} {x : t.T}, t.cell = true → us.length = (v :: l).length → (∀ (j : Nat) (c : AV), (v :: l)[j]? = some c → RepA ρ F c (us.getD j undef)) → asM M t v = some x → RepC (Fall B F w) t (us.take 1) x := by
    intro t v l us x ht hl hr ha
    cases us with
    | nil => simp at hl
    | cons u us =>
      have h0 := row_own hz st ha (hr 0 v rfl)
      simp at h0
      have := h0.cells (cell_isT ht)
      have hc : u.cells = #[u] := (repv_one ht h0).1
      rw [hc] at this
      simpa using this
  intro t
  induction t with
  | unit => intro l l' us x hl hr h; simp only [fromLeafM, Option.some.injEq, Prod.mk.injEq] at h; exact ⟨by simp [Ty.sz]; rfl, by simp [Ty.sz, h.2]⟩
  | pair a b iha ihb =>
    intro l l' us x hl hr h
    simp only [fromLeafM] at h
    cases h1 : fromLeafM M a l with
    | none => rw [h1] at h; simp at h
    | some p =>
      rw [h1] at h
      simp only at h
      cases h2 : fromLeafM M b p.2 with
      | none => rw [h2] at h; simp at h
      | some q =>
        rw [h2] at h
        simp only [Option.some.injEq, Prod.mk.injEq] at h
        obtain ⟨rfl, rfl⟩ := h
        obtain ⟨k1, k2⟩ := iha (l' := p.2) (x := p.1) hl hr h1
        have hl2 : (us.drop a.sz).length = p.2.length := by rw [k2]; simp [hl]
        obtain ⟨k3, k4⟩ := ihb (l' := q.2) (x := q.1) hl2 (fun j c hj => by
          rw [k2, List.getElem?_drop] at hj
          have := hr _ c hj
          simpa [List.getD_eq_getElem?_getD] using this) h2
        refine ⟨⟨us.take a.sz, (us.drop a.sz).take b.sz, ?_, k1, k3⟩, by rw [k4, k2]; simp [Ty.sz]⟩
        simp only [Ty.sz, List.take_add]
  | st b ih => intro l l' us x hl hr h; exact ih hl hr h
  | arr n b => intro l l' us x hl hr h; simp [fromLeafM] at h
  | tup b => intro l l' us x hl hr h; simp [fromLeafM] at h
  | int k =>
    intro l l' us x hl hr h
    cases l with
    | nil => simp [fromLeafM] at h
    | cons v l =>
      simp only [fromLeafM] at h
      split at h <;> simp at h
      rename_i y hy
      obtain ⟨rfl, rfl⟩ := h
      exact ⟨leaf rfl hl hr hy, rfl⟩
  | bool =>
    intro l l' us x hl hr h
    cases l with
    | nil => simp [fromLeafM] at h
    | cons v l =>
      simp only [fromLeafM] at h
      split at h <;> simp at h
      rename_i y hy
      obtain ⟨rfl, rfl⟩ := h
      exact ⟨leaf rfl hl hr hy, rfl⟩
  | str =>
    intro l l' us x hl hr h
    cases l with
    | nil => simp [fromLeafM] at h
    | cons v l =>
      simp only [fromLeafM] at h
      split at h <;> simp at h
      rename_i y hy
      obtain ⟨rfl, rfl⟩ := h
      exact ⟨leaf rfl hl hr hy, rfl⟩
  | sl e =>
    intro l l' us x hl hr h
    cases l with
    | nil => simp [fromLeafM] at h
    | cons v l =>
      simp only [fromLeafM] at h
      split at h <;> simp at h
      rename_i y hy
      obtain ⟨rfl, rfl⟩ := h
      exact ⟨leaf rfl hl hr hy, rfl⟩
theorem dataM_rep (hz : ∀ b, b < B.w0.heap.size → B.Z b) (st : St B ρ F M w) {t : Ty} {x : t.T} {a : AV} {v : Value} (h : dataM M t a = some x) (r : RepA ρ F a v) : RepV (Fall B F w) t v x := by
  unfold dataM at h
  cases hA : asM M t a with
  | some y =>
    rw [hA] at h
    simp only [Option.some.injEq] at h
    subst h
    exact row_own hz st hA r
  | none =>
    rw [hA] at h
    simp only at h
    cases a with
    | ag l =>
      simp only at h
      cases t with
      | st b =>
        simp only at h
        cases hy : fromLeafM M b (avs l) with
        | none => rw [hy] at h; simp at h
        | some p =>
          obtain ⟨y, l'⟩ := p
          rw [hy] at h
          cases l' with
          | cons _ _ => simp at h
          | nil =>
            simp only [Option.some.injEq] at h
            subst h
            obtain ⟨vs, rfl, r1⟩ := r
            obtain ⟨h1, h2⟩ := fromLeafM_rep hz st (us := vs) (by rw [avs_len]; exact r1.1) (fun j c hj => by
              rw [avs_get] at hj
              cases hl : l[j]? with
              | none => rw [hl] at hj; simp at hj
              | some c0 =>
                rw [hl] at hj
                simp only [Option.map_some, Option.some.injEq] at hj
                subst hj
                exact r1.2 j c0 hl) hy
            have h3 : vs.length ≤ b.sz := by
              have := congrArg List.length h2
              simp [avs_len] at this
              rw [r1.1]
              omega
            rw [List.take_of_length_le h3] at h1
            exact ⟨vs, rfl, h1⟩
      | _ => simp at h
    | _ => simp at h
theorem repv1_of {F : Mem} {t : Ty} {v : Value} {x : t.T} (ht : t.isT = false) (h : RepV F t v x) : RepV1 F t v x := by
  cases t <;> first | (simp [Ty.isT] at ht; done) | exact h
theorem resT_rep (hz : ∀ b, b < B.w0.heap.size → B.Z b) (st : St B ρ F M w) : ∀ {l : List AV} {b : Ty} {r : b.T} {vs : List Value}, resT M l b = some r → vs.length = l.length → (∀ j x, l[j]? = some x → RepA ρ F x (vs.getD j undef)) → RepTup (Fall B F w) b vs r
  | [], .unit, _, vs, _, hl, _ => List.eq_nil_of_length_eq_zero (by simpa using hl)
  | a :: l, .pair t b, r, vs, h, hl, hr => by
    simp only [resT] at h
    cases ht : t.isT with
    | true => rw [ht] at h; simp at h
    | false =>
      rw [ht] at h
      simp only [cond_false] at h
      split at h <;> try (simp at h; done)
      rename_i x hx
      split at h <;> simp only [Option.some.injEq, reduceCtorEq] at h
      rename_i y hy
      subst h
      cases vs with
      | nil => simp at hl
      | cons v vs => exact ⟨v, vs, rfl, repv1_of ht (dataM_rep hz st hx (hr 0 a rfl)), resT_rep hz st hy (by simpa using hl) fun j z hj => by simpa using hr (j + 1) z (by simpa using hj)⟩
  | [], .int _, _, _, h, _, _ => by simp [resT] at h
  | [], .bool, _, _, h, _, _ => by simp [resT] at h
  | [], .str, _, _, h, _, _ => by simp [resT] at h
  | [], .sl _, _, _, h, _, _ => by simp [resT] at h
  | [], .arr _ _, _, _, h, _, _ => by simp [resT] at h
  | [], .pair _ _, _, _, h, _, _ => by simp [resT] at h
  | [], .st _, _, _, h, _, _ => by simp [resT] at h
  | [], .tup _, _, _, h, _, _ => by simp [resT] at h
  | _ :: _, .unit, _, _, h, _, _ => by simp [resT] at h
  | _ :: _, .int _, _, _, h, _, _ => by simp [resT] at h
  | _ :: _, .bool, _, _, h, _, _ => by simp [resT] at h
  | _ :: _, .str, _, _, h, _, _ => by simp [resT] at h
  | _ :: _, .sl _, _, _, h, _, _ => by simp [resT] at h
  | _ :: _, .arr _ _, _, _, h, _, _ => by simp [resT] at h
  | _ :: _, .st _, _, _, h, _, _ => by simp [resT] at h
  | _ :: _, .tup _, _, _, h, _, _ => by simp [resT] at h
theorem resD_rep (hz : ∀ b, b < B.w0.heap.size → B.Z b) (st : St B ρ F M w) {l : List AV} {t : Ty} {r : t.T} {vs : List Value} (h : resD M l t = some r) (hl : vs.length = l.length) (hr : ∀ j x, l[j]? = some x → RepA ρ F x (vs.getD j undef)) : RepV (Fall B F w) t (resVal vs) r := by
  have one : ∀ {a : AV}, l = [a] → dataM M t a = some r → RepV (Fall B F w) t (resVal vs) r := by
    intro a e hd
    subst e
    rcases vs with _ | ⟨v, _ | ⟨v2, vs⟩⟩
    · simp at hl
    · exact dataM_rep hz st hd (by simpa [resVal] using hr 0 a rfl)
    · simp at hl
  cases t with
  | tup b =>
    simp only [resD] at h
    split at h
    · simp at h
    · rename_i hne
      refine ⟨vs, ?_, resT_rep hz st h hl hr⟩
      rcases vs with _ | ⟨v, _ | ⟨v2, vs⟩⟩
      · rfl
      · exfalso
        cases l with
        | nil => simp at hl
        | cons a l => cases l with
          | nil => exact hne a rfl
          | cons _ _ => simp at hl
      · rfl
  | unit => simp [resD] at h
  | pair a b => simp [resD] at h
  | _ =>
    simp only [resD] at h
    split at h
    · exact one rfl h
    · simp at h
def plainC : Cap → Bool
  | .hp _ _ => false
  | .hs _ => false
  | _ => true
def plainCs : List Cap → Bool
  | [] => true
  | c :: l => plainC c && plainCs l
/-- arguments that name no object -/
def plainArgs : List AV → Bool
  | [] => true
  | .c c :: l => plainC c && plainArgs l
  | .fn _ cs :: l => plainCs cs && plainArgs l
  | _ => false
theorem plainC_uses {c : Cap} (h : plainC c = true) (k : Nat) : c.uses k = false := by cases c <;> first | rfl | (simp [plainC] at h; done)
theorem plainCs_uses : ∀ {l : List Cap}, plainCs l = true → ∀ k, l.any (·.uses k) = false
  | [], _, _ => rfl
  | c :: l, h, k => by
    simp only [plainCs, Bool.and_eq_true] at h
    simp [plainC_uses h.1 k, plainCs_uses h.2 k]
theorem plainArgs_uses : ∀ {l : List AV}, plainArgs l = true → ∀ x ∈ l, ∀ k, x.uses k = false
  | [], _, x, hx, _ => by simp at hx
  | a :: l, h, x, hx, k => by
    have h1 : a.uses k = false ∧ plainArgs l = true := by
      cases a <;> first
        | (simp [plainArgs] at h; done)
        | (simp only [plainArgs, Bool.and_eq_true] at h; exact ⟨plainC_uses h.1 k, h.2⟩)
        | (simp only [plainArgs, Bool.and_eq_true] at h; exact ⟨plainCs_uses h.1 k, h.2⟩)
    rcases List.mem_cons.1 hx with rfl | hx
    · exact h1.1
    · exact plainArgs_uses h1.2 x hx k
/-- what must be shown of a function that hands back a closure -/
def vcFnK (P : Program) (cx : Cx) (d : Nat) (f : FuncId) (fn : Func) (args : List AV) (R : AV → Prop) : Prop :=
  match fn.body with
  | some c => vcCode P cx (hnd P cx d) [] ⟨f, fn.ntmps, false⟩ c (fun _ => true) (fun x s => match x with
    | .exit _ => False
    | _ => (match resAs cx.T (killL s.M s.df) s.e fn.results.toList with
      | some [x] => (bif dfrB s.M s.df && distinctB s.df then R x else False)
      | _ => False)) ⟨argsE args, fun _ => none, 0, []⟩
  | none => False
theorem callP_of {cx : Cx} {d : Nat} {f : FuncId} {fn : Func} {args : List AV} {rt : Ty} {r : rt.T} (hm : P.follows .mixedOrders = true) (hT : tabB P cx.T = true) (hen : ∀ f, f ∈ cx.inl → Enters P f) (hf : P.funcs[f]? = some fn) (henf : Enters P f) (hl : (Nat.ble args.length fn.ntmps && Nat.blt 0 fn.ntmps) = true) (hpa : plainArgs args = true)
    (h : wfL args → vcFn P cx d f fn args rt fun x => x = r) : CallP P cx.T f args rt r := by
  have hua := plainArgs_uses hpa
  refine ⟨henf, fun F w vs hg hs hr => ?_⟩
  have hv := h (wfL_rep hr)
  unfold vcFn at hv
  cases hb : fn.body with
  | none => rw [hb] at hv; exact hv.elim
  | some c =>
    rw [hb] at hv
    simp only at hv
    simp only [Bool.and_eq_true] at hl
    have hle := Nat.le_of_ble_eq_true hl.1
    have hnt := blt_lt hl.2
    let B : Bx := { Z := fun b => b < w.heap.size, LC := fun _ => none, w0 := w, F0 := F }
    let a0 : Act := { tmps := vs.toArray ++ Array.replicate (fn.ntmps - vs.toArray.size) undef, defers := [] }
    have hrel : Rel cx.T fn.ntmps B [] ρn F (argsE args) (fun _ => none) a0 w := by
      refine ⟨⟨rfl, rfl, rfl, Nat.le_refl _, fun _ h => h, fun _ _ => rfl, hs, Sub.refl _, fun x u h1 h2 => (by rw [show B.F0 = F from rfl, h1] at h2; simp at h2), fun k o hk => (by simp at hk), fun k o b hk => (by simp at hk), fun k o b hk => (by simp at hk), fun k k' o o' b hk => (by simp at hk)⟩, enter_env hr.1 hr.2, ?_, rfl, hg⟩
      have := hr.1
      simp [a0]; omega
    have hz : ∀ b, b < B.w0.heap.size → B.Z b := fun _ h => h
    refine (callsIn_wide (n := 0)).1 (callsIn_of_wp_marks hf hb trivial (wpIn_mono (code_sound (fx := ⟨f, fn.ntmps, false⟩) (B := B) (ro := none) (lc := []) hm hT (hnd_ok hm hT hen d) hen (fun k i hk => by simp [look] at hk) hnt (fun _ => rfl) c _ _ ρn F ⟨argsE args, fun _ => none, 0, []⟩ a0 w hrel (fun k _ => ⟨⟨rfl, fun j o hj => (by simp at hj), fun j hj => (by obtain ⟨_, q, _⟩ := hj; simp [B] at q), rfl⟩, argsE_uses fun x hx => hua x hx k, by simp⟩) hv) ?_))
    intro ex a' w' hq
    have fin : LiftS cx.T fn.ntmps B (modC c) ⟨argsE args, fun _ => none, 0, []⟩ (fun _ => true) ρn F a0 (fun s => match resAs cx.T (killL s.M s.df) s.e fn.results.toList with
      | some l => (bif dfrB s.M s.df && distinctB s.df then (match resD (killL s.M s.df) l rt with | some x => x = r | none => False) else False)
      | none => False) a' w' → LeavesInM (Fw none) 0 P fn a'.tmps (fun e w' => ∃ v F', e = .returned v ∧ Below w.heap.size w w' ∧ Sub F F' ∧ Sub F' w'.cell? ∧ (∀ a u, F' a = some u → F a = none → w.heap.size ≤ a.block) ∧ RepV F' rt v r) a'.defers .returning w' := by
      rintro ⟨ρ', F', s', r1, r2, r3, r4, r5, r6⟩
      split at r6 <;> try exact r6.elim
      rename_i l hx
      cases hd : (dfrB s'.M s'.df && distinctB s'.df) with
      | false => rw [hd] at r6; exact r6.elim
      | true =>
        rw [hd] at r6
        simp only [cond_true] at r6
        simp only [Bool.and_eq_true] at hd
        split at r6 <;> try exact r6.elim
        rename_i x hxr
        subst r6
        rw [r1.defs]
        refine marks_run r1.st hd.1 hd.2 fun w'' st'' => ?_
        obtain ⟨vs', v1, v2, v3⟩ := resAs_run (P := P) hT st'' r1.env hx
        have h3 := fall_sub st''
        refine ⟨_, run_results v1, _, _, rfl, ⟨st''.os, st''.tape, st''.output, st''.size, fun k hk => st''.old k hk⟩, st''.sub0.trans h3.1, h3.2, fun a u hu h0 => ?_, resD_rep hz st'' hxr v2 v3⟩
        rcases Nat.lt_or_ge a.block w.heap.size with h1 | h1
        · exfalso
          have hnot : ¬ B.w0.heap.size ≤ a.block := by show ¬ w.heap.size ≤ a.block; omega
          simp only [Fall, hnot, if_false] at hu
          exact st''.new a u hu h0 h1
        · exact h1
    cases ex with
    | normal => exact fin hq
    | ret => exact fin hq
    | exit n => obtain ⟨_, _, _, _, _, _, _, _, k⟩ := hq; exact k.elim
    | goto l => exact hq.elim
    | panic ch => exact hq.elim
    | outgrown => exact hq.elim
theorem callK_of {cx : Cx} {d : Nat} {f : FuncId} {fn : Func} {args : List AV} {g : FuncId} {cs : List Cap} (hm : P.follows .mixedOrders = true) (hT : tabB P cx.T = true) (hen : ∀ f, f ∈ cx.inl → Enters P f) (hf : P.funcs[f]? = some fn) (henf : Enters P f) (hl : (Nat.ble args.length fn.ntmps && Nat.blt 0 fn.ntmps) = true) (hpa : plainArgs args = true)
    (hcs : plainCs cs = true) (h : wfL args → vcFnK P cx d f fn args fun x => x = .fn g cs) : CallK P cx.T f args g cs := by
  have hua := plainArgs_uses hpa
  refine ⟨henf, fun F w vs hg hs hr => ?_⟩
  have hv := h (wfL_rep hr)
  unfold vcFnK at hv
  cases hb : fn.body with
  | none => rw [hb] at hv; exact hv.elim
  | some c =>
    rw [hb] at hv
    simp only at hv
    simp only [Bool.and_eq_true] at hl
    have hle := Nat.le_of_ble_eq_true hl.1
    have hnt := blt_lt hl.2
    let B : Bx := { Z := fun b => b < w.heap.size, LC := fun _ => none, w0 := w, F0 := F }
    let a0 : Act := { tmps := vs.toArray ++ Array.replicate (fn.ntmps - vs.toArray.size) undef, defers := [] }
    have hrel : Rel cx.T fn.ntmps B [] ρn F (argsE args) (fun _ => none) a0 w := by
      refine ⟨⟨rfl, rfl, rfl, Nat.le_refl _, fun _ h => h, fun _ _ => rfl, hs, Sub.refl _, fun x u h1 h2 => (by rw [show B.F0 = F from rfl, h1] at h2; simp at h2), fun k o hk => (by simp at hk), fun k o b hk => (by simp at hk), fun k o b hk => (by simp at hk), fun k k' o o' b hk => (by simp at hk)⟩, enter_env hr.1 hr.2, ?_, rfl, hg⟩
      have := hr.1
      simp [a0]; omega
    have hz : ∀ b, b < B.w0.heap.size → B.Z b := fun _ h => h
    refine (callsIn_wide (n := 0)).1 (callsIn_of_wp_marks hf hb trivial (wpIn_mono (code_sound (fx := ⟨f, fn.ntmps, false⟩) (B := B) (ro := none) (lc := []) hm hT (hnd_ok hm hT hen d) hen (fun k i hk => by simp [look] at hk) hnt (fun _ => rfl) c _ _ ρn F ⟨argsE args, fun _ => none, 0, []⟩ a0 w hrel (fun k _ => ⟨⟨rfl, fun j o hj => (by simp at hj), fun j hj => (by obtain ⟨_, q, _⟩ := hj; simp [B] at q), rfl⟩, argsE_uses fun x hx => hua x hx k, by simp⟩) hv) ?_))
    intro ex a' w' hq
    have fin : LiftS cx.T fn.ntmps B (modC c) ⟨argsE args, fun _ => none, 0, []⟩ (fun _ => true) ρn F a0 (fun s => match resAs cx.T (killL s.M s.df) s.e fn.results.toList with
      | some [x] => (bif dfrB s.M s.df && distinctB s.df then x = .fn g cs else False)
      | _ => False) a' w' → LeavesInM (Fw none) 0 P fn a'.tmps (fun e w' => ∃ v F', e = .returned v ∧ Below w.heap.size w w' ∧ Sub F F' ∧ Sub F' w'.cell? ∧ (∀ a u, F' a = some u → F a = none → w.heap.size ≤ a.block) ∧ RepA ρn F' (.fn g cs) v) a'.defers .returning w' := by
      rintro ⟨ρ', F', s', r1, r2, r3, r4, r5, r6⟩
      split at r6 <;> try exact r6.elim
      rename_i x hx
      cases hd : (dfrB s'.M s'.df && distinctB s'.df) with
      | false => rw [hd] at r6; exact r6.elim
      | true =>
        rw [hd] at r6
        simp only [cond_true] at r6
        simp only [Bool.and_eq_true] at hd
        subst r6
        rw [r1.defs]
        refine marks_run r1.st hd.1 hd.2 fun w'' st'' => ?_
        obtain ⟨vs', v1, v2, v3⟩ := resAs_run (P := P) hT st'' r1.env hx
        rcases vs' with _ | ⟨v, _ | ⟨v', vs'⟩⟩
        · simp at v2
        · have v4 : RepA ρ' F' (.fn g cs) v := by simpa using v3 0 _ rfl
          refine ⟨_, run_results v1, v, F', rfl, ⟨st''.os, st''.tape, st''.output, st''.size, fun k hk => st''.old k hk⟩, st''.sub0, st''.sub, fun a u hu h0 => ?_, v4.agree fun n hn => ?_⟩
          · rcases Nat.lt_or_ge a.block w.heap.size with h1 | h1
            · exact absurd h1 (st''.new a u hu h0)
            · exact h1
          · have := plainCs_uses hcs n
            simp only [AV.uses] at hn
            rw [this] at hn
            simp at hn
        · simp at v2
    cases ex with
    | normal => exact fin hq
    | ret => exact fin hq
    | exit n => obtain ⟨_, _, _, _, _, _, _, _, k⟩ := hq; exact k.elim
    | goto l => exact hq.elim
    | panic ch => exact hq.elim
    | outgrown => exact hq.elim
end
end Go.Proofs.Ytohglckebkgbpaa
