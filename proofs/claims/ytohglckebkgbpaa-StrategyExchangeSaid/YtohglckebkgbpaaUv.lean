/-
  A function's text on plain data: objects that are not written any more become data.
-/
import Derived.Test.YtohglckebkgbpaaUu
namespace Go.Proofs.Ytohglckebkgbpaa
open Go.RowKit

section
variable {T : Tab} {nt : Nat} {B : Bx} {df : List Nat} {ρ : Nat → Value} {F : Mem} {e : Env} {M : Mm} {a : Act} {w : World} {wr : Nat → Bool} {h : Nat}
theorem mapCs_rep {f : Cap → Cap} (hf : ∀ c v, RepCap ρ F c v → RepCap ρ F (f c) v) {l : List Cap} {vs : List Value} (r : RepCs' ρ F l vs) : RepCs' ρ F (l.map f) vs := by
  refine ⟨by simp [r.1], fun j c hc => ?_⟩
  rw [List.getElem?_map] at hc
  cases hl : l[j]? with
  | none => rw [hl] at hc; simp at hc
  | some c0 =>
    rw [hl] at hc
    simp only [Option.map_some, Option.some.injEq] at hc
    subst hc
    exact hf _ _ (r.2 j c0 hl)
theorem Cap.subR_rep {t : Ty} {xs : List t.T} (hr : RepV F (.sl t) (ρ h) xs) {c : Cap} {v : Value} (r : RepCap ρ F c v) : RepCap ρ F (c.subR h t xs) v := by
  cases c with
  | hs k =>
    simp only [Cap.subR]
    rcases beq_dec k h with ⟨e1, e2⟩ | ⟨e1, e2⟩
    · subst e2; rw [e1]; rw [show v = ρ k from r]; exact hr
    · rw [e1]; exact r
  | hp k off =>
    simp only [Cap.subR]
    rcases beq_dec k h with ⟨e1, e2⟩ | ⟨e1, e2⟩
    · rw [e1]; trivial
    · rw [e1]; exact r
  | _ => exact r
theorem subR_rep {t : Ty} {xs : List t.T} (hr : RepV F (.sl t) (ρ h) xs) : ∀ {c : AV} {v : Value}, RepA ρ F c v → RepA ρ F (c.subR h t xs) v
  | .c x, v, r => Cap.subR_rep hr r
  | .he k t' i, v, r => by
    simp only [AV.subR]
    rcases beq_dec k h with ⟨e1, e2⟩ | ⟨e1, e2⟩
    · subst e2
      rw [e1]
      simp only [cond_true]
      split
      · rename_i et
        subst et
        obtain ⟨b, n, cap, q1, q2, rfl⟩ := r
        obtain ⟨ad, cap', e3, c1, c2, c3⟩ := hr
        rw [q1] at e3
        simp only [List.cons.injEq, Value.slice.injEq, and_true] at e3
        obtain ⟨rfl, rfl, rfl⟩ := e3
        obtain ⟨b', off, vs, e4, e5, e6⟩ := c3 i q2
        simp only [Option.some.injEq, Addr.mk.injEq, and_true] at e4
        obtain ⟨rfl, rfl⟩ := e4
        refine ⟨b, i * t'.sz, vs, rfl, fun j u hj => ?_, ?_⟩
        · have := e5 j u hj
          rwa [Nat.zero_add] at this
        · rw [List.getD_eq_getElem?_getD, List.getElem?_eq_getElem q2]
          exact e6
      · trivial
    · rw [e1]; exact r
  | .hv k t' l r', v, r => by
    simp only [AV.subR]
    rcases beq_dec k h with ⟨e1, e2⟩ | ⟨e1, e2⟩
    · subst e2
      rw [e1]
      simp only [cond_true]
      split
      · rename_i et
        subst et
        obtain ⟨ad, n, cap, q1, k1, k2, k3, k4, rfl⟩ := r
        have hn : n = xs.length := by
          obtain ⟨_, _, q, _⟩ := hr
          rw [q1] at q
          simp only [List.cons.injEq, Value.slice.injEq, and_true] at q
          exact q.2.1
        subst hn
        have h1 : RepC F (.sl t') [.slice ad xs.length cap] xs := by rw [← q1]; exact hr
        exact sub_rep h1 k1 k2 (Nat.le_trans k2 k3) (Nat.le_refl _)
      · trivial
    · rw [e1]; exact r
  | .fn f l, v, r => let ⟨vs, e, h1⟩ := r; ⟨vs, e, mapCs_rep (fun _ _ k => Cap.subR_rep hr k) h1⟩
  | .ag l, v, r => let ⟨vs, e, h1⟩ := r; ⟨vs, e, mapCs_rep (fun _ _ k => Cap.subR_rep hr k) h1⟩
  | .tg l, v, r => let ⟨vs, e, h1⟩ := r; ⟨vs, e, mapCs_rep (fun _ _ k => Cap.subR_rep hr k) h1⟩
  | .opt g a, v, r => ⟨fun hg => subR_rep hr (r.1 hg), r.2⟩
  | .any, _, _ => trivial
  | .ifd _ _ _, _, r => r
  | .v _, _, r => r
theorem Cap.subB_rep {t : Ty} {x : t.T} (hr : PtAt F t (ρ h) x) {c : Cap} {v : Value} (r : RepCap ρ F c v) : RepCap ρ F (c.subB h t x) v := by
  cases c with
  | hs k =>
    simp only [Cap.subB]
    rcases beq_dec k h with ⟨e1, e2⟩ | ⟨e1, e2⟩
    · rw [e1]; trivial
    · rw [e1]; exact r
  | hp k off =>
    simp only [Cap.subB]
    rcases beq_dec k h with ⟨e1, e2⟩ | ⟨e1, e2⟩
    · subst e2
      rw [e1]
      simp only [cond_true]
      rcases beq_dec off 0 with ⟨e3, e4⟩ | ⟨e3, e4⟩
      · subst e4
        obtain ⟨b, q1, rfl⟩ := r
        rw [q1] at hr
        exact hr
      · rw [e3]; trivial
    · rw [e1]; exact r
  | _ => exact r
theorem subB_rep {t : Ty} {x : t.T} (hr : PtAt F t (ρ h) x) : ∀ {c : AV} {v : Value}, RepA ρ F c v → RepA ρ F (c.subB h t x) v
  | .c x, v, r => Cap.subB_rep hr r
  | .he k t' i, v, r => by
    simp only [AV.subB]
    rcases beq_dec k h with ⟨e1, e2⟩ | ⟨e1, e2⟩
    · rw [e1]; trivial
    · rw [e1]; exact r
  | .hv k t' l r', v, r => by
    simp only [AV.subB]
    rcases beq_dec k h with ⟨e1, e2⟩ | ⟨e1, e2⟩
    · rw [e1]; trivial
    · rw [e1]; exact r
  | .fn f l, v, r => let ⟨vs, e, h1⟩ := r; ⟨vs, e, mapCs_rep (fun _ _ k => Cap.subB_rep hr k) h1⟩
  | .ag l, v, r => let ⟨vs, e, h1⟩ := r; ⟨vs, e, mapCs_rep (fun _ _ k => Cap.subB_rep hr k) h1⟩
  | .tg l, v, r => let ⟨vs, e, h1⟩ := r; ⟨vs, e, mapCs_rep (fun _ _ k => Cap.subB_rep hr k) h1⟩
  | .opt g a, v, r => ⟨fun hg => subB_rep hr (r.1 hg), r.2⟩
  | .any, _, _ => trivial
  | .ifd _ _ _, _, r => r
  | .v _, _, r => r
theorem Cap.subR_uses {t : Ty} {xs : List t.T} {c : Cap} {k : Nat} (hu : c.uses k = false) : (c.subR h t xs).uses k = false := by
  cases c <;> try exact hu
  · simp only [Cap.subR]; cases Nat.beq _ h <;> first | exact hu | rfl
  · simp only [Cap.subR]; cases Nat.beq _ h <;> first | exact hu | rfl
theorem mapCs_uses {f : Cap → Cap} {k : Nat} (hf : ∀ c : Cap, c.uses k = false → (f c).uses k = false) {l : List Cap} (hu : l.any (·.uses k) = false) : (l.map f).any (·.uses k) = false := by
  rw [List.any_eq_false] at hu ⊢
  intro c hc
  obtain ⟨c0, h0, rfl⟩ := List.mem_map.1 hc
  have := hu c0 h0
  simp only [Bool.not_eq_true] at this ⊢
  exact hf c0 this
theorem subR_uses {t : Ty} {xs : List t.T} {k : Nat} : ∀ {c : AV}, c.uses k = false → (c.subR h t xs).uses k = false
  | .c x, hu => Cap.subR_uses hu
  | .he j t' i, hu => by
    simp only [AV.subR]
    cases Nat.beq j h
    · exact hu
    · simp only [cond_true]; split <;> rfl
  | .hv j t' l r, hu => by
    simp only [AV.subR]
    cases Nat.beq j h
    · exact hu
    · simp only [cond_true]; split <;> rfl
  | .fn f l, hu => mapCs_uses (fun _ => Cap.subR_uses) hu
  | .ag l, hu => mapCs_uses (fun _ => Cap.subR_uses) hu
  | .tg l, hu => mapCs_uses (fun _ => Cap.subR_uses) hu
  | .opt g a, hu => subR_uses (c := a) hu
  | .any, _ => rfl
  | .ifd _ _ _, _ => rfl
  | .v _, _ => rfl
theorem Cap.subB_uses {t : Ty} {x : t.T} {c : Cap} {k : Nat} (hu : c.uses k = false) : (c.subB h t x).uses k = false := by
  cases c <;> try exact hu
  · simp only [Cap.subB]
    cases Nat.beq _ h
    · exact hu
    · simp only [cond_true]; cases Nat.beq _ 0 <;> rfl
  · simp only [Cap.subB]; cases Nat.beq _ h <;> first | exact hu | rfl
theorem subB_uses {t : Ty} {x : t.T} {k : Nat} : ∀ {c : AV}, c.uses k = false → (c.subB h t x).uses k = false
  | .c x, hu => Cap.subB_uses hu
  | .he j t' i, hu => by simp only [AV.subB]; cases Nat.beq j h <;> first | exact hu | rfl
  | .hv j t' l r, hu => by simp only [AV.subB]; cases Nat.beq j h <;> first | exact hu | rfl
  | .fn f l, hu => mapCs_uses (fun _ => Cap.subB_uses) hu
  | .ag l, hu => mapCs_uses (fun _ => Cap.subB_uses) hu
  | .tg l, hu => mapCs_uses (fun _ => Cap.subB_uses) hu
  | .opt g a, hu => subB_uses (c := a) hu
  | .any, _ => rfl
  | .ifd _ _ _, _ => rfl
  | .v _, _ => rfl
/-- cells of objects are told otherwise, an object is given up -/
theorem mapM_some {f : AV → AV} {k : Nat} {o' : Ob} (hk : mapM wr f M h k = some o') : k ≠ h ∧ ∃ o, M k = some o ∧ (o' = o.mapA f ∨ o' = o) := by
  unfold mapM at hk
  rcases beq_dec k h with ⟨e1, e2⟩ | ⟨e1, e2⟩
  · rw [e1] at hk; simp at hk
  · rw [e1] at hk
    refine ⟨e2, ?_⟩
    cases hw : wr k <;> rw [hw] at hk <;> simp only [cond_false, cond_true] at hk
    · exact ⟨o', hk, .inr rfl⟩
    · cases hM : M k with
      | none => rw [hM] at hk; simp at hk
      | some o => rw [hM] at hk; simp only [Option.some.injEq] at hk; exact ⟨o, rfl, .inl hk.symm⟩
theorem St.mapA {f : AV → AV} (st : St B ρ F (fun k => bif Nat.beq k h then none else M k) w) (hf : ∀ c v, RepA ρ F c v → RepA ρ F (f c) v) : St B ρ F (mapM wr f M h) w := by
  have src : ∀ k o', mapM wr f M h k = some o' → ∃ o, (bif Nat.beq k h then none else M k) = some o ∧ (o' = o.mapA f ∨ o' = o) := fun k o' hk => by
    obtain ⟨h1, o, h2, h3⟩ := mapM_some hk
    rcases beq_dec k h with ⟨e1, e2⟩ | ⟨e1, e2⟩
    · exact absurd e2 h1
    · exact ⟨o, by rw [e1]; exact h2, h3⟩
  refine ⟨st.os, st.tape, st.output, st.size, st.zlt, st.old, st.sub, st.sub0, st.new, fun k o' hk => ?_, fun k o' b hk => ?_, fun k o' b hk => ?_, fun k k' o o' b hk hk' => ?_⟩
  · obtain ⟨o, h1, h2 | h2⟩ := src k o' hk
    · have r := st.obs k o h1
      subst h2
      cases o with
      | cells cs =>
        obtain ⟨b, arr, e, r1, r2, r3, r4, r5⟩ := r
        refine ⟨b, arr, e, r1, r2, by simpa using r3, r4, fun j c hc => ?_⟩
        rw [List.getElem?_map] at hc
        cases hl : cs[j]? with
        | none => rw [hl] at hc; simp at hc
        | some c0 =>
          rw [hl] at hc
          simp only [Option.map_some, Option.some.injEq] at hc
          subst hc
          exact hf _ _ (r5 j c0 hl)
      | _ => exact r
    · subst h2; exact st.obs k _ h1
  · obtain ⟨o, h1, _⟩ := src k o' hk; exact st.mine k o b h1
  · obtain ⟨o, h1, _⟩ := src k o' hk; exact st.apart k o b h1
  · obtain ⟨o1, h1, _⟩ := src k o hk
    obtain ⟨o2, h2, _⟩ := src k' o' hk'
    exact st.inj k k' o1 o2 b h1 h2
theorem mapM_non {f : AV → AV} {k : Nat} (hf : ∀ c : AV, c.uses k = false → (f c).uses k = false) (h1 : NoName B M k) : NoName B (mapM wr f M h) k := by
  refine ⟨?_, ?_, h1.lc, h1.lh⟩
  · cases hq : mapM wr f M h k with
    | none => rfl
    | some o => obtain ⟨_, o2, h2, _⟩ := mapM_some hq; rw [h1.nom] at h2; simp at h2
  · intro j o hj
    obtain ⟨_, o2, h2, h3 | h3⟩ := mapM_some hj
    · subst h3
      have := h1.obs j o2 h2
      cases o2 with
      | cells cs =>
        simp only [Ob.mapA, Ob.uses, List.any_eq_false] at this ⊢
        intro c hc
        obtain ⟨c0, h0, rfl⟩ := List.mem_map.1 hc
        have := this c0 h0
        simp only [Bool.not_eq_true] at this ⊢
        exact hf c0 this
      | _ => rfl
    · subst h3; exact h1.obs j _ h2
theorem box_frz {t : Ty} {cs : List AV} {l : List Cap} {x : t.T} {F' : Mem} (st : St B ρ F M w) (hM : M h = some (.cells cs)) (hc : capsA cs = some l) (hx : fromCaps t l = some (x, [])) (hs : Sub F F') (hF : ∀ b, blk (ρ h) = some b → ∀ ad, ad.block = b → F' ad = w.cell? ad) : PtAt F' t (ρ h) x := by
  obtain ⟨b, arr, e, r1, r2, r3, r4, r5⟩ := st.obs h _ hM
  have := capsA_len hc
  subst this
  refine ⟨b, 0, arr.toList, r1, fun j u hj => ?_, (fromCaps_all (ρ := ρ) ⟨?_, fun j c hj => ?_⟩ hx).mono hs⟩
  · rw [Nat.zero_add, hF b (by rw [r1]; rfl) _ rfl]
    simp only [World.cell?, r2]
    simpa using hj
  · rw [Array.length_toList, r3]
    exact avs_len l
  · have : RepCap ρ F c (arr.getD j undef) := r5 j (.c c) (by rw [avs_get]; simp [hj])
    simpa [Array.getD_eq_getD_getElem?, List.getD_eq_getElem?_getD] using this
theorem frz1_rel {f : Fz} (h0 : Rel T nt B df ρ F e M a w) : ∃ F', Sub F F' ∧ Rel T nt B df ρ F' (frz1 wr f e M).1 (frz1 wr f e M).2 a w := by
  have same : ∃ F', Sub F F' ∧ Rel T nt B df ρ F' e M a w := ⟨F, Sub.refl _, h0⟩
  cases f with
  | row h =>
    simp only [frz1]
    cases hw : wr h with
    | false => exact same
    | true =>
      simp only [cond_true]
      split
      · rename_i E t xs hM
        obtain ⟨F', hs, st, hF⟩ := h0.st.lock hM
        have hr := row_frz h0.st hM hs hF
        exact ⟨F', hs, st.mapA fun c v r => subR_rep hr r, fun t => subR_rep hr ((h0.env t).mono hs), h0.size, h0.defs, h0.glob⟩
      · exact same
  | box h t =>
    simp only [frz1]
    cases hw : wr h with
    | false => exact same
    | true =>
      simp only [cond_true]
      split
      · rename_i cs hM
        split
        · rename_i l hl
          split
          · rename_i x hx
            obtain ⟨F', hs, st, hF⟩ := h0.st.lock hM
            have hr := box_frz h0.st hM hl hx hs hF
            exact ⟨F', hs, st.mapA fun c v r => subB_rep hr r, fun t => subB_rep hr ((h0.env t).mono hs), h0.size, h0.defs, h0.glob⟩
          · exact same
        · exact same
      · exact same
theorem frz1_non {f : Fz} {k : Nat} (h0 : NoN B df e M k) : NoN B df (frz1 wr f e M).1 (frz1 wr f e M).2 k := by
  cases f with
  | row h =>
    simp only [frz1]
    cases hw : wr h with
    | false => exact h0
    | true =>
      simp only [cond_true]
      split
      · exact ⟨mapM_non (fun _ => subR_uses) h0.nam, fun t => subR_uses (h0.env t), h0.df⟩
      · exact h0
  | box h t =>
    simp only [frz1]
    cases hw : wr h with
    | false => exact h0
    | true =>
      simp only [cond_true]
      split
      · split
        · split
          · exact ⟨mapM_non (fun _ => subB_uses) h0.nam, fun t => subB_uses (h0.env t), h0.df⟩
          · exact h0
        · exact h0
      · exact h0
theorem mapM_lock {f : AV → AV} {k : Nat} (hh : wr h = true) (hk : wr k = false) : mapM wr f M h k = M k := by
  unfold mapM
  rcases beq_dec k h with ⟨e1, e2⟩ | ⟨e1, e2⟩
  · subst e2; rw [hh] at hk; simp at hk
  · rw [e1, hk]; rfl
theorem frz1_lock {f : Fz} {k : Nat} (hk : wr k = false) : (frz1 wr f e M).2 k = M k := by
  cases f with
  | row h =>
    simp only [frz1]
    cases hw : wr h with
    | false => rfl
    | true =>
      simp only [cond_true]
      split
      · exact mapM_lock hw hk
      · rfl
  | box h t =>
    simp only [frz1]
    cases hw : wr h with
    | false => rfl
    | true =>
      simp only [cond_true]
      split
      · split
        · split
          · exact mapM_lock hw hk
          · rfl
        · rfl
      · rfl
theorem frzs_rel : ∀ {l : List Fz} {F : Mem} {e : Env} {M : Mm}, Rel T nt B df ρ F e M a w → ∃ F', Sub F F' ∧ Rel T nt B df ρ F' (frzs wr l e M).1 (frzs wr l e M).2 a w
  | [], F, _, _, h => ⟨F, Sub.refl _, h⟩
  | f :: l, _, _, _, h => by
    obtain ⟨F1, s1, h1⟩ := frz1_rel (wr := wr) (f := f) h
    obtain ⟨F2, s2, h2⟩ := frzs_rel (l := l) h1
    exact ⟨F2, s1.trans s2, h2⟩
theorem frzs_non {k : Nat} : ∀ {l : List Fz} {e : Env} {M : Mm}, NoN B df e M k → NoN B df (frzs wr l e M).1 (frzs wr l e M).2 k
  | [], _, _, h => h
  | f :: l, _, _, h => frzs_non (l := l) (frz1_non h)
theorem frzs_lock {k : Nat} (hk : wr k = false) : ∀ {l : List Fz} {e : Env} {M : Mm}, (frzs wr l e M).2 k = M k
  | [], _, _ => rfl
  | f :: l, _, _ => (frzs_lock hk (l := l)).trans (frz1_lock hk)
end
end Go.Proofs.Ytohglckebkgbpaa
