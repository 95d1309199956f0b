/-
  A function's text on plain data: from a state to a loop's head.
-/
import Derived.Test.YtohglckebkgbpaaUt
namespace Go.Proofs.Ytohglckebkgbpaa
open Go.RowKit

/-- addresses at a loop's head -/
def rhoH (q : List (Nat × Option Nat)) (ρ : Nat → Value) : Nat → Value := fun k => match look q k with
  | some (some s) => ρ s
  | some none => .slice none 0 0
  | none => ρ k
section
variable {T : Tab} {nt : Nat} {B : Bx} {df : List Nat} {ρ : Nat → Value} {F : Mem} {e : Env} {M M0 : Mm} {a : Act} {w : World} {wr : Nat → Bool} {n : Nat} {b : Env}
theorem row_wf {h E : Nat} {t : Ty} {xs : List t.T} (st : St B ρ F M w) (hM : M h = some (.row E t xs)) : WF (.sl t) xs := (row_read st hM).wf rfl
theorem src_wf {E : Nat} {t : Ty} {xs : List t.T} {s : Option Nat} (st : St B ρ F M w) (k : RowSrc M wr E t xs s) : WF (.sl t) xs := by
  cases s with
  | none => rw [show xs = [] from k]; exact ⟨Nat.zero_le _, by simp⟩
  | some s => exact row_wf st k.1
theorem readC_wf (st : St B ρ F M w) : ∀ {l : List CT} {r : List AV} {vs : List Value} {q : (ctT l).T × List (Nat × Option Nat)}, readC M wr n l r = some q → (∀ (j : Nat) (c : AV), r[j]? = some c → RepA ρ F c (vs.getD j undef)) → WF (ctT l) q.1
  | [], [], _, q, h, _ => by simp only [readC, Option.some.injEq] at h; subst h; trivial
  | .d t :: l, a :: r, vs, q, h, hr => by
    simp only [readC] at h
    cases ht : t.isT with
    | true => rw [ht] at h; simp at h
    | false =>
      rw [ht] at h
      simp only [cond_false] at h
      split at h <;> try (simp at h; done)
      rename_i x hx
      split at h <;> simp only [Option.some.injEq, reduceCtorEq] at h
      rename_i p hp
      subst h
      exact ⟨(as_rep hx (hr 0 a rfl)).wf ht, readC_wf st (vs := vs.drop 1) hp fun j c hj => by
        have := hr (j + 1) c (by simpa using hj)
        rw [List.getD_eq_getElem?_getD] at this ⊢
        rw [List.getElem?_drop, Nat.add_comm]
        exact this⟩
  | .own k e t :: l, a :: r, vs, q, h, hr => by
    simp only [readC] at h
    split at h <;> try (simp at h; done)
    rename_i q0 hq
    split at h <;> simp only [Option.some.injEq, reduceCtorEq] at h
    rename_i p hp
    subst h
    exact ⟨src_wf st (rowOf_src hq).1, readC_wf st (vs := vs.drop 1) hp fun j c hj => by
        have := hr (j + 1) c (by simpa using hj)
        rw [List.getD_eq_getElem?_getD] at this ⊢
        rw [List.getElem?_drop, Nat.add_comm]
        exact this⟩
  | [], _ :: _, _, _, h, _ => by simp [readC] at h
  | .d _ :: _, [], _, _, h, _ => by simp [readC] at h
  | .own _ _ _ :: _, [], _, _, h, _ => by simp [readC] at h
theorem readT_wf (h : Rel T nt B df ρ F e M a w) : ∀ {l : List Trk} {q : (trT l).T × List (Nat × Option Nat)}, readT e M wr n l = some q → trW l q.1
  | [], _, _ => trivial
  | .val s t :: l, q, hr => by
    simp only [readT] at hr
    cases ht : t.isT with
    | true => rw [ht] at hr; simp at hr
    | false =>
      rw [ht] at hr
      simp only [cond_false] at hr
      split at hr <;> try (simp at hr; done)
      rename_i x hx
      split at hr <;> simp only [Option.some.injEq, reduceCtorEq] at hr
      rename_i p hp
      subst hr
      exact ⟨(as_rep hx (h.env s)).wf ht, readT_wf h hp⟩
  | .own s k e' t :: l, q, hr => by
    simp only [readT] at hr
    split at hr <;> try (simp at hr; done)
    rename_i q0 hq
    split at hr <;> simp only [Option.some.injEq, reduceCtorEq] at hr
    rename_i p hp
    subst hr
    exact ⟨src_wf h.st (rowOf_src hq).1, readT_wf h hp⟩
  | .obj j cs :: l, q, hr => by
    simp only [readT] at hr
    obtain ⟨_, hr⟩ := bif_some hr
    split at hr <;> try (simp at hr; done)
    rename_i r hM
    split at hr <;> try (simp at hr; done)
    rename_i q0 hq
    split at hr <;> simp only [Option.some.injEq, reduceCtorEq] at hr
    rename_i p hp
    subst hr
    obtain ⟨b, arr, e, _, _, _, _, h5⟩ := h.st.obs j _ hM
    exact ⟨readC_wf h.st (vs := arr.toList) hq fun i c hi => by simpa [Array.getD_eq_getD_getElem?, List.getD_eq_getElem?_getD] using h5 i c hi, readT_wf h hp⟩
  | .mp j kt vt :: l, q, hr => by
    simp only [readT] at hr
    obtain ⟨_, hr⟩ := bif_some hr
    split at hr <;> try (simp at hr; done)
    rename_i k' v' ls hM
    split at hr <;> try (simp at hr; done)
    rename_i ys hys
    split at hr <;> simp only [Option.some.injEq, reduceCtorEq] at hr
    rename_i p hp
    subst hr
    obtain ⟨e0, rfl⟩ := castT_some hys
    cases e0
    obtain ⟨b, ls', _, _, _, h4⟩ := h.st.obs j _ hM
    exact ⟨h4, readT_wf h hp⟩
  | .rw j e' t :: l, q, hr => by
    simp only [readT] at hr
    obtain ⟨_, hr⟩ := bif_some hr
    split at hr <;> try (simp at hr; done)
    rename_i e2 t' xs hM
    obtain ⟨hb, hr2⟩ := bif_some hr
    replace hr := hr2
    clear hr2
    cases hys : castT (.sl t') (.sl t) xs with
    | none => rw [hys] at hr; simp at hr
    | some ys =>
      rw [hys] at hr
      simp only at hr
      split at hr <;> simp only [Option.some.injEq, reduceCtorEq] at hr
      rename_i p hp
      subst hr
      obtain ⟨e0, e1⟩ := castT_some hys
      cases e0
      cases e1
      exact ⟨row_wf h.st hM, readT_wf h hp⟩
  | .lp j :: l, q, hr => by
    simp only [readT] at hr
    obtain ⟨_, hr⟩ := bif_some hr
    exact readT_wf (l := l) (q := q) h (lp_some hr).2
theorem rhoH_mem {q : List (Nat × Option Nat)} {k : Nat} {s : Option Nat} (hd : distinctB (keys q) = true) (hm : (k, s) ∈ q) : rhoH q ρ k = match s with | some s => ρ s | none => .slice none 0 0 := by
  unfold rhoH
  rw [look_of_mem (distinct_nodup hd) hm]
  cases s <;> rfl
theorem rhoH_out {l : List Trk} {q : (trT l).T × List (Nat × Option Nat)} (hr : readT e M wr n l = some q) {k : Nat} (hk : k < n) : rhoH q.2 ρ k = ρ k := by
  unfold rhoH
  cases hl : look q.2 k with
  | none => rfl
  | some s =>
    obtain ⟨j, _, e⟩ := readT_tail hr k s (look_mem hl)
    omega
/-- a cell or a slot that is told anew -/
theorem CellSrc.rep {pr : List (Nat × Option Nat)} {c d : AV} {v : Value} (hd : distinctB (keys pr) = true) (k : CellSrc M wr pr c d) (r : RepA ρ F c v) : RepA (rhoH pr ρ) F d v := by
  rcases k with ⟨t, x, rfl, hx⟩ | ⟨h, e, t, s, xs, rfl, hm, _, hs⟩
  · exact as_rep hx r
  · show v = rhoH pr ρ h
    rw [rhoH_mem hd hm]
    rcases hs with ⟨rfl, rfl⟩ | ⟨k, rfl, rfl⟩
    · exact r
    · exact r
/-- every object at the head is one of before -/
theorem head_src {l : List Trk} {q : (trT l).T × List (Nat × Option Nat)} (hr : readT e M wr n l = some q) (hd : distinctB (keys q.2) = true) (hobj : ∀ k ∈ objT l, k < n)
    (hm : ∀ k o, M0 k = some o → k ∉ objT l → M k = some o ∧ k < n ∧ k ∉ srcs q.2 ∧ ∀ j, o.uses j = true → j < n) {h : Nat} {o : Ob} (ho : headM n l q.1 M0 h = some o) :
    (∃ s o2, M s = some o2 ∧ rhoH q.2 ρ h = ρ s ∧ ((s = h ∧ h ∉ srcs q.2 ∧ h ∉ objT l) ∨ (h, some s) ∈ q.2 ∨ (s = h ∧ h ∈ objT l))) ∨ blk (rhoH q.2 ρ h) = none := by
  rcases headM_spec hr ho with ⟨h1, h2⟩ | ⟨e', t, s, xs, rfl, hp, hs⟩ | ⟨h1, hw, h2⟩
  · obtain ⟨k1, k2, k3, _⟩ := hm h o h1 h2
    exact .inl ⟨h, o, k1, rhoH_out hr k2, .inl ⟨rfl, k3, h2⟩⟩
  · cases s with
    | none => right; rw [rhoH_mem hd hp]; rfl
    | some s => exact .inl ⟨s, _, hs.1, rhoH_mem hd hp, .inr (.inl hp)⟩
  · have : ∃ o2, M h = some o2 := by
      rcases h2 with h2 | ⟨r, cs, _, h2, _⟩
      · exact ⟨_, h2.1⟩
      · exact ⟨_, h2⟩
    obtain ⟨o2, ho2⟩ := this
    exact .inl ⟨h, o2, ho2, rhoH_out hr (hobj h h1), .inr (.inr ⟨rfl, h1⟩)⟩
theorem free_not {l m : List Nat} (h : freeB l m = true) : ∀ k ∈ l, k ∉ m := by
  induction l with
  | nil => intro k hk; simp at hk
  | cons x l ih =>
    intro k hk
    simp only [freeB, Bool.and_eq_true, Bool.not_eq_true'] at h
    rcases List.mem_cons.1 hk with rfl | hk
    · intro hm
      rw [memB_mem.2 hm] at h
      simp at h
    · exact ih h.2 k hk
/-- the state at a loop's head -/
theorem head_rel {l : List Trk} {q : (trT l).T × List (Nat × Option Nat)} (h : Rel T nt B df ρ F e M a w) (hr : readT e M wr n l = some q)
    (hd : distinctB (srcs q.2) = true) (hk : distinctB (keys q.2) = true) (hfo : freeB (srcs q.2) (objT l) = true) (hobj : ∀ k ∈ objT l, k < n) (hdf : ∀ k ∈ df, k < n) (hnn : ∀ k, n ≤ k → (∀ j, ¬ B.usesL k j) ∧ B.LC k = none)
    (hb : ∀ t, RepA ρ F (b t) (a.tmps.getD t undef) ∧ ∀ k, (b t).uses k = true → k < n)
    (hm : ∀ k o, M0 k = some o → k ∉ objT l → M k = some o ∧ k < n ∧ k ∉ srcs q.2 ∧ ∀ j, o.uses j = true → j < n) :
    Rel T nt B df (rhoH q.2 ρ) F (headV n l q.1 b) (headM n l q.1 M0) a w := by
  have ho : ∀ k, k < n → rhoH q.2 ρ k = ρ k := fun k hk => rhoH_out hr hk
  have hlc : ∀ k j, B.usesL k j → rhoH q.2 ρ k = ρ k := fun k j hu => ho k (by
    rcases Nat.lt_or_ge k n with hlt | hge
    · exact hlt
    · exact absurd hu ((hnn k hge).1 j))
  refine ⟨⟨h.st.os, h.st.tape, h.st.output, h.st.size, h.st.zlt, h.st.old, h.st.sub, h.st.sub0, h.st.new, ?_, ?_, ?_, ?_⟩, ?_, h.size, ?_, h.glob⟩
  · intro k o hko
    rcases headM_spec hr hko with ⟨h1, h2⟩ | ⟨e', t, s, xs, rfl, hp, hs⟩ | ⟨h1, hw, h2⟩
    · obtain ⟨k1, k2, k3, k4⟩ := hm k o h1 h2
      rw [ho k k2]
      exact (h.st.obs k o k1).agree fun j hj => by
        rcases hj with hj | hj
        · exact ho j (k4 j hj)
        · exact hlc j k hj
    · rw [rhoH_mem hk hp]
      cases s with
      | none =>
        rw [show xs = [] from hs]
        refine ⟨[], ⟨by simp, .inl ⟨rfl, rfl⟩⟩, ⟨by simp, fun i hi => absurd hi (by simp)⟩⟩
      | some s => exact h.st.obs s _ hs.1
    · rw [ho k (hobj k h1)]
      rcases h2 with ⟨h2, h3⟩ | ⟨r, cs, rfl, h2, h3, h4⟩
      · exact (h.st.obs k o h2).agree fun j hj => by
          rcases hj with hj | hj
          · rw [h3 j] at hj; simp at hj
          · exact hlc j k hj
      · obtain ⟨b', arr, e', r1, r2, r3, r4, r5⟩ := h.st.obs k _ h2
        exact ⟨b', arr, e', r1, r2, r3.trans h3.symm, r4, fun j c hc => let ⟨x, x1, x2⟩ := h4 j c hc; x2.rep hk (r5 j x x1)⟩
  · intro k o c hko hc
    rcases head_src (ρ := ρ) hr hk hobj hm hko with ⟨s, o2, h1, h2, _⟩ | h1
    · rw [h2] at hc; exact h.st.mine s o2 c h1 hc
    · rw [hc] at h1; simp at h1
  · intro k o c hko hc
    rcases head_src (ρ := ρ) hr hk hobj hm hko with ⟨s, o2, h1, h2, _⟩ | h1
    · rw [h2] at hc; exact h.st.apart s o2 c h1 hc
    · rw [hc] at h1; simp at h1
  · intro k k' o o' c hko hko' hc hc'
    rcases head_src (ρ := ρ) hr hk hobj hm hko with ⟨s, o2, h1, h2, h3⟩ | h1
    · rcases head_src (ρ := ρ) hr hk hobj hm hko' with ⟨s', o2', h1', h2', h3'⟩ | h1'
      · rw [h2] at hc
        rw [h2'] at hc'
        have := h.st.inj s s' o2 o2' c h1 h1' hc hc'
        subst this
        rcases h3 with ⟨e1, e2, e3⟩ | e1 | ⟨e1, e2⟩ <;> rcases h3' with ⟨f1, f2, f3⟩ | f1 | ⟨f1, f2⟩
        · rw [← e1, ← f1]
        · subst e1; exact absurd (mem_srcs f1) e2
        · rw [← e1, ← f1]
        · subst f1; exact absurd (mem_srcs e1) f2
        · exact src_inj (distinct_nodup hd) e1 f1
        · subst f1; exact absurd f2 (free_not hfo _ (mem_srcs e1))
        · rw [← e1, ← f1]
        · subst e1; exact absurd e2 (free_not hfo _ (mem_srcs f1))
        · rw [← e1, ← f1]
      · rw [hc'] at h1'; simp at h1'
    · rw [hc] at h1; simp at h1
  · intro t
    rcases headV_spec (b := b) t hr with h1 | h1
    · rw [h1]
      exact (hb t).1.agree fun k hk => ho k ((hb t).2 k hk)
    · exact h1.rep hk (h.env t)
  · rw [h.defs]
    exact (mark_agree fun k hk => ho k (hdf k hk)).symm
/-- a name that stays free at a loop's head -/
theorem head_free {l : List Trk} {q : (trT l).T × List (Nat × Option Nat)} {k : Nat} (hr : readT e M wr n l = some q) (hcn : ∀ j ∈ canT l, k ≠ n + j) (hobj : k ∉ objT l) (hdf : k ∉ df) (hnn : (∀ j, ¬ B.usesL k j) ∧ B.LC k = none)
    (hb : ∀ t, (b t).uses k = false) (h0 : M0 k = none) (hm : ∀ j o, M0 j = some o → j ∉ objT l → o.uses k = false) : NoN B df (headV n l q.1 b) (headM n l q.1 M0) k := by
  have cell : ∀ {c d : AV}, CellSrc M wr q.2 c d → d.uses k = false := by
    intro c d hc
    rcases hc with ⟨t, x, rfl, _⟩ | ⟨h', e', t, s, xs, rfl, hp, _⟩
    · rfl
    · obtain ⟨j, hj, e1⟩ := readT_tail hr h' s hp
      have := hcn j hj
      cases hq : Nat.beq h' k with
      | false => exact hq
      | true => have := Nat.eq_of_beq_eq_true hq; omega
  refine ⟨⟨?_, ?_, hnn.1, hnn.2⟩, ?_, hdf⟩
  · cases hq : headM n l q.1 M0 k with
    | none => rfl
    | some o =>
      exfalso
      rcases headM_spec hr hq with ⟨h1, h2⟩ | ⟨e', t, s, xs, rfl, hp, hs⟩ | ⟨h1, hw, h2⟩
      · rw [h0] at h1; simp at h1
      · obtain ⟨j, hj, e1⟩ := readT_tail hr k s hp
        exact hcn j hj e1
      · exact hobj h1
  · intro k' o hq
    rcases headM_spec hr hq with ⟨h1, h2⟩ | ⟨e', t, s, xs, rfl, hp, hs⟩ | ⟨h1, hw, h2⟩
    · exact hm k' o h1 h2
    · rfl
    · rcases h2 with ⟨h2, h3⟩ | ⟨r, cs, rfl, h2, h3, h4⟩
      · exact h3 k
      · simp only [Ob.uses, List.any_eq_false]
        intro c hc
        obtain ⟨j, hj⟩ := List.getElem?_of_mem hc
        obtain ⟨x, x1, x2⟩ := h4 j c hj
        simp [cell x2]
  · intro t
    rcases headV_spec (b := b) t hr with h1 | h1
    · rw [h1]; exact hb t
    · exact cell h1
theorem headC_out {k : Nat} : ∀ {l : List CT} {x : (ctT l).T} {M0 : Mm}, k < n → headMC n l x M0 k = M0 k
  | [], _, _, _ => rfl
  | .d _ :: l, x, M0, hk => headC_out (l := l) hk
  | .own j _ _ :: l, x, M0, hk => by
    simp only [headMC]
    rw [upd_other _ _ _ k (by omega)]
    exact headC_out (l := l) hk
/-- what a head does not tell stays as it was -/
theorem headM_out {k : Nat} : ∀ {l : List Trk} {x : (trT l).T} {M0 : Mm}, k < n → k ∉ objT l → headM n l x M0 k = M0 k
  | [], _, _, _, _ => rfl
  | .val _ _ :: l, x, M0, hk, ho => headM_out (l := l) hk ho
  | .own _ j _ _ :: l, x, M0, hk, ho => by
    simp only [headM]
    rw [upd_other _ _ _ k (by omega)]
    exact headM_out (l := l) hk ho
  | .obj h cs :: l, x, M0, hk, ho => by
    simp only [objT, List.mem_cons, not_or] at ho
    simp only [headM]
    rw [upd_other _ _ _ k ho.1, headC_out hk]
    exact headM_out (l := l) hk ho.2
  | .mp h _ _ :: l, x, M0, hk, ho => by
    simp only [objT, List.mem_cons, not_or] at ho
    simp only [headM]
    rw [upd_other _ _ _ k ho.1]
    exact headM_out (l := l) hk ho.2
  | .rw h _ _ :: l, x, M0, hk, ho => by
    simp only [objT, List.mem_cons, not_or] at ho
    simp only [headM]
    rw [upd_other _ _ _ k ho.1]
    exact headM_out (l := l) hk ho.2
  | .lp h :: l, x, M0, hk, ho => by
    simp only [objT, List.mem_cons, not_or] at ho
    simp only [headM]
    rw [upd_other _ _ _ k ho.1]
    exact headM_out (l := l) (x := x) hk ho.2
end
end Go.Proofs.Ytohglckebkgbpaa
