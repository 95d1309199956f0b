/-
  A function's text on plain data: what is shown of it is so in the machine.
-/
import Derived.Test.YtohglckebkgbpaaCd
import Derived.Scope
namespace Go.Proofs.Ytohglckebkgbpaa
open Go.RowKit

theorem RepA.agree {ρ ρ' : Nat → Value} {F : Mem} : ∀ {a : AV} {v : Value}, (∀ h, a.uses h = true → ρ' h = ρ h) → RepA ρ F a v → RepA ρ' F a v
  | .any, _, _, _ => trivial
  | .nil, _, _, r => r
  | .d _ _, _, _, r => r
  | .kp _ _, _, _, r => r
  | .hp k _, _, hu, r => by
    have := hu k (by simp [AV.uses, Nat.beq_refl])
    simp only [RepA, this]; exact r
  | .he k _ _, _, hu, r => by
    have := hu k (by simp [AV.uses, Nat.beq_refl])
    simp only [RepA, this]; exact r
  | .hs k, _, hu, r => by
    have := hu k (by simp [AV.uses, Nat.beq_refl])
    simp only [RepA, this]; exact r
  | .fn _ _, _, _, r => r
  | .opt _ _, _, hu, r => ⟨fun hg => RepA.agree (fun h k => hu h (by simpa [AV.uses] using k)) (r.1 hg), r.2⟩
  | .v _, _, _, r => r

theorem distinct_nodup : ∀ {l : List Nat}, distinctB l = true → l.Nodup
  | [], _ => List.nodup_nil
  | a :: l, h => by
    simp only [distinctB, Bool.and_eq_true, Bool.not_eq_true'] at h
    refine List.nodup_cons.2 ⟨fun hm => ?_, distinct_nodup h.2⟩
    have := memB_mem.2 hm
    rw [h.1] at this
    simp at this
theorem mem_keys {l : List (Nat × Option Nat)} {k : Nat} {s : Option Nat} (h : (k, s) ∈ l) : k ∈ keys l := by
  induction l with
  | nil => simp at h
  | cons p l ih =>
    rcases List.mem_cons.1 h with rfl | h
    · simp [keys]
    · simp [keys, ih h]
theorem mem_srcs {l : List (Nat × Option Nat)} {k s : Nat} (h : (k, some s) ∈ l) : s ∈ srcs l := by
  induction l with
  | nil => simp at h
  | cons p l ih =>
    rcases List.mem_cons.1 h with rfl | h
    · simp [srcs]
    · simp only [srcs]; split <;> simp [ih h]
theorem look_of_mem {l : List (Nat × Option Nat)} {k : Nat} {s : Option Nat} (hd : (keys l).Nodup) (h : (k, s) ∈ l) : look l k = some s := by
  induction l with
  | nil => simp at h
  | cons p l ih =>
    simp only [keys] at hd
    rw [List.nodup_cons] at hd
    simp only [look]
    rcases List.mem_cons.1 h with rfl | h
    · simp [Nat.beq_refl]
    · have hne : p.1 ≠ k := fun e => hd.1 (e ▸ mem_keys h)
      have : Nat.beq p.1 k = false := by cases hq : Nat.beq p.1 k; rfl; exact absurd (Nat.eq_of_beq_eq_true hq) hne
      rw [this]
      exact ih hd.2 h
theorem src_inj {l : List (Nat × Option Nat)} {k k' s : Nat} (hd : (srcs l).Nodup) (h : (k, some s) ∈ l) (h' : (k', some s) ∈ l) : k = k' := by
  induction l with
  | nil => simp at h
  | cons p l ih =>
    obtain ⟨a, b⟩ := p
    simp only [srcs] at hd
    simp only [List.mem_cons, Prod.mk.injEq] at h h'
    rcases h with ⟨e1, e2⟩ | h1
    · rcases h' with ⟨e3, _⟩ | h2
      · rw [e1, e3]
      · subst e2
        simp only at hd
        exact absurd (mem_srcs h2) (List.nodup_cons.1 hd).1
    · rcases h' with ⟨e1, e2⟩ | h2
      · subst e2
        simp only at hd
        exact absurd (mem_srcs h1) (List.nodup_cons.1 hd).1
      · refine ih ?_ h1 h2
        split at hd
        · exact (List.nodup_cons.1 hd).2
        · exact hd

/-- where a row that is told anew comes from -/
def RowSrc (M : Mm) (e : TypeId) (t : Ty) (xs : List t.T) : Option Nat → Prop
  | none => xs = []
  | some s => M s = some (.row e t xs)
theorem rowOf_src {M : Mm} {e : TypeId} {t : Ty} {a : AV} {q : Option Nat × List t.T} (h : rowOf M e t a = some q) : RowSrc M e t q.2 q.1 ∧ ((a = .nil ∧ q.1 = none) ∨ ∃ s, a = .hs s ∧ q.1 = some s) := by
  unfold rowOf at h
  split at h
  · simp only [Option.some.injEq] at h; subst h; exact ⟨rfl, .inl ⟨rfl, rfl⟩⟩
  · rename_i s
    split at h <;> try (simp at h; done)
    rename_i e' te xs hM
    cases hb : Nat.beq e e' with
    | false => rw [hb] at h; simp at h
    | true =>
      rw [hb] at h
      have := Nat.eq_of_beq_eq_true hb
      subst this
      simp only [cond_true] at h
      cases hy : castT (.sl te) (.sl t) xs with
      | none => rw [hy] at h; simp at h
      | some ys =>
        rw [hy] at h
        simp only [Option.some.injEq] at h
        obtain ⟨e1, rfl⟩ := castT_some hy
        cases e1
        subst h
        exact ⟨hM, .inr ⟨s, rfl, rfl⟩⟩
  · simp at h
/-- a cell of an object told anew -/
def CellSrc (M : Mm) (pr : List (Nat × Option Nat)) (a c : AV) : Prop :=
  (∃ t x, c = .d t x ∧ a.as t = some x) ∨ ∃ h e t s, ∃ xs : List (Ty.T t), c = .hs h ∧ (h, s) ∈ pr ∧ RowSrc M e t xs s ∧ ((a = .nil ∧ s = none) ∨ ∃ k, a = .hs k ∧ s = some k)
theorem readC_spec {M : Mm} : ∀ {l : List CT} {r : List AV} {q : (ctT l).T × List (Nat × Option Nat)}, readC M l r = some q →
    (headC l q.1).length = r.length ∧ ∀ (j : Nat) (c : AV), (headC l q.1)[j]? = some c → ∃ a : AV, r[j]? = some a ∧ CellSrc M q.2 a c
  | [], [], q, h => by simp only [readC, Option.some.injEq] at h; subst h; simp [headC]
  | .d t :: l, a :: r, q, h => by
    simp only [readC] at h
    cases ht : t.isT with
    | true => rw [ht] at h; simp at h
    | false =>
      rw [ht] at h
      simp only [cond_false] at h
      split at h <;> try (simp at h; done)
      rename_i x hx
      split at h <;> simp only [Option.some.injEq, reduceCtorEq] at h
      rename_i p hp
      subst h
      obtain ⟨h1, h2⟩ := readC_spec hp
      refine ⟨by simp [headC, h1], fun j c hj => ?_⟩
      cases j with
      | zero => simp [headC] at hj; subst hj; exact ⟨a, rfl, .inl ⟨t, x, rfl, hx⟩⟩
      | succ j => simp [headC] at hj; simpa using h2 j c hj
  | .own k e t :: l, a :: r, q, h => by
    simp only [readC] at h
    split at h <;> try (simp at h; done)
    rename_i q0 hq
    split at h <;> simp only [Option.some.injEq, reduceCtorEq] at h
    rename_i p hp
    subst h
    obtain ⟨h1, h2⟩ := readC_spec hp
    obtain ⟨k1, k2⟩ := rowOf_src hq
    refine ⟨by simp [headC, h1], fun j c hj => ?_⟩
    cases j with
    | zero => simp [headC] at hj; subst hj; exact ⟨a, rfl, .inr ⟨k, e, t, q0.1, q0.2, rfl, by simp, k1, k2⟩⟩
    | succ j =>
      simp [headC] at hj
      obtain ⟨b, b1, b2⟩ := h2 j c hj
      refine ⟨b, by simpa using b1, ?_⟩
      rcases b2 with b2 | ⟨h, e, t, s, xs, c1, c2, c3⟩
      · exact .inl b2
      · exact .inr ⟨h, e, t, s, xs, c1, by simp [c2], c3⟩
  | [], _ :: _, _, h => by simp [readC] at h
  | .d _ :: _, [], _, h => by simp [readC] at h
  | .own _ _ _ :: _, [], _, h => by simp [readC] at h
/-- an object told anew -/
def ObSrc (M : Mm) (pr : List (Nat × Option Nat)) (k : Nat) (ob : Ob) : Prop :=
  (∃ e t s, ∃ xs : List (Ty.T t), ob = .row e t xs ∧ (k, s) ∈ pr ∧ RowSrc M e t xs s) ∨
  ∃ r cs : List AV, ob = .cells cs ∧ (k, some k) ∈ pr ∧ M k = some (.cells r) ∧ cs.length = r.length ∧ ∀ (j : Nat) (c : AV), cs[j]? = some c → ∃ a : AV, r[j]? = some a ∧ CellSrc M pr a c
theorem CellSrc.mono {M : Mm} {pr pr' : List (Nat × Option Nat)} {a c : AV} (hs : ∀ x ∈ pr, x ∈ pr') (h : CellSrc M pr a c) : CellSrc M pr' a c := by
  rcases h with h | ⟨h, e, t, s, xs, c1, c2, c3⟩
  · exact .inl h
  · exact .inr ⟨h, e, t, s, xs, c1, hs _ c2, c3⟩
theorem ObSrc.mono {M : Mm} {pr pr' : List (Nat × Option Nat)} {k : Nat} {ob : Ob} (hs : ∀ x ∈ pr, x ∈ pr') (h : ObSrc M pr k ob) : ObSrc M pr' k ob := by
  rcases h with ⟨e, t, s, xs, c1, c2, c3⟩ | ⟨r, cs, c1, c2, c3, c4, c5⟩
  · exact .inl ⟨e, t, s, xs, c1, hs _ c2, c3⟩
  · exact .inr ⟨r, cs, c1, hs _ c2, c3, c4, fun j c hj => let ⟨a, a1, a2⟩ := c5 j c hj; ⟨a, a1, a2.mono hs⟩⟩
theorem headMC_spec {M : Mm} : ∀ {l : List CT} {r : List AV} {q : (ctT l).T × List (Nat × Option Nat)} {M0 : Mm} {k : Nat} {ob : Ob}, readC M l r = some q → headMC l q.1 M0 k = some ob → M0 k = some ob ∨ ObSrc M q.2 k ob
  | [], [], q, M0, k, ob, h, hk => by simp only [readC, Option.some.injEq] at h; subst h; exact .inl hk
  | .d t :: l, a :: r, q, M0, k, ob, h, hk => by
    simp only [readC] at h
    cases ht : t.isT with
    | true => rw [ht] at h; simp at h
    | false =>
      rw [ht] at h
      simp only [cond_false] at h
      split at h <;> try (simp at h; done)
      split at h <;> simp only [Option.some.injEq, reduceCtorEq] at h
      rename_i p hp
      subst h
      simp only [headMC] at hk
      exact headMC_spec (q := p) hp hk
  | .own n e t :: l, a :: r, q, M0, k, ob, h, hk => by
    simp only [readC] at h
    split at h <;> try (simp at h; done)
    rename_i q0 hq
    split at h <;> simp only [Option.some.injEq, reduceCtorEq] at h
    rename_i p hp
    subst h
    simp only [headMC] at hk
    by_cases e1 : k = n
    · subst e1
      rw [upd_self] at hk
      cases hk
      exact .inr (Or.inl ⟨e, t, q0.1, q0.2, rfl, by simp, (rowOf_src hq).1⟩)
    · rw [upd_other _ _ _ k e1] at hk
      rcases headMC_spec hp hk with h1 | h1
      · exact .inl h1
      · exact .inr (h1.mono fun x hx => by simp [hx])
  | [], _ :: _, _, _, _, _, h, _ => by simp [readC] at h
  | .d _ :: _, [], _, _, _, _, h, _ => by simp [readC] at h
  | .own _ _ _ :: _, [], _, _, _, _, h, _ => by simp [readC] at h
theorem headM_spec {e : Env} {M : Mm} : ∀ {l : List Trk} {q : (trT l).T × List (Nat × Option Nat)} {k : Nat} {ob : Ob}, readT e M l = some q → headM l q.1 k = some ob → ObSrc M q.2 k ob
  | [], q, k, ob, h, hk => by simp [headM] at hk
  | .val s t :: l, q, k, ob, h, hk => by
    simp only [readT] at h
    cases ht : t.isT with
    | true => rw [ht] at h; simp at h
    | false =>
      rw [ht] at h
      simp only [cond_false] at h
      split at h <;> try (simp at h; done)
      split at h <;> simp only [Option.some.injEq, reduceCtorEq] at h
      rename_i p hp
      subst h
      simp only [headM] at hk
      exact headM_spec (q := p) hp hk
  | .own s n e' t :: l, q, k, ob, h, hk => by
    simp only [readT] at h
    split at h <;> try (simp at h; done)
    rename_i q0 hq
    split at h <;> simp only [Option.some.injEq, reduceCtorEq] at h
    rename_i p hp
    subst h
    simp only [headM] at hk
    by_cases e1 : k = n
    · subst e1
      rw [upd_self] at hk
      cases hk
      exact Or.inl ⟨e', t, q0.1, q0.2, rfl, by simp, (rowOf_src hq).1⟩
    · rw [upd_other _ _ _ k e1] at hk
      exact (headM_spec hp hk).mono fun x hx => by simp [appL_eq, hx]
  | .obj n cs :: l, q, k, ob, h, hk => by
    simp only [readT] at h
    split at h <;> try (simp at h; done)
    rename_i r hr
    split at h <;> try (simp at h; done)
    rename_i q0 hq
    split at h <;> simp only [Option.some.injEq, reduceCtorEq] at h
    rename_i p hp
    subst h
    simp only [headM] at hk
    by_cases e1 : k = n
    · subst e1
      rw [upd_self] at hk
      cases hk
      obtain ⟨s1, s2⟩ := readC_spec hq
      exact Or.inr ⟨r, _, rfl, by simp, hr, s1, fun j c hj => let ⟨a, a1, a2⟩ := s2 j c hj; ⟨a, a1, a2.mono fun x hx => by simp [appL_eq, hx]⟩⟩
    · rw [upd_other _ _ _ k e1] at hk
      rcases headMC_spec hq hk with h1 | h1
      · exact (headM_spec hp h1).mono fun x hx => by simp [appL_eq, hx]
      · exact h1.mono fun x hx => by simp [appL_eq, hx]
theorem headV_spec {e : Env} {M : Mm} {b : Env} : ∀ {l : List Trk} {q : (trT l).T × List (Nat × Option Nat)} (t : Nat), readT e M l = some q → headV l q.1 b t = b t ∨ CellSrc M q.2 (e t) (headV l q.1 b t)
  | [], q, t, h => .inl rfl
  | .val s τ :: l, q, t, h => by
    simp only [readT] at h
    cases ht : τ.isT with
    | true => rw [ht] at h; simp at h
    | false =>
      rw [ht] at h
      simp only [cond_false] at h
      split at h <;> try (simp at h; done)
      rename_i x hx
      split at h <;> simp only [Option.some.injEq, reduceCtorEq] at h
      rename_i p hp
      subst h
      simp only [headV]
      by_cases e1 : t = s
      · subst e1
        rw [upd_self]
        exact .inr (.inl ⟨τ, x, rfl, hx⟩)
      · rw [upd_other _ _ _ t e1]
        exact headV_spec t hp
  | .own s n e' τ :: l, q, t, h => by
    simp only [readT] at h
    split at h <;> try (simp at h; done)
    rename_i q0 hq
    split at h <;> simp only [Option.some.injEq, reduceCtorEq] at h
    rename_i p hp
    subst h
    simp only [headV]
    by_cases e1 : t = s
    · subst e1
      rw [upd_self]
      obtain ⟨k1, k2⟩ := rowOf_src hq
      exact .inr (.inr ⟨n, e', τ, q0.1, q0.2, rfl, by simp, k1, k2⟩)
    · rw [upd_other _ _ _ t e1]
      rcases headV_spec (b := b) t hp with h1 | h1
      · exact .inl h1
      · exact .inr (h1.mono fun x hx => by simp [appL_eq, hx])
  | .obj n cs :: l, q, t, h => by
    simp only [readT] at h
    split at h <;> try (simp at h; done)
    split at h <;> try (simp at h; done)
    split at h <;> simp only [Option.some.injEq, reduceCtorEq] at h
    rename_i p hp
    subst h
    simp only [headV]
    rcases headV_spec (b := b) t hp with h1 | h1
    · exact .inl h1
    · exact .inr (h1.mono fun x hx => by simp [appL_eq, hx])
theorem keysC {M : Mm} : ∀ {l : List CT} {r : List AV} {q : (ctT l).T × List (Nat × Option Nat)}, readC M l r = some q → ∀ k s, (k, s) ∈ q.2 → k ∈ canC l
  | [], [], q, h, k, s, hm => by simp only [readC, Option.some.injEq] at h; subst h; simp at hm
  | .d t :: l, a :: r, q, h, k, s, hm => by
    simp only [readC] at h
    cases ht : t.isT with
    | true => rw [ht] at h; simp at h
    | false =>
      rw [ht] at h
      simp only [cond_false] at h
      split at h <;> try (simp at h; done)
      split at h <;> simp only [Option.some.injEq, reduceCtorEq] at h
      rename_i p hp
      subst h
      exact keysC hp k s hm
  | .own n e t :: l, a :: r, q, h, k, s, hm => by
    simp only [readC] at h
    split at h <;> try (simp at h; done)
    split at h <;> simp only [Option.some.injEq, reduceCtorEq] at h
    rename_i p hp
    subst h
    simp only [List.mem_cons, Prod.mk.injEq] at hm
    rcases hm with hm | hm
    · simp [canC, hm.1]
    · simp [canC, keysC hp k s hm]
  | [], _ :: _, _, h, _, _, _ => by simp [readC] at h
  | .d _ :: _, [], _, h, _, _, _ => by simp [readC] at h
  | .own _ _ _ :: _, [], _, h, _, _, _ => by simp [readC] at h
theorem keysT {e : Env} {M : Mm} : ∀ {l : List Trk} {q : (trT l).T × List (Nat × Option Nat)}, readT e M l = some q → ∀ k s, (k, s) ∈ q.2 → k ∈ canT l ∨ (k ∈ objT l ∧ s = some k)
  | [], q, h, k, s, hm => by simp only [readT, Option.some.injEq] at h; subst h; simp at hm
  | .val s' τ :: l, q, h, k, s, hm => by
    simp only [readT] at h
    cases ht : τ.isT with
    | true => rw [ht] at h; simp at h
    | false =>
      rw [ht] at h
      simp only [cond_false] at h
      split at h <;> try (simp at h; done)
      split at h <;> simp only [Option.some.injEq, reduceCtorEq] at h
      rename_i p hp
      subst h
      exact keysT hp k s hm
  | .own s' n e' τ :: l, q, h, k, s, hm => by
    simp only [readT] at h
    split at h <;> try (simp at h; done)
    split at h <;> simp only [Option.some.injEq, reduceCtorEq] at h
    rename_i p hp
    subst h
    simp only [List.mem_cons, Prod.mk.injEq] at hm
    rcases hm with hm | hm
    · exact .inl (by simp [canT, hm.1])
    · rcases keysT hp k s hm with h1 | h1
      · exact .inl (by simp [canT, h1])
      · exact .inr (by simpa [objT] using h1)
  | .obj n cs :: l, q, h, k, s, hm => by
    simp only [readT] at h
    split at h <;> try (simp at h; done)
    split at h <;> try (simp at h; done)
    rename_i q0 hq
    split at h <;> simp only [Option.some.injEq, reduceCtorEq] at h
    rename_i p hp
    subst h
    simp only [appL_eq, List.mem_cons, Prod.mk.injEq, List.mem_append] at hm
    rcases hm with hm | hm | hm
    · exact .inr (by simp [objT, hm.1, hm.2])
    · exact .inl (by simp [canT, appL_eq, keysC hq k s hm])
    · rcases keysT hp k s hm with h1 | h1
      · exact .inl (by simp [canT, appL_eq, h1])
      · exact .inr ⟨by simp [objT, h1.1], h1.2⟩
end Go.Proofs.Ytohglckebkgbpaa
