/-
  A function's text on plain data: heads of loops, objects frozen.
-/
import Derived.Test.YtohglckebkgbpaaUs
namespace Go.Proofs.Ytohglckebkgbpaa
open Go.RowKit

theorem distinct_nodup : ∀ {l : List Nat}, distinctB l = true → l.Nodup
  | [], _ => List.nodup_nil
  | a :: l, h => by
    simp only [distinctB, Bool.and_eq_true, Bool.not_eq_true'] at h
    refine List.nodup_cons.2 ⟨fun hm => ?_, distinct_nodup h.2⟩
    have := memB_mem.2 hm
    rw [h.1] at this
    simp at this
theorem mem_keys {l : List (Nat × Option Nat)} {k : Nat} {s : Option Nat} (h : (k, s) ∈ l) : k ∈ keys l := by
  induction l with
  | nil => simp at h
  | cons p l ih =>
    rcases List.mem_cons.1 h with rfl | h
    · simp [keys]
    · simp [keys, ih h]
theorem mem_srcs {l : List (Nat × Option Nat)} {k s : Nat} (h : (k, some s) ∈ l) : s ∈ srcs l := by
  induction l with
  | nil => simp at h
  | cons p l ih =>
    rcases List.mem_cons.1 h with rfl | h
    · simp [srcs]
    · simp only [srcs]; split <;> simp [ih h]
theorem look_of_mem {l : List (Nat × Option Nat)} {k : Nat} {s : Option Nat} (hd : (keys l).Nodup) (h : (k, s) ∈ l) : look l k = some s := by
  induction l with
  | nil => simp at h
  | cons p l ih =>
    simp only [keys] at hd
    rw [List.nodup_cons] at hd
    simp only [look]
    rcases List.mem_cons.1 h with rfl | h
    · simp [Nat.beq_refl]
    · have hne : p.1 ≠ k := fun e => hd.1 (e ▸ mem_keys h)
      have : Nat.beq p.1 k = false := by cases hq : Nat.beq p.1 k; rfl; exact absurd (Nat.eq_of_beq_eq_true hq) hne
      rw [this]
      exact ih hd.2 h
theorem src_inj {l : List (Nat × Option Nat)} {k k' s : Nat} (hd : (srcs l).Nodup) (h : (k, some s) ∈ l) (h' : (k', some s) ∈ l) : k = k' := by
  induction l with
  | nil => simp at h
  | cons p l ih =>
    obtain ⟨a, b⟩ := p
    simp only [srcs] at hd
    simp only [List.mem_cons, Prod.mk.injEq] at h h'
    rcases h with ⟨e1, e2⟩ | h1
    · rcases h' with ⟨e3, _⟩ | h2
      · rw [e1, e3]
      · subst e2
        simp only at hd
        exact absurd (mem_srcs h2) (List.nodup_cons.1 hd).1
    · rcases h' with ⟨e1, e2⟩ | h2
      · subst e2
        simp only at hd
        exact absurd (mem_srcs h1) (List.nodup_cons.1 hd).1
      · refine ih ?_ h1 h2
        split at hd
        · exact (List.nodup_cons.1 hd).2
        · exact hd

theorem lp_some {α : Type} {M : Mm} {h : Nat} {x : Option α} {y : α} (hh : (match M h with | some (.lp none) => x | _ => none) = some y) : M h = some (.lp none) ∧ x = some y := by
  cases hM : M h with
  | none => rw [hM] at hh; simp at hh
  | some o =>
    rw [hM] at hh
    cases o with
    | lp j => cases j with
      | none => exact ⟨rfl, hh⟩
      | some c => simp at hh
    | _ => simp at hh
/-- where a row that is told anew comes from -/
def RowSrc (M : Mm) (wr : Nat → Bool) (e : TypeId) (t : Ty) (xs : List t.T) : Option Nat → Prop
  | none => xs = []
  | some s => M s = some (.row e t xs) ∧ wr s = true
theorem rowOf_src {M : Mm} {wr : Nat → Bool} {e : TypeId} {t : Ty} {a : AV} {q : Option Nat × List t.T} (h : rowOf M wr e t a = some q) : RowSrc M wr e t q.2 q.1 ∧ ((a = .nil ∧ q.1 = none) ∨ ∃ s, a = .hs s ∧ q.1 = some s) := by
  unfold rowOf at h
  split at h
  · simp only [Option.some.injEq] at h; subst h; exact ⟨rfl, .inl ⟨rfl, rfl⟩⟩
  · rename_i s
    obtain ⟨hw, h⟩ := bif_some h
    split at h <;> try (simp at h; done)
    rename_i e' te xs hM
    obtain ⟨hb, h2⟩ := bif_some h
    replace h := h2
    clear h2
    have := Nat.eq_of_beq_eq_true hb
    subst this
    cases hy : castT (.sl te) (.sl t) xs with
    | none => rw [hy] at h; simp at h
    | some ys =>
    rw [hy] at h
    simp only [Option.some.injEq] at h
    obtain ⟨e1, e2⟩ := castT_some hy
    cases e1
    simp only at e2
    subst e2
    subst h
    exact ⟨⟨hM, hw⟩, .inr ⟨s, rfl, rfl⟩⟩
  · simp at h
/-- a cell of an object told anew -/
def CellSrc (M : Mm) (wr : Nat → Bool) (pr : List (Nat × Option Nat)) (a c : AV) : Prop :=
  (∃ t x, c = .d t x ∧ a.as t = some x) ∨ ∃ h e t s, ∃ xs : List (Ty.T t), c = .hs h ∧ (h, s) ∈ pr ∧ RowSrc M wr e t xs s ∧ ((a = .nil ∧ s = none) ∨ ∃ k, a = .hs k ∧ s = some k)
theorem CellSrc.mono {M : Mm} {wr : Nat → Bool} {pr pr' : List (Nat × Option Nat)} {a c : AV} (hs : ∀ x ∈ pr, x ∈ pr') (h : CellSrc M wr pr a c) : CellSrc M wr pr' a c := by
  rcases h with h | ⟨h, e, t, s, xs, c1, c2, c3⟩
  · exact .inl h
  · exact .inr ⟨h, e, t, s, xs, c1, hs _ c2, c3⟩
theorem readC_spec {M : Mm} {wr : Nat → Bool} {n : Nat} : ∀ {l : List CT} {r : List AV} {q : (ctT l).T × List (Nat × Option Nat)}, readC M wr n l r = some q →
    (headC n l q.1).length = r.length ∧ ∀ (j : Nat) (c : AV), (headC n l q.1)[j]? = some c → ∃ a : AV, r[j]? = some a ∧ CellSrc M wr q.2 a c
  | [], [], q, h => by simp only [readC, Option.some.injEq] at h; subst h; simp [headC]
  | .d t :: l, a :: r, q, h => by
    simp only [readC] at h
    cases ht : t.isT with
    | true => rw [ht] at h; simp at h
    | false =>
      rw [ht] at h
      simp only [cond_false] at h
      split at h <;> try (simp at h; done)
      rename_i x hx
      split at h <;> simp only [Option.some.injEq, reduceCtorEq] at h
      rename_i p hp
      subst h
      obtain ⟨h1, h2⟩ := readC_spec hp
      refine ⟨by simp [headC, h1], fun j c hj => ?_⟩
      cases j with
      | zero => simp [headC] at hj; subst hj; exact ⟨a, rfl, .inl ⟨t, x, rfl, hx⟩⟩
      | succ j => simp [headC] at hj; simpa using h2 j c hj
  | .own k e t :: l, a :: r, q, h => by
    simp only [readC] at h
    split at h <;> try (simp at h; done)
    rename_i q0 hq
    split at h <;> simp only [Option.some.injEq, reduceCtorEq] at h
    rename_i p hp
    subst h
    obtain ⟨h1, h2⟩ := readC_spec hp
    obtain ⟨k1, k2⟩ := rowOf_src hq
    refine ⟨by simp [headC, h1], fun j c hj => ?_⟩
    cases j with
    | zero => simp [headC] at hj; subst hj; exact ⟨a, rfl, .inr ⟨n + k, e, t, q0.1, q0.2, rfl, by simp, k1, k2⟩⟩
    | succ j =>
      simp [headC] at hj
      obtain ⟨b, b1, b2⟩ := h2 j c hj
      exact ⟨b, by simpa using b1, b2.mono fun x hx => by simp [hx]⟩
  | [], _ :: _, _, h => by simp [readC] at h
  | .d _ :: _, [], _, h => by simp [readC] at h
  | .own _ _ _ :: _, [], _, h => by simp [readC] at h
/-- an object told anew -/
def ObSrc (M : Mm) (wr : Nat → Bool) (pr : List (Nat × Option Nat)) (os : List Nat) (k : Nat) (ob : Ob) : Prop :=
  (∃ e t s, ∃ xs : List (Ty.T t), ob = .row e t xs ∧ (k, s) ∈ pr ∧ RowSrc M wr e t xs s) ∨
  (k ∈ os ∧ wr k = true ∧ ((M k = some ob ∧ ∀ j, ob.uses j = false) ∨ ∃ r cs : List AV, ob = .cells cs ∧ M k = some (.cells r) ∧ cs.length = r.length ∧ ∀ (j : Nat) (c : AV), cs[j]? = some c → ∃ a : AV, r[j]? = some a ∧ CellSrc M wr pr a c))
theorem ObSrc.mono {M : Mm} {wr : Nat → Bool} {pr pr' : List (Nat × Option Nat)} {os os' : List Nat} {k : Nat} {ob : Ob} (hs : ∀ x ∈ pr, x ∈ pr') (ho : ∀ x ∈ os, x ∈ os') (h : ObSrc M wr pr os k ob) : ObSrc M wr pr' os' k ob := by
  rcases h with ⟨e, t, s, xs, c1, c2, c3⟩ | ⟨c0, cw, c1 | ⟨r, cs, c1, c3, c4, c5⟩⟩
  · exact .inl ⟨e, t, s, xs, c1, hs _ c2, c3⟩
  · exact .inr ⟨ho _ c0, cw, .inl c1⟩
  · exact .inr ⟨ho _ c0, cw, .inr ⟨r, cs, c1, c3, c4, fun j c hj => let ⟨a, a1, a2⟩ := c5 j c hj; ⟨a, a1, a2.mono hs⟩⟩⟩
theorem headMC_spec {M : Mm} {wr : Nat → Bool} {n : Nat} : ∀ {l : List CT} {r : List AV} {q : (ctT l).T × List (Nat × Option Nat)} {M0 : Mm} {k : Nat} {ob : Ob}, readC M wr n l r = some q → headMC n l q.1 M0 k = some ob → M0 k = some ob ∨ ObSrc M wr q.2 [] k ob
  | [], [], q, M0, k, ob, h, hk => by simp only [readC, Option.some.injEq] at h; subst h; exact .inl hk
  | .d t :: l, a :: r, q, M0, k, ob, h, hk => by
    simp only [readC] at h
    cases ht : t.isT with
    | true => rw [ht] at h; simp at h
    | false =>
      rw [ht] at h
      simp only [cond_false] at h
      split at h <;> try (simp at h; done)
      split at h <;> simp only [Option.some.injEq, reduceCtorEq] at h
      rename_i p hp
      subst h
      simp only [headMC] at hk
      exact headMC_spec (q := p) hp hk
  | .own j e t :: l, a :: r, q, M0, k, ob, h, hk => by
    simp only [readC] at h
    split at h <;> try (simp at h; done)
    rename_i q0 hq
    split at h <;> simp only [Option.some.injEq, reduceCtorEq] at h
    rename_i p hp
    subst h
    simp only [headMC] at hk
    by_cases e1 : k = n + j
    · subst e1
      rw [upd_self] at hk
      cases hk
      exact .inr (Or.inl ⟨e, t, q0.1, q0.2, rfl, by simp, (rowOf_src hq).1⟩)
    · rw [upd_other _ _ _ k e1] at hk
      rcases headMC_spec hp hk with h1 | h1
      · exact .inl h1
      · exact .inr (h1.mono (fun x hx => by simp [hx]) (fun x hx => hx))
  | [], _ :: _, _, _, _, _, h, _ => by simp [readC] at h
  | .d _ :: _, [], _, _, _, _, h, _ => by simp [readC] at h
  | .own _ _ _ :: _, [], _, _, _, _, h, _ => by simp [readC] at h
theorem headM_spec {e : Env} {M M0 : Mm} {wr : Nat → Bool} {n : Nat} : ∀ {l : List Trk} {q : (trT l).T × List (Nat × Option Nat)} {k : Nat} {ob : Ob}, readT e M wr n l = some q → headM n l q.1 M0 k = some ob → (M0 k = some ob ∧ k ∉ objT l) ∨ ObSrc M wr q.2 (objT l) k ob
  | [], q, k, ob, h, hk => .inl ⟨hk, by simp [objT]⟩
  | .val s t :: l, q, k, ob, h, hk => by
    simp only [readT] at h
    cases ht : t.isT with
    | true => rw [ht] at h; simp at h
    | false =>
      rw [ht] at h
      simp only [cond_false] at h
      split at h <;> try (simp at h; done)
      split at h <;> simp only [Option.some.injEq, reduceCtorEq] at h
      rename_i p hp
      subst h
      simp only [headM] at hk
      exact headM_spec (q := p) hp hk
  | .own s j e' t :: l, q, k, ob, h, hk => by
    simp only [readT] at h
    split at h <;> try (simp at h; done)
    rename_i q0 hq
    split at h <;> simp only [Option.some.injEq, reduceCtorEq] at h
    rename_i p hp
    subst h
    simp only [headM] at hk
    by_cases e1 : k = n + j
    · subst e1
      rw [upd_self] at hk
      cases hk
      exact Or.inr (Or.inl ⟨e', t, q0.1, q0.2, rfl, by simp, (rowOf_src hq).1⟩)
    · rw [upd_other _ _ _ k e1] at hk
      rcases headM_spec hp hk with h1 | h1
      · exact .inl h1
      · exact .inr (h1.mono (fun x hx => by simp [hx]) (fun x hx => hx))
  | .obj j cs :: l, q, k, ob, h, hk => by
    simp only [readT] at h
    obtain ⟨hw, h⟩ := bif_some h
    split at h <;> try (simp at h; done)
    rename_i r hr
    split at h <;> try (simp at h; done)
    rename_i q0 hq
    split at h <;> simp only [Option.some.injEq, reduceCtorEq] at h
    rename_i p hp
    subst h
    simp only [headM] at hk
    by_cases e1 : k = j
    · subst e1
      rw [upd_self] at hk
      cases hk
      obtain ⟨s1, s2⟩ := readC_spec hq
      exact .inr (.inr ⟨by simp [objT], hw, .inr ⟨r, _, rfl, hr, s1, fun j c hj => let ⟨a, a1, a2⟩ := s2 j c hj; ⟨a, a1, a2.mono fun x hx => by simp [appL_eq, hx]⟩⟩⟩)
    · rw [upd_other _ _ _ k e1] at hk
      rcases headMC_spec hq hk with h1 | h1
      · rcases headM_spec hp h1 with h2 | h2
        · exact .inl ⟨h2.1, by simp [objT, e1, h2.2]⟩
        · exact .inr (h2.mono (fun x hx => by simp [appL_eq, hx]) (fun x hx => by simp [objT, hx]))
      · exact .inr (h1.mono (fun x hx => by simp [appL_eq, hx]) (fun x hx => by simp at hx))
  | .mp j kt vt :: l, q, k, ob, h, hk => by
    simp only [readT] at h
    obtain ⟨hw, h⟩ := bif_some h
    split at h <;> try (simp at h; done)
    rename_i k' v' ls hr
    split at h <;> try (simp at h; done)
    rename_i ys hys
    split at h <;> simp only [Option.some.injEq, reduceCtorEq] at h
    rename_i p hp
    subst h
    obtain ⟨e0, rfl⟩ := castT_some hys
    cases e0
    simp only [headM] at hk
    by_cases e1 : k = j
    · subst e1
      rw [upd_self] at hk
      cases hk
      exact .inr (.inr ⟨by simp [objT], hw, .inl ⟨hr, fun _ => rfl⟩⟩)
    · rw [upd_other _ _ _ k e1] at hk
      rcases headM_spec hp hk with h2 | h2
      · exact .inl ⟨h2.1, by simp [objT, e1, h2.2]⟩
      · exact .inr (h2.mono (fun x hx => hx) (fun x hx => by simp [objT, hx]))
  | .rw j e' t :: l, q, k, ob, h, hk => by
    simp only [readT] at h
    obtain ⟨hw, h⟩ := bif_some h
    split at h <;> try (simp at h; done)
    rename_i e2 t' xs hr
    obtain ⟨hb, h2⟩ := bif_some h
    replace h := h2
    clear h2
    have := Nat.eq_of_beq_eq_true hb
    subst this
    cases hys : castT (.sl t') (.sl t) xs with
    | none => rw [hys] at h; simp at h
    | some ys =>
    rw [hys] at h
    simp only at h
    split at h <;> simp only [Option.some.injEq, reduceCtorEq] at h
    rename_i p hp
    subst h
    obtain ⟨e0, rfl⟩ := castT_some hys
    cases e0
    simp only [headM] at hk
    by_cases e1 : k = j
    · subst e1
      rw [upd_self] at hk
      cases hk
      exact .inr (.inr ⟨by simp [objT], hw, .inl ⟨hr, fun _ => rfl⟩⟩)
    · rw [upd_other _ _ _ k e1] at hk
      rcases headM_spec hp hk with h2 | h2
      · exact .inl ⟨h2.1, by simp [objT, e1, h2.2]⟩
      · exact .inr (h2.mono (fun x hx => hx) (fun x hx => by simp [objT, hx]))
  | .lp j :: l, q, k, ob, h, hk => by
    simp only [readT] at h
    obtain ⟨hw, h⟩ := bif_some h
    obtain ⟨hr, h⟩ := lp_some h
    simp only [headM] at hk
    by_cases e1 : k = j
    · subst e1
      rw [upd_self] at hk
      cases hk
      exact .inr (.inr ⟨by simp [objT], hw, .inl ⟨hr, fun _ => rfl⟩⟩)
    · rw [upd_other _ _ _ k e1] at hk
      rcases headM_spec (l := l) (q := q) h hk with h2 | h2
      · exact .inl ⟨h2.1, by simp [objT, e1, h2.2]⟩
      · exact .inr (h2.mono (fun x hx => hx) (fun x hx => by simp [objT, hx]))
/-- what a reading of a head knows of its parts -/
theorem readT_tail {e : Env} {M : Mm} {wr : Nat → Bool} {n : Nat} : ∀ {l : List Trk} {q : (trT l).T × List (Nat × Option Nat)}, readT e M wr n l = some q → ∀ k s, (k, s) ∈ q.2 → ∃ j ∈ canT l, k = n + j := by
  have hc : ∀ {l : List CT} {r : List AV} {q : (ctT l).T × List (Nat × Option Nat)}, readC M wr n l r = some q → ∀ k s, (k, s) ∈ q.2 → ∃ j ∈ canC l, k = n + j := by
    intro l
    induction l with
    | nil =>
      intro r q h k s hm
      cases r with
      | nil => simp only [readC, Option.some.injEq] at h; subst h; simp at hm
      | cons _ _ => simp [readC] at h
    | cons c l ih =>
      intro r q h k s hm
      cases r with
      | nil => cases c <;> simp [readC] at h
      | cons a r =>
        cases c with
        | d t =>
          simp only [readC] at h
          cases ht : t.isT with
          | true => rw [ht] at h; simp at h
          | false =>
            rw [ht] at h
            simp only [cond_false] at h
            split at h <;> try (simp at h; done)
            split at h <;> simp only [Option.some.injEq, reduceCtorEq] at h
            rename_i p hp
            subst h
            exact ih hp k s hm
        | own j e t =>
          simp only [readC] at h
          split at h <;> try (simp at h; done)
          split at h <;> simp only [Option.some.injEq, reduceCtorEq] at h
          rename_i p hp
          subst h
          simp only [List.mem_cons, Prod.mk.injEq] at hm
          rcases hm with hm | hm
          · exact ⟨j, by simp [canC], hm.1⟩
          · obtain ⟨i, hi, e⟩ := ih hp k s hm
            exact ⟨i, by simp [canC, hi], e⟩
  intro l
  induction l with
  | nil => intro q h k s hm; simp only [readT, Option.some.injEq] at h; subst h; simp at hm
  | cons c l ih =>
    intro q h k s hm
    cases c with
    | val s' t =>
      simp only [readT] at h
      cases ht : t.isT with
      | true => rw [ht] at h; simp at h
      | false =>
        rw [ht] at h
        simp only [cond_false] at h
        split at h <;> try (simp at h; done)
        split at h <;> simp only [Option.some.injEq, reduceCtorEq] at h
        rename_i p hp
        subst h
        exact ih hp k s hm
    | own s' j e' t =>
      simp only [readT] at h
      split at h <;> try (simp at h; done)
      split at h <;> simp only [Option.some.injEq, reduceCtorEq] at h
      rename_i p hp
      subst h
      simp only [List.mem_cons, Prod.mk.injEq] at hm
      rcases hm with hm | hm
      · exact ⟨j, by simp [canT], hm.1⟩
      · obtain ⟨i, hi, e⟩ := ih hp k s hm
        exact ⟨i, by simp [canT, hi], e⟩
    | obj j cs =>
      simp only [readT] at h
      obtain ⟨hw, h⟩ := bif_some h
      split at h <;> try (simp at h; done)
      split at h <;> try (simp at h; done)
      rename_i q0 hq
      split at h <;> simp only [Option.some.injEq, reduceCtorEq] at h
      rename_i p hp
      subst h
      simp only [appL_eq, List.mem_append] at hm
      rcases hm with hm | hm
      · obtain ⟨i, hi, e⟩ := hc hq k s hm
        exact ⟨i, by simp [canT, appL_eq, hi], e⟩
      · obtain ⟨i, hi, e⟩ := ih hp k s hm
        exact ⟨i, by simp [canT, appL_eq, hi], e⟩
    | mp j kt vt =>
      simp only [readT] at h
      obtain ⟨hw, h⟩ := bif_some h
      split at h <;> try (simp at h; done)
      split at h <;> try (simp at h; done)
      split at h <;> simp only [Option.some.injEq, reduceCtorEq] at h
      rename_i p hp
      subst h
      exact ih hp k s hm
    | rw j e' t =>
      simp only [readT] at h
      obtain ⟨hw, h⟩ := bif_some h
      split at h <;> try (simp at h; done)
      obtain ⟨hb, h⟩ := bif_some h
      split at h <;> try (simp at h; done)
      split at h <;> simp only [Option.some.injEq, reduceCtorEq] at h
      rename_i p hp
      subst h
      exact ih hp k s hm
    | lp j =>
      simp only [readT] at h
      obtain ⟨hw, h⟩ := bif_some h
      exact ih (lp_some h).2 k s hm
theorem headV_spec {e : Env} {M : Mm} {wr : Nat → Bool} {n : Nat} {b : Env} : ∀ {l : List Trk} {q : (trT l).T × List (Nat × Option Nat)} (t : Nat), readT e M wr n l = some q → headV n l q.1 b t = b t ∨ CellSrc M wr q.2 (e t) (headV n l q.1 b t)
  | [], q, t, h => .inl rfl
  | .val s τ :: l, q, t, h => by
    simp only [readT] at h
    cases ht : τ.isT with
    | true => rw [ht] at h; simp at h
    | false =>
      rw [ht] at h
      simp only [cond_false] at h
      split at h <;> try (simp at h; done)
      rename_i x hx
      split at h <;> simp only [Option.some.injEq, reduceCtorEq] at h
      rename_i p hp
      subst h
      simp only [headV]
      by_cases e1 : t = s
      · subst e1
        rw [upd_self]
        exact .inr (.inl ⟨τ, x, rfl, hx⟩)
      · rw [upd_other _ _ _ t e1]
        exact headV_spec t hp
  | .own s j e' τ :: l, q, t, h => by
    simp only [readT] at h
    split at h <;> try (simp at h; done)
    rename_i q0 hq
    split at h <;> simp only [Option.some.injEq, reduceCtorEq] at h
    rename_i p hp
    subst h
    simp only [headV]
    by_cases e1 : t = s
    · subst e1
      rw [upd_self]
      obtain ⟨k1, k2⟩ := rowOf_src hq
      exact .inr (.inr ⟨n + j, e', τ, q0.1, q0.2, rfl, by simp, k1, k2⟩)
    · rw [upd_other _ _ _ t e1]
      rcases headV_spec (b := b) t hp with h1 | h1
      · exact .inl h1
      · exact .inr (h1.mono fun x hx => by simp [hx])
  | .obj j cs :: l, q, t, h => by
    simp only [readT] at h
    obtain ⟨_, h⟩ := bif_some h
    split at h <;> try (simp at h; done)
    split at h <;> try (simp at h; done)
    split at h <;> simp only [Option.some.injEq, reduceCtorEq] at h
    rename_i p hp
    subst h
    simp only [headV]
    rcases headV_spec (b := b) t hp with h1 | h1
    · exact .inl h1
    · exact .inr (h1.mono fun x hx => by simp [appL_eq, hx])
  | .mp j kt vt :: l, q, t, h => by
    simp only [readT] at h
    obtain ⟨_, h⟩ := bif_some h
    split at h <;> try (simp at h; done)
    split at h <;> try (simp at h; done)
    split at h <;> simp only [Option.some.injEq, reduceCtorEq] at h
    rename_i p hp
    subst h
    simp only [headV]
    exact headV_spec t hp
  | .rw j e' τ :: l, q, t, h => by
    simp only [readT] at h
    obtain ⟨_, h⟩ := bif_some h
    split at h <;> try (simp at h; done)
    obtain ⟨hb, h⟩ := bif_some h
    split at h <;> try (simp at h; done)
    split at h <;> simp only [Option.some.injEq, reduceCtorEq] at h
    rename_i p hp
    subst h
    simp only [headV]
    exact headV_spec t hp
  | .lp j :: l, q, t, h => by
    simp only [readT] at h
    obtain ⟨_, h⟩ := bif_some h
    simp only [headV]
    exact headV_spec (l := l) (q := q) t (lp_some h).2
theorem readT_obj {e : Env} {M : Mm} {wr : Nat → Bool} {n : Nat} : ∀ {l : List Trk} {q : (trT l).T × List (Nat × Option Nat)}, readT e M wr n l = some q → ∀ k ∈ objT l, wr k = true ∧ ∃ o, M k = some o
  | [], q, h, k, hk => by simp [objT] at hk
  | .val s τ :: l, q, h, k, hk => by
    simp only [readT] at h
    cases ht : τ.isT with
    | true => rw [ht] at h; simp at h
    | false =>
      rw [ht] at h
      simp only [cond_false] at h
      split at h <;> try (simp at h; done)
      split at h <;> simp only [Option.some.injEq, reduceCtorEq] at h
      rename_i p hp
      exact readT_obj hp k hk
  | .own s j e' τ :: l, q, h, k, hk => by
    simp only [readT] at h
    split at h <;> try (simp at h; done)
    split at h <;> simp only [Option.some.injEq, reduceCtorEq] at h
    rename_i p hp
    exact readT_obj hp k hk
  | .obj j cs :: l, q, h, k, hk => by
    simp only [readT] at h
    obtain ⟨hw, h⟩ := bif_some h
    split at h <;> try (simp at h; done)
    rename_i hM
    split at h <;> try (simp at h; done)
    split at h <;> simp only [Option.some.injEq, reduceCtorEq] at h
    rename_i p hp
    rcases List.mem_cons.1 (show k ∈ j :: objT l from hk) with rfl | hk
    · exact ⟨hw, _, hM⟩
    · exact readT_obj hp k hk
  | .mp j kt vt :: l, q, h, k, hk => by
    simp only [readT] at h
    obtain ⟨hw, h⟩ := bif_some h
    split at h <;> try (simp at h; done)
    rename_i hM
    split at h <;> try (simp at h; done)
    split at h <;> simp only [Option.some.injEq, reduceCtorEq] at h
    rename_i p hp
    rcases List.mem_cons.1 (show k ∈ j :: objT l from hk) with rfl | hk
    · exact ⟨hw, _, hM⟩
    · exact readT_obj hp k hk
  | .rw j e' τ :: l, q, h, k, hk => by
    simp only [readT] at h
    obtain ⟨hw, h⟩ := bif_some h
    split at h <;> try (simp at h; done)
    rename_i hM
    obtain ⟨hb, h⟩ := bif_some h
    split at h <;> try (simp at h; done)
    split at h <;> simp only [Option.some.injEq, reduceCtorEq] at h
    rename_i p hp
    rcases List.mem_cons.1 (show k ∈ j :: objT l from hk) with rfl | hk
    · exact ⟨hw, _, hM⟩
    · exact readT_obj hp k hk
  | .lp j :: l, q, h, k, hk => by
    simp only [readT] at h
    obtain ⟨hw, h⟩ := bif_some h
    obtain ⟨hM, h⟩ := lp_some h
    rcases List.mem_cons.1 (show k ∈ j :: objT l from hk) with rfl | hk
    · exact ⟨hw, _, hM⟩
    · exact readT_obj (l := l) (q := q) h k hk
end Go.Proofs.Ytohglckebkgbpaa
