/-
  A function's text on plain data: what is shown of it is so in the machine.
-/
import Derived.Test.YtohglckebkgbpaaUw
import Derived.Sort.LoopGhostIn
import Derived.RangeFuncIn
import Derived.Scope
namespace Go.Proofs.Ytohglckebkgbpaa
open Go.RowKit

theorem srcs_mem {l : List (Nat × Option Nat)} {s : Nat} (h : s ∈ srcs l) : ∃ k, (k, some s) ∈ l := by
  induction l with
  | nil => simp [srcs] at h
  | cons p l ih =>
    obtain ⟨k, q⟩ := p
    cases q with
    | none =>
      simp only [srcs] at h
      obtain ⟨j, hj⟩ := ih h
      exact ⟨j, by simp [hj]⟩
    | some s' =>
      simp only [srcs, List.mem_cons] at h
      rcases h with rfl | h
      · exact ⟨k, by simp⟩
      · obtain ⟨j, hj⟩ := ih h
        exact ⟨j, by simp [hj]⟩
theorem srcC_wr {M : Mm} {wr : Nat → Bool} {n : Nat} : ∀ {l : List CT} {r : List AV} {q : (ctT l).T × List (Nat × Option Nat)}, readC M wr n l r = some q → ∀ k s, (k, some s) ∈ q.2 → wr s = true
  | [], [], q, h, k, s, hm => by simp only [readC, Option.some.injEq] at h; subst h; simp at hm
  | .d t :: l, a :: r, q, h, k, s, hm => by
    simp only [readC] at h
    cases ht : t.isT with
    | true => rw [ht] at h; simp at h
    | false =>
      rw [ht] at h
      simp only [cond_false] at h
      split at h <;> try (simp at h; done)
      split at h <;> simp only [Option.some.injEq, reduceCtorEq] at h
      rename_i p hp
      subst h
      exact srcC_wr hp k s hm
  | .own j e t :: l, a :: r, q, h, k, s, hm => by
    simp only [readC] at h
    split at h <;> try (simp at h; done)
    rename_i q0 hq
    split at h <;> simp only [Option.some.injEq, reduceCtorEq] at h
    rename_i p hp
    subst h
    simp only [List.mem_cons, Prod.mk.injEq] at hm
    rcases hm with hm | hm
    · have := (rowOf_src hq).1
      rw [← hm.2] at this
      exact this.2
    · exact srcC_wr hp k s hm
  | [], _ :: _, _, h, _, _, _ => by simp [readC] at h
  | .d _ :: _, [], _, h, _, _, _ => by simp [readC] at h
  | .own _ _ _ :: _, [], _, h, _, _, _ => by simp [readC] at h
theorem srcT_wr {e : Env} {M : Mm} {wr : Nat → Bool} {n : Nat} : ∀ {l : List Trk} {q : (trT l).T × List (Nat × Option Nat)}, readT e M wr n l = some q → ∀ k s, (k, some s) ∈ q.2 → wr s = true
  | [], q, h, k, s, hm => by simp only [readT, Option.some.injEq] at h; subst h; simp at hm
  | .val s' t :: l, q, h, k, s, hm => by
    simp only [readT] at h
    cases ht : t.isT with
    | true => rw [ht] at h; simp at h
    | false =>
      rw [ht] at h
      simp only [cond_false] at h
      split at h <;> try (simp at h; done)
      split at h <;> simp only [Option.some.injEq, reduceCtorEq] at h
      rename_i p hp
      subst h
      exact srcT_wr hp k s hm
  | .own s' j e' t :: l, q, h, k, s, hm => by
    simp only [readT] at h
    split at h <;> try (simp at h; done)
    rename_i q0 hq
    split at h <;> simp only [Option.some.injEq, reduceCtorEq] at h
    rename_i p hp
    subst h
    simp only [List.mem_cons, Prod.mk.injEq] at hm
    rcases hm with hm | hm
    · have := (rowOf_src hq).1
      rw [← hm.2] at this
      exact this.2
    · exact srcT_wr hp k s hm
  | .obj j cs :: l, q, h, k, s, hm => by
    simp only [readT] at h
    obtain ⟨hw, h⟩ := bif_some h
    split at h <;> try (simp at h; done)
    split at h <;> try (simp at h; done)
    rename_i q0 hq
    split at h <;> simp only [Option.some.injEq, reduceCtorEq] at h
    rename_i p hp
    subst h
    simp only [appL_eq, List.mem_append] at hm
    rcases hm with hm | hm
    · exact srcC_wr hq k s hm
    · exact srcT_wr hp k s hm
  | .mp j kt vt :: l, q, h, k, s, hm => by
    simp only [readT] at h
    obtain ⟨hw, h⟩ := bif_some h
    split at h <;> try (simp at h; done)
    split at h <;> try (simp at h; done)
    split at h <;> simp only [Option.some.injEq, reduceCtorEq] at h
    rename_i p hp
    subst h
    exact srcT_wr hp k s hm
  | .rw j e' t :: l, q, h, k, s, hm => by
    simp only [readT] at h
    obtain ⟨hw, h⟩ := bif_some h
    split at h <;> try (simp at h; done)
    obtain ⟨hb, h⟩ := bif_some h
    split at h <;> try (simp at h; done)
    split at h <;> simp only [Option.some.injEq, reduceCtorEq] at h
    rename_i p hp
    subst h
    exact srcT_wr hp k s hm
  | .lp j :: l, q, h, k, s, hm => by
    simp only [readT] at h
    obtain ⟨hw, h⟩ := bif_some h
    exact srcT_wr (l := l) (q := q) (lp_some h).2 k s hm
theorem vcHead_some {α : Type} {os : List Nat} {q : Option (α × List (Nat × Option Nat))} {K : α × List (Nat × Option Nat) → Prop} (h : vcHead os q K) : ∃ p, q = some p ∧ distinctB (srcs p.2) = true ∧ distinctB (keys p.2) = true ∧ freeB (srcs p.2) os = true ∧ K p := by
  unfold vcHead at h
  split at h
  · rename_i p
    cases hb : (distinctB (srcs p.2) && distinctB (keys p.2) && freeB (srcs p.2) os && distinctB os) with
    | false => rw [hb] at h; exact h.elim
    | true =>
      rw [hb] at h
      simp only [Bool.and_eq_true] at hb
      exact ⟨p, rfl, hb.1.1.1, hb.1.1.2, hb.1.2, h⟩
  · exact h.elim
theorem beqL_eq : ∀ {a b : List Nat}, beqL a b = true → a = b
  | [], [], _ => rfl
  | a :: l, b :: m, h => by
    simp only [beqL, Bool.and_eq_true] at h
    rw [Nat.eq_of_beq_eq_true h.1, beqL_eq h.2]
  | [], _ :: _, h => by simp [beqL] at h
  | _ :: _, [], h => by simp [beqL] at h
theorem allB_mem {f : Nat → Bool} : ∀ {l : List Nat}, allB f l = true → ∀ k ∈ l, f k = true
  | [], _, k, hk => by simp at hk
  | a :: l, h, k, hk => by
    simp only [allB, Bool.and_eq_true] at h
    rcases List.mem_cons.1 hk with rfl | hk
    · exact h.1
    · exact allB_mem h.2 k hk
theorem killL_some {M : Mm} {l : List Nat} {k : Nat} {o : Ob} (h : killL M l k = some o) : M k = some o ∧ k ∉ l := by
  unfold killL at h
  cases hm : memB l k with
  | true => rw [hm] at h; simp at h
  | false =>
    rw [hm] at h
    exact ⟨h, fun hc => by rw [memB_mem.2 hc] at hm; simp at hm⟩
theorem killL_out {M : Mm} {l : List Nat} {k : Nat} (h : k ∉ l) : killL M l k = M k := by
  unfold killL
  cases hm : memB l k with
  | true => exact absurd (memB_mem.1 hm) h
  | false => rfl

/-- what a piece of text has come to -/
def LiftS (T : Tab) (nt : Nat) (B : Bx) (ds : List Nat) (s : VS) (wr : Nat → Bool) (ρ : Nat → Value) (F : Mem) (a : Act) (K : VS → Prop) (a' : Act) (w' : World) : Prop :=
  ∃ ρ' F' s', Rel T nt B s'.df ρ' F' s'.e s'.M a' w' ∧ Fr ds (fun h => s.n ≤ h) ρ F a ρ' F' a' ∧ s.n ≤ s'.n ∧ (∀ h, (s'.n ≤ h ∨ (h < s.n ∧ NoN B s.df s.e s.M h)) → NoN B s'.df s'.e s'.M h) ∧ (∀ h, h < s.n → wr h = false → s'.M h = s.M h) ∧ K s'
def LiftX (T : Tab) (nt : Nat) (B : Bx) (ds : List Nat) (s : VS) (wr : Nat → Bool) (ρ : Nat → Value) (F : Mem) (a : Act) (Q : XE → VS → Prop) : Exit → Act → World → Prop
  | .normal, a', w' => LiftS T nt B ds s wr ρ F a (Q .normal) a' w'
  | .exit n, a', w' => LiftS T nt B ds s wr ρ F a (Q (.exit n)) a' w'
  | .ret, a', w' => LiftS T nt B ds s wr ρ F a (Q .ret) a' w'
  | _, _, _ => False
section
variable {P : Program} {T : Tab} {nt : Nat} {B : Bx} {ro : Option Nat} {ρ : Nat → Value} {F : Mem} {a : Act} {w : World} {s : VS} {wr : Nat → Bool}
theorem LiftS.refl {ds : List Nat} {K : VS → Prop} (h : Rel T nt B s.df ρ F s.e s.M a w) (hfree : ∀ k, s.n ≤ k → NoN B s.df s.e s.M k) (hK : K s) : LiftS T nt B ds s wr ρ F a K a w :=
  ⟨ρ, F, s, h, Fr.refl _ _ _ _ _, Nat.le_refl _, fun k hk => hk.elim (hfree k) fun q => q.2, fun _ _ _ => rfl, hK⟩
theorem LiftS.trans {ds ds1 ds2 : List Nat} {s1 : VS} {ρ1 : Nat → Value} {F1 : Mem} {a1 : Act} {wr2 : Nat → Bool} {K K' : VS → Prop} {a' : Act} {w' : World} (hf : Fr ds1 (fun h => s.n ≤ h) ρ F a ρ1 F1 a1) (hn : s.n ≤ s1.n) (hfree : ∀ h, h < s.n → NoN B s.df s.e s.M h → NoN B s1.df s1.e s1.M h)
    (hlock : ∀ h, h < s.n → wr h = false → s1.M h = s.M h) (hwr : ∀ h, h < s.n → wr h = false → wr2 h = false) (hk : ∀ s, K s → K' s) (h1 : ∀ t ∈ ds1, t ∈ ds) (h2 : ∀ t ∈ ds2, t ∈ ds) (h : LiftS T nt B ds2 s1 wr2 ρ1 F1 a1 K a' w') : LiftS T nt B ds s wr ρ F a K' a' w' := by
  obtain ⟨ρ', F', s', r1, r2, r3, r4, r5, r6⟩ := h
  refine ⟨ρ', F', s', r1, (hf.mono h1 fun _ q => q).trans (r2.mono h2 fun t ht => Nat.le_trans hn ht), Nat.le_trans hn r3, fun k hk => r4 k ?_, fun k hk hw => (r5 k (Nat.lt_of_lt_of_le hk hn) (hwr k hk hw)).trans (hlock k hk hw), hk _ r6⟩
  rcases hk with hk | hk
  · exact .inl hk
  · exact .inr ⟨Nat.lt_of_lt_of_le hk.1 hn, hfree k hk.1 hk.2⟩
theorem LiftS.mono {ds ds2 : List Nat} {K K' : VS → Prop} {a' : Act} {w' : World} (hk : ∀ s, K s → K' s) (h2 : ∀ t ∈ ds2, t ∈ ds) (h : LiftS T nt B ds2 s wr ρ F a K a' w') : LiftS T nt B ds s wr ρ F a K' a' w' := by
  obtain ⟨ρ', F', s', r1, r2, r3, r4, r5, r6⟩ := h
  exact ⟨ρ', F', s', r1, r2.mono h2 fun _ q => q, r3, r4, r5, hk _ r6⟩
theorem LiftX.mono {ds ds2 : List Nat} {Q Q' : XE → VS → Prop} {ex : Exit} {a' : Act} {w' : World} (hk : ∀ x s, Q x s → Q' x s) (h2 : ∀ t ∈ ds2, t ∈ ds) (h : LiftX T nt B ds2 s wr ρ F a Q ex a' w') : LiftX T nt B ds s wr ρ F a Q' ex a' w' := by
  cases ex <;> first | exact LiftS.mono (hk _) h2 h | exact h.elim
theorem low_of {B : Bx} {s : VS} (hfree : ∀ k, s.n ≤ k → NoN B s.df s.e s.M k) : (∀ t k, (s.e t).uses k = true → k < s.n) ∧ (∀ k ∈ s.df, k < s.n) ∧ (∀ k o, s.M k = some o → k < s.n ∧ ∀ j, o.uses j = true → j < s.n) ∧ ∀ k, s.n ≤ k → (∀ j, ¬ B.usesL k j) ∧ B.LC k = none := by
  refine ⟨fun t k hk => ?_, fun k hk => ?_, fun k o hk => ⟨?_, fun j hj => ?_⟩, fun k hk => ⟨(hfree k hk).nam.lc, (hfree k hk).nam.lh⟩⟩
  · rcases Nat.lt_or_ge k s.n with h | h
    · exact h
    · rw [(hfree k h).env t] at hk; simp at hk
  · rcases Nat.lt_or_ge k s.n with h | h
    · exact h
    · exact absurd hk (hfree k h).df
  · rcases Nat.lt_or_ge k s.n with h | h
    · exact h
    · rw [(hfree k h).nam.nom] at hk; simp at hk
  · rcases Nat.lt_or_ge j s.n with h | h
    · exact h
    · rw [(hfree j h).nam.obs k o hk] at hj; simp at hj
/-- to a loop's head, from its beginning or from a round's end -/
theorem head_start {ds : List Nat} {trk : List Trk} {cnt : Nat} {b : Env} {M0 : Mm} {ρ1 : Nat → Value} {F1 : Mem} {e1 : Env} {M1 : Mm} {a1 : Act} {w1 : World} {wr1 : Nat → Bool} {q : (trT trk).T × List (Nat × Option Nat)} (h : Rel T nt B s.df ρ F s.e s.M a w) (hfree : ∀ k, s.n ≤ k → NoN B s.df s.e s.M k) (hsub : ∀ k o, M0 k = some o → s.M k = some o)
    (h1 : Rel T nt B s.df ρ1 F1 e1 M1 a1 w1) (hf : Fr ds (fun h => s.n ≤ h) ρ F a ρ1 F1 a1) (hb : ∀ t, b t = .any ∨ (b t = s.e t ∧ a1.tmps.getD t undef = a.tmps.getD t undef)) (hr : readT e1 M1 wr1 s.n trk = some q)
    (d1 : distinctB (srcs q.2) = true) (d2 : distinctB (keys q.2) = true) (d3 : freeB (srcs q.2) (objT trk) = true) (hobj : ∀ k ∈ objT trk, k < s.n ∧ ∃ o, s.M k = some o) (hcan : ∀ j ∈ canT trk, j < cnt) (hm : ∀ k o, M0 k = some o → k ∉ objT trk → M1 k = some o ∧ k ∉ srcs q.2) :
    Rel T nt B s.df (rhoH q.2 ρ1) F1 (headV s.n trk q.1 b) (headM s.n trk q.1 M0) a1 w1 ∧ Fr ds (fun h => s.n ≤ h) ρ F a (rhoH q.2 ρ1) F1 a1 ∧ (∀ k, (s.n + cnt ≤ k ∨ (k < s.n ∧ NoN B s.df s.e s.M k)) → NoN B s.df (headV s.n trk q.1 b) (headM s.n trk q.1 M0) k) ∧ trW trk q.1 := by
  obtain ⟨l1, l2, l3, l4⟩ := low_of hfree
  have hbu : ∀ t k, (s.e t).uses k = false → (b t).uses k = false := fun t k hk => by
    rcases hb t with h0 | h0
    · rw [h0]; rfl
    · rw [h0.1]; exact hk
  refine ⟨head_rel h1 hr d1 d2 d3 (fun k hk => (hobj k hk).1) l2 l4 (fun t => ?_) (fun k o hk ho => ?_), ⟨hf.same, hf.sub, fun k hk => (rhoH_out hr (by omega)).trans (hf.names k hk)⟩, fun k hk => ?_, readT_wf h1 hr⟩
  · rcases hb t with h0 | h0
    · rw [h0]; exact ⟨trivial, fun k hk => by simp [AV.uses] at hk⟩
    · rw [h0.1, h0.2]
      exact ⟨((h.env t).agree fun k hk => hf.names k (by have := l1 t k hk; omega)).mono hf.sub, fun k hk => l1 t k hk⟩
  · obtain ⟨k1, k2⟩ := hm k o hk ho
    exact ⟨k1, (l3 k o (hsub k o hk)).1, k2, (l3 k o (hsub k o hk)).2⟩
  · have hN : NoN B s.df s.e s.M k := by
      rcases hk with hk | hk
      · exact hfree k (by omega)
      · exact hk.2
    refine head_free hr (fun j hj e => ?_) (fun ho => ?_) hN.df ⟨hN.nam.lc, hN.nam.lh⟩ (fun t => hbu t k (hN.env t)) ?_ (fun j o hj _ => hN.nam.obs j o (hsub j o hj))
    · have := hcan j hj
      rcases hk with hk | hk <;> omega
    · obtain ⟨o, ho'⟩ := (hobj k ho).2
      rw [hN.nam.nom] at ho'; simp at ho'
    · cases hq : M0 k with
      | none => rfl
      | some o => have := hsub k o hq; rw [hN.nam.nom] at this; simp at this
theorem wrL_off {n : Nat} {trk : List Trk} {k : Nat} (hk : k < n) (h : k ∉ objT trk ∨ wr k = false) : wrL wr n trk k = false := by
  unfold wrL
  have h1 : Nat.ble n k = false := by cases hq : Nat.ble n k; rfl; have := Nat.le_of_ble_eq_true hq; omega
  rw [h1]
  rcases h with h | h
  · cases hm : memB (objT trk) k with
    | true => exact absurd (memB_mem.1 hm) h
    | false => rfl
  · rw [h]; cases memB (objT trk) k <;> rfl
/-- what stays at a head -/
theorem head_lock {trk : List Trk} {x : (trT trk).T} {p : (trT trk).T × List (Nat × Option Nat)} {k : Nat} (hr : readT s.e s.M wr s.n trk = some p) (hk : k < s.n) (hw : wr k = false) : headM s.n trk x (killL s.M (srcs p.2)) k = s.M k := by
  rw [headM_out hk (fun ho => by rw [(readT_obj hr k ho).1] at hw; simp at hw), killL_out]
  intro hc
  obtain ⟨j, hj⟩ := srcs_mem hc
  rw [srcT_wr hr j k hj] at hw
  simp at hw
theorem baseE_ok {ms : List Nat} {a1 : Act} {ρ1 : Nat → Value} {F1 : Mem} {hs : Nat → Prop} (hf : Fr ms hs ρ F a ρ1 F1 a1) : ∀ t, baseE ms s.e t = .any ∨ (baseE ms s.e t = s.e t ∧ a1.tmps.getD t undef = a.tmps.getD t undef) := by
  intro t
  unfold baseE
  cases hm : memB ms t with
  | true => exact .inl rfl
  | false => exact .inr ⟨rfl, hf.same t fun hc => by rw [memB_mem.2 hc] at hm; simp at hm⟩
end
end Go.Proofs.Ytohglckebkgbpaa
