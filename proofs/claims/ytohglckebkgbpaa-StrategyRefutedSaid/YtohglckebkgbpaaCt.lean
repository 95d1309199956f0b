/-
  A function's text on plain data: what is shown of it is so in the machine (loops, functions).
-/
import Derived.Test.YtohglckebkgbpaaCs
namespace Go.Proofs.Ytohglckebkgbpaa
open Go.RowKit

theorem eraseE_rep {ρ : Nat → Value} {F : Mem} : ∀ {ds : List Nat} {e : Env} {t : Nat} {v : Value}, RepA ρ F (e t) v → RepA ρ F (eraseE ds e t) v
  | [], _, _, _, h => h
  | _ :: _, _, _, _, h => (eraseE_rep h).erased
section
variable {P : Program} {T : Tab} {nt : Nat} {w0 : World} {F0 : Mem}
theorem row_wf {ρ : Nat → Value} {F : Mem} {M : Mm} {w : World} {e : TypeId} {t : Ty} {xs : List t.T} {s : Option Nat} (st : St w0 F0 ρ F M w) (h : RowSrc M e t xs s) : WF (.sl t) xs := by
  cases s with
  | none => rw [show xs = [] from h]; exact ⟨Nat.zero_le _, fun x hx => by simp at hx⟩
  | some s =>
    obtain ⟨us, h1, h2⟩ := st.obs s _ h
    refine ⟨?_, fun x hx => ?_⟩
    · rcases h1.2 with ⟨_, e2⟩ | ⟨g, cap, cur, e1, _, hg, hc1, hc2, _⟩
      · rw [e2]; exact Nat.zero_le _
      · omega
    · obtain ⟨i, hi, rfl⟩ := List.mem_iff_getElem.1 hx
      exact (h2.2 i hi).wf
theorem readC_wf {ρ : Nat → Value} {F : Mem} {M : Mm} {w : World} (st : St w0 F0 ρ F M w) : ∀ {l : List CT} {r : List AV} {q : (ctT l).T × List (Nat × Option Nat)}, readC M l r = some q → (∀ (j : Nat) (a : AV), r[j]? = some a → ∃ v, RepA ρ F a v) → WF (ctT l) q.1
  | [], [], q, h, _ => trivial
  | .d t :: l, a :: r, q, h, hr => by
    simp only [readC] at h
    cases ht : t.isT with
    | true => rw [ht] at h; simp at h
    | false =>
      rw [ht] at h
      simp only [cond_false] at h
      split at h <;> try (simp at h; done)
      rename_i x hx
      split at h <;> simp only [Option.some.injEq, reduceCtorEq] at h
      rename_i p hp
      subst h
      obtain ⟨v, hv⟩ := hr 0 a rfl
      exact ⟨(as_rep hx hv).wf ht, readC_wf st hp fun j b hb => hr (j + 1) b (by simpa using hb)⟩
  | .own n e t :: l, a :: r, q, h, hr => by
    simp only [readC] at h
    split at h <;> try (simp at h; done)
    rename_i q0 hq
    split at h <;> simp only [Option.some.injEq, reduceCtorEq] at h
    rename_i p hp
    subst h
    exact ⟨row_wf st (rowOf_src hq).1, readC_wf st hp fun j b hb => hr (j + 1) b (by simpa using hb)⟩
  | [], _ :: _, _, h, _ => by simp [readC] at h
  | .d _ :: _, [], _, h, _ => by simp [readC] at h
  | .own _ _ _ :: _, [], _, h, _ => by simp [readC] at h
theorem readT_wf {ρ : Nat → Value} {F : Mem} {e : Env} {M : Mm} {a : Act} {w : World} (h : Rel T nt w0 F0 ρ F e M a w) : ∀ {l : List Trk} {q : (trT l).T × List (Nat × Option Nat)}, readT e M l = some q → WF (trT l) q.1
  | [], _, _ => trivial
  | .val s t :: l, q, hq => by
    simp only [readT] at hq
    cases ht : t.isT with
    | true => rw [ht] at hq; simp at hq
    | false =>
      rw [ht] at hq
      simp only [cond_false] at hq
      split at hq <;> try (simp at hq; done)
      rename_i x hx
      split at hq <;> simp only [Option.some.injEq, reduceCtorEq] at hq
      rename_i p hp
      subst hq
      exact ⟨(as_rep hx (h.env s)).wf ht, readT_wf h hp⟩
  | .own s n e' t :: l, q, hq => by
    simp only [readT] at hq
    split at hq <;> try (simp at hq; done)
    rename_i q0 hq0
    split at hq <;> simp only [Option.some.injEq, reduceCtorEq] at hq
    rename_i p hp
    subst hq
    exact ⟨row_wf h.st (rowOf_src hq0).1, readT_wf h hp⟩
  | .obj n cs :: l, q, hq => by
    simp only [readT] at hq
    split at hq <;> try (simp at hq; done)
    rename_i r hr
    split at hq <;> try (simp at hq; done)
    rename_i q0 hq0
    split at hq <;> simp only [Option.some.injEq, reduceCtorEq] at hq
    rename_i p hp
    subst hq
    refine ⟨readC_wf h.st hq0 fun j b hb => ?_, readT_wf h hp⟩
    obtain ⟨b', arr, E, e1, e2, e3, e4, e5, e6⟩ := h.st.obs n _ hr
    exact ⟨_, e6 j b hb⟩
/-- from anywhere to a loop's head -/
theorem head_rel {ρ0 ρ : Nat → Value} {Fe F : Mem} {e0 e : Env} {M : Mm} {a0 a : Act} {w : World} {l : List Trk} {ms hs : List Nat} {q : (trT l).T × List (Nat × Option Nat)} (henv : ∀ t, RepA ρ0 Fe (e0 t) (a0.tmps.getD t undef)) (h : Rel T nt w0 F0 ρ F e M a w) (hf : Fr ms hs ρ0 Fe a0 ρ F a)
    (hq : readT e M l = some q) (hd1 : distinctB (srcs q.2) = true) (hd2 : distinctB (keys q.2) = true) (hcan : ∀ k ∈ canT l, k ∈ hs) (hobj : ∀ k ∈ objT l, k ∉ hs) :
    ∃ ρ', Rel T nt w0 F0 ρ' F (headV l q.1 (baseE ms (canT l) e0)) (headM l q.1) a w ∧ Fr ms hs ρ0 Fe a0 ρ' F a := by
  have hn1 := distinct_nodup hd1
  have hn2 := distinct_nodup hd2
  let ρ' : Nat → Value := fun k => match look q.2 k with | some (some s) => ρ s | some none => .slice none 0 0 | none => ρ0 k
  have r1 : ∀ k s, (k, some s) ∈ q.2 → ρ' k = ρ s := fun k s hm => by simp only [ρ', look_of_mem hn2 hm]
  have r2 : ∀ k, (k, none) ∈ q.2 → ρ' k = .slice none 0 0 := fun k hm => by simp only [ρ', look_of_mem hn2 hm]
  have r3 : ∀ k, k ∉ canT l → ρ' k = ρ0 k := fun k hk => by
    simp only [ρ']
    cases hl : look q.2 k with
    | none => rfl
    | some s =>
      rcases keysT hq k s (look_mem hl) with h1 | ⟨h1, h2⟩
      · exact absurd h1 hk
      · subst h2
        exact hf.names k (hobj k h1)
  have hcell : ∀ a c v, CellSrc M q.2 a c → RepA ρ F a v → RepA ρ' F c v := by
    intro a c v hc hr
    rcases hc with ⟨t, x, rfl, hx⟩ | ⟨k, e', t, s, xs, rfl, hm, _, hh⟩
    · exact as_rep hx hr
    · rcases hh with ⟨rfl, rfl⟩ | ⟨j, rfl, rfl⟩
      · rw [show v = _ from hr]; exact (r2 k hm).symm
      · rw [show v = _ from hr]; exact (r1 k j hm).symm
  have hsrc : ∀ k ob, headM l q.1 k = some ob → ∀ b, blk (ρ' k) = some b → ∃ s o', (k, some s) ∈ q.2 ∧ M s = some o' ∧ blk (ρ s) = some b := by
    intro k ob hk b hb
    rcases headM_spec hq hk with ⟨e', t, s, xs, rfl, hm, hr⟩ | ⟨r, cs, rfl, hm, hr, _⟩
    · cases s with
      | none => rw [r2 k hm] at hb; simp [blk] at hb
      | some s => rw [r1 k s hm] at hb; exact ⟨s, _, hm, hr, hb⟩
    · rw [r1 k k hm] at hb
      exact ⟨k, _, hm, hr, hb⟩
  refine ⟨ρ', ⟨⟨h.st.below, h.st.sub, h.st.sub0, h.st.new, ?_, ?_, ?_⟩, ?_, h.size, h.defs, h.glob⟩, ⟨hf.same, hf.sub, fun k hk => r3 k fun hc => hk (hcan k hc)⟩⟩
  · intro k ob hk
    rcases headM_spec hq hk with ⟨e', t, s, xs, rfl, hm, hr⟩ | ⟨r, cs, rfl, hm, hr, hlen, hcs⟩
    · cases s with
      | none =>
        rw [r2 k hm, show xs = [] from hr]
        exact ⟨[], World.ownsRow_nil _ _ _ _, ⟨by simp, fun i hi => absurd hi (by simp)⟩⟩
      | some s =>
        rw [r1 k s hm]
        exact h.st.obs s _ hr
    · obtain ⟨b, arr, E, e1, e2, e3, e4, e5, e6⟩ := h.st.obs k _ hr
      rw [r1 k k hm]
      refine ⟨b, arr, E, e1, e2, e3, by rw [e4, hlen], e5, fun j c hj => ?_⟩
      obtain ⟨a', a1, a2⟩ := hcs j c hj
      exact hcell _ _ _ a2 (e6 j a' a1)
  · intro k ob b hk hb
    obtain ⟨s, o', _, h2, h3⟩ := hsrc k ob hk b hb
    exact h.st.apart s o' b h2 h3
  · intro k k' ob ob' b hk hk' hb hb'
    obtain ⟨s, o1, h1, h2, h3⟩ := hsrc k ob hk b hb
    obtain ⟨s', o2, h1', h2', h3'⟩ := hsrc k' ob' hk' b hb'
    have := h.st.inj s s' o1 o2 b h2 h2' h3 h3'
    subst this
    exact src_inj hn1 h1 h1'
  · intro t
    rcases headV_spec (b := baseE ms (canT l) e0) t hq with h1 | h1
    · rw [h1]
      simp only [baseE]
      cases hm : memB ms t with
      | true => trivial
      | false =>
        have hnot : t ∉ ms := fun hc => by have := memB_mem.2 hc; rw [hm] at this; simp at this
        rw [hf.same t hnot]
        refine RepA.agree (fun k hk => r3 k fun hc => ?_) ((eraseE_rep (henv t)).mono hf.sub)
        have := (erased_noname (e := e0) (M := fun _ => none) hc).1.1 t
        simp only [cond_false] at hk
        rw [hk] at this
        simp at this
    · exact hcell _ _ _ h1 (h.env t)
end

/-- what a piece of text has come to, to be said of the machine -/
def LiftX (cx : Cx) (w0 : World) (F0 : Mem) (ds hs : List Nat) (ρ : Nat → Value) (F : Mem) (a : Act) (Q : XE → Env → Mm → Prop) : Exit → Act → World → Prop
  | .normal, a', w' => Lift cx.T cx.nt w0 F0 ds hs ρ F a (Q .normal) a' w'
  | .exit n, a', w' => Lift cx.T cx.nt w0 F0 ds hs ρ F a (Q (.exit n)) a' w'
  | .ret, a', w' => Lift cx.T cx.nt w0 F0 ds hs ρ F a (Q .ret) a' w'
  | _, _, _ => False
section
variable {P : Program} {cx : Cx} {w0 : World} {F0 : Mem}
theorem Lift.mono {ds hs ds' hs' : List Nat} {ρ ρ1 : Nat → Value} {F F1 : Mem} {a a1 : Act} {K K' : Env → Mm → Prop} {a' : Act} {w' : World} (hf : Fr ds' hs' ρ F a ρ1 F1 a1) (h1 : ∀ t ∈ ds, t ∈ ds') (h2 : ∀ t ∈ hs, t ∈ hs') (hK : ∀ e M, K e M → K' e M) (h : Lift cx.T cx.nt w0 F0 ds hs ρ1 F1 a1 K a' w') : Lift cx.T cx.nt w0 F0 ds' hs' ρ F a K' a' w' := by
  obtain ⟨ρ', F', e', M', r, f, k⟩ := h
  exact ⟨ρ', F', e', M', r, hf.trans (f.mono h1 h2), hK _ _ k⟩
theorem frz1_rel {f : Fz} {ρ : Nat → Value} {F : Mem} {e : Env} {M : Mm} {a : Act} {w : World} (h : Rel cx.T cx.nt w0 F0 ρ F e M a w) : ∃ F', Rel cx.T cx.nt w0 F0 ρ F' (frz1 f e M).1 (frz1 f e M).2 a w ∧ Sub F F' := by
  have key : ∀ (k : Nat) (E : TypeId) (t : Ty) (xs : List t.T), M k = some (.row E t xs) → ∃ F', St w0 F0 ρ F' (eraseM M k) w ∧ Sub F F' ∧ RepV F' (.sl t) (ρ k) xs := by
    intro k E t xs hM
    have hr := row_read h.st hM
    obtain ⟨us, h1, h2⟩ := h.st.obs k _ hM
    have s1 := h.st.erased k
    rcases h1.2 with ⟨e1, e2⟩ | ⟨g, cap, cur, e1, hg0, hg, hc1, hc2, _⟩
    · refine ⟨F, s1, Sub.refl _, ?_⟩
      rw [e1]
      have hx : xs = [] := List.eq_nil_of_length_eq_zero e2
      subst hx
      exact ⟨none, 0, rfl, Nat.zero_le _, by simp [maxLen], fun i hi => absurd hi (Nat.not_lt_zero _)⟩
    · have hb : blk (ρ k) = some g := by rw [e1]; rfl
      obtain ⟨s2, s3⟩ := s1.fact g hg0 (fun j o hj hjb => by
        obtain ⟨hne, o', ho', _⟩ := eraseM_some hj
        exact hne (h.st.inj j k o' _ g ho' hM hjb hb))
      refine ⟨_, s2, s3, ?_⟩
      rw [e1] at h1 ⊢
      refine ⟨_, cap, rfl, hc1, hc2, fun i hi => ⟨g, 0, _, rfl, fun j u hj => ?_, (h2.2 i hi).mono s3⟩⟩
      obtain ⟨k1, k2⟩ := seg_get hj
      simp only [if_true]
      rw [Nat.zero_add, h1.cellAt (i * t.sz + j) (by rw [← h2.1]; exact (List.getElem?_eq_some_iff.1 k1).1)]
      exact k1
  cases f with
  | slot s =>
    simp only [frz1]
    cases hs : e s with
    | hs k =>
      simp only
      cases hM : M k with
      | none => exact ⟨F, h, Sub.refl _⟩
      | some ob =>
        cases ob with
        | cells cs => exact ⟨F, h, Sub.refl _⟩
        | row E t xs =>
          obtain ⟨F', s1, s2, s3⟩ := key k E t xs hM
          refine ⟨F', ⟨s1, fun j => ?_, h.size, h.defs, h.glob⟩, s2⟩
          by_cases hj : j = s
          · subst hj
            simp only [upd_self]
            have := h.env j
            rw [hs] at this
            rw [show a.tmps.getD j undef = ρ k from this]
            exact s3
          · simp only [upd_other _ _ _ j hj]
            exact (eraseE_rep (h.env j)).mono s2
    | _ => exact ⟨F, h, Sub.refl _⟩
  | cell k off =>
    simp only [frz1, setL_eq]
    cases hk : M k with
    | none => exact ⟨F, h, Sub.refl _⟩
    | some ob =>
      cases ob with
      | row E t xs => exact ⟨F, h, Sub.refl _⟩
      | cells cs =>
        simp only
        cases hc : cs[off]? with
        | none => exact ⟨F, h, Sub.refl _⟩
        | some c =>
          cases c with
          | hs n =>
            simp only
            cases hM : M n with
            | none => exact ⟨F, h, Sub.refl _⟩
            | some ob =>
              cases ob with
              | cells cs => exact ⟨F, h, Sub.refl _⟩
              | row E t xs =>
                obtain ⟨F', s1, s2, s3⟩ := key n E t xs hM
                have hkn : k ≠ n := fun e => by rw [e, hM] at hk; cases hk
                have hke : eraseM M n k = some (.cells (cs.map (·.erase n))) := by
                  have : Nat.beq k n = false := by cases hq : Nat.beq k n; rfl; exact absurd (Nat.eq_of_beq_eq_true hq) hkn
                  simp [eraseM, this, hk, Ob.erase]
                obtain ⟨b, arr, E', e1, e2, e3, e4, e5, e6⟩ := s1.obs k _ hke
                obtain ⟨b', arr', E'', f1, f2, f3, f4, f5, f6⟩ := h.st.obs k _ hk
                have hbb : b' = b := by rw [f1] at e1; simpa using e1
                subst hbb
                have haa : arr' = arr := by rw [f3] at e3; simp at e3; exact e3.1
                subst haa
                refine ⟨F', ⟨?_, fun j => (eraseE_rep (h.env j)).mono s2, h.size, h.defs, h.glob⟩, s2⟩
                refine s1.put k _ _ b' hke (by rw [e1]; rfl) ⟨rfl, rfl, rfl, Nat.le_refl _, fun _ _ _ => rfl⟩ ⟨b', arr', E', e1, e2, e3, by simpa using e4, e5, fun j c hj => ?_⟩
                rw [List.getElem?_set] at hj
                split at hj
                · rename_i hjo
                  subst hjo
                  split at hj <;> simp only [Option.some.injEq, reduceCtorEq] at hj
                  subst hj
                  have := f6 off _ hc
                  rw [show arr'.getD off undef = ρ n from this]
                  exact s3
                · exact e6 j c hj
          | _ => exact ⟨F, h, Sub.refl _⟩
  | box s t =>
    simp only [frz1, dropL_eq]
    cases hs : e s with
    | hp k off =>
      simp only
      cases hM : M k with
      | none => exact ⟨F, h, Sub.refl _⟩
      | some ob =>
        cases ob with
        | row E t xs => exact ⟨F, h, Sub.refl _⟩
        | cells cs =>
          simp only
          cases hfl : fromLeaf t (cs.drop off) with
          | none => exact ⟨F, h, Sub.refl _⟩
          | some p =>
            simp only
            have hv := h.env s
            rw [hs] at hv
            obtain ⟨b, hρ, hv⟩ := hv
            obtain ⟨b', arr, E, e1, e2, e3, e4, e5, e6⟩ := h.st.obs k _ hM
            rw [hρ] at e1
            simp only [Value.pointer.injEq, Option.some.injEq, Addr.mk.injEq, and_true] at e1
            subst e1
            have hlen : (arr.toList.drop off).length = (cs.drop off).length := by simp [e4]
            obtain ⟨k1, k2⟩ := fromLeaf_rep (ρ := ρ) (F := F) hlen (fun j c hj => by
              rw [List.getElem?_drop] at hj
              have := e6 _ c hj
              simpa [List.getD_eq_getElem?_getD, List.getElem?_drop, Array.getD_eq_getD_getElem?] using this) hfl
            have hb : blk (ρ k) = some b := by rw [hρ]; rfl
            obtain ⟨s2, s3⟩ := (h.st.erased k).fact b e2 (fun j o hj hjb => by
              obtain ⟨hne, o', ho', _⟩ := eraseM_some hj
              exact hne (h.st.inj j k o' _ b ho' hM hjb hb))
            refine ⟨_, ⟨s2, fun j => ?_, h.size, h.defs, h.glob⟩, s3⟩
            by_cases hj : j = s
            · subst hj
              simp only [upd_self]
              refine ⟨b, off, _, hv, fun i u hi => ?_, k1.mono s3⟩
              obtain ⟨k3, k4⟩ := seg_get hi
              simp only [if_true]
              rw [cell_of_row w b (off + i) arr E (0, 0) e3]
              simpa using k3
            · simp only [upd_other _ _ _ j hj]
              exact (eraseE_rep (h.env j)).mono s3
    | _ => exact ⟨F, h, Sub.refl _⟩
theorem frzs_rel : ∀ {l : List Fz} {ρ : Nat → Value} {F : Mem} {e : Env} {M : Mm} {a : Act} {w : World}, Rel cx.T cx.nt w0 F0 ρ F e M a w → ∃ F', Rel cx.T cx.nt w0 F0 ρ F' (frzs l e M).1 (frzs l e M).2 a w ∧ Sub F F'
  | [], _, F, _, _, _, _, h => ⟨F, h, Sub.refl _⟩
  | f :: l, _, _, _, _, _, _, h => by
    obtain ⟨F1, h1, s1⟩ := frz1_rel (f := f) h
    obtain ⟨F2, h2, s2⟩ := frzs_rel (l := l) h1
    exact ⟨F2, h2, s1.trans s2⟩
end
end Go.Proofs.Ytohglckebkgbpaa
