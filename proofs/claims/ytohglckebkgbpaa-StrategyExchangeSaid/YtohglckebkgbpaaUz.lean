/-
  A function's text on plain data: what is shown of it is so in the machine (the whole text).
-/
import Derived.Test.YtohglckebkgbpaaUy
namespace Go.Proofs.Ytohglckebkgbpaa
open Go.RowKit

section
variable {P : Program} {cx : Cx} {H : Hnd} {lc : LCs} {fx : Fx} {B : Bx} {ro : Option Nat}
theorem wpIn_scope {c : Code} {Q : Exit → Act → World → Prop} {a : Act} {w : World} (hro : ro = none) (h : c.wpIn (Fw ro) 0 P Q a w) (hg : ∀ l a w, ¬ Q (.goto l) a w) : (Code.scope c).wpIn (Fw ro) 0 P Q a w := by
  subst hro
  refine (wpIn_wide (n := 0)).2 (wp_scope_straight (wp_mono ((wpIn_wide (n := 0)).1 h) fun ex a' w' hq => ?_))
  cases ex <;> first | exact hq | exact absurd hq (hg _ _ _)
theorem code_sound (hm : P.follows .mixedOrders = true) (hT : tabB P cx.T = true) (hH : HOk P cx.T H) (hen : ∀ f, f ∈ cx.inl → Enters P f) (hlc : LcOk lc B) (hnt : 0 < fx.nt) (hro : fx.rd = false → ro = none) :
    ∀ (c : Code) (wr : Nat → Bool) (Q : XE → VS → Prop) (ρ : Nat → Value) (F : Mem) (s : VS) (a : Act) (w : World), Rel cx.T fx.nt B s.df ρ F s.e s.M a w → (∀ k, s.n ≤ k → NoN B s.df s.e s.M k) → vcCode P cx H lc fx c wr Q s → c.wpIn (Fw ro) 0 P (LiftX cx.T fx.nt B (modC c) s wr ρ F a Q) a w := by
  intro c
  induction c with
  | skip => intro wr Q ρ F s a w h hfree hv; exact wpIn_skip (LiftS.refl h hfree hv)
  | region id ops draw =>
    intro wr Q ρ F s a w h hfree hv
    simp only [vcCode, forceN_eq] at hv
    have fin : ∀ {F' : Mem} {e' : Env} {M' : Mm}, Sub F F' → Rel cx.T fx.nt B s.df ρ F' e' M' a w → (∀ k, NoN B s.df s.e s.M k → NoN B s.df e' M' k) → (∀ k, wr k = false → M' k = s.M k) → vcReg P cx H lc fx wr ops.toList draw (Q .normal) ⟨e', M', s.n, s.df⟩ → (Code.region id ops draw).wpIn (Fw ro) 0 P (LiftX cx.T fx.nt B (modC (.region id ops draw)) s wr ρ F a Q) a w := by
      intro F' e' M' hs h' hf' hl' hv'
      refine wpIn_mono (vcReg_run (s := ⟨e', M', s.n, s.df⟩) hm hT hH hen hlc hnt h' (fun k hk => hf' k (hfree k hk)) hv') ?_
      rintro ex a' w' ⟨rfl, ρ2, F2, e2, M2, N2, r1, r2, r3, r4, r5, r6⟩
      refine ⟨ρ2, F2, ⟨e2, M2, N2, s.df⟩, r1, ⟨r2.same, hs.trans r2.sub, r2.names⟩, by simp only at r3 ⊢; omega, fun k hk => r4 k (hk.imp (fun q => q) fun q => ⟨q.1, hf' k q.2⟩), fun k hk hw => (r5 k hk hw).trans (hl' k hw), r6⟩
    split at hv
    · rename_i l hl
      obtain ⟨F', hs, h'⟩ := frzs_rel (wr := wr) (l := l) h
      exact fin hs h' (fun k hk => frzs_non hk) (fun k hw => frzs_lock hw) hv
    · exact fin (Sub.refl _) h (fun _ hk => hk) (fun _ _ => rfl) hv
  | seq x y ihx ihy =>
    intro wr Q ρ F s a w h hfree hv
    simp only [vcCode, forceN_eq] at hv
    have mx : ∀ t ∈ modC x, t ∈ modC (.seq x y) := fun t ht => by simp [modC, ht]
    have my : ∀ t ∈ modC y, t ∈ modC (.seq x y) := fun t ht => by simp [modC, ht]
    split at hv
    · rename_i hd _
      cases hcb : allB (fun k => Nat.blt k hd.cnt) (canT hd.trk) with
      | false => rw [hcb] at hv; exact hv.elim
      | true =>
        rw [hcb] at hv
        simp only [cond_true] at hv
        have hcan : ∀ j ∈ canT hd.trk, j < hd.cnt := fun j hj => blt_lt (allB_mem hcb j hj)
        obtain ⟨p, hp, d1, d2, d3, J, hv1, hv2⟩ := vcHead_some hv
        have hobj : ∀ k ∈ objT hd.trk, k < s.n ∧ ∃ o, s.M k = some o := fun k hk => by
          obtain ⟨_, o, ho⟩ := readT_obj hp k hk
          exact ⟨((low_of hfree).2.2.1 k o ho).1, o, ho⟩
        have hM0 : ∀ k o, killL s.M (srcs p.2) k = some o → s.M k = some o := fun k o hk => (killL_some hk).1
        obtain ⟨r1, r2, r3, r4⟩ := head_start (ds := []) (cnt := hd.cnt) h hfree hM0 h (Fr.refl _ _ _ _ _) (b := s.e) (fun t => .inr ⟨rfl, rfl⟩) hp d1 d2 d3 hobj hcan (fun k o hk _ => killL_some hk)
        have hn1 : s.n ≤ s.n + hd.cnt := by omega
        refine wpIn_seq (wpIn_mono (ihx (wrL wr s.n hd.trk) _ _ _ ⟨headV s.n hd.trk p.1 s.e, headM s.n hd.trk p.1 (killL s.M (srcs p.2)), s.n + hd.cnt, s.df⟩ a w r1 (fun k hk => r3 k (.inl hk)) hv1) ?_)
        have out : ∀ {K : VS → Prop} {a' : Act} {w' : World}, LiftS cx.T fx.nt B (modC x) ⟨headV s.n hd.trk p.1 s.e, headM s.n hd.trk p.1 (killL s.M (srcs p.2)), s.n + hd.cnt, s.df⟩ (wrL wr s.n hd.trk) (rhoH p.2 ρ) F a K a' w' → LiftS cx.T fx.nt B (modC (.seq x y)) s wr ρ F a K a' w' := fun hq =>
          LiftS.trans r2 hn1 (fun k hk hN => r3 k (.inr ⟨hk, hN⟩)) (fun k hk hw => head_lock hp hk hw) (fun k hk hw => wrL_off hk (.inr hw)) (fun _ q => q) (by simp) mx hq
        intro ex a1 w1 hq
        cases ex with
        | normal =>
          obtain ⟨ρ1, F1, s1, q1, q2, q3, q4, q5, q6⟩ := hq
          cases hbe : beqL s1.df s.df with
          | false => rw [hbe] at q6; exact q6.elim
          | true =>
            rw [hbe] at q6
            simp only [cond_true] at q6
            have hdf := beqL_eq hbe
            rw [hdf] at q1 q4
            obtain ⟨p', hp', d4, d5, d6, hJ⟩ := vcHead_some q6
            have hf1 : Fr (modC x) (fun k => s.n ≤ k) ρ F a ρ1 F1 a1 := (r2.mono (by simp) fun _ q => q).trans (q2.mono (fun _ q => q) fun t ht => Nat.le_trans hn1 ht)
            have hm1 : ∀ k o, killL s.M (srcs p.2) k = some o → k ∉ objT hd.trk → s1.M k = some o ∧ k ∉ srcs p'.2 := by
              intro k o hk ho
              have hkn := ((low_of hfree).2.2.1 k o (hM0 k o hk)).1
              have hoff : wrL wr s.n hd.trk k = false := wrL_off hkn (.inl ho)
              refine ⟨?_, fun hc => ?_⟩
              · rw [q5 k (by simp only; omega) hoff]
                show headM s.n hd.trk p.1 (killL s.M (srcs p.2)) k = some o
                rw [headM_out hkn ho]
                exact hk
              · obtain ⟨j, hj⟩ := srcs_mem hc
                rw [srcT_wr hp' j k hj] at hoff
                simp at hoff
            obtain ⟨t1, t2, t3, t4⟩ := head_start (cnt := hd.cnt) h hfree hM0 q1 hf1 (b := baseE (modC x) s.e) (baseE_ok hf1) hp' d4 d5 d6 hobj hcan hm1
            refine wpIn_mono (ihy wr Q _ _ ⟨headV s.n hd.trk p'.1 (baseE (modC x) s.e), headM s.n hd.trk p'.1 (killL s.M (srcs p.2)), s.n + hd.cnt, s.df⟩ a1 w1 t1 (fun k hk => t3 k (.inl hk)) (hv2 p'.1 t4 hJ)) ?_
            intro ex2 a2 w2 hq2
            have out2 : ∀ {K : VS → Prop}, LiftS cx.T fx.nt B (modC y) ⟨headV s.n hd.trk p'.1 (baseE (modC x) s.e), headM s.n hd.trk p'.1 (killL s.M (srcs p.2)), s.n + hd.cnt, s.df⟩ wr (rhoH p'.2 ρ1) F1 a1 K a2 w2 → LiftS cx.T fx.nt B (modC (.seq x y)) s wr ρ F a K a2 w2 := fun hq =>
              LiftS.trans t2 hn1 (fun k hk hN => t3 k (.inr ⟨hk, hN⟩)) (fun k hk hw => head_lock hp hk hw) (fun k hk hw => hw) (fun _ q => q) mx my hq
            cases ex2 <;> first | exact out2 hq2 | exact hq2.elim
        | exit n => exact out hq
        | ret => exact out hq
        | goto l => exact hq.elim
        | panic ch => exact hq.elim
        | outgrown => exact hq.elim
    · refine wpIn_seq (wpIn_mono (ihx wr _ ρ F s a w h hfree hv) ?_)
      intro ex a' w' hq
      cases ex with
      | normal =>
        obtain ⟨ρ', F', s', r1, r2, r3, r4, r5, k⟩ := hq
        refine wpIn_mono (ihy wr Q ρ' F' s' a' w' r1 (fun k hk => r4 k (.inl hk)) k) ?_
        intro ex2 a2 w2 hq2
        have out : ∀ {K : VS → Prop}, LiftS cx.T fx.nt B (modC y) s' wr ρ' F' a' K a2 w2 → LiftS cx.T fx.nt B (modC (.seq x y)) s wr ρ F a K a2 w2 := fun hq =>
          LiftS.trans r2 r3 (fun k hk hN => r4 k (.inr ⟨hk, hN⟩)) r5 (fun k hk hw => hw) (fun _ q => q) mx my hq
        cases ex2 <;> first | exact out hq2 | exact hq2.elim
      | exit n => exact LiftS.mono (fun _ k => k) mx hq
      | ret => exact LiftS.mono (fun _ k => k) mx hq
      | goto l => exact hq.elim
      | panic ch => exact hq.elim
      | outgrown => exact hq.elim
  | cond c x y ihx ihy =>
    intro wr Q ρ F s a w h hfree hv
    simp only [vcCode, forceN_eq] at hv
    split at hv
    · rename_i g hg
      have hgv := h.ev c
      rw [hg] at hgv
      have hgv' := rep_bool hgv
      refine wpIn_cond_split hgv' (fun ht => ?_) (fun ht => ?_)
      · exact wpIn_mono (ihx wr Q ρ F s a w h hfree (hv.1 ht)) fun ex2 a2 w2 hq2 => LiftX.mono (fun _ _ k => k) (fun t ht => by simp [modC, ht]) hq2
      · exact wpIn_mono (ihy wr Q ρ F s a w h hfree (hv.2 ht)) fun ex2 a2 w2 hq2 => LiftX.mono (fun _ _ k => k) (fun t ht => by simp [modC, ht]) hq2
    · exact hv.elim
  | block id x ih =>
    intro wr Q ρ F s a w h hfree hv
    refine wpIn_block (wpIn_mono (ih wr _ ρ F s a w h hfree hv) ?_)
    intro ex a' w' hq
    cases ex with
    | normal => exact hq
    | exit n =>
      simp only [Exit.inBlock]
      by_cases hn : n = id
      · subst hn
        rw [if_pos rfl]
        exact LiftS.mono (fun s k => by simpa [Nat.beq_refl] using k) (fun t ht => ht) hq
      · rw [if_neg hn]
        have : Nat.beq n id = false := by cases hq : Nat.beq n id; rfl; exact absurd (Nat.eq_of_beq_eq_true hq) hn
        exact LiftS.mono (fun s k => by simpa [this] using k) (fun t ht => ht) hq
    | ret => exact hq
    | goto l => exact hq.elim
    | panic ch => exact hq.elim
    | outgrown => exact hq.elim
  | scope x ih =>
    intro wr Q ρ F s a w h hfree hv
    simp only [vcCode, forceN_eq] at hv
    cases hrd : fx.rd with
    | true => rw [hrd] at hv; exact hv.elim
    | false =>
      rw [hrd] at hv
      refine wpIn_scope (hro hrd) (wpIn_mono (ih wr _ ρ F s a w h hfree hv) ?_) (fun _ _ _ hq => hq)
      intro ex a' w' hq
      cases ex <;> first | exact hq | exact hq.elim
  | loop x ih =>
    intro wr Q ρ F s a w h hfree hv
    simp only [vcCode, forceN_eq] at hv
    split at hv
    · rename_i hd _
      cases hcb : allB (fun k => Nat.blt k hd.cnt) (canT hd.trk) with
      | false => rw [hcb] at hv; exact hv.elim
      | true =>
        rw [hcb] at hv
        simp only [cond_true] at hv
        have hcan : ∀ j ∈ canT hd.trk, j < hd.cnt := fun j hj => blt_lt (allB_mem hcb j hj)
        obtain ⟨p, hp, d1, d2, d3, I, μ, i0, hround⟩ := vcHead_some hv
        have hobj : ∀ k ∈ objT hd.trk, k < s.n ∧ ∃ o, s.M k = some o := fun k hk => by
          obtain ⟨_, o, ho⟩ := readT_obj hp k hk
          exact ⟨((low_of hfree).2.2.1 k o ho).1, o, ho⟩
        have hM0 : ∀ k o, killL s.M (srcs p.2) k = some o → s.M k = some o := fun k o hk => (killL_some hk).1
        have hn1 : s.n ≤ s.n + hd.cnt := by omega
        let J : Nat → Act → World → Prop := fun m a' w' => ∃ x' ρ' F', I x' ∧ μ x' = m ∧ trW hd.trk x' ∧ Rel cx.T fx.nt B s.df ρ' F' (headV s.n hd.trk x' (baseE (modC x) s.e)) (headM s.n hd.trk x' (killL s.M (srcs p.2))) a' w' ∧ Fr (modC x) (fun k => s.n ≤ k) ρ F a ρ' F' a' ∧
          (∀ k, (s.n + hd.cnt ≤ k ∨ (k < s.n ∧ NoN B s.df s.e s.M k)) → NoN B s.df (headV s.n hd.trk x' (baseE (modC x) s.e)) (headM s.n hd.trk x' (killL s.M (srcs p.2))) k)
        have start : ∀ {ρ1 : Nat → Value} {F1 : Mem} {e1 : Env} {M1 : Mm} {a1 : Act} {w1 : World} {wr1 : Nat → Bool} {q : (trT hd.trk).T × List (Nat × Option Nat)}, Rel cx.T fx.nt B s.df ρ1 F1 e1 M1 a1 w1 → Fr (modC x) (fun k => s.n ≤ k) ρ F a ρ1 F1 a1 → readT e1 M1 wr1 s.n hd.trk = some q → distinctB (srcs q.2) = true → distinctB (keys q.2) = true → freeB (srcs q.2) (objT hd.trk) = true →
            (∀ k o, killL s.M (srcs p.2) k = some o → k ∉ objT hd.trk → M1 k = some o ∧ k ∉ srcs q.2) → I q.1 → J (μ q.1) a1 w1 := by
          intro ρ1 F1 e1 M1 a1 w1 wr1 q r f hq k1 k2 k3 hm1 hi
          obtain ⟨t1, t2, t3, t4⟩ := head_start (cnt := hd.cnt) h hfree hM0 r f (b := baseE (modC x) s.e) (baseE_ok f) hq k1 k2 k3 hobj hcan hm1
          exact ⟨q.1, _, F1, hi, rfl, t4, t1, t2, t3⟩
        refine wpIn_loop_ghost J (μ p.1) (start h (Fr.refl _ _ _ _ _) hp d1 d2 d3 (fun k o hk _ => killL_some hk) i0) ?_
        rintro m a1 w1 ⟨x', ρ1, F1, hi, rfl, hwf, r1, r2, r3⟩
        refine wpIn_mono (ih (wrL wr s.n hd.trk) _ ρ1 F1 ⟨headV s.n hd.trk x' (baseE (modC x) s.e), headM s.n hd.trk x' (killL s.M (srcs p.2)), s.n + hd.cnt, s.df⟩ a1 w1 r1 (fun k hk => r3 k (.inl hk)) (hround x' hwf hi)) ?_
        have out : ∀ {K : VS → Prop} {a' : Act} {w' : World}, LiftS cx.T fx.nt B (modC x) ⟨headV s.n hd.trk x' (baseE (modC x) s.e), headM s.n hd.trk x' (killL s.M (srcs p.2)), s.n + hd.cnt, s.df⟩ (wrL wr s.n hd.trk) ρ1 F1 a1 K a' w' → LiftS cx.T fx.nt B (modC (.loop x)) s wr ρ F a K a' w' := fun hq =>
          LiftS.trans r2 hn1 (fun k hk hN => r3 k (.inr ⟨hk, hN⟩)) (fun k hk hw => head_lock hp hk hw) (fun k hk hw => wrL_off hk (.inr hw)) (fun _ q => q) (fun _ q => q) (fun _ q => q) hq
        intro ex a2 w2 hq
        cases ex with
        | normal =>
          obtain ⟨ρ2, F2, s2, q1, q2, q3, q4, q5, q6⟩ := hq
          cases hbe : beqL s2.df s.df with
          | false => rw [hbe] at q6; exact q6.elim
          | true =>
            rw [hbe] at q6
            simp only [cond_true] at q6
            have hdf := beqL_eq hbe
            rw [hdf] at q1 q4
            obtain ⟨p', hp', d4, d5, d6, i2, lt2⟩ := vcHead_some q6
            refine ⟨_, lt2, start q1 (r2.trans (q2.mono (fun _ q => q) fun t ht => Nat.le_trans hn1 ht)) hp' d4 d5 d6 (fun k o hk ho => ?_) i2⟩
            have hkn := ((low_of hfree).2.2.1 k o (hM0 k o hk)).1
            have hoff : wrL wr s.n hd.trk k = false := wrL_off hkn (.inl ho)
            refine ⟨?_, fun hc => ?_⟩
            · rw [q5 k (by simp only; omega) hoff]
              show headM s.n hd.trk x' (killL s.M (srcs p.2)) k = some o
              rw [headM_out hkn ho]
              exact hk
            · obtain ⟨j, hj⟩ := srcs_mem hc
              rw [srcT_wr hp' j k hj] at hoff
              simp at hoff
        | exit n => exact out hq
        | ret => exact out hq
        | goto l => exact hq.elim
        | panic ch => exact hq.elim
        | outgrown => exact hq.elim
    · exact hv.elim
  | exit n => intro wr Q ρ F s a w h hfree hv; exact wpIn_exit (LiftS.refl h hfree hv)
  | ret => intro wr Q ρ F s a w h hfree hv; exact wpIn_ret (LiftS.refl h hfree hv)
  | label l => intro wr Q ρ F s a w h hfree hv; exact wpIn_label (LiftS.refl h hfree hv)
  | goto l => intro wr Q ρ F s a w h hfree hv; exact hv.elim
  | rangeFunc f ps x y =>
    intro wr Q ρ F s a w h hfree hv
    cases hrd : fx.rd with
    | true => simp only [vcCode, hrd, cond_true] at hv
    | false =>
      have hr := hro hrd
      subst hr
      have e1 : { fx with rd := false } = fx := by cases fx; simp only at hrd; subst hrd; rfl
      exact range_run hH hen hlc h hfree (by rw [e1]; exact hv)
  | refuse s => intro wr Q ρ F s a w h hfree hv; exact hv.elim
end
end Go.Proofs.Ytohglckebkgbpaa
