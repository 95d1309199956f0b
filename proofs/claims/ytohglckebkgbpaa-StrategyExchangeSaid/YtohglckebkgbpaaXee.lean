/-
  Proved: in the game with exchanged players, and with greater priorities, the same wins.
-/
import Derived.Test.YtohglckebkgbpaaEc
import Derived.Test.YtohglckebkgbpaaEnds
import Derived.Test.YtohglckebkgbpaaRows
namespace Go.Proofs.Ytohglckebkgbpaa
open Go.RowKit Go.ChangeShapes Go.WideShapes Go.ChangeAt

set_option maxRecDepth 100000 in
theorem StrategyExchange_lifted (os : Os) (started : os.Started) (H : Type) (enc : TypeId × Value → H) :
    ReturnsInHanded {} Try.checked os 8 .any (Rows.strategyExchangeSpec.pre6 enc Try.prog Try.f8 Rows.strategyExchangeRow.domain false) (Rows.strategyExchangeSpec.post enc Try.prog Try.f8 false true false false) := by
  refine returnsInHanded_of_change (C := Try.checked) ownk started (by kernel_rfl) Try.func8
    (ChangeSpec.witness6 (enc := enc) (C := Try.checked) false ⟨#[], #[.agg #[.slice none 0 0, .slice none 0 0, .slice none 0 0], .bool false, .slice none 0 0, .slice none 0 0, .agg #[.slice none 0 0, .slice none 0 0]], []⟩ 8 (by kernel_rfl) (by kernel_rfl) (by kernel_rfl) (by kernel_rfl)) ?_
  intro W base args ds gs before hval0 hW _ _
  have hval : ∀ (j : Nat) t v, Try.f8.params[j]? = some t → args[j]? = some v → Value.okWide Try.prog W .any base t v := hval0
  have hW' : DataW.Whole enc Try.prog Try.f8.params.toList Rows.strategyExchangeSpec.vars false W args.toList ds gs before := hW
  have hWW := hW'
  obtain ⟨p, q, hA, hV, rfl, hfz, hnd⟩ := hWW
  obtain ⟨l, hl, hrep⟩ := args_of_trod tab_ok _ [gameT, .bool, boolsT, intsT, pathT] args.toList ds p (by rw [Try.params8]; rfl) rfl (fun j t v a b => hval j t v (by simpa using a) (by simpa using b)) hA
  match l, hl with
  | [_, _, _, _, _], ⟨⟨x0, rfl⟩, ⟨x1, rfl⟩, ⟨x2, rfl⟩, ⟨x3, rfl⟩, ⟨x4, rfl⟩, _⟩ =>
    have hc := (cp_Exchange x0 x1 x2 x3 x4).out W.cell? W args.toList noGlob (Sub.refl _) hrep
    rw [Array.toArray_toList] at hc
    refine hc.mono fun e W' ⟨v, F', he, hb, _, _, _, hr⟩ => ?_
    have hv := bool_of hr
    subst hv
    rw [Try.params8] at hA
    obtain ⟨v0, vs0, d0, ds0, p0, q0, hargs, hds, _, h0, r0⟩ := trodAll_cons hA
    obtain ⟨v1, vs1, d1, ds1, p1, q1, rfl, rfl, _, h1, r1⟩ := trodAll_cons r0
    obtain ⟨v2, vs2, d2, ds2, p2, q2, rfl, rfl, _, h2, r2⟩ := trodAll_cons r1
    obtain ⟨v3, vs3, d3, ds3, p3, q3, rfl, rfl, _, h3, r3⟩ := trodAll_cons r2
    obtain ⟨v4, vs4, d4, ds4, p4, q4, rfl, rfl, _, h4, r4⟩ := trodAll_cons r3
    obtain ⟨rfl, rfl, _⟩ := trodAll_nil r4
    refine ⟨_, he, ?_⟩
    obtain ⟨rfl, rfl⟩ := trodVars_none hV
    exact law_post (tb := 4) laid rfl Try.underlying4 (by rw [Try.params8]; intro t ht; simp at ht; rcases ht with rfl | rfl | rfl | rfl | rfl <;> exact ⟨by kernel_rfl, of_decide_eq_true (by kernel_rfl)⟩) rfl (by rw [hds]; rfl) hW' hb

theorem StrategyExchange_holds : Rows.StrategyExchangeSaid :=
  OpenClaim.holds_of_wide 8 Try.f8 rfl rfl rfl rfl rfl rfl rfl ⟨rfl, rfl, rfl, rfl, rfl⟩ rfl rfl rfl rfl rfl (by kernel_rfl) Try.func8 (by kernel_rfl)
    (of_decide_eq_true (by kernel_rfl)) (by unfold Func.isWrapper; first | (rw [if_pos (by decide +kernel)]; kernel_rfl) | (rw [if_neg (by decide +kernel)]; exact ⟨rfl, rfl⟩))
    (fun os started H enc _ => StrategyExchange_lifted os started H enc)
end Go.Proofs.Ytohglckebkgbpaa
