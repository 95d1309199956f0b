/-
  Proved: StrategyOne returns true for every game, two sets and two strategies: two strategies with which different players win have no position in common. No condition.
-/
import Derived.Test.YtlfngcmlaiinoaaHead
import Derived.Test.YtlfngcmlaiinoaaOrbit
import Derived.Test.YtlfngcmlaiinoaaReads
namespace Go.Proofs.Ytlfngcmlaiinoaa
open Go.RowKit Go.ChangeShapes Go.WideShapes Go.ChangeAt

set_option maxHeartbeats 2000000 in
theorem StrategyOne_calls (w : World) (v va vs vb vt : Value) (g : Game) (a b : List Bool) (s t : List Int) (hg : GameR w.cell? v g) (ha : Bools w.cell? va a) (hs : Ints w.cell? vs s) (hb : Bools w.cell? vb b) (ht : Ints w.cell? vt t) :
    Calls Try.prog 6 #[v, va, vs, vb, vt] w (Ret w (.bool true)) := by
  have HG := Lib.hid hg
  have HA := Lib.hid ha; have HS := Lib.hid hs; have HB := Lib.hid hb; have HT := Lib.hid ht
  obtain ⟨ov, pv, sv, rfl, ho, hp, hsu⟩ := hg
  obtain ⟨aa, ca, rfl, a1, a2⟩ := SlAt.shape ha
  obtain ⟨as1, cs1, rfl, s1, s2⟩ := SlAt.shape hs
  obtain ⟨ab, cb, rfl, b1, b2⟩ := SlAt.shape hb
  obtain ⟨at1, ct1, rfl, t1, t2⟩ := SlAt.shape ht
  clear ho hp hsu ha hs hb ht
  go_enter Try.func6, Try.ntmps6
  go_wp2_with fail
  refine (head_calls _).mono ?_
  rintro e w1 ⟨rfl, hb1⟩
  have c0 : w1.cell? ⟨w.heap.size, 0, none⟩ = some ov := bsub hb1 _ _ (by go_simp)
  have c1 : w1.cell? ⟨w.heap.size, 1, none⟩ = some pv := bsub hb1 _ _ (by go_simp)
  have c2 : w1.cell? ⟨w.heap.size, 2, none⟩ = some sv := bsub hb1 _ _ (by go_simp)
  have B1 := Lib.hid (bstep (below_alloc w _) hb1); clear hb1
  go_wp2_with fail
  refine (right_calls _ _ _ _ g a s (HG.out.mono (bsub B1.out)) (HA.out.mono (bsub B1.out)) (HS.out.mono (bsub B1.out))).mono ?_
  rintro e w2 ⟨rfl, hb2⟩
  have c0 := bsub hb2 _ _ c0; have c1 := bsub hb2 _ _ c1; have c2 := bsub hb2 _ _ c2
  have B2 := Lib.hid (bstep B1.out hb2); clear hb2
  generalize hr : rightS g a s = r
  have HRS := Lib.hid hr; clear hr
  cases r
  · go_wp2
    go_ret
    exact ⟨rfl, B2.out⟩
  · by_cases h1 : b.length = a.length
    · have q1 : ((b.length : Int) != (a.length : Int)) = false := by simp [h1]
      have H1 := Lib.hid h1; clear h1
      by_cases h2 : t.length = a.length
      · have q2 : ((t.length : Int) != (a.length : Int)) = false := by simp [h2]
        clear h2
        go_wp2_with fail
        refine (strategy_Wins _ _ _ _ g 0 a s (HG.out.mono (bsub B2.out)) (HA.out.mono (bsub B2.out)) (HS.out.mono (bsub B2.out))).mono ?_
        rintro e w3 ⟨rfl, hb3⟩
        have c0 := bsub hb3 _ _ c0; have c1 := bsub hb3 _ _ c1; have c2 := bsub hb3 _ _ c2
        have B3 := Lib.hid (bstep B2.out hb3); clear hb3
        generalize hw1 : winsS g 0 a s = x1
        have HW1 := Lib.hid hw1; clear hw1
        cases x1
        · go_wp2
          go_ret
          exact ⟨rfl, B3.out⟩
        · go_wp2_with fail
          refine (strategy_Wins _ _ _ _ g 1 b t (HG.out.mono (bsub B3.out)) (HB.out.mono (bsub B3.out)) (HT.out.mono (bsub B3.out))).mono ?_
          rintro e w4 ⟨rfl, hb4⟩
          have B4 := Lib.hid (bstep B3.out hb4); clear hb4
          generalize hw2 : winsS g 1 b t = x2
          have HW2 := Lib.hid hw2; clear hw2
          cases x2
          · go_wp2
            go_ret
            exact ⟨rfl, B4.out⟩
          · have hno : Hid (∀ i, i < a.length → ¬ (a.getD i false = true ∧ b.getD i false = true)) := by
              intro i hi ⟨x, y⟩
              have hl := (valid_head (wins_parts HW1.out).1).2.2.1
              exact one_law HW1.out HW2.out i ⟨by omega, by omega, by simpa using x⟩ ⟨by omega, by omega, by simpa using y⟩
            clear c0 c1 c2
            go_wp2
            go_loopg [12] a.length (fun gk k wr => ∃ m : Nat, m ≤ a.length ∧ gk = a.length - m ∧ k = .int .i64 m ∧ wr = w4)
            case atStart => exact ⟨0, Nat.zero_le _, rfl, rfl, rfl⟩
            case round =>
              obtain ⟨m, hm, hgk, rfl, rfl⟩ := hrel
              have HGK := Lib.hid hgk; clear hgk
              by_cases hlt : m < a.length
              · have hlt2 : m < b.length := by have := H1.out; omega
                obtain ⟨ba, offa, rfl, k1⟩ := Bools.get HA.out (bsub B4.out) hlt
                obtain ⟨bb, offb, rfl, k2⟩ := Bools.get HB.out (bsub B4.out) hlt2
                have hn := hno.out m hlt
                simp only [List.getD_eq_getElem?_getD, List.getElem?_eq_getElem hlt, List.getElem?_eq_getElem hlt2, Option.getD_some] at hn
                generalize a[m] = x at k1 hn
                generalize b[m] = y at k2 hn
                cases x
                · clear hn
                  go_wp2
                  go_roundg (gk - 1)
                  case measure => have := HGK.out; omega
                  case rel => exact ⟨m + 1, by omega, by have := HGK.out; omega, by go_num, rfl⟩
                · cases y
                  · clear hn
                    go_wp2
                    go_roundg (gk - 1)
                    case measure => have := HGK.out; omega
                    case rel => exact ⟨m + 1, by omega, by have := HGK.out; omega, by go_num, rfl⟩
                  · exact absurd ⟨rfl, rfl⟩ hn
              · go_wp2
                go_ret
                exact ⟨rfl, B4.out⟩
      · have q2 : ((t.length : Int) != (a.length : Int)) = true := by simp; omega
        go_wp2
        go_ret
        exact ⟨rfl, B2.out⟩
    · have q1 : ((b.length : Int) != (a.length : Int)) = true := by simp; omega
      go_wp2
      go_ret
      exact ⟨rfl, B2.out⟩

set_option maxRecDepth 100000 in
theorem StrategyOne_lifted (os : Os) (started : os.Started) (H : Type) (enc : TypeId × Value → H) :
    ReturnsInHanded {} Try.checked os 6 .any (Rows.strategyOneSpec.pre6 enc Try.prog Try.f6 Rows.strategyOneRow.domain false) (Rows.strategyOneSpec.post enc Try.prog Try.f6 false true false false) := by
  refine returnsInHanded_of_change (C := Try.checked) ownk started (by kernel_rfl) Try.func6
    (ChangeSpec.witness6 (enc := enc) (C := Try.checked) false ⟨#[], #[.agg #[.slice none 0 0, .slice none 0 0, .slice none 0 0], .slice none 0 0, .slice none 0 0, .slice none 0 0, .slice none 0 0], []⟩ 8 (by kernel_rfl) (by kernel_rfl) (by kernel_rfl) (by kernel_rfl)) ?_
  intro W base args ds gs before hval0 hW _ _
  have hval : ∀ (j : Nat) t v, Try.f6.params[j]? = some t → args[j]? = some v → Value.okWide Try.prog W .any base t v := hval0
  have hW' : DataW.Whole enc Try.prog Try.f6.params.toList Rows.strategyOneSpec.vars false W args.toList ds gs before := hW
  have hWW := hW'
  obtain ⟨p, q, hA, hV, rfl, hfz, hnd⟩ := hWW
  rw [Try.params6] at hA hval
  obtain ⟨v0, vs0, d0, ds0, p0, q0, hargs, hds, _, h0, r0⟩ := trodAll_cons hA
  obtain ⟨v1, vs1, d1, ds1, p1, q1, rfl, rfl, _, h1, r1⟩ := trodAll_cons r0
  obtain ⟨v2, vs2, d2, ds2, p2, q2, rfl, rfl, _, h2, r2⟩ := trodAll_cons r1
  obtain ⟨v3, vs3, d3, ds3, p3, q3, rfl, rfl, _, h3, r3⟩ := trodAll_cons r2
  obtain ⟨v4, vs4, d4, ds4, p4, q4, rfl, rfl, _, h4, r4⟩ := trodAll_cons r3
  obtain ⟨rfl, rfl, _⟩ := trodAll_nil r4
  obtain rfl : args = #[v0, v1, v2, v3, v4] := by cases args; simp_all
  obtain ⟨g, k0⟩ := read_game (hval 0 _ v0 rfl rfl) h0
  obtain ⟨a, k1⟩ := read_bools (hval 1 _ v1 rfl rfl) h1
  obtain ⟨s, k2⟩ := read_ints (hval 2 _ v2 rfl rfl) h2
  obtain ⟨b, k3⟩ := read_bools (hval 3 _ v3 rfl rfl) h3
  obtain ⟨t, k4⟩ := read_ints (hval 4 _ v4 rfl rfl) h4
  refine (StrategyOne_calls W v0 v1 v2 v3 v4 g a b s t k0 k1 k2 k3 k4).mono fun e W' ⟨he, hb⟩ => ⟨_, he, ?_⟩
  obtain ⟨rfl, rfl⟩ := trodVars_none hV
  exact law_post (tb := 4) laid rfl Try.underlying4 (by rw [Try.params6]; intro t ht; simp at ht; rcases ht with rfl | rfl | rfl | rfl | rfl <;> exact ⟨by kernel_rfl, of_decide_eq_true (by kernel_rfl)⟩) rfl (by rw [hds]; rfl) hW' hb

theorem StrategyOne_holds : Rows.StrategyOneSaid :=
  OpenClaim.holds_of_wide 6 Try.f6 rfl rfl rfl rfl rfl rfl rfl ⟨rfl, rfl, rfl, rfl, rfl⟩ rfl rfl rfl rfl rfl (by kernel_rfl) Try.func6 (by kernel_rfl)
    (of_decide_eq_true (by kernel_rfl)) (by unfold Func.isWrapper; first | (rw [if_pos (by decide +kernel)]; kernel_rfl) | (rw [if_neg (by decide +kernel)]; exact ⟨rfl, rfl⟩))
    (fun os started H enc _ => StrategyOne_lifted os started H enc)
end Go.Proofs.Ytlfngcmlaiinoaa
