/-
  Proved: StrategyParts returns true for every game, player, set, strategy and two further sets: a winning strategy wins on each part of its set on which it is a strategy, and on the union of two such parts. No condition.
-/
import Derived.Test.YtlfngcmlaiinoaaHead
import Derived.Test.YtlfngcmlaiinoaaPartsLaw
import Derived.Test.YtlfngcmlaiinoaaReads
import Derived.Deep.CutRange
import Derived.Test.YtlfngcmlaiinoaaChain
namespace Go.Proofs.Ytlfngcmlaiinoaa
open Go.RowKit Go.ChangeShapes Go.WideShapes Go.ChangeAt

/-- what a row of Booleans of the call's own holds at an index -/
theorem own_bool_at {W : World} {base : Nat} {t : TypeId} {v : Value} {L : List Bool} {n k : Nat} {x : Bool} (h : W.ownsRow base t 1 v (bools L).length (bools L)) (hn : L.length = n) (hx : L[k]? = some x) :
    ∃ b off cap, v = .slice (some ⟨b, off, none⟩) n cap ∧ n ≤ cap ∧ cap ≤ 9223372036854775807 ∧ W.cell? ⟨b, off + k, none⟩ = some (.bool x) := by
  have hb := own_bools h
  obtain ⟨a, cap, rfl, h1, h2⟩ := SlAt.shape hb
  obtain ⟨hk, rfl⟩ := List.getElem?_eq_some_iff.1 hx
  obtain ⟨b, off, rfl, hc⟩ := Bools.get hb (Sub.refl _) hk
  exact ⟨b, off, cap, by rw [hn], by omega, h2, hc⟩

theorem wins_true (w : World) (v vs vt : Value) (g : Game) (player : Int) (set : List Bool) (s : List Int) (hg : GameR w.cell? v g) (hset : Bools w.cell? vs set) (hs : Ints w.cell? vt s) (h : winsS g player set s = true) :
    Calls Try.prog 15 #[v, .int .i64 player, vs, vt] w (Ret w (.bool true)) := by
  have k := strategy_Wins w v vs vt g player set s hg hset hs
  rw [h] at k
  exact k

structure Trio (set a b : List Bool) (base m : Nat) (x y z : Value) (W : World) : Prop where
  ox : W.ownsRow base 4 1 x (bools (andL set a m)).length (bools (andL set a m))
  oy : W.ownsRow base 4 1 y (bools (andL set b m)).length (bools (andL set b m))
  oz : W.ownsRow base 4 1 z (bools (bothL set a b m)).length (bools (bothL set a b m))
  xy : Apart x y
  xz : Apart x z
  yz : Apart y z

theorem bools_at {L M : List Bool} {x : Bool} (h : M = L ++ [x]) {k : Nat} (hk : L.length = k) : M[k]? = some x := by
  subst h; subst hk; simp

set_option maxRecDepth 100000 in
set_option maxHeartbeats 8000000 in
theorem StrategyParts_calls (w : World) (v vset vs va vb : Value) (second : Bool) (g : Game) (set a b : List Bool) (s : List Int) (hg : GameR w.cell? v g) (hset : Bools w.cell? vset set) (hs : Ints w.cell? vs s) (ha : Bools w.cell? va a) (hb : Bools w.cell? vb b) :
    Calls Try.prog 7 #[v, .bool second, vset, vs, va, vb] w (Ret w (.bool true)) := by
  have HG := Lib.hid hg
  have HA := Lib.hid ha; have HS := Lib.hid hs; have HB := Lib.hid hb; have HT := Lib.hid hset
  obtain ⟨ov, pv, sv, rfl, ho, hp, hsu⟩ := hg
  obtain ⟨at1, ct, rfl, t1, t2⟩ := SlAt.shape hset
  obtain ⟨as1, cs1, rfl, s1, s2⟩ := SlAt.shape hs
  obtain ⟨aa, ca, rfl, a1, a2⟩ := SlAt.shape ha
  obtain ⟨ab, cb, rfl, b1, b2⟩ := SlAt.shape hb
  clear ho hp hsu ha hs hb hset
  go_enter Try.func7, Try.ntmps7
  go_wp2_with fail
  refine (head_calls _).mono ?_
  rintro e w1 ⟨rfl, hb1⟩
  have c0 : w1.cell? ⟨w.heap.size, 0, none⟩ = some ov := bsub hb1 _ _ (by go_simp)
  have c1 : w1.cell? ⟨w.heap.size, 1, none⟩ = some pv := bsub hb1 _ _ (by go_simp)
  have c2 : w1.cell? ⟨w.heap.size, 2, none⟩ = some sv := bsub hb1 _ _ (by go_simp)
  have B1 := Lib.hid (bstep (below_alloc w _) hb1); clear hb1
  go_wp2_with fail
  refine (player_calls _ _).mono ?_
  rintro e w2 ⟨rfl, hb2⟩
  have c0 := bsub hb2 _ _ c0; have c1 := bsub hb2 _ _ c1; have c2 := bsub hb2 _ _ c2
  have B2 := Lib.hid (bstep B1.out hb2); clear hb2
  generalize playerS second = p
  go_wp2_with fail
  refine (right_calls _ _ _ _ g set s (HG.out.mono (bsub B2.out)) (HT.out.mono (bsub B2.out)) (HS.out.mono (bsub B2.out))).mono ?_
  rintro e w3 ⟨rfl, hb3⟩
  have c0 := bsub hb3 _ _ c0; have c1 := bsub hb3 _ _ c1; have c2 := bsub hb3 _ _ c2
  have B3 := Lib.hid (bstep B2.out hb3); clear hb3
  generalize hr : rightS g set s = r
  have HRS := Lib.hid hr; clear hr
  cases r
  · go_wp2
    go_ret
    exact ⟨rfl, B3.out⟩
  · by_cases h1 : a.length = set.length
    · have q1 : ((a.length : Int) != (set.length : Int)) = false := by simp [h1]
      have H1 := Lib.hid h1; clear h1
      by_cases h2 : b.length = set.length
      · have q2 : ((b.length : Int) != (set.length : Int)) = false := by simp [h2]
        have H2 := Lib.hid h2; clear h2
        go_wp2_with fail
        refine (strategy_Wins _ _ _ _ g p set s (HG.out.mono (bsub B3.out)) (HT.out.mono (bsub B3.out)) (HS.out.mono (bsub B3.out))).mono ?_
        rintro e w4 ⟨rfl, hb4⟩
        have c0 := bsub hb4 _ _ c0; have c1 := bsub hb4 _ _ c1; have c2 := bsub hb4 _ _ c2
        have B4 := Lib.hid (bstep B3.out hb4); clear hb4
        generalize hw1 : winsS g p set s = x1
        have HW1 := Lib.hid hw1; clear hw1
        cases x1
        · go_wp2
          go_ret
          exact ⟨rfl, B4.out⟩
        · have hsl : s.length ≤ 100000 := by
            have h := HRS.out
            simp only [rightS, smallG, Bool.and_eq_true, decide_eq_true_eq] at h
            omega
          have hset : set.length ≤ 100000 := by
            have h := HRS.out
            simp only [rightS, smallG, Bool.and_eq_true, decide_eq_true_eq] at h
            omega
          have hsz4 := B4.out.size
          have HX0 : Hid (Trio set a b w4.heap.size 0 (.slice (some ⟨w4.heap.size, 0, none⟩) 0 0) (.slice (some ⟨w4.heap.size + 1, 0, none⟩) 0 0) (.slice (some ⟨w4.heap.size + 1 + 1, 0, none⟩) 0 0) (((w4.alloc (.cells #[] 4)).alloc (.cells #[] 4)).alloc (.cells #[] 4))) := by
            have e1 : (w4.alloc (.cells #[] 4)).heap.size = w4.heap.size + 1 := by simp
            have e2 : ((w4.alloc (.cells #[] 4)).alloc (.cells #[] 4)).heap.size = w4.heap.size + 1 + 1 := by simp
            refine ⟨?_, ?_, ?_, ?_, ?_, ?_⟩
            · exact own_below (own_below (World.ownsRow_made w4 #[] 0 (Nat.le_refl _) (by simp [maxLen]) rfl) (below_alloc _ _)) (below_alloc _ _)
            · rw [← e1]; exact own_below (World.ownsRow_made (w4.alloc (.cells #[] 4)) #[] 0 (by omega) (by simp [maxLen]) rfl) (below_alloc _ _)
            · rw [← e2]; exact World.ownsRow_made ((w4.alloc (.cells #[] 4)).alloc (.cells #[] 4)) #[] 0 (by omega) (by simp [maxLen]) rfl
            · right; simp [Value.ownBlock]
            · right; simp [Value.ownBlock]; omega
            · right; simp [Value.ownBlock]
          have BX0 : Hid (Below w4.heap.size w4 (((w4.alloc (.cells #[] 4)).alloc (.cells #[] 4)).alloc (.cells #[] 4))) := bstep (bstep (below_alloc _ _) (below_alloc _ _)) (below_alloc _ _)
          have hC : Hid (∀ wr : World, Below w4.heap.size w4 wr → wr.cell? ⟨w.heap.size, 0, none⟩ = some ov ∧ wr.cell? ⟨w.heap.size, 1, none⟩ = some pv ∧ wr.cell? ⟨w.heap.size, 2, none⟩ = some sv) := fun wr h => ⟨bsub h _ _ c0, bsub h _ _ c1, bsub h _ _ c2⟩
          clear c0 c1 c2
          go_wp2
          go_loopg [15, 16, 17, 18] set.length (fun gk x y z k wr => ∃ m : Nat, m ≤ set.length ∧ gk = set.length - m ∧ k = .int .i64 m ∧ Hid (Trio set a b w4.heap.size m x y z wr) ∧ Hid (Below w4.heap.size w4 wr))
          case atStart => exact ⟨0, Nat.zero_le _, rfl, rfl, HX0, BX0⟩
          case round =>
            obtain ⟨m, hm, hgk, rfl, HR, HW⟩ := hrel
            have HGK := Lib.hid hgk; clear hgk HX0 BX0
            by_cases hlt : m < set.length
            · have hla : m < a.length := by have := H1.out; omega
              have hlb : m < b.length := by have := H2.out; omega
              obtain ⟨bt, offt, rfl, k1⟩ := Bools.get HT.out (bsub B4.out) hlt
              obtain ⟨ba, offa, rfl, k2⟩ := Bools.get HA.out (bsub B4.out) hla
              obtain ⟨bb, offb, rfl, k3⟩ := Bools.get HB.out (bsub B4.out) hlb
              have E1 := Lib.hid (andL_succ set a m)
              have E2 := Lib.hid (andL_succ set b m)
              have E3 := Lib.hid (bothL_succ set a b m)
              have g1 : set.getD m false = set[m] := by simp [List.getD_eq_getElem?_getD, hlt]
              have g2 : a.getD m false = a[m] := by simp [List.getD_eq_getElem?_getD, hla]
              have g3 : b.getD m false = b[m] := by simp [List.getD_eq_getElem?_getD, hlb]
              rw [g1, g2] at E1
              rw [g1, g3] at E2
              rw [g1, g2, g3] at E3
              clear g1 g2 g3 hm
              generalize set[m] = u1 at k1 E1 E2 E3
              generalize a[m] = u2 at k2 E1 E3
              generalize b[m] = u3 at k3 E2 E3
              have j1 := bsub HW.out _ _ k1
              have j2 := bsub HW.out _ _ k2
              have hc : (u1 = false) ∨ (u1 = true ∧ u2 = true) ∨ (u1 = true ∧ u2 = false) := by cases u1 <;> cases u2 <;> simp
              have D1 : Hid ((bools (andL set a m)).length ≤ 100000) := by simp only [Hid, bools_length, andL_len]; omega
              have D2 : Hid ((bools (andL set b m)).length ≤ 100000) := by simp only [Hid, bools_length, andL_len]; omega
              have D3 : Hid ((bools (bothL set a b m)).length ≤ 100000) := by simp only [Hid, bools_length, bothL_len]; omega
              rcases hc with rfl | ⟨rfl, rfl⟩ | ⟨rfl, rfl⟩
              all_goals
                (try simp only [Bool.false_and, Bool.true_and, Bool.or_true, Bool.true_or, Bool.false_or, Bool.or_false] at E1)
                (try simp only [Bool.false_and, Bool.true_and, Bool.or_true, Bool.true_or, Bool.false_or, Bool.or_false] at E2)
                (try simp only [Bool.false_and, Bool.true_and, Bool.or_true, Bool.true_or, Bool.false_or, Bool.or_false] at E3)
                go_wp2_with (at_builtin; refine wpList_push bool_elem rfl _ _ rfl w4.heap.size (bools (andL set a m)) _ 1 rfl rfl ?c3 ?c4 ?c5 HW.out.size ?_)
                case c3 => exact HR.out.ox
                case c4 => have := D1.out; omega
                case c5 => have := D1.out; unfold maxLen; omega
                intro vx W1 p1
                have HW1 := Lib.hid (p1.below HR.out.ox (Nat.le_refl _) HW.out)
                have X1 : Hid (W1.ownsRow w4.heap.size 4 1 vx (bools (andL set a (m + 1))).length (bools (andL set a (m + 1)))) := by rw [E1.out, bools_append]; exact p1.own
                have Y1 := Lib.hid (p1.kept HR.out.oy HR.out.xy.symm)
                have Z1 := Lib.hid (p1.kept HR.out.oz HR.out.xz.symm)
                have XY1 := Lib.hid (p1.apart HR.out.oy HR.out.xy.symm).symm
                have XZ1 := Lib.hid (p1.apart HR.out.oz HR.out.xz.symm).symm
                have YZ1 := Lib.hid HR.out.yz
                clear p1 HR j1 j2 HW
                have j1 := bsub HW1.out _ _ k1
                have j3 := bsub HW1.out _ _ k3
                go_wp2_with (at_builtin; refine wpList_push bool_elem rfl _ _ rfl w4.heap.size (bools (andL set b m)) _ 1 rfl rfl ?c3 ?c4 ?c5 HW1.out.size ?_)
                case c3 => exact Y1.out
                case c4 => have := D2.out; omega
                case c5 => have := D2.out; unfold maxLen; omega
                intro vy W2 p2
                have HW2 := Lib.hid (p2.below Y1.out (Nat.le_refl _) HW1.out)
                have Y2 : Hid (W2.ownsRow w4.heap.size 4 1 vy (bools (andL set b (m + 1))).length (bools (andL set b (m + 1)))) := by rw [E2.out, bools_append]; exact p2.own
                have X2 := Lib.hid (p2.kept X1.out XY1.out)
                have Z2 := Lib.hid (p2.kept Z1.out YZ1.out.symm)
                have XY2 := Lib.hid (p2.apart X1.out XY1.out)
                have YZ2 := Lib.hid (p2.apart Z1.out YZ1.out.symm).symm
                clear p2 X1 Y1 Z1 XY1 YZ1 HW1 j1 j3
                obtain ⟨bx, ofx, cx, rfl, x1, x2, kx⟩ := own_bool_at X2.out (andL_len _ _ _) (bools_at E1.out (andL_len _ _ _))
                obtain ⟨by1, ofy, cy, rfl, y1, y2, ky⟩ := own_bool_at Y2.out (andL_len _ _ _) (bools_at E2.out (andL_len _ _ _))
                go_wp2_with (at_builtin; refine wpList_push bool_elem rfl _ _ rfl w4.heap.size (bools (bothL set a b m)) _ 1 rfl rfl ?c3 ?c4 ?c5 HW2.out.size ?_)
                case c3 => exact Z2.out
                case c4 => have := D3.out; omega
                case c5 => have := D3.out; unfold maxLen; omega
                intro vz W3 p3
                have HW3 := Lib.hid (p3.below Z2.out (Nat.le_refl _) HW2.out)
                have T3 : Hid (Trio set a b w4.heap.size (m + 1) _ _ vz W3) := ⟨p3.kept X2.out XZ1.out, p3.kept Y2.out YZ2.out, by rw [E3.out, bools_append]; exact p3.own, XY2.out, p3.apart X2.out XZ1.out, p3.apart Y2.out YZ2.out⟩
                clear p3 X2 Y2 Z2 XZ1 XY2 YZ2 HW2 kx ky
                go_wp2
                go_roundg (gk - 1)
                case measure => have := HGK.out; omega
                case rel => exact ⟨m + 1, by omega, by have := HGK.out; omega, by go_num, T3, HW3⟩
            · have hmn : m = set.length := by omega
              subst hmn
              obtain ⟨c0, c1, c2⟩ := hC.out wr HW.out
              have GR := Lib.hid (HG.out.mono (bsub (bstep B4.out HW.out)))
              have SR := Lib.hid (HS.out.mono (bsub (bstep B4.out HW.out)))
              have XR := Lib.hid (own_bools HR.out.ox)
              have YR := Lib.hid (own_bools HR.out.oy)
              have ZR := Lib.hid (own_bools HR.out.oz)
              have L1 := Lib.hid (parts_law (a := a) (b := b) HW1.out)
              have L2 := Lib.hid ((parts_law (a := b) (b := a) HW1.out).1)
              have BR := Lib.hid (bstep B4.out HW.out)
              clear HR HW hC HG HT HA HB HS HRS H1 H2 HW1 B1 B2 B3 B4 q1 q2 a1 a2 b1 b2 t1 t2 s1 s2
              go_wp2_with fail
              go_cut [19] from 21 (fun v wx => v = .bool (validS g p (andL set a set.length) (withinTo (andL set a set.length) s s.length)) ∧ Hid (Below wr.heap.size wr wx))
              case first =>
                have C0 : ∀ u : Bel wr, u.1.cell? ⟨w.heap.size, 0, none⟩ = some ov := fun u => bel_sub u _ _ c0
                have C1 : ∀ u : Bel wr, u.1.cell? ⟨w.heap.size, 1, none⟩ = some pv := fun u => bel_sub u _ _ c1
                have C2 : ∀ u : Bel wr, u.1.cell? ⟨w.heap.size, 2, none⟩ = some sv := fun u => bel_sub u _ _ c2
                refine wp_region_lex (by kernel_rfl) (by kernel_rfl) (by intro c a d v w h; cases d <;> exact h) (fun u0 => ?_)
                repeat (first
                  | (refine lex_pure rfl ?_; go_big_quiet_step (fail); refine lex_on ?_)
                  | (refine lex_call rfl (by rfl) (fun K hK => ?_); go_simp; (first | (go_at_call_of 26 u15; refine (Calls.lexR (lawWithin_calls _ _ _ (andL set a set.length) s (XR.out.mono (bel_sub _)) (SR.out.mono (bel_sub _)) hsl)).mono ?_; rintro e wa ⟨va, rfl, ua, rfl, hia, hba⟩) | (go_at_call_of 13 u15; refine (Calls.lex (strategy_Valid _ _ _ _ g p (andL set a set.length) (withinTo (andL set a set.length) s s.length) (GR.out.mono (bel_sub _)) (XR.out.mono (bel_sub _)) hia.out)).mono ?_; rintro e wa1 ⟨rfl, va1, rfl, hba1⟩)); go_wp2_with fail; refine hK.out _ _ ⟨_, rfl⟩ ?_; clear hK K)
                  | (refine lex_skip (by rfl) ?_; go_big_quiet_step (fail); refine lex_on ?_))
                refine lex_nil ?_
                go_wp2_with fail
                go_meet
                exact ⟨rfl, Subtype.property _⟩
              case rest =>
                obtain ⟨hv, hbc⟩ := hcut
                subst hv
                rename World => wa
                have c0 : wa.cell? ⟨w.heap.size, 0, none⟩ = some ov := bsub hbc.out _ _ c0
                have c1 : wa.cell? ⟨w.heap.size, 1, none⟩ = some pv := bsub hbc.out _ _ c1
                have c2 : wa.cell? ⟨w.heap.size, 2, none⟩ = some sv := bsub hbc.out _ _ c2
                have GR := Lib.hid (GR.out.mono (bsub hbc.out))
                have SR := Lib.hid (SR.out.mono (bsub hbc.out))
                have XR := Lib.hid (XR.out.mono (bsub hbc.out))
                have YR := Lib.hid (YR.out.mono (bsub hbc.out))
                have ZR := Lib.hid (ZR.out.mono (bsub hbc.out))
                have BR := Lib.hid (bstep BR.out hbc.out)
                clear hbc
                go_wp2_with fail
                go_cut [20] from 21 (fun v wx => v = .bool (validS g p (andL set b set.length) (withinTo (andL set b set.length) s s.length)) ∧ Hid (Below wa.heap.size wa wx))
                case first =>
                  have C0 : ∀ u : Bel wa, u.1.cell? ⟨w.heap.size, 0, none⟩ = some ov := fun u => bel_sub u _ _ c0
                  have C1 : ∀ u : Bel wa, u.1.cell? ⟨w.heap.size, 1, none⟩ = some pv := fun u => bel_sub u _ _ c1
                  have C2 : ∀ u : Bel wa, u.1.cell? ⟨w.heap.size, 2, none⟩ = some sv := fun u => bel_sub u _ _ c2
                  refine wp_region_lex (by kernel_rfl) (by kernel_rfl) (by intro c a d v w h; cases d <;> exact h) (fun u0 => ?_)
                  repeat (first
                    | (refine lex_pure rfl ?_; go_big_quiet_step (fail); refine lex_on ?_)
                    | (refine lex_call rfl (by rfl) (fun K hK => ?_); go_simp; (first | (go_at_call_of 26 u16; refine (Calls.lexR (lawWithin_calls _ _ _ (andL set b set.length) s (YR.out.mono (bel_sub _)) (SR.out.mono (bel_sub _)) hsl)).mono ?_; rintro e wa ⟨va, rfl, ua, rfl, hia, hba⟩) | (go_at_call_of 13 u16; refine (Calls.lex (strategy_Valid _ _ _ _ g p (andL set b set.length) (withinTo (andL set b set.length) s s.length) (GR.out.mono (bel_sub _)) (YR.out.mono (bel_sub _)) hia.out)).mono ?_; rintro e wa1 ⟨rfl, va1, rfl, hba1⟩)); go_wp2_with fail; refine hK.out _ _ ⟨_, rfl⟩ ?_; clear hK K)
                    | (refine lex_skip (by rfl) ?_; go_big_quiet_step (fail); refine lex_on ?_))
                  refine lex_nil ?_
                  go_wp2_with fail
                  go_meet
                  exact ⟨rfl, Subtype.property _⟩
                case rest =>
                  obtain ⟨hv, hbc⟩ := hcut
                  subst hv
                  rename World => wb
                  have c0 : wb.cell? ⟨w.heap.size, 0, none⟩ = some ov := bsub hbc.out _ _ c0
                  have c1 : wb.cell? ⟨w.heap.size, 1, none⟩ = some pv := bsub hbc.out _ _ c1
                  have c2 : wb.cell? ⟨w.heap.size, 2, none⟩ = some sv := bsub hbc.out _ _ c2
                  have GR := Lib.hid (GR.out.mono (bsub hbc.out))
                  have SR := Lib.hid (SR.out.mono (bsub hbc.out))
                  have XR := Lib.hid (XR.out.mono (bsub hbc.out))
                  have YR := Lib.hid (YR.out.mono (bsub hbc.out))
                  have ZR := Lib.hid (ZR.out.mono (bsub hbc.out))
                  have BR := Lib.hid (bstep BR.out hbc.out)
                  clear hbc
                  generalize hone : validS g p (andL set a set.length) (withinTo (andL set a set.length) s s.length) = one
                  generalize htwo : validS g p (andL set b set.length) (withinTo (andL set b set.length) s s.length) = two
                  have P1 : Hid (one = true → winsS g p (andL set a set.length) (withinTo (andL set a set.length) s s.length) = true) := fun h => L1.out.1 (hone.trans h)
                  have P2 : Hid (two = true → winsS g p (andL set b set.length) (withinTo (andL set b set.length) s s.length) = true) := fun h => L2.out (htwo.trans h)
                  have P3 : Hid (one = true → two = true → winsS g p (bothL set a b set.length) (withinTo (bothL set a b set.length) s s.length) = true) := fun h k => L1.out.2 (hone.trans h) (htwo.trans k)
                  clear hone htwo L1 L2
                  go_wp2_with fail
                  go_cut [137] from 21 (fun v wx => v = .bool false ∧ Hid (Below wb.heap.size wb wx))
                  case first =>
                    have C0 : ∀ u : Bel wb, u.1.cell? ⟨w.heap.size, 0, none⟩ = some ov := fun u => bel_sub u _ _ c0
                    have C1 : ∀ u : Bel wb, u.1.cell? ⟨w.heap.size, 1, none⟩ = some pv := fun u => bel_sub u _ _ c1
                    have C2 : ∀ u : Bel wb, u.1.cell? ⟨w.heap.size, 2, none⟩ = some sv := fun u => bel_sub u _ _ c2
                    cases one <;> cases two
                    all_goals
                      refine wp_region_lex (by kernel_rfl) (by kernel_rfl) (by intro c a d v w h; cases d <;> exact h) (fun u0 => ?_)
                      repeat (first
                        | (refine lex_pure rfl ?_; go_big_quiet_step (fail); refine lex_on ?_)
                        | (refine lex_call rfl (by rfl) (fun K hK => ?_); go_simp; (first | (go_at_call_of 26 u15; refine (Calls.lexR (lawWithin_calls _ _ _ (andL set a set.length) s (XR.out.mono (bel_sub _)) (SR.out.mono (bel_sub _)) hsl)).mono ?_; rintro e wa ⟨va, rfl, ua, rfl, hia, hba⟩) | (go_at_call_of 15 u15; refine (Calls.lex (wins_true _ _ _ _ g p (andL set a set.length) (withinTo (andL set a set.length) s s.length) (GR.out.mono (bel_sub _)) (XR.out.mono (bel_sub _)) hia.out (P1.out (by simp)))).mono ?_; rintro e wa1 ⟨rfl, va1, rfl, hba1⟩) | (go_at_call_of 26 u16; refine (Calls.lexR (lawWithin_calls _ _ _ (andL set b set.length) s (YR.out.mono (bel_sub _)) (SR.out.mono (bel_sub _)) hsl)).mono ?_; rintro e wk ⟨vk, rfl, uk, rfl, hik, hbk⟩) | (go_at_call_of 15 u16; refine (Calls.lex (wins_true _ _ _ _ g p (andL set b set.length) (withinTo (andL set b set.length) s s.length) (GR.out.mono (bel_sub _)) (YR.out.mono (bel_sub _)) hik.out (P2.out (by simp)))).mono ?_; rintro e wk1 ⟨rfl, vk1, rfl, hbk1⟩)); go_wp2_with fail; refine hK.out _ _ ⟨_, rfl⟩ ?_; clear hK K)
                        | (refine lex_skip (by rfl) ?_; go_big_quiet_step (fail); refine lex_on ?_))
                      refine lex_nil ?_
                      go_wp2_with fail
                      go_meet
                      exact ⟨rfl, Subtype.property _⟩
                  case rest =>
                    obtain ⟨hv, hbc⟩ := hcut
                    subst hv
                    rename World => wd
                    have c0 : wd.cell? ⟨w.heap.size, 0, none⟩ = some ov := bsub hbc.out _ _ c0
                    have c1 : wd.cell? ⟨w.heap.size, 1, none⟩ = some pv := bsub hbc.out _ _ c1
                    have c2 : wd.cell? ⟨w.heap.size, 2, none⟩ = some sv := bsub hbc.out _ _ c2
                    have GR := Lib.hid (GR.out.mono (bsub hbc.out))
                    have SR := Lib.hid (SR.out.mono (bsub hbc.out))
                    have XR := Lib.hid (XR.out.mono (bsub hbc.out))
                    have YR := Lib.hid (YR.out.mono (bsub hbc.out))
                    have ZR := Lib.hid (ZR.out.mono (bsub hbc.out))
                    have BR := Lib.hid (bstep BR.out hbc.out)
                    clear hbc
                    have C0 : ∀ u : Bel wd, u.1.cell? ⟨w.heap.size, 0, none⟩ = some ov := fun u => bel_sub u _ _ c0
                    have C1 : ∀ u : Bel wd, u.1.cell? ⟨w.heap.size, 1, none⟩ = some pv := fun u => bel_sub u _ _ c1
                    have C2 : ∀ u : Bel wd, u.1.cell? ⟨w.heap.size, 2, none⟩ = some sv := fun u => bel_sub u _ _ c2
                    cases one <;> cases two
                    all_goals
                      go_wp2_with fail
                      refine wp_region_lex (by kernel_rfl) (by kernel_rfl) (by intro c a d v w h; cases d <;> exact h) (fun u0 => ?_)
                      repeat (first
                        | (refine lex_pure rfl ?_; go_big_quiet_step (fail); refine lex_on ?_)
                        | (refine lex_call rfl (by rfl) (fun K hK => ?_); go_simp; (first | (go_at_call_of 26 u17; refine (Calls.lexR (lawWithin_calls _ _ _ (bothL set a b set.length) s (ZR.out.mono (bel_sub _)) (SR.out.mono (bel_sub _)) hsl)).mono ?_; rintro e wa ⟨va, rfl, ua, rfl, hia, hba⟩) | (go_at_call_of 15 u17; refine (Calls.lex (wins_true _ _ _ _ g p (bothL set a b set.length) (withinTo (bothL set a b set.length) s s.length) (GR.out.mono (bel_sub _)) (ZR.out.mono (bel_sub _)) hia.out (P3.out (by simp) (by simp)))).mono ?_; rintro e wa1 ⟨rfl, va1, rfl, hba1⟩)); go_wp2_with fail; refine hK.out _ _ ⟨_, rfl⟩ ?_; clear hK K)
                        | (refine lex_skip (by rfl) ?_; go_big_quiet_step (fail); refine lex_on ?_))
                      refine lex_nil ?_
                      go_wp2_with fail
                      go_ret
                      exact ⟨rfl, bstep BR.out (Subtype.property _)⟩
      · have q2 : ((b.length : Int) != (set.length : Int)) = true := by simp; omega
        go_wp2
        go_ret
        exact ⟨rfl, B3.out⟩
    · have q1 : ((a.length : Int) != (set.length : Int)) = true := by simp; omega
      go_wp2
      go_ret
      exact ⟨rfl, B3.out⟩
set_option maxRecDepth 100000 in
theorem StrategyParts_lifted (os : Os) (started : os.Started) (H : Type) (enc : TypeId × Value → H) :
    ReturnsInHanded {} Try.checked os 7 .any (Rows.strategyPartsSpec.pre6 enc Try.prog Try.f7 Rows.strategyPartsRow.domain false) (Rows.strategyPartsSpec.post enc Try.prog Try.f7 false true false false) := by
  refine returnsInHanded_of_change (C := Try.checked) ownk started (by kernel_rfl) Try.func7
    (ChangeSpec.witness6 (enc := enc) (C := Try.checked) false ⟨#[], #[.agg #[.slice none 0 0, .slice none 0 0, .slice none 0 0], .bool false, .slice none 0 0, .slice none 0 0, .slice none 0 0, .slice none 0 0], []⟩ 8 (by kernel_rfl) (by kernel_rfl) (by kernel_rfl) (by kernel_rfl)) ?_
  intro W base args ds gs before hval0 hW _ _
  have hval : ∀ (j : Nat) t v, Try.f7.params[j]? = some t → args[j]? = some v → Value.okWide Try.prog W .any base t v := hval0
  have hW' : DataW.Whole enc Try.prog Try.f7.params.toList Rows.strategyPartsSpec.vars false W args.toList ds gs before := hW
  have hWW := hW'
  obtain ⟨p, q, hA, hV, rfl, hfz, hnd⟩ := hWW
  rw [Try.params7] at hA hval
  obtain ⟨v0, vs0, d0, ds0, p0, q0, hargs, hds, _, h0, r0⟩ := trodAll_cons hA
  obtain ⟨v1, vs1, d1, ds1, p1, q1, rfl, rfl, _, h1, r1⟩ := trodAll_cons r0
  obtain ⟨v2, vs2, d2, ds2, p2, q2, rfl, rfl, _, h2, r2⟩ := trodAll_cons r1
  obtain ⟨v3, vs3, d3, ds3, p3, q3, rfl, rfl, _, h3, r3⟩ := trodAll_cons r2
  obtain ⟨v4, vs4, d4, ds4, p4, q4, rfl, rfl, _, h4, r4⟩ := trodAll_cons r3
  obtain ⟨v5, vs5, d5, ds5, p5, q5, rfl, rfl, _, h5, r5⟩ := trodAll_cons r4
  obtain ⟨rfl, rfl, _⟩ := trodAll_nil r5
  obtain rfl : args = #[v0, v1, v2, v3, v4, v5] := by cases args; simp_all
  obtain ⟨g, k0⟩ := read_game (hval 0 _ v0 rfl rfl) h0
  obtain ⟨second, rfl⟩ := okWide_bool Try.underlying4 (hval 1 _ v1 rfl rfl)
  obtain ⟨set, k2⟩ := read_bools (hval 2 _ v2 rfl rfl) h2
  obtain ⟨s, k3⟩ := read_ints (hval 3 _ v3 rfl rfl) h3
  obtain ⟨a, k4⟩ := read_bools (hval 4 _ v4 rfl rfl) h4
  obtain ⟨b, k5⟩ := read_bools (hval 5 _ v5 rfl rfl) h5
  refine (StrategyParts_calls W v0 v2 v3 v4 v5 second g set a b s k0 k2 k3 k4 k5).mono fun e W' ⟨he, hb⟩ => ⟨_, he, ?_⟩
  obtain ⟨rfl, rfl⟩ := trodVars_none hV
  exact law_post (tb := 4) laid rfl Try.underlying4 (by rw [Try.params7]; intro t ht; simp at ht; rcases ht with rfl | rfl | rfl | rfl | rfl | rfl <;> exact ⟨by kernel_rfl, of_decide_eq_true (by kernel_rfl)⟩) rfl (by rw [hds]; rfl) hW' hb

theorem StrategyParts_holds : Rows.StrategyPartsSaid :=
  OpenClaim.holds_of_wide 7 Try.f7 rfl rfl rfl rfl rfl rfl rfl ⟨rfl, rfl, rfl, rfl, rfl⟩ rfl rfl rfl rfl rfl (by kernel_rfl) Try.func7 (by kernel_rfl)
    (of_decide_eq_true (by kernel_rfl)) (by unfold Func.isWrapper; first | (rw [if_pos (by decide +kernel)]; kernel_rfl) | (rw [if_neg (by decide +kernel)]; exact ⟨rfl, rfl⟩))
    (fun os started H enc _ => StrategyParts_lifted os started H enc)
end Go.Proofs.Ytlfngcmlaiinoaa
