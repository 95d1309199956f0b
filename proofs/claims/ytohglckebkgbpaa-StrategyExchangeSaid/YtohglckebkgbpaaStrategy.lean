/-
  Contracts of package strategy: Valid.
-/
import Derived.Test.YtohglckebkgbpaaArena
import Derived.Test.YtohglckebkgbpaaMaps
namespace Go.Proofs.Ytohglckebkgbpaa
open Go.RowKit

/-- the strategy is right at a position -/
def okAt (g : Game) (player : Int) (set : List Bool) (s : List Int) (i : Nat) : Bool :=
  if set.getD i false && (g.owner.getD i 0 == player) then decide (s.getD i 0 ∈ g.succ.getD i []) && set.getD (s.getD i 0).toNat false
  else (s.getD i 0 == -1) && (!set.getD i false || (g.succ.getD i []).all fun k => set.getD k.toNat false)
def okTo (g : Game) (player : Int) (set : List Bool) (s : List Int) : Nat → Bool
  | 0 => true
  | i + 1 => okTo g player set s i && okAt g player set s i
def headS (g : Game) (player : Int) (set : List Bool) (s : List Int) : Bool :=
  g.valid && (decide (0 ≤ player) && decide (player ≤ 1)) && decide (set.length = g.owner.length) && decide (s.length = g.owner.length)
def validS (g : Game) (player : Int) (set : List Bool) (s : List Int) : Bool := headS g player set s && okTo g player set s g.owner.length

theorem valid_parts {g : Game} (h : g.valid = true) : g.owner.length ≤ 3000 ∧ g.prio.length = g.owner.length ∧ g.succ.length = g.owner.length ∧ (∀ x ∈ g.owner, 0 ≤ x ∧ x ≤ 1) ∧ (∀ x ∈ g.prio, 0 ≤ x ∧ x ≤ 30000) ∧
    (∀ l ∈ g.succ, l ≠ [] ∧ ∀ x ∈ l, 0 ≤ x ∧ x < g.owner.length) := by
  simp only [Game.valid, Bool.and_eq_true, decide_eq_true_eq, inR, List.all_eq_true, rowOk, out, Bool.not_eq_true', Bool.or_eq_false_iff, decide_eq_false_iff_not, List.isEmpty_eq_false_iff] at h
  obtain ⟨⟨⟨⟨⟨h1, h2⟩, h3⟩, h4⟩, h5⟩, h6⟩ := h
  refine ⟨h1, h2, h3, fun x hx => ?_, fun x hx => ?_, fun l hl => ⟨(h6 l hl).1, fun x hx => ?_⟩⟩
  · have := h4 x hx; omega
  · have := h5 x hx; omega
  · have := (h6 l hl).2 x hx; omega

theorem sValid1_enters : Enters Try.prog 35 := ⟨fun _ _ => by kernel_rfl⟩
theorem sValid1_calls (w : World) (k : Int) (p : Addr) (v : Value) (set : List Bool) (hk : 0 ≤ k ∧ k < set.length) (h1 : w.cell? p = some v) (hs : Bools w.cell? v set) :
    Calls Try.prog 35 #[.int .i64 k, .pointer (some p)] w (Ret w (.bool (!set.getD k.toNat false))) := by
  obtain ⟨k, rfl⟩ := Int.eq_ofNat_of_zero_le hk.1
  obtain ⟨a, cap, rfl, hl1, hl2⟩ := SlAt.shape hs
  have hk' : k < set.length := by omega
  obtain ⟨b, off, rfl, hc⟩ := Bools.get hs (Sub.refl _) hk'
  clear hs hk
  go_enter Try.func35, Try.ntmps35
  go_wp2
  go_ret
  exact ⟨ret_bool (by simp [hk']), Below.refl _ _⟩


theorem sValid_found (w W : World) (v : Value) (l : List Int) (vs : Value) (set : List Bool) (hl : ∀ x ∈ l, 0 ≤ x ∧ x < set.length) (hx : Ints w.cell? v l) (hset : Bools w.cell? vs set) (hs : Below w.heap.size w W) (p : Addr) (h1 : W.cell? p = some vs) :
    Calls Try.prog 34 #[v, .func (.func 35) #[] #[.pointer (some p)]] W (Ret W (.bool (l.any fun k => !set.getD k.toNat false))) :=
  pureFound (slices_ContainsFuncInt IntR (fun _ w' => Below W.heap.size W w') _ w.cell? l () W v _ _ hx (fun _ w1 h => (bsub hs).trans (bsub h)) (Below.refl _ _) sValid1_enters
    (fun _ w1 u x hxl h hu => by
      cases hu
      exact (sValid1_calls w1 x p vs set (hl x hxl) (bsub h _ _ h1) (hset.mono ((bsub hs).trans (bsub h)))).mono fun e w' ⟨he, hb⟩ => ⟨he, bstep h hb⟩))

theorem okTo_false {g : Game} {player : Int} {set : List Bool} {s : List Int} {i : Nat} (h : okAt g player set s i = false) : ∀ n, i < n → okTo g player set s n = false
  | 0, hn => by omega
  | n + 1, hn => by
    simp only [okTo]
    by_cases e : i = n
    · subst e; simp [h]
    · rw [okTo_false h n (by omega)]; rfl

set_option maxHeartbeats 1000000 in
theorem strategy_Valid (w : World) (v vs vt : Value) (g : Game) (player : Int) (set : List Bool) (s : List Int) (hg : GameR w.cell? v g) (hset : Bools w.cell? vs set) (hs : Ints w.cell? vt s) :
    Calls Try.prog 13 #[v, .int .i64 player, vs, vt] w (Ret w (.bool (validS g player set s))) := by
  have HG := Lib.hid hg
  obtain ⟨ov, pv, sv, rfl, ho, hp, hsu⟩ := hg
  have HO := Lib.hid ho
  have HU := Lib.hid hsu
  have HS := Lib.hid hset
  have HT := Lib.hid hs
  obtain ⟨ao, co, rfl, o1, o2⟩ := SlAt.shape ho
  obtain ⟨ap, cp, rfl, p1, p2⟩ := SlAt.shape hp
  obtain ⟨au, cu, rfl, u1, u2⟩ := SlAt.shape hsu
  obtain ⟨ab, cs, rfl, s1, s2⟩ := SlAt.shape hset
  obtain ⟨aw, ct, rfl, t1, t2⟩ := SlAt.shape hs
  clear ho hp hsu hset hs
  go_enter Try.func13, Try.ntmps13
  go_wp2
  go_step3
  go_wp2_with fail
  refine (arena_Valid _ _ g (HG.out.mono (bsub (bstep (below_alloc _ _) (below_alloc _ _))))).mono ?_
  rintro e w1 ⟨rfl, hb1⟩
  have c0 : w1.cell? ⟨w.heap.size, 0, none⟩ = some (.slice ao g.owner.length co) := by rw [bcell hb1 _ _ (by simp; omega)]; go_simp
  have c1 : w1.cell? ⟨w.heap.size, 1, none⟩ = some (.slice ap g.prio.length cp) := by rw [bcell hb1 _ _ (by simp; omega)]; go_simp
  have c2 : w1.cell? ⟨w.heap.size, 2, none⟩ = some (.slice au g.succ.length cu) := by rw [bcell hb1 _ _ (by simp; omega)]; go_simp
  have c3 : w1.cell? ⟨w.heap.size + 1, 0, none⟩ = some (.slice ab set.length cs) := by rw [bcell hb1 _ _ (by simp)]; go_simp
  have hz1 : w.heap.size + 1 < w1.heap.size := by have := hb1.size; simp at this; omega
  have hz0 : w.heap.size < w1.heap.size := by omega
  have B1 := Lib.hid (bstep (bstep (below_alloc w _) (below_alloc _ _)) hb1); clear hb1
  by_cases hv : g.valid = true
  · obtain ⟨v1, v2, v3, v4, v5, v6⟩ := valid_parts hv
    have V2 := Lib.hid v2; have V3 := Lib.hid v3; have V6 := Lib.hid v6
    clear v2 v3 v4 v5 v6
    by_cases h0 : 0 ≤ player ∧ player ≤ 1
    · obtain ⟨h0, h1⟩ := h0
      by_cases h2 : set.length = g.owner.length
      · have q2 : ((set.length : Int) != (g.owner.length : Int)) = false := by simp [h2]
        have H2 := Lib.hid h2; clear h2
        by_cases h3 : s.length = g.owner.length
        · have q3 : ((s.length : Int) != (g.owner.length : Int)) = false := by simp [h3]
          have H3 := Lib.hid h3; clear h3
          go_wp2
          go_step3
          go_wp2
          go_loopw [40] (fun k wr => ∃ m : Nat, m ≤ g.owner.length ∧ k = .int .i64 m ∧ Hid (Below w1.heap.size w1 wr) ∧ Hid (okTo g player set s m = true)) (fun k _ => g.owner.length - (intOf k).toNat)
          case atStart => exact ⟨0, Nat.zero_le _, rfl, Below.refl _ _, rfl⟩
          case round =>
            obtain ⟨m, hm, rfl, hb, hok⟩ := hrel
            have hw := bcell hb.out
            have hsub := Lib.hid ((bsub B1.out).trans (bsub hb.out))
            have BB := Lib.hid (bstep B1.out hb.out)
            by_cases hlt : m < g.owner.length
            · have l2 : m < set.length := by have := H2.out; omega
              have l3 : m < s.length := by have := H3.out; omega
              have l4 : m < g.succ.length := by have := V3.out; omega
              obtain ⟨b1, off1, rfl, k1⟩ := Ints.get HO.out hsub.out hlt
              obtain ⟨b2, off2, rfl, k2⟩ := Bools.get HS.out hsub.out l2
              obtain ⟨b3, off3, rfl, k3⟩ := Ints.get HT.out hsub.out l3
              obtain ⟨b4, off4, a5, cap5, rfl, k4, x1, x2, HR⟩ := Rows2.get HU.out hsub.out l4
              have hat : Hid (okAt g player set s m = if set[m] && (g.owner[m] == player) then decide (s[m] ∈ g.succ[m]) && set.getD (s[m]).toNat false else (s[m] == -1) && (!set[m] || (g.succ[m]).all fun k => set.getD k.toNat false)) := by
                simp only [okAt, List.getD_eq_getElem?_getD, List.getElem?_eq_getElem hlt, List.getElem?_eq_getElem l2, List.getElem?_eq_getElem l3, List.getElem?_eq_getElem l4, Option.getD_some, Hid]
              have hrow : Hid (∀ x ∈ g.succ[m], 0 ≤ x ∧ x < set.length) := fun x hx => by
                have := (V6.out _ (List.getElem_mem l4)).2 x hx
                have h2 := H2.out
                omega
              generalize hse : set[m] = sm at k2 hat
              generalize hoe : g.owner[m] = om at k1 hat
              generalize hte : s[m] = tm at k3 hat
              generalize hre : g.succ[m] = rm at k4 x1 x2 HR hat hrow
              have E1 := Lib.hid hse; have E2 := Lib.hid hoe; have E3 := Lib.hid hte; have E4 := Lib.hid hre
              clear hse hoe hte hre
              have hfin : Hid (okAt g player set s m = false → validS g player set s = false) := fun h => by rw [validS, okTo_false h _ hlt, Bool.and_false]
              have hgo : Hid (okAt g player set s m = true → okTo g player set s (m + 1) = true) := fun h => by rw [okTo, hok.out, h]; rfl
              cases sm
              · by_cases ht : tm = -1
                · have q4 : (tm != -1) = false := by simp [ht]
                  have ha : Hid (okAt g player set s m = true) := by rw [hat.out]; simp [ht, Hid]
                  clear ht
                  go_wp2
                  first
                    | exact ⟨⟨m + 1, by omega, by go_num, hb, hgo.out ha.out⟩, by simp [intOf]; omega⟩
                    | (go_roundw; (case rel => exact ⟨m + 1, by omega, by go_num, hb, hgo.out ha.out⟩); (case measure => simp [intOf]; omega))
                · have q4 : (tm != -1) = true := by simp [ht]
                  have ha : Hid (okAt g player set s m = false) := by rw [hat.out]; simp [ht, Hid]
                  clear ht
                  go_wp2
                  (try rw [Exit.noGoto_ret])
                  go_ret
                  exact ⟨ret_bool (hfin.out ha.out).symm, BB.out⟩
              · by_cases hop : om = player
                · have q3 : (om != player) = false := by simp [hop]
                  have ha : Hid (okAt g player set s m = (decide (tm ∈ rm) && set.getD tm.toNat false)) := by rw [hat.out]; simp [Hid, hop]
                  have HOP := Lib.hid hop; clear hop
                  go_wp2_with fail
                  refine (slices_Contains _ _ rm tm HR.out).mono ?_
                  rintro e w2 ⟨rfl, hb2⟩
                  have hw2 := bcell hb2
                  have hz2 : w.heap.size + 1 < wr.heap.size := by have := hb.out.size; omega
                  have hz3 : w.heap.size < wr.heap.size := by omega
                  have B2 := Lib.hid (bstep hb.out hb2); have B3 := Lib.hid (bstep BB.out hb2)
                  have hsub2 := Lib.hid ((bsub B1.out).trans (bsub B2.out)); clear hb2
                  by_cases hin : tm ∈ rm
                  · have hra := hrow.out _ hin
                    obtain ⟨t, rfl⟩ := Int.eq_ofNat_of_zero_le hra.1
                    have l5 : t < set.length := by omega
                    obtain ⟨b5, off5, h5, k5⟩ := Bools.get HS.out hsub2.out l5
                    simp only [Option.some.injEq, Addr.mk.injEq, and_true] at h5
                    obtain ⟨rfl, rfl⟩ := h5
                    have ha' : Hid (okAt g player set s m = set[t]) := by rw [ha.out]; simp [Hid, hin, l5]
                    have d1 : decide ((t : Int) ∈ rm) = true := by simpa using hin
                    clear hin hra
                    generalize hst : set[t] = st at k5 ha'
                    have HST := Lib.hid hst; clear hst
                    cases st
                    · go_wp2
                      (try rw [Exit.noGoto_ret])
                      go_ret
                      exact ⟨ret_bool (hfin.out ha'.out).symm, B3.out⟩
                    · go_wp2
                      first
                        | exact ⟨⟨m + 1, by omega, by go_num, B2, hgo.out ha'.out⟩, by simp [intOf]; omega⟩
                        | (go_roundw; (case rel => exact ⟨m + 1, by omega, by go_num, B2, hgo.out ha'.out⟩); (case measure => simp [intOf]; omega))
                  · have d1 : decide (tm ∈ rm) = false := by simpa using hin
                    have ha' : Hid (okAt g player set s m = false) := by rw [ha.out]; simp [Hid, d1]
                    clear hin
                    go_wp2
                    (try rw [Exit.noGoto_ret])
                    go_ret
                    exact ⟨ret_bool (hfin.out ha'.out).symm, B3.out⟩
                · have q3 : (om != player) = true := by simp [hop]
                  by_cases ht : tm = -1
                  · have q4 : (tm != -1) = false := by simp [ht]
                    have ha : Hid (okAt g player set s m = rm.all fun k => set.getD k.toNat false) := by rw [hat.out]; simp [ht, Hid, hop]
                    clear ht
                    go_wp2_with fail
                    refine (sValid_found wr wr _ rm _ set hrow.out HR.out (Bools.mono hsub.out HS.out) (Below.refl _ _) _ ?c1).mono ?_
                    case c1 => go_simp
                    rintro e w2 ⟨rfl, hb2⟩
                    have B2 := Lib.hid (bstep hb.out hb2); have B3 := Lib.hid (bstep BB.out hb2); clear hb2
                    have hany : Hid ((rm.any fun k => !set.getD k.toNat false) = !(rm.all fun k => set.getD k.toNat false)) := by simp [Hid, List.all_eq_not_any_not]
                    rw [hany.out]
                    clear hany
                    generalize (rm.all fun k => set.getD k.toNat false) = ba at ha ⊢
                    cases ba
                    · go_wp2
                      (try rw [Exit.noGoto_ret])
                      go_ret
                      exact ⟨ret_bool (hfin.out ha.out).symm, B3.out⟩
                    · go_wp2
                      first
                        | exact ⟨⟨m + 1, by omega, by go_num, B2, hgo.out ha.out⟩, by simp [intOf]; omega⟩
                        | (go_roundw; (case rel => exact ⟨m + 1, by omega, by go_num, B2, hgo.out ha.out⟩); (case measure => simp [intOf]; omega))
                  · have q4 : (tm != -1) = true := by simp [ht]
                    have ha : Hid (okAt g player set s m = false) := by rw [hat.out]; simp [ht, Hid, hop]
                    clear ht
                    go_wp2
                    (try rw [Exit.noGoto_ret])
                    go_ret
                    exact ⟨ret_bool (hfin.out ha.out).symm, BB.out⟩
            · have hmn : m = g.owner.length := by omega
              have hfin : Hid (validS g player set s = true) := by
                have h := hok.out
                rw [hmn] at h
                simp [Hid, validS, headS, hv, h0, h1, H2.out, H3.out, h]
              have l3 : ¬ m < s.length := by have := H3.out; omega
              clear hmn
              go_wp2
              (try rw [Exit.noGoto_ret])
              go_ret
              exact ⟨ret_bool hfin.out.symm, BB.out⟩
        · have q3 : ((s.length : Int) != (g.owner.length : Int)) = true := by simp; omega
          go_wp2
          rw [Exit.noGoto_ret]
          go_ret
          exact ⟨ret_bool (by simp [validS, headS, h3]), B1.out⟩
      · have q2 : ((set.length : Int) != (g.owner.length : Int)) = true := by simp; omega
        go_wp2
        rw [Exit.noGoto_ret]
        go_ret
        exact ⟨ret_bool (by simp [validS, headS, h2]), B1.out⟩
    · have hf : headS g player set s = false := by
        simp only [headS, Bool.and_eq_false_iff, decide_eq_false_iff_not]; omega
      have HF := Lib.hid hf; clear hf
      by_cases h1 : player < 0
      · go_wp2
        rw [Exit.noGoto_ret]
        go_ret
        exact ⟨ret_bool (by simp [validS, HF.out]), B1.out⟩
      · have h2 : 1 < player := by omega
        go_wp2
        rw [Exit.noGoto_ret]
        go_ret
        exact ⟨ret_bool (by simp [validS, HF.out]), B1.out⟩
  · rw [Bool.not_eq_true] at hv
    go_wp2
    rw [Exit.noGoto_ret]
    go_ret
    exact ⟨ret_bool (by simp [validS, headS, hv]), B1.out⟩
end Go.Proofs.Ytohglckebkgbpaa
