/-
  Contract of strategy.Wins.
-/
import Derived.Test.YtohglckebkgbpaaLost
namespace Go.Proofs.Ytohglckebkgbpaa
open Go.RowKit

theorem okTo_at {g : Game} {player : Int} {set : List Bool} {s : List Int} : ∀ {n : Nat}, okTo g player set s n = true → ∀ i, i < n → okAt g player set s i = true
  | 0, _, i, hi => by omega
  | n + 1, h, i, hi => by
    simp only [okTo, Bool.and_eq_true] at h
    by_cases e : i = n
    · rw [e]; exact h.2
    · exact okTo_at h.1 i (by omega)

/-- a position of the set -/
def inSet (g : Game) (set : List Bool) (x : Int) : Prop := 0 ≤ x ∧ x < g.owner.length ∧ set.getD x.toNat false = true

theorem closed_of_valid {g : Game} {player : Int} {set : List Bool} {s : List Int} (h : validS g player set s = true) : ∀ x, inSet g set x → ∀ y ∈ movesS g player s x.toNat, inSet g set y := by
  simp only [validS, headS, Bool.and_eq_true, decide_eq_true_eq] at h
  obtain ⟨⟨⟨⟨hv, _, _⟩, h1⟩, h2⟩, h3⟩ := h
  obtain ⟨_, _, v3, _, _, v6⟩ := valid_parts hv
  intro x ⟨hx0, hx1, hx2⟩ y hy
  have hx : x.toNat < g.owner.length := by omega
  have hl : x.toNat < g.succ.length := by omega
  have hat := okTo_at h3 _ hx
  simp only [okAt, hx2, Bool.true_and] at hat
  unfold movesS at hy
  have hrow : ∀ z ∈ g.succ.getD x.toNat [], 0 ≤ z ∧ z < g.owner.length := by
    intro z hz
    rw [List.getD_eq_getElem?_getD, List.getElem?_eq_getElem hl] at hz
    exact (v6 _ (List.getElem_mem hl)).2 z hz
  by_cases ho : (g.owner.getD x.toNat 0 == player) = true
  · rw [if_pos ho] at hat hy
    simp only [Bool.and_eq_true, decide_eq_true_eq] at hat
    rw [List.mem_singleton] at hy
    subst hy
    exact ⟨(hrow _ hat.1).1, (hrow _ hat.1).2, hat.2⟩
  · rw [if_neg ho] at hat hy
    simp only [Bool.and_eq_true, Bool.not_true, Bool.false_or, List.all_eq_true] at hat
    exact ⟨(hrow _ hy).1, (hrow _ hy).2, hat.2 y hy⟩

def lostAt (g : Game) (player : Int) (set : List Bool) (s : List Int) (i : Nat) : Bool := (set.getD i false && (g.prio.getD i 0 % 2 != player)) && lostS g player s i
def winTo (g : Game) (player : Int) (set : List Bool) (s : List Int) : Nat → Bool
  | 0 => true
  | i + 1 => winTo g player set s i && !lostAt g player set s i
def winsS (g : Game) (player : Int) (set : List Bool) (s : List Int) : Bool := validS g player set s && winTo g player set s set.length
theorem winTo_false {g : Game} {player : Int} {set : List Bool} {s : List Int} {i : Nat} (h : lostAt g player set s i = true) : ∀ n, i < n → winTo g player set s n = false
  | 0, hn => by omega
  | n + 1, hn => by
    simp only [winTo]
    by_cases e : i = n
    · subst e; simp [h]
    · rw [winTo_false h n (by omega)]; rfl

set_option maxHeartbeats 1000000 in
theorem strategy_Wins (w : World) (v vs vt : Value) (g : Game) (player : Int) (set : List Bool) (s : List Int) (hg : GameR w.cell? v g) (hset : Bools w.cell? vs set) (hs : Ints w.cell? vt s) :
    Calls Try.prog 15 #[v, .int .i64 player, vs, vt] w (Ret w (.bool (winsS g player set s))) := by
  have HG := Lib.hid hg
  have HS := Lib.hid hset
  have HT := Lib.hid hs
  obtain ⟨ov, pv, sv, rfl, ho, hp, hsu⟩ := hg
  have HP := Lib.hid hp
  obtain ⟨ap, cp, rfl, p1, p2⟩ := SlAt.shape hp
  obtain ⟨ab, cs, rfl, s1, s2⟩ := SlAt.shape hset
  clear ho hp hsu hset hs
  go_enter Try.func15, Try.ntmps15
  go_wp2_with fail
  refine (strategy_Valid _ _ _ _ g player set s (HG.out.mono (bsub (below_alloc _ _))) (HS.out.mono (bsub (below_alloc _ _))) (HT.out.mono (bsub (below_alloc _ _)))).mono ?_
  rintro e w1 ⟨rfl, hb1⟩
  have c0 : w1.cell? ⟨w.heap.size, 0, none⟩ = some ov := by rw [bcell hb1 _ _ (by simp)]; go_simp
  have c1 : w1.cell? ⟨w.heap.size, 1, none⟩ = some (.slice ap g.prio.length cp) := by rw [bcell hb1 _ _ (by simp)]; go_simp
  have c2 : w1.cell? ⟨w.heap.size, 2, none⟩ = some sv := by rw [bcell hb1 _ _ (by simp)]; go_simp
  have hz0 : w.heap.size < w1.heap.size := by have := hb1.size; simp at this; omega
  have B1 := Lib.hid (bstep (below_alloc w _) hb1); clear hb1
  by_cases hv : validS g player set s = true
  · have hcl := Lib.hid (closed_of_valid hv)
    have hparts : g.valid = true ∧ (0 ≤ player ∧ player ≤ 1) ∧ set.length = g.owner.length ∧ s.length = g.owner.length := by
      have h := hv
      simp only [validS, headS, Bool.and_eq_true, decide_eq_true_eq] at h
      exact ⟨h.1.1.1.1, h.1.1.1.2, h.1.1.2, h.1.2⟩
    obtain ⟨hgv, ⟨hpl0, hpl1⟩, hl1, hl2⟩ := hparts
    obtain ⟨v1, v2, v3, v4, v5, v6⟩ := valid_parts hgv
    have V2 := Lib.hid v2; have V3 := Lib.hid v3; have V5 := Lib.hid v5; have L1 := Lib.hid hl1; have L2 := Lib.hid hl2
    clear v2 v3 v4 v5 v6 hl1 hl2 hgv
    go_wp2
    go_loopw [19] (fun k wr => ∃ m : Nat, m ≤ set.length ∧ k = .int .i64 m ∧ Hid (Below w1.heap.size w1 wr) ∧ Hid (winTo g player set s m = true)) (fun k _ => set.length - (intOf k).toNat)
    case atStart => exact ⟨0, Nat.zero_le _, rfl, Below.refl _ _, rfl⟩
    case round =>
      obtain ⟨m, hm, rfl, hb, hok⟩ := hrel
      have hw := bcell hb.out
      have hsub := Lib.hid ((bsub B1.out).trans (bsub hb.out))
      have BB := Lib.hid (bstep B1.out hb.out)
      by_cases hlt : m < set.length
      · have l1 : m < g.owner.length := by have := L1.out; omega
        have l2 : m < g.prio.length := by have := V2.out; omega
        obtain ⟨b1, off1, rfl, k1⟩ := Bools.get HS.out hsub.out hlt
        obtain ⟨b2, off2, rfl, k2⟩ := Ints.get HP.out hsub.out l2
        have hpr := V5.out _ (List.getElem_mem l2)
        have hat : Hid (lostAt g player set s m = ((set[m] && (g.prio[m] % 2 != player)) && lostS g player s m)) := by
          simp [lostAt, Hid, hlt, l2]
        have hfin : Hid (lostAt g player set s m = true → winsS g player set s = false) := fun h => by rw [winsS, winTo_false h _ hlt, Bool.and_false]
        have hgo : Hid (lostAt g player set s m = false → winTo g player set s (m + 1) = true) := fun h => by rw [winTo, hok.out, h]; rfl
        have hD : Hid (set[m] = true → inSet g set m) := fun h => ⟨by omega, by omega, by simp [hlt, h]⟩
        generalize set[m] = sm at k1 hat hD
        generalize g.prio[m] = pm at k2 hat hpr
        obtain ⟨q0, q1⟩ := hpr
        cases sm
        · have ha : lostAt g player set s m = false := by rw [hat.out]; rfl
          have HA := Lib.hid ha; clear ha
          go_wp2
          first
            | exact ⟨⟨m + 1, by omega, by go_num, hb, hgo.out HA.out⟩, by simp [intOf]; omega⟩
            | (go_roundw; (case rel => exact ⟨m + 1, by omega, by go_num, hb, hgo.out HA.out⟩); (case measure => simp [intOf]; omega))
        · by_cases hpp : pm % 2 = player
          · have hne : (pm % 2 != player) = false := by simp [hpp]
            have ha : lostAt g player set s m = false := by rw [hat.out, hne]; rfl
            have HA := Lib.hid ha; clear ha hpp
            go_wp2
            first
              | exact ⟨⟨m + 1, by omega, by go_num, hb, hgo.out HA.out⟩, by simp [intOf]; omega⟩
              | (go_roundw; (case rel => exact ⟨m + 1, by omega, by go_num, hb, hgo.out HA.out⟩); (case measure => simp [intOf]; omega))
          · have hne : (pm % 2 != player) = true := by simp [hpp]
            have ha : lostAt g player set s m = lostS g player s m := by rw [hat.out, hne]; rfl
            have HA := Lib.hid ha; clear ha hpp
            go_wp2_with fail
            refine (lost_calls wr _ _ g player s m (inSet g set) (HG.out.mono hsub.out) (HT.out.mono hsub.out) V2.out L2.out V3.out (fun x hx => ⟨hx.1, hx.2.1⟩) hcl.out (hD.out (by trivial))).mono ?_
            rintro e w2 ⟨rfl, hb2⟩
            have B2 := Lib.hid (bstep hb.out hb2); have B3 := Lib.hid (bstep BB.out hb2); clear hb2
            generalize lostS g player s m = lo at HA ⊢
            cases lo
            · go_wp2
              first
                | exact ⟨⟨m + 1, by omega, by go_num, B2, hgo.out HA.out⟩, by simp [intOf]; omega⟩
                | (go_roundw; (case rel => exact ⟨m + 1, by omega, by go_num, B2, hgo.out HA.out⟩); (case measure => simp [intOf]; omega))
            · go_wp2
              go_ret
              exact ⟨ret_bool (hfin.out HA.out).symm, B3.out⟩
      · have hmn : m = set.length := by omega
        have hfin : Hid (winsS g player set s = true) := by
          have h := hok.out
          rw [hmn] at h
          simp [Hid, winsS, hv, h]
        clear hmn
        go_wp2
        go_ret
        exact ⟨ret_bool hfin.out.symm, BB.out⟩
  · rw [Bool.not_eq_true] at hv
    go_wp2
    go_ret
    exact ⟨ret_bool (by simp [winsS, hv]), B1.out⟩
end Go.Proofs.Ytohglckebkgbpaa
