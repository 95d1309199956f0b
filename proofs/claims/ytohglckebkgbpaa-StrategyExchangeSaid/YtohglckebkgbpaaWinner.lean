/-
  Contracts of slices.MinFunc, strategy.Winner.
-/
import Derived.Test.YtohglckebkgbpaaWins
import Derived.Test.YtohglckebkgbpaaConcat
namespace Go.Proofs.Ytohglckebkgbpaa
open Go.RowKit

def minF (c : Int → Int → Int) (m : Int) : List Int → Int
  | [] => m
  | x :: l => minF c (if c x m < 0 then x else m) l

theorem minF_snoc (c : Int → Int → Int) (m : Int) (l : List Int) (x : Int) : minF c m (l ++ [x]) = if c x (minF c m l) < 0 then x else minF c m l := by
  induction l generalizing m with
  | nil => rfl
  | cons y l ih => exact ih _
theorem minF_mem (c : Int → Int → Int) (m : Int) (l : List Int) : minF c m l = m ∨ minF c m l ∈ l := by
  induction l generalizing m with
  | nil => exact .inl rfl
  | cons y l ih =>
    simp only [minF, List.mem_cons]
    rcases ih (if c y m < 0 then y else m) with h | h
    · rw [h]; split
      · exact .inr (.inl rfl)
      · exact .inl rfl
    · exact .inr (.inr h)

theorem slices_MinFunc (w : World) (v : Value) (xs : List Int) (g : FuncId) (c1 : Array Value) (c : Int → Int → Int) (hx : Ints w.cell? v xs) (h0 : 0 < xs.length) (hent : Enters Try.prog g)
    (hcall : ∀ w1 a b, a ∈ xs → b ∈ xs → Below w.heap.size w w1 → Calls Try.prog g (#[.int .i64 a, .int .i64 b] ++ c1) w1 (Ret w1 (.int .i64 (c a b)))) :
    Calls Try.prog 39 #[v, .func (.func g) #[] c1] w (Ret w (.int .i64 (minF c xs[0] xs.tail))) := by
  have HX := Lib.hid hx
  obtain ⟨a, cap, rfl, h1, h2⟩ := SlAt.shape hx
  clear hx
  have hen := hent.out; clear hent
  have HC := Lib.hid hcall; clear hcall
  obtain ⟨b0, off0, rfl, k0⟩ := Ints.get HX.out (Sub.refl _) h0
  have k0' : w.cell? ⟨b0, off0, none⟩ = some (.int .i64 xs[0]) := k0
  go_enter Try.func39, Try.ntmps39
  go_wp2
  go_loopw [5, 6] (fun t k wr => ∃ (m : Nat) (r : Int), 1 ≤ m ∧ m ≤ xs.length ∧ k = .int .i64 m ∧ t = .int .i64 r ∧ Hid (r = minF c xs[0] (xs.tail.take (m - 1))) ∧ Hid (Below w.heap.size w wr)) (fun _ k _ => xs.length - (intOf k).toNat)
  case atStart => exact ⟨1, xs[0], Nat.le_refl _, h0, rfl, rfl, rfl, Below.refl _ _⟩
  case round =>
    obtain ⟨m, r, hm1, hm, rfl, rfl, hr, hb⟩ := hrel
    by_cases hlt : m < xs.length
    · obtain ⟨b, off, h, k1⟩ := Ints.get HX.out (bsub hb.out) hlt
      cases h
      have hrm : Hid (r ∈ xs) := by
        have hr := hr.out
        rcases minF_mem c xs[0] (xs.tail.take (m - 1)) with h | h
        · rw [hr, h]; exact List.getElem_mem _
        · rw [hr]; exact List.mem_of_mem_tail (List.mem_of_mem_take h)
      have hnext : Hid (minF c xs[0] (xs.tail.take (m + 1 - 1)) = if c xs[m] r < 0 then xs[m] else r) := by
        have hr := hr.out
        have e : m + 1 - 1 = (m - 1) + 1 := by omega
        have hl : m - 1 < xs.tail.length := by simp; omega
        have he : xs.tail[m - 1] = xs[m] := by
          rw [List.getElem_tail]
          congr 1
          omega
        rw [e, List.take_succ_eq_append_getElem hl, minF_snoc, he, ← hr]; exact rfl
      have HMEM := Lib.hid (List.getElem_mem hlt)
      generalize xs[m] = xm at k1 hnext HMEM
      clear hr
      go_wp2_with fail
      refine (HC.out _ _ _ HMEM.out hrm.out hb.out).mono ?_
      rintro e w2 ⟨rfl, hb2⟩
      have k2 := bsub hb2 _ _ k1
      have B2 := Lib.hid (bstep hb.out hb2); clear hb2
      by_cases hc : c xm r < 0
      · go_wp2
        first
          | exact ⟨⟨m + 1, xm, by omega, by omega, by go_num, rfl, by rw [Hid, hnext.out, if_pos (by omega)], B2⟩, by simp [intOf]; omega⟩
          | (go_roundw; (case rel => exact ⟨m + 1, xm, by omega, by omega, by go_num, rfl, by rw [Hid, hnext.out, if_pos (by omega)], B2⟩); (case measure => simp [intOf]; omega))
      · go_wp2
        first
          | exact ⟨⟨m + 1, r, by omega, by omega, by go_num, rfl, by rw [Hid, hnext.out, if_neg (by omega)], B2⟩, by simp [intOf]; omega⟩
          | (go_roundw; (case rel => exact ⟨m + 1, r, by omega, by omega, by go_num, rfl, by rw [Hid, hnext.out, if_neg (by omega)], B2⟩); (case measure => simp [intOf]; omega))
    · go_wp2
      go_ret
      refine ⟨ret_int ?_, hb.out⟩
      rw [hr.out, List.take_of_length_le (by simp; omega)]

def playOk (g : Game) (l : List Int) : Nat → Bool
  | 0 => true
  | i + 1 => playOk g l i && (decide (0 ≤ l.getD i 0) && decide (l.getD i 0 < g.owner.length) && (decide (i = 0) || decide (l.getD i 0 ∈ g.succ.getD (l.getD (i - 1) 0).toNat [])))
structure Path where
  stem : List Int
  loop : List Int
  deriving DecidableEq
def PathR (m : Mem) (v : Value) (p : Path) : Prop := ∃ sv lv, v = .agg #[sv, lv] ∧ Ints m sv p.stem ∧ Ints m lv p.loop
theorem PathR.mono {m m' : Mem} {v : Value} {p : Path} (hs : Sub m m') (h : PathR m v p) : PathR m' v p := by
  obtain ⟨sv, lv, h0, h1, h2⟩ := h
  exact ⟨sv, lv, h0, h1.mono hs, h2.mono hs⟩
def Path.round (p : Path) : List Int := p.stem ++ p.loop ++ p.loop.take 1
def prioDiff (g : Game) (a b : Int) : Int := g.prio.getD a.toNat 0 - g.prio.getD b.toNat 0
def winnerS (g : Game) (p : Path) : Int :=
  if g.valid && !p.loop.isEmpty && playOk g p.round p.round.length then g.prio.getD (minF (prioDiff g) (p.loop.headD 0) p.loop.tail).toNat 0 % 2 else -1
theorem playOk_false {g : Game} {l : List Int} {i : Nat} (h : (decide (0 ≤ l.getD i 0) && decide (l.getD i 0 < g.owner.length) && (decide (i = 0) || decide (l.getD i 0 ∈ g.succ.getD (l.getD (i - 1) 0).toNat []))) = false) : ∀ n, i < n → playOk g l n = false
  | 0, hn => by omega
  | n + 1, hn => by
    simp only [playOk]
    by_cases e : i = n
    · subst e; rw [h, Bool.and_false]
    · rw [playOk_false h n (by omega)]; rfl

theorem playOk_mem0 {g : Game} {l : List Int} : ∀ {n : Nat}, playOk g l n = true → ∀ i, i < n → 0 ≤ l.getD i 0 ∧ l.getD i 0 < g.owner.length
  | 0, _, i, hi => by omega
  | n + 1, h, i, hi => by
    simp only [playOk, Bool.and_eq_true, decide_eq_true_eq] at h
    by_cases e : i = n
    · rw [e]; exact h.2.1
    · exact playOk_mem0 h.1 i (by omega)
theorem playOk_mem {g : Game} {l : List Int} (h : playOk g l l.length = true) : ∀ x ∈ l, 0 ≤ x ∧ x < g.owner.length := fun x hx => by
  obtain ⟨i, hi, rfl⟩ := List.mem_iff_getElem.1 hx
  have := playOk_mem0 h i hi
  simpa [hi] using this
theorem winner1_enters : Enters Try.prog 40 := ⟨fun _ _ => by kernel_rfl⟩
theorem winner1_calls (w : World) (g : Game) (a b : Nat) (bg : Nat) (pv : Value) (h1 : w.cell? ⟨bg, 1, none⟩ = some pv) (hp : Ints w.cell? pv g.prio) (ha : a < g.prio.length) (hb : b < g.prio.length)
    (hr : ∀ x ∈ g.prio, 0 ≤ x ∧ x ≤ 30000) :
    Calls Try.prog 40 #[.int .i64 a, .int .i64 b, .pointer (some ⟨bg, 0, none⟩)] w (Ret w (.int .i64 (prioDiff g a b))) := by
  have HP := Lib.hid hp
  obtain ⟨ap, cp, rfl, p1, p2⟩ := SlAt.shape hp
  clear hp
  obtain ⟨b1, off1, rfl, k1⟩ := Ints.get HP.out (Sub.refl _) ha
  obtain ⟨b2, off2, h2, k2⟩ := Ints.get HP.out (Sub.refl _) hb
  cases h2
  have r1 := hr _ (List.getElem_mem ha)
  have r2 := hr _ (List.getElem_mem hb)
  have hd : Hid (prioDiff g a b = g.prio[a] - g.prio[b]) := by simp [prioDiff, Hid, ha, hb]
  generalize g.prio[a] = x at k1 r1 hd
  generalize g.prio[b] = y at k2 r2 hd
  obtain ⟨q1, q2⟩ := r1
  obtain ⟨q3, q4⟩ := r2
  clear hr
  go_enter Try.func40, Try.ntmps40
  go_wp2
  go_quiet (fail)
  go_wp2
  go_ret
  refine ⟨ret_int ?_, below_drewN _ _⟩
  rw [hd.out]

theorem concat3 (w W : World) (a b c : Value) (xs ys zs : List Int) (h1 : Ints w.cell? a xs) (h2 : Ints w.cell? b ys) (h3 : Ints w.cell? c zs) (hlen : xs.length + ys.length + zs.length ≤ 4000000) (hW : Below w.heap.size w W) (k : Nat)
    (e0 : W.cell? ⟨k, 0, none⟩ = some a) (e1 : W.cell? ⟨k, 1, none⟩ = some b) (e2 : W.cell? ⟨k, 2, none⟩ = some c) :
    Calls Try.prog 38 #[.slice (some ⟨k, 0, none⟩) 3 3] W (RetOwn W 3 (ints (xs ++ ys ++ zs))) := by
  have := slices_Concat W (.slice (some ⟨k, 0, none⟩) 3 3) [xs, ys, zs] ⟨_, 3, rfl, by simp, by simp [maxLen], fun j hj => ?_⟩ (by simp [sumLen]; omega)
  · simpa using this
  · match j, hj with
    | 0, _ => exact ⟨k, 0, a, rfl, e0, h1.mono (bsub hW)⟩
    | 1, _ => exact ⟨k, 0, b, rfl, e1, h2.mono (bsub hW)⟩
    | 2, _ => exact ⟨k, 0, c, rfl, e2, h3.mono (bsub hW)⟩
    | j + 3, hj => simp at hj; omega

set_option maxHeartbeats 1000000 in
theorem strategy_Winner (w : World) (v vp : Value) (g : Game) (p : Path) (hg : GameR w.cell? v g) (hp : PathR w.cell? vp p) (hlen : p.stem.length + p.loop.length ≤ 1000000) :
    Calls Try.prog 18 #[v, vp] w (Ret w (.int .i64 (winnerS g p))) := by
  have HG := Lib.hid hg
  obtain ⟨ov, pv, sv, rfl, ho, hpr, hsu⟩ := hg
  obtain ⟨stv, lpv, rfl, hst, hlp⟩ := hp
  have HO := Lib.hid ho
  have HPR := Lib.hid hpr
  have HU := Lib.hid hsu
  have HST := Lib.hid hst
  have HLP := Lib.hid hlp
  obtain ⟨ao, co, rfl, o1, o2⟩ := SlAt.shape ho
  obtain ⟨ap, cp, rfl, p1, p2⟩ := SlAt.shape hpr
  obtain ⟨au, cu, rfl, u1, u2⟩ := SlAt.shape hsu
  obtain ⟨ast, cst, rfl, s1, s2⟩ := SlAt.shape hst
  obtain ⟨alp, clp, rfl, l1, l2⟩ := SlAt.shape hlp
  clear ho hpr hsu hst hlp
  go_enter Try.func18, Try.ntmps18
  go_wp2_with fail
  refine (arena_Valid _ _ g (HG.out.mono (bsub (bstep (below_alloc _ _) (below_alloc _ _))))).mono ?_
  rintro e w1 ⟨rfl, hb1⟩
  have c0 : w1.cell? ⟨w.heap.size, 0, none⟩ = some (.slice ao g.owner.length co) := by rw [bcell hb1 _ _ (by simp; omega)]; go_simp
  have c1 : w1.cell? ⟨w.heap.size, 1, none⟩ = some (.slice ap g.prio.length cp) := by rw [bcell hb1 _ _ (by simp; omega)]; go_simp
  have c2 : w1.cell? ⟨w.heap.size, 2, none⟩ = some (.slice au g.succ.length cu) := by rw [bcell hb1 _ _ (by simp; omega)]; go_simp
  have c3 : w1.cell? ⟨w.heap.size + 1, 0, none⟩ = some (.slice ast p.stem.length cst) := by rw [bcell hb1 _ _ (by simp)]; go_simp
  have c4 : w1.cell? ⟨w.heap.size + 1, 1, none⟩ = some (.slice alp p.loop.length clp) := by rw [bcell hb1 _ _ (by simp)]; go_simp
  have hz1 : w.heap.size + 1 < w1.heap.size := by have := hb1.size; simp at this; omega
  have hz0 : w.heap.size < w1.heap.size := by omega
  have B1 := Lib.hid (bstep (bstep (below_alloc w _) (below_alloc _ _)) hb1); clear hb1
  by_cases hv : g.valid = true
  · obtain ⟨v1, v2, v3, v4, v5, v6⟩ := valid_parts hv
    have V2 := Lib.hid v2; have V3 := Lib.hid v3; have V5 := Lib.hid v5; have V6 := Lib.hid v6
    clear v2 v3 v4 v5 v6
    by_cases hl0 : p.loop.length = 0
    · have q0 : ((p.loop.length : Int) == 0) = true := by simp [hl0]
      have hfin : Hid (winnerS g p = -1) := by
        have : p.loop = [] := List.eq_nil_of_length_eq_zero hl0
        simp [winnerS, Hid, this]
      clear hl0
      go_wp2
      go_ret
      exact ⟨ret_int hfin.out.symm, B1.out⟩
    · have q0 : ((p.loop.length : Int) == 0) = false := by simpa using hl0
      have hpos : 0 < p.loop.length := by omega
      have hne : Hid (p.loop.isEmpty = false) := by cases h : p.loop <;> simp_all [Hid]
      clear hl0
      obtain ⟨bl, offl, rfl, kl⟩ := Ints.get HLP.out (Sub.refl _) hpos
      go_wp2
      have HC := Lib.hid (fun (W : World) (hW : Below w.heap.size w W) (k : Nat) => concat3 w W _ _ _ p.stem p.loop (p.loop.take 1) HST.out HLP.out (Ints.take HLP.out hpos) (by rw [List.length_take]; omega) hW k)
      have hcl1 : 1 ≤ clp := by omega
      have hcl2 : (1 : Int) ≤ (clp : Int) := by omega
      refine wp_region_tail 7 (by kernel_rfl) (by kernel_rfl) ?_
      simp only [List.take_succ_cons, List.take_zero, List.drop_succ_cons, List.drop_zero]
      repeat still_step
      refine wpStill_nil ?_
      generalize hW : w1.drew = wd
      have hD : Below w1.heap.size w1 wd := hW ▸ below_drew w1
      clear hW
      have hdc := bcell hD
      have HD := Lib.hid (bstep B1.out hD); have HD1 := Lib.hid hD; clear hD
      go_wp2_with fail
      refine (HC.out _ (bstep HD.out (below_alloc _ _)) _ (by go_simp) (by go_simp) (by go_simp)).mono ?_
      rintro e w2 ⟨v2, rfl, hown2, hb2⟩
      have hs2 := (bsub HD1.out).trans ((bsub (below_alloc _ _)).trans (bsub hb2))
      have d0 := hs2 _ _ c0; have d1 := hs2 _ _ c1; have d2 := hs2 _ _ c2; have d4 := hs2 _ _ c4
      have B2 := Lib.hid (bstep (bstep HD.out (below_alloc _ _)) hb2)
      have hL : Ints w2.cell? v2 p.round := own_ints hown2
      have HL := Lib.hid hL
      have hrl : Hid (p.round.length = p.stem.length + p.loop.length + 1) := by simp [Path.round, Hid]; omega
      obtain ⟨ar, cr, rfl, r1, r2⟩ := SlAt.shape hL
      clear hs2 c0 c1 c2 c3 c4 hown2 hb2 hL hdc HD1 HD HC hz0 hz1
      clear B1
      go_wp2
      go_loopw [29] (fun k wr => ∃ m : Nat, m ≤ p.round.length ∧ k = .int .i64 m ∧ Hid (Below w2.heap.size w2 wr) ∧ Hid (playOk g p.round m = true)) (fun k _ => p.round.length - (intOf k).toNat)
      case atStart => exact ⟨0, Nat.zero_le _, rfl, Below.refl _ _, rfl⟩
      case round =>
        obtain ⟨m, hm, rfl, hb, hok⟩ := hrel
        have BB := Lib.hid (bstep B2.out hb.out)
        have hs3 := bsub hb.out
        have e0 := hs3 _ _ d0; have e1 := hs3 _ _ d1; have e2 := hs3 _ _ d2; have e4 := hs3 _ _ d4
        clear hs3
        by_cases hlt : m < p.round.length
        · obtain ⟨br, offr, rfl, k1⟩ := Ints.get HL.out (bsub hb.out) hlt
          have hat : Hid (∀ b, (decide (0 ≤ p.round[m]) && decide (p.round[m] < g.owner.length) && (decide (m = 0) || decide (p.round[m] ∈ g.succ.getD (p.round.getD (m - 1) 0).toNat []))) = b → (b = false → playOk g p.round p.round.length = false) ∧ (b = true → playOk g p.round (m + 1) = true)) := by
            intro b hbb
            have e : p.round.getD m 0 = p.round[m] := by simp [hlt]
            constructor
            · rintro rfl
              exact playOk_false (by rw [e]; exact hbb) _ hlt
            · rintro rfl
              rw [playOk, hok.out, e, hbb]; rfl
          have hfin : Hid (playOk g p.round p.round.length = false → winnerS g p = -1) := fun h => by simp [winnerS, h]
          have hprev : Hid (m ≠ 0 → 0 ≤ p.round.getD (m - 1) 0 ∧ p.round.getD (m - 1) 0 < g.owner.length) := fun h0 => by
            have h := hok.out
            have e : m = (m - 1) + 1 := by omega
            rw [e, playOk] at h
            simp only [Bool.and_eq_true, decide_eq_true_eq] at h
            exact h.2.1
          have hget : Hid (m ≠ 0 → p.round.getD (m - 1) 0 = p.round[m - 1]'(by omega)) := fun h0 => by rw [List.getD_eq_getElem?_getD, List.getElem?_eq_getElem (by omega)]; rfl
          generalize p.round[m] = tm at k1 hat
          have f0 : ∀ u : Bel wr, u.1.cell? ⟨w.heap.size, 0, none⟩ = some (.slice ao g.owner.length co) := fun u => bel_sub u _ _ e0
          have f2 : ∀ u : Bel wr, u.1.cell? ⟨w.heap.size, 2, none⟩ = some (.slice au g.succ.length cu) := fun u => bel_sub u _ _ e2
          by_cases t0 : tm < 0
          · have q1 : decide (tm < 0) = true := by simpa using t0
            have ha := (hat.out false (by simp; intros; omega)).1 rfl
            have HA := Lib.hid ha; clear ha
            go_wp2
            refine wp_region_bel (by kernel_rfl) (by kernel_rfl) ?_
            repeat (go_big_quiet_step (fail))
            refine wpQuiet_nil ?_
            rintro _ ⟨⟨w3, hb3⟩, rfl⟩
            have B3 := Lib.hid (bstep BB.out hb3); clear hb3
            go_wp2
            go_ret
            exact ⟨ret_int (hfin.out HA.out).symm, B3.out⟩
          · have q1 : decide (tm < 0) = false := by simpa using t0
            obtain ⟨t, rfl⟩ := Int.eq_ofNat_of_zero_le (Int.not_lt.1 t0)
            by_cases t1 : g.owner.length ≤ t
            · have q2 : decide (g.owner.length ≤ t) = true := by simpa using t1
              have ha := (hat.out false (by simp; intros; omega)).1 rfl
              have HA := Lib.hid ha; clear ha
              go_wp2
              refine wp_region_bel (by kernel_rfl) (by kernel_rfl) ?_
              repeat (go_big_quiet_step (fail))
              refine wpQuiet_nil ?_
              rintro _ ⟨⟨w3, hb3⟩, rfl⟩
              have B3 := Lib.hid (bstep BB.out hb3); clear hb3
              go_wp2
              go_ret
              exact ⟨ret_int (hfin.out HA.out).symm, B3.out⟩
            · have q2 : decide (g.owner.length ≤ t) = false := by simpa using t1
              by_cases m0 : m = 0
              · have ha := (hat.out true (by simp [m0]; omega)).2 rfl
                have HA := Lib.hid ha; clear ha
                have q3 : decide (0 < m) = false := by simpa using m0
                clear m0
                go_wp2
                refine wp_region_bel (by kernel_rfl) (by kernel_rfl) ?_
                repeat (go_big_quiet_step (fail))
                refine wpQuiet_nil ?_
                rintro _ ⟨⟨w3, hb3⟩, rfl⟩
                have B3 := Lib.hid (bstep hb.out hb3); clear hb3
                go_wp2
                first
                  | exact ⟨⟨m + 1, by omega, by go_num, B3, HA.out⟩, by simp [intOf]; omega⟩
                  | (go_roundw; (case rel => exact ⟨m + 1, by omega, by go_num, B3, HA.out⟩); (case measure => simp [intOf]; omega))
              · have q3 : decide (0 < m) = true := by simp; omega
                have hpv := hprev.out m0
                have hl1 : m - 1 < p.round.length := by omega
                obtain ⟨b5, off5, h5, k5⟩ := Ints.get HL.out (bsub hb.out) hl1
                cases h5
                rw [← hget.out m0] at k5
                generalize p.round.getD (m - 1) 0 = pr at k5 hpv hat
                obtain ⟨x, rfl⟩ := Int.eq_ofNat_of_zero_le hpv.1
                have hx : x < g.succ.length := by have := V3.out; omega
                obtain ⟨b6, off6, a6, cap6, rfl, k6, y1, y2, HR⟩ := Rows2.get HU.out (bsub BB.out) hx
                have f5 : ∀ u : Bel wr, u.1.cell? ⟨br, offr + (m - 1), none⟩ = some (.int .i64 x) := fun u => bel_sub u _ _ k5
                have f6 : ∀ u : Bel wr, u.1.cell? ⟨b6, off6 + x, none⟩ = some (.slice a6 g.succ[x].length cap6) := fun u => bel_sub u _ _ k6
                have hat2 : Hid (∀ b, decide ((t : Int) ∈ g.succ[x]) = b → (b = false → playOk g p.round p.round.length = false) ∧ (b = true → playOk g p.round (m + 1) = true)) := fun b hbb =>
                  hat.out b (by rw [← hbb]; simp [m0, hx]; omega)
                have hm1 : 1 ≤ m := by omega
                clear m0 hpv
                go_wp2
                refine wp_region_bel (by kernel_rfl) (by kernel_rfl) ?_
                repeat (go_big_quiet_step ((go_at_call 31; exact Calls.bel (slices_Contains _ _ g.succ[x] t (HR.out.mono (bel_sub _))))))
                refine wpQuiet_nil ?_
                rintro _ ⟨⟨w3, hb3⟩, rfl⟩
                have B3 := Lib.hid (bstep hb.out hb3); have B4 := Lib.hid (bstep BB.out hb3); clear hb3
                generalize decide ((t : Int) ∈ g.succ[x]) = bb at hat2 ⊢
                have hb2 := hat2.out bb rfl
                cases bb
                · have ha := hb2.1 rfl
                  have HA := Lib.hid ha; clear ha hb2
                  go_wp2
                  go_ret
                  exact ⟨ret_int (hfin.out HA.out).symm, B4.out⟩
                · have ha := hb2.2 rfl
                  have HA := Lib.hid ha; clear ha hb2
                  go_wp2
                  first
                    | exact ⟨⟨m + 1, by omega, by go_num, B3, HA.out⟩, by simp [intOf]; omega⟩
                    | (go_roundw; (case rel => exact ⟨m + 1, by omega, by go_num, B3, HA.out⟩); (case measure => simp [intOf]; omega))
        · have hmn : m = p.round.length := by omega
          have hok' : Hid (playOk g p.round p.round.length = true) := hmn ▸ hok.out
          have hmem := Lib.hid (minF_mem (prioDiff g) p.loop[0] p.loop.tail)
          have hhead : Hid (p.loop.headD 0 = p.loop[0]) := by
            rw [List.headD_eq_head?_getD, List.head?_eq_getElem?, List.getElem?_eq_getElem hpos]; rfl
          have hin : Hid (∀ x ∈ p.loop, 0 ≤ x ∧ x < g.owner.length) := fun x hx => playOk_mem hok'.out x (by simp [Path.round, hx])
          have hml : Hid (0 ≤ minF (prioDiff g) p.loop[0] p.loop.tail ∧ minF (prioDiff g) p.loop[0] p.loop.tail < g.owner.length) := by
            rcases hmem.out with h | h
            · rw [h]; exact hin.out _ (List.getElem_mem _)
            · exact hin.out _ (List.mem_of_mem_tail h)
          have hres : Hid (winnerS g p = g.prio.getD (minF (prioDiff g) p.loop[0] p.loop.tail).toNat 0 % 2) := by
            rw [← hhead.out]
            simp [winnerS, hv, hne.out, hok'.out, Hid]
          clear hmn hok hm
          go_wp2_with fail
          refine (slices_MinFunc wr _ p.loop _ _ (prioDiff g) (HLP.out.mono (bsub BB.out)) hpos winner1_enters ?m1).mono ?_
          case m1 =>
            intro w3 a b ha hb' h3
            obtain ⟨a, rfl⟩ := Int.eq_ofNat_of_zero_le (hin.out a ha).1
            obtain ⟨b, rfl⟩ := Int.eq_ofNat_of_zero_le (hin.out b hb').1
            have h1 := (hin.out _ ha).2
            have h2 := (hin.out _ hb').2
            have h4 := V2.out
            exact winner1_calls w3 g a b _ _ (bsub h3 _ _ e1) (HPR.out.mono ((bsub BB.out).trans (bsub h3))) (by omega) (by omega) V5.out
          rintro e w3 ⟨rfl, hb3⟩
          have e1' := bsub hb3 _ _ e1
          have B3 := Lib.hid (bstep BB.out hb3); clear hb3
          generalize minF (prioDiff g) p.loop[0] p.loop.tail = mf at hml hres ⊢
          obtain ⟨mf, rfl⟩ := Int.eq_ofNat_of_zero_le hml.out.1
          have hlp : mf < g.prio.length := by have := V2.out; have := hml.out.2; omega
          obtain ⟨b7, off7, rfl, k7⟩ := Ints.get HPR.out (bsub B3.out) hlp
          have hr7 := V5.out _ (List.getElem_mem hlp)
          have hres2 : Hid (winnerS g p = g.prio[mf] % 2) := by rw [hres.out]; simp [Hid, hlp]
          generalize g.prio[mf] = pm at k7 hr7 hres2
          obtain ⟨q8, q9⟩ := hr7
          clear hmem
          go_wp2
          go_ret
          exact ⟨ret_int hres2.out.symm, B3.out⟩
  · rw [Bool.not_eq_true] at hv
    go_wp2
    go_ret
    exact ⟨ret_int (by simp [winnerS, hv]), B1.out⟩
end Go.Proofs.Ytohglckebkgbpaa
