/-
  Contracts of package strategy: moves, lost (a search by a closure that calls itself), Wins.
-/
import Derived.Test.YtohglckebkgbpaaStrategy
namespace Go.Proofs.Ytohglckebkgbpaa
open Go.RowKit

/-- where a play can move from a position -/
def movesS (g : Game) (player : Int) (s : List Int) (i : Nat) : List Int :=
  if g.owner.getD i 0 == player then [s.getD i 0] else g.succ.getD i []

theorem moves_calls (m0 : Mem) (w : World) (v vt : Value) (g : Game) (player : Int) (s : List Int) (i : Nat) (hsub : Sub m0 w.cell?) (hg : GameR m0 v g) (hs : Ints m0 vt s)
    (h1 : i < g.owner.length) (h2 : i < s.length) (h3 : i < g.succ.length) :
    Calls Try.prog 49 #[v, .int .i64 player, vt, .int .i64 i] w (RetR w fun _ u => Ints m0 u (movesS g player s i)) := by
  obtain ⟨ov, pv, sv, rfl, ho, hp, hsu⟩ := hg
  have HO := Lib.hid ho
  have HU := Lib.hid hsu
  have HT := Lib.hid hs
  have HSB := Lib.hid hsub
  obtain ⟨ao, co, rfl, o1, o2⟩ := SlAt.shape ho
  obtain ⟨ap, cp, rfl, p1, p2⟩ := SlAt.shape hp
  obtain ⟨au, cu, rfl, u1, u2⟩ := SlAt.shape hsu
  obtain ⟨aw, ct, rfl, t1, t2⟩ := SlAt.shape hs
  clear ho hp hsu hs hsub
  obtain ⟨b1, off1, rfl, k1⟩ := Ints.get HO.out HSB.out h1
  obtain ⟨b3, off3, rfl, k3⟩ := Ints.get HT.out (Sub.refl _) h2
  obtain ⟨b4, off4, a5, cap5, rfl, k4, x1, x2, HR⟩ := Rows2.get HU.out (Sub.refl _) h3
  have k4 := HSB.out _ _ k4
  have K1 := cell_lt k1
  have K4 := cell_lt k4
  have hm : Hid (movesS g player s i = if g.owner[i] == player then [s[i]] else g.succ[i]) := by
    simp [movesS, Hid, h1, h2, h3]
  by_cases hop : (g.owner[i] == player) = true
  · go_enter Try.func49, Try.ntmps49
    go_wp2
    go_ret
    exact ⟨_, rfl, by rw [hm.out, if_pos hop]; exact Ints.one k3 (by omega) (by unfold maxLen; omega), below_alloc _ _⟩
  · rw [Bool.not_eq_true] at hop
    go_enter Try.func49, Try.ntmps49
    go_wp2
    go_ret
    exact ⟨_, rfl, by rw [hm.out, hop]; exact HR.out, below_alloc _ _⟩

def lostStep (g : Game) (start : Int) (visit : Int → List Int → Bool × List Int) (S : List Int) (to : Int) : Bool × List Int :=
  if to == start then (true, S)
  else if decide (g.prio.getD to.toNat 0 < g.prio.getD start.toNat 0) || decide (to ∈ S) then (false, S)
  else visit to (S ++ [to])
def visitF (g : Game) (player : Int) (s : List Int) (start : Int) : Nat → Int → List Int → Bool × List Int
  | 0, _, S => (false, S)
  | f + 1, i, S => (decide (0 ≤ (findS (lostStep g start (visitF g player s start f)) (movesS g player s i.toNat) S 0).1), (findS (lostStep g start (visitF g player s start f)) (movesS g player s i.toNat) S 0).2)

theorem grown_sub {κ : Type} {ek : κ → Value} {W0 W : World} {bm : Nat} {l : List (κ × Value)} (hm : MapAt ek W0 bm l) (h : W0.grownBy W (some bm)) : Sub W0.cell? W.cell? := fun a v e => by
  refine h.cell e (fun e' => ?_)
  rw [hm.no_cell (by simpa using e')] at e
  cases e
theorem grown_trans {W0 W W' : World} {r : Option Nat} (h : W0.grownBy W r) (k : W.grownBy W' r) : W0.grownBy W' r :=
  ⟨k.os.trans h.os, k.tape.trans h.tape, k.output.trans h.output, Nat.le_trans h.size k.size, fun i hi hne => (k.block i (Nat.lt_of_lt_of_le hi h.size) hne).trans (h.block i hi hne)⟩
theorem grown_below {W0 W W' : World} {r : Option Nat} (h : W0.grownBy W r) (k : Below W.heap.size W W') : W0.grownBy W' r :=
  ⟨k.os.trans h.os, k.tape.trans h.tape, k.output.trans h.output, Nat.le_trans h.size k.size, fun i hi hne => (k.block i (Nat.lt_of_lt_of_le hi h.size)).trans (h.block i hi hne)⟩
theorem grown_refl (W : World) (r : Option Nat) : W.grownBy W r := ⟨rfl, rfl, rfl, Nat.le_refl _, fun _ _ _ => rfl⟩

/-- where the search's variables lie -/
structure LPlace where
  bg : Nat
  bp : Nat
  bs : Nat
  bf : Nat
  be : Nat
  bv : Nat
  bm : Nat
abbrev LPlace.ptr (b : Nat) : Value := .pointer (some ⟨b, 0, none⟩)
abbrev LPlace.visit (L : LPlace) : Value := .func (.func 48) #[] #[LPlace.ptr L.bg, LPlace.ptr L.bp, LPlace.ptr L.bs, LPlace.ptr L.bf, LPlace.ptr L.be, LPlace.ptr L.bv]
structure LEnv (m : Mem) (L : LPlace) (g : Game) (player : Int) (s : List Int) (start : Int) (ov pv sv vt : Value) : Prop where
  g0 : m ⟨L.bg, 0, none⟩ = some ov
  g1 : m ⟨L.bg, 1, none⟩ = some pv
  g2 : m ⟨L.bg, 2, none⟩ = some sv
  p0 : m ⟨L.bp, 0, none⟩ = some (.int .i64 player)
  s0 : m ⟨L.bs, 0, none⟩ = some vt
  f0 : m ⟨L.bf, 0, none⟩ = some (.int .i64 start)
  e0 : m ⟨L.be, 0, none⟩ = some (.map (some L.bm))
  v0 : m ⟨L.bv, 0, none⟩ = some L.visit
  hg : GameR m (.agg #[ov, pv, sv]) g
  hs : Ints m vt s
theorem LEnv.mono {m m' : Mem} {L : LPlace} {g : Game} {player : Int} {s : List Int} {start : Int} {ov pv sv vt : Value} (h : LEnv m L g player s start ov pv sv vt) (hs : Sub m m') : LEnv m' L g player s start ov pv sv vt :=
  ⟨hs _ _ h.g0, hs _ _ h.g1, hs _ _ h.g2, hs _ _ h.p0, hs _ _ h.s0, hs _ _ h.f0, hs _ _ h.e0, hs _ _ h.v0, h.hg.mono hs, h.hs.mono hs⟩

def LSt (W0 : World) (bm : Nat) (S : List Int) (W : World) : Prop := W0.grownBy W (some bm) ∧ MapAt ekInt W bm (S.map fun x => (x, Value.bool true))
def LGood (D : Int → Prop) (n f : Nat) (S : List Int) : Prop := (∀ x ∈ S, D x) ∧ S.Nodup ∧ n + 1 ≤ f + S.length
def LSG (W0 : World) (bm : Nat) (D : Int → Prop) (n f : Nat) (S : List Int) (W : World) : Prop := LSt W0 bm S W ∧ LGood D n f S

theorem LSG.up {W0 : World} {bm : Nat} {D : Int → Prop} {n f : Nat} {S : List Int} {W : World} (h : LSG W0 bm D n f S W) : LSG W0 bm D n f S W := h
theorem LSG.drewN {W0 : World} {bm : Nat} {D : Int → Prop} {n f : Nat} {S : List Int} {W : World} (h : LSG W0 bm D n f S W) (k : Nat) : LSG W0 bm D n f S (W.drewN k) :=
  ⟨⟨⟨h.1.1.os, h.1.1.tape, h.1.1.output, h.1.1.size, h.1.1.block⟩, h.1.2.kept rfl⟩, h.2⟩
theorem aget_seen (x : Int) : ∀ S : List Int, (aget x (S.map fun x => (x, Value.bool true))).getD (.bool false) = .bool (decide (x ∈ S))
  | [] => by simp [aget]
  | y :: S => by
    simp only [List.map_cons, aget, List.mem_cons]
    by_cases h : x = y
    · simp [h]
    · simp only [h, if_false, false_or]; exact aget_seen x S
theorem aget_unseen (x : Int) : ∀ S : List Int, x ∉ S → aget x (S.map fun x => (x, Value.bool true)) = none
  | [], _ => rfl
  | y :: S, h => by
    simp only [List.mem_cons, not_or] at h
    simp only [List.map_cons, aget, h.1, if_false]; exact aget_unseen x S h.2
theorem zero_bool : ∀ w, (zeroValue 4).run Try.prog w = .ok (.bool false) w := fun _ => by kernel_rfl
theorem lost11_enters : Enters Try.prog 50 := ⟨fun _ _ => by kernel_rfl⟩
theorem lost1_enters : Enters Try.prog 48 := ⟨fun _ _ => by kernel_rfl⟩

section
variable {W0 : World} {L : LPlace} {g : Game} {player : Int} {s : List Int} {start : Int} {ov pv sv vt : Value} {D : Int → Prop} {n : Nat}

/-- the function that looks at one successor -/
theorem lost11_calls (E : LEnv W0.cell? L g player s start ov pv sv vt) (hM : ∃ l0 : List (Int × Value), MapAt ekInt W0 L.bm l0) (hn : g.prio.length = n) (hD : ∀ x, D x → 0 ≤ x ∧ x < n) (hst : D start) (f : Nat) (visit : Int → List Int → Bool × List Int)
    (hv : ∀ i S W, D i → LSG W0 L.bm D n f S W → Calls Try.prog 48 #[.int .i64 i, LPlace.ptr L.bg, LPlace.ptr L.bp, LPlace.ptr L.bs, LPlace.ptr L.bf, LPlace.ptr L.be, LPlace.ptr L.bv] W (StepPost (LSG W0 L.bm D n f) (visit i S)))
    (to : Int) (S : List Int) (W : World) (ht : D to) (hS : LSG W0 L.bm D n (f + 1) S W) :
    Calls Try.prog 50 #[.int .i64 to, LPlace.ptr L.bf, LPlace.ptr L.bg, LPlace.ptr L.be, LPlace.ptr L.bv] W (StepPost (LSG W0 L.bm D n (f + 1)) (lostStep g start visit S to)) := by
  obtain ⟨l0, hM⟩ := hM
  have hsub := grown_sub hM hS.1.1
  have E1 := E.mono hsub
  have hmap := hS.1.2
  obtain ⟨ov', pv', sv', hgv, ho, hp, hsu⟩ := E1.hg
  cases hgv
  have HP := Lib.hid hp
  obtain ⟨ap, cp, rfl, p1, p2⟩ := SlAt.shape hp
  clear ho hp hsu
  obtain ⟨t, rfl⟩ := Int.eq_ofNat_of_zero_le (hD _ ht).1
  obtain ⟨fr, rfl⟩ := Int.eq_ofNat_of_zero_le (hD _ hst).1
  have lt1 : t < g.prio.length := by have := (hD _ ht).2; omega
  have lt2 : fr < g.prio.length := by have := (hD _ hst).2; omega
  obtain ⟨b1, off1, rfl, k1⟩ := Ints.get HP.out (Sub.refl _) lt1
  obtain ⟨b2, off2, h2, k2⟩ := Ints.get HP.out (Sub.refl _) lt2
  simp only [Option.some.injEq, Addr.mk.injEq, and_true] at h2
  obtain ⟨rfl, rfl⟩ := h2
  have cg1 := E1.g1; have cf := E1.f0; have ce := E1.e0; have cv := E1.v0
  simp only [LPlace.visit] at cv
  have HV := Lib.hid hv; clear hv
  have HSS := Lib.hid hS; clear hS
  have HE := Lib.hid E; clear E E1
  have HM := Lib.hid hmap; clear hmap
  have HT := Lib.hid ht; have HST := Lib.hid hst; clear ht hst
  have HD := Lib.hid hD; clear hD
  have hM' := Lib.hid hM; clear hM
  have hsub' := Lib.hid hsub; clear hsub
  have hstep : Hid (lostStep g fr visit S t = if ((t : Int) == (fr : Int)) then (true, S) else if decide (g.prio[t] < g.prio[fr]) || decide ((t : Int) ∈ S) then (false, S) else visit t (S ++ [(t : Int)])) := by
    simp [lostStep, Hid, lt1, lt2]
  clear hn
  by_cases heq : ((t : Int) == (fr : Int)) = true
  · go_enter Try.func50, Try.ntmps50
    go_wp2
    go_ret
    exact ⟨by rw [hstep.out, if_pos heq]; rfl, by rw [hstep.out, if_pos heq]; exact LSG.up HSS.out⟩
  · rw [Bool.not_eq_true] at heq
    have hlk : ∀ nq, (Instr.lookup 71 (.map (some L.bm)) (.int .i64 (t : Int)) false).run Try.prog (W.drewN nq) = .ok (.bool (decide ((t : Int) ∈ S))) (W.drewN nq) := fun nq => by
      have h := run_lookup_at (P := Try.prog) (KeyEnc.int Try.underlying3) Try.underlying71 zero_bool (HM.out.kept (w' := W.drewN nq) rfl) (t : Int) false
      simp only [aget_seen] at h
      exact h
    by_cases hlt : g.prio[t] < g.prio[fr]
    · have hd : decide (g.prio[t] < g.prio[fr]) = true := by simpa using hlt
      go_enter Try.func50, Try.ntmps50
      go_wp2
      go_quiet (fail)
      go_wp2
      go_ret
      exact ⟨by rw [hstep.out, if_neg (by simpa using heq), if_pos (by simp [hlt])]; rfl, by rw [hstep.out, if_neg (by simpa using heq), if_pos (by simp [hlt])]; exact (LSG.up HSS.out).drewN _⟩
    · have hd : decide (g.prio[t] < g.prio[fr]) = false := by simpa using hlt
      by_cases hin : (t : Int) ∈ S
      · have hi : decide ((t : Int) ∈ S) = true := by simpa using hin
        go_enter Try.func50, Try.ntmps50
        go_wp2
        go_quiet (fail)
        go_wp2
        go_ret
        exact ⟨by rw [hstep.out, if_neg (by simpa using heq), if_pos (by simp [hin])]; rfl, by rw [hstep.out, if_neg (by simpa using heq), if_pos (by simp [hin])]; exact (LSG.up HSS.out).drewN _⟩
      · have hi : decide ((t : Int) ∈ S) = false := by simpa using hin
        have hcond : Hid ((decide (g.prio[t] < g.prio[fr]) || decide ((t : Int) ∈ S)) = false) := by simp [Hid, hd, hi]
        have HIN := Lib.hid hin; clear hin
        go_enter Try.func50, Try.ntmps50
        go_wp2
        go_quiet (fail)
        rename_i nq
        have hdm : MapAt ekInt (W.drewN nq) L.bm (S.map fun x => (x, Value.bool true)) := HM.out.kept rfl
        obtain ⟨W1, hrun, hm1, hg1, hz1, hc1⟩ := run_update_at (P := Try.prog) (KeyEnc.int Try.underlying3) Try.underlying71 hdm (t : Int) (.bool true)
        rw [aput_new (aget_unseen _ _ HIN.out)] at hm1
        have hrun' : (Instr.mapUpdate 71 (.map (some L.bm)) (.int .i64 (t : Int)) (.bool true)).run Try.prog (W.drewN nq) = .ok () W1 := hrun
        have hc1' : ∀ a, W1.cell? a = W.cell? a := fun a => hc1 a
        have HM1 := Lib.hid hm1; have HG1 := Lib.hid hg1; clear hm1 hg1 hdm hrun hc1
        have hgood : LSG W0 L.bm D n f (S ++ [(t : Int)]) W1 := by
          refine ⟨⟨grown_trans (LSG.drewN HSS.out nq).1.1 HG1.out, by rw [List.map_append]; exact HM1.out⟩, ?_, ?_, ?_⟩
          · intro x hx
            rcases List.mem_append.1 hx with hx | hx
            · exact HSS.out.2.1 x hx
            · rw [List.mem_singleton.1 hx]; exact HT.out
          · exact List.nodup_append.2 ⟨HSS.out.2.2.1, by simp, fun a ha b hb e => HIN.out (by rw [List.mem_singleton.1 hb] at e; exact e ▸ ha)⟩
          · have := HSS.out.2.2.2
            simp; omega
        have HGD := Lib.hid hgood; clear hgood
        go_wp2_with fail
        refine (HV.out _ _ _ HT.out HGD.out).mono ?_
        rintro e w2 ⟨rfl, hp2⟩
        have HP2 := Lib.hid hp2; clear hp2
        go_wp2
        go_ret
        have hr : lostStep g fr visit S t = visit t (S ++ [(t : Int)]) := by rw [hstep.out, if_neg (by simpa using heq), hcond.out]; rfl
        exact ⟨by rw [hr]; rfl, by rw [hr]; exact ⟨HP2.out.1, HP2.out.2.1, HP2.out.2.2.1, by have := HP2.out.2.2.2; omega⟩⟩
theorem nodup_le : ∀ (n : Nat) (S : List Int), S.Nodup → (∀ x ∈ S, 0 ≤ x ∧ x < n) → S.length ≤ n
  | 0, [], _, _ => by simp
  | 0, x :: S, _, h => by have := h x (by simp); omega
  | n + 1, S, hn, h => by
    have h1 := nodup_le n (S.filter (· != (n : Int))) (hn.filter _) (fun x hx => by
      rw [List.mem_filter] at hx
      have := h x hx.1
      have h2 : x ≠ n := by simpa using hx.2
      omega)
    have h2 : S.length ≤ (S.filter (· != (n : Int))).length + 1 := by
      have hc : S.count (n : Int) ≤ 1 := List.nodup_iff_count.1 hn _
      have := List.length_eq_countP_add_countP (fun x => x != (n : Int)) (l := S)
      rw [List.countP_eq_length_filter] at this
      have h3 : S.countP (fun x => decide ¬((x != (n : Int)) = true)) = S.count (n : Int) := by
        unfold List.count
        congr 1
        funext x
        rw [Bool.eq_iff_iff]
        simp
      omega
    omega

theorem visit_calls (E : LEnv W0.cell? L g player s start ov pv sv vt) (hM : ∃ l0 : List (Int × Value), MapAt ekInt W0 L.bm l0) (hn : g.prio.length = n) (hn1 : g.owner.length = n) (hn2 : s.length = n) (hn3 : g.succ.length = n)
    (hD : ∀ x, D x → 0 ≤ x ∧ x < n) (hcl : ∀ x, D x → ∀ y ∈ movesS g player s x.toNat, D y) (hst : D start) :
    ∀ (f : Nat) (i : Int) (S : List Int) (W : World), D i → LSG W0 L.bm D n f S W →
      Calls Try.prog 48 #[.int .i64 i, LPlace.ptr L.bg, LPlace.ptr L.bp, LPlace.ptr L.bs, LPlace.ptr L.bf, LPlace.ptr L.be, LPlace.ptr L.bv] W (StepPost (LSG W0 L.bm D n f) (visitF g player s start f i S))
  | 0, i, S, W, _, hS => by
    have h1 := nodup_le n S hS.2.2.1 (fun x hx => hD x (hS.2.1 x hx))
    have h2 := hS.2.2.2
    omega
  | f + 1, i, S, W, hi, hS => by
    have ih := visit_calls E hM hn hn1 hn2 hn3 hD hcl hst f
    have hstep := fun to S W (ht : D to) hS => lost11_calls E hM hn hD hst f (visitF g player s start f) ih to S W ht hS
    clear ih
    have HSTEP := Lib.hid hstep; clear hstep
    obtain ⟨l0, hM⟩ := hM
    have hsub := grown_sub hM hS.1.1
    have E1 := E.mono hsub
    obtain ⟨k, rfl⟩ := Int.eq_ofNat_of_zero_le (hD _ hi).1
    have lt1 : k < n := by have := (hD _ hi).2; omega
    have HCL := Lib.hid (hcl _ hi); clear hcl
    have HM0 := Lib.hid hM; clear hM
    have HS := Lib.hid hS; clear hS
    have cg0 := E1.g0; have cg1 := E1.g1; have cg2 := E1.g2; have cp := E1.p0; have cs := E1.s0
    have HE := Lib.hid E; clear E E1
    have H1 := Lib.hid hn1; have H2 := Lib.hid hn2; have H3 := Lib.hid hn3
    clear hn hn1 hn2 hn3 hD hst hi
    have HSUB := Lib.hid hsub; clear hsub
    go_enter Try.func48, Try.ntmps48
    go_wp2_with fail
    refine (moves_calls W0.cell? W _ _ g player s k HSUB.out HE.out.hg HE.out.hs (by rw [H1.out]; exact lt1) (by rw [H2.out]; exact lt1) (by rw [H3.out]; exact lt1)).mono ?_
    rintro e w1 ⟨u, rfl, hu, hb⟩
    have HU := Lib.hid hu; clear hu
    have HB := Lib.hid hb; clear hb
    go_wp2_with fail
    refine (slices_ContainsFuncInt IntR (LSG W0 L.bm D n (f + 1)) (lostStep g start (visitF g player s start f)) W0.cell? (movesS g player s k) S w1 u _ _ HU.out (fun _ w2 h => grown_sub HM0.out h.1.1) ?c1 lost11_enters ?c2).mono ?_
    case c1 => exact ⟨⟨grown_below HS.out.1.1 HB.out, HS.out.1.2.below HB.out⟩, HS.out.2⟩
    case c2 =>
      intro S' W' u' x hx hS' hu'
      cases hu'
      exact HSTEP.out x S' W' (HCL.out x hx) hS'
    rintro e w2 ⟨rfl, hp⟩
    have HP := Lib.hid hp; clear hp
    go_wp2
    go_ret
    exact ⟨rfl, HP.out⟩

theorem lost_start (W : World) (E : LEnv W.cell? L g player s start ov pv sv vt) (hM : MapAt ekInt W L.bm ([] : List (Int × Value))) (hn : g.prio.length = n) (hn1 : g.owner.length = n) (hn2 : s.length = n) (hn3 : g.succ.length = n)
    (hD : ∀ x, D x → 0 ≤ x ∧ x < n) (hcl : ∀ x, D x → ∀ y ∈ movesS g player s x.toNat, D y) (hst : D start) :
    Calls Try.prog 48 #[.int .i64 start, LPlace.ptr L.bg, LPlace.ptr L.bp, LPlace.ptr L.bs, LPlace.ptr L.bf, LPlace.ptr L.be, LPlace.ptr L.bv] W (StepPost (LSG W L.bm D n (n + 1)) (visitF g player s start (n + 1) start [])) :=
  visit_calls E ⟨_, hM⟩ hn hn1 hn2 hn3 hD hcl hst (n + 1) start [] W hst ⟨⟨grown_refl _ _, hM⟩, by simp, by simp, by simp⟩
end

/-- a cycle through a position is possible -/
def lostS (g : Game) (player : Int) (s : List Int) (start : Int) : Bool := (visitF g player s start (g.owner.length + 1) start []).1

theorem lost_calls (w : World) (v vt : Value) (g : Game) (player : Int) (s : List Int) (start : Int) (D : Int → Prop) (hg : GameR w.cell? v g) (hs : Ints w.cell? vt s)
    (hn : g.prio.length = g.owner.length) (hn2 : s.length = g.owner.length) (hn3 : g.succ.length = g.owner.length)
    (hD : ∀ x, D x → 0 ≤ x ∧ x < g.owner.length) (hcl : ∀ x, D x → ∀ y ∈ movesS g player s x.toNat, D y) (hst : D start) :
    Calls Try.prog 36 #[v, .int .i64 player, vt, .int .i64 start] w (Ret w (.bool (lostS g player s start))) := by
  have HG := Lib.hid hg
  have HS := Lib.hid hs
  have HL := Lib.hid (fun (L : LPlace) (ov pv sv : Value) (W : World) (E : LEnv W.cell? L g player s start ov pv sv vt) (hM : MapAt ekInt W L.bm ([] : List (Int × Value))) => lost_start W E hM hn rfl hn2 hn3 hD hcl hst)
  obtain ⟨ov, pv, sv, rfl, ho, hp, hsu⟩ := hg
  obtain ⟨aw, ct, rfl, t1, t2⟩ := SlAt.shape hs
  clear hs ho hp hsu hn hn2 hn3 hD hcl hst
  have hmm := @run_makeMap Try.prog
  go_enter Try.func36, Try.ntmps36
  go_wp2_with fail
  refine (HL.out ⟨w.heap.size, w.heap.size + 1, w.heap.size + 1 + 1, w.heap.size + 1 + 1 + 1, w.heap.size + 1 + 1 + 1 + 1 + 1, w.heap.size + 1 + 1 + 1 + 1 + 1 + 1, w.heap.size + 1 + 1 + 1 + 1⟩ ov pv sv _ ?E ?hM).mono ?_
  case E =>
    refine ⟨by go_simp, by go_simp, by go_simp, by go_simp, by go_simp, by go_simp, by go_simp, by go_simp, HG.out.mono (bsub ?_), HS.out.mono (bsub ?_)⟩
    all_goals
      repeat (first | exact Below.refl _ _ | refine Below.alloc ?_ (by simp; try omega) _)
  case hM => exact ⟨#[], 0, (heap_alloc_old _ _ (by simp; try omega)).trans ((heap_alloc_old _ _ (by simp; try omega)).trans (heap_at _ _ _ (by simp))), by simp, by simp, by simp⟩
  rintro e w1 ⟨rfl, hp⟩
  have HP := Lib.hid hp; clear hp
  go_wp2
  go_ret
  refine ⟨rfl, Below.grown ?_ HP.out.1.1 (by simp; omega) (fun k hk => ?_)⟩
  · repeat (first | exact Below.refl _ _ | refine Below.alloc ?_ (by simp; try omega) _)
  · simp at hk; omega
end Go.Proofs.Ytohglckebkgbpaa
