/-
  Games with exchanged players or shifted priorities: what stays.
-/
import Derived.Test.YtohglckebkgbpaaOrbit
import Derived.Test.YtohglckebkgbpaaWinner
import Derived.Test.YtohglckebkgbpaaBu
import Derived.Test.YtohglckebkgbpaaVcs
import Derived.Test.YtohglckebkgbpaaConcat
namespace Go.Proofs.Ytohglckebkgbpaa
open Go.RowKit

/-- two games with the same moves -/
structure Alike (g k : Game) (p q d : Int) : Prop where
  vg : g.valid = true
  vk : k.valid = true
  len : k.owner.length = g.owner.length
  succ : k.succ = g.succ
  prio : ∀ i, i < g.owner.length → k.prio.getD i 0 = g.prio.getD i 0 + d
  own : ∀ i, i < g.owner.length → (k.owner.getD i 0 == q) = (g.owner.getD i 0 == p)
  par : ∀ i, i < g.owner.length → (k.prio.getD i 0 % 2 != q) = (g.prio.getD i 0 % 2 != p)
  pl : (decide (0 ≤ q) && decide (q ≤ 1)) = (decide (0 ≤ p) && decide (p ≤ 1))
section
variable {g k : Game} {p q d : Int} {set : List Bool} {s : List Int}
theorem Alike.moves (h : Alike g k p q d) {i : Nat} (hi : i < g.owner.length) : movesS k q s i = movesS g p s i := by
  unfold movesS
  rw [h.own i hi, h.succ]
theorem Alike.okAt (h : Alike g k p q d) {i : Nat} (hi : i < g.owner.length) : okAt k q set s i = okAt g p set s i := by
  unfold Go.Proofs.Ytohglckebkgbpaa.okAt
  rw [h.own i hi, h.succ]
theorem Alike.okTo (h : Alike g k p q d) : ∀ n, n ≤ g.owner.length → okTo k q set s n = okTo g p set s n
  | 0, _ => rfl
  | n + 1, hn => by
    simp only [Go.Proofs.Ytohglckebkgbpaa.okTo]
    rw [h.okTo n (by omega), h.okAt (by omega)]
theorem Alike.valid (h : Alike g k p q d) : validS k q set s = validS g p set s := by
  unfold validS headS
  rw [h.vg, h.vk, h.len, h.pl, h.okTo _ (Nat.le_refl _)]
theorem Alike.prioAt (h : Alike g k p q d) {x : Int} (h0 : 0 ≤ x) (h1 : x < g.owner.length) : prioAt k x = prioAt g x + d := h.prio x.toNat (by omega)
theorem Alike.step (h : Alike g k p q d) {start x y : Int} (hs : 0 ≤ start ∧ start < g.owner.length) (hx : 0 ≤ x ∧ x < g.owner.length) (hy : 0 ≤ y ∧ y < g.owner.length) : Step k q s start x y ↔ Step g p s start x y := by
  unfold Step
  rw [h.moves (by omega), h.prioAt hs.1 hs.2, h.prioAt hy.1 hy.2]
  exact and_congr_right fun _ => by omega
theorem Alike.trans (h : Alike g k p q d) (hv : validS g p set s = true) {start : Int} (hs : inSet g set start) {x y : Int} (hx : inSet g set x) (ht : Relation.TransGen (Step g p s start) x y) : inSet g set y ∧ Relation.TransGen (Step k q s start) x y := by
  induction ht with
  | single e =>
    have hy := closed_of_valid hv _ hx _ e.1
    exact ⟨hy, .single ((h.step ⟨hs.1, hs.2.1⟩ ⟨hx.1, hx.2.1⟩ ⟨hy.1, hy.2.1⟩).2 e)⟩
  | tail _ e ih =>
    obtain ⟨h1, h2⟩ := ih
    have hy := closed_of_valid hv _ h1 _ e.1
    exact ⟨hy, h2.tail ((h.step ⟨hs.1, hs.2.1⟩ ⟨h1.1, h1.2.1⟩ ⟨hy.1, hy.2.1⟩).2 e)⟩
theorem Alike.symm (h : Alike g k p q d) : Alike k g q p (-d) where
  vg := h.vk
  vk := h.vg
  len := h.len.symm
  succ := h.succ.symm
  prio := fun i hi => by have := h.prio i (by rw [← h.len]; exact hi); omega
  own := fun i hi => (h.own i (by rw [← h.len]; exact hi)).symm
  par := fun i hi => (h.par i (by rw [← h.len]; exact hi)).symm
  pl := h.pl.symm
theorem Alike.inS (h : Alike g k p q d) {x : Int} : inSet k set x ↔ inSet g set x := by
  unfold Go.Proofs.Ytohglckebkgbpaa.inSet
  rw [h.len]
theorem Alike.lost (h : Alike g k p q d) (hv : validS g p set s = true) {i : Nat} (hi : inSet g set (i : Int)) : lostS k q s i = lostS g p s i := by
  have hvk : validS k q set s = true := by rw [h.valid]; exact hv
  have l1 := lost_iff (g := g) (player := p) (s := s) (D := inSet g set) (closed_of_valid hv) (fun x hx => ⟨hx.1, hx.2.1⟩) hi
  have l2 := lost_iff (g := k) (player := q) (s := s) (D := Go.Proofs.Ytohglckebkgbpaa.inSet k set) (closed_of_valid hvk) (fun x hx => ⟨hx.1, hx.2.1⟩) (h.inS.2 hi)
  rw [Bool.eq_iff_iff, l1, l2]
  exact ⟨fun t => (h.symm.trans hvk (h.inS.2 hi) (h.inS.2 hi) t).2, fun t => (h.trans hv hi hi t).2⟩
theorem Alike.lostAt (h : Alike g k p q d) (hv : validS g p set s = true) {i : Nat} (hi : i < g.owner.length) : lostAt k q set s i = lostAt g p set s i := by
  unfold Go.Proofs.Ytohglckebkgbpaa.lostAt
  rw [h.par i hi]
  cases hs : set.getD i false with
  | false => rfl
  | true =>
    rw [h.lost hv (i := i) ⟨by omega, by omega, by simpa using hs⟩]
theorem Alike.winTo (h : Alike g k p q d) (hv : validS g p set s = true) : ∀ n, n ≤ g.owner.length → winTo k q set s n = winTo g p set s n
  | 0, _ => rfl
  | n + 1, hn => by
    simp only [Go.Proofs.Ytohglckebkgbpaa.winTo]
    rw [h.winTo hv n (by omega), h.lostAt hv (by omega)]
theorem Alike.wins (h : Alike g k p q d) : winsS k q set s = winsS g p set s := by
  unfold winsS
  rw [h.valid]
  cases hv : validS g p set s with
  | false => rfl
  | true =>
    have := (valid_head hv).2.2.1
    rw [h.winTo hv _ (by omega)]
theorem Alike.playOk (h : Alike g k p q d) (l : List Int) : ∀ n, playOk k l n = playOk g l n
  | 0 => rfl
  | n + 1 => by
    simp only [Go.Proofs.Ytohglckebkgbpaa.playOk]
    rw [h.playOk l n, h.len, h.succ]
theorem minF_congr {c e : Int → Int → Int} {D : Int → Prop} (hce : ∀ a b, D a → D b → c a b = e a b) : ∀ (l : List Int) (m : Int), D m → (∀ x ∈ l, D x) → minF c m l = minF e m l
  | [], _, _, _ => rfl
  | x :: l, m, hm, hl => by
    simp only [minF]
    rw [hce x m (hl x (by simp)) hm]
    refine minF_congr hce l _ ?_ fun y hy => hl y (List.mem_cons_of_mem x hy)
    split
    · exact hl x (by simp)
    · exact hm
theorem Alike.winner (h : Alike g k p q d) (x : Path) : (winnerS g x = -1 ∧ winnerS k x = -1) ∨ ∃ c, 0 ≤ c ∧ winnerS g x = c % 2 ∧ winnerS k x = (c + d) % 2 := by
  unfold winnerS
  rw [h.vg, h.vk, h.playOk]
  cases hl : x.loop with
  | nil => exact .inl ⟨by simp, by simp⟩
  | cons a l =>
    cases hp : Go.Proofs.Ytohglckebkgbpaa.playOk g x.round x.round.length with
    | false => exact .inl ⟨by simp, by simp⟩
    | true =>
      have hall : ∀ y ∈ a :: l, 0 ≤ y ∧ y < g.owner.length := fun y hy => playOk_mem hp y (by
        unfold Path.round
        rw [hl]
        exact List.mem_append_left _ (List.mem_append_right _ hy))
      have hD : ∀ u v, (0 ≤ u ∧ u < (g.owner.length : Int)) → (0 ≤ v ∧ v < (g.owner.length : Int)) → prioDiff k u v = prioDiff g u v := fun u v hu hv => by
        unfold prioDiff
        have h1 := h.prio u.toNat (by omega)
        have h2 := h.prio v.toNat (by omega)
        omega
      have e := minF_congr hD l a (hall a (by simp)) fun y hy => hall y (List.mem_cons_of_mem a hy)
      have hm : 0 ≤ minF (prioDiff g) a l ∧ minF (prioDiff g) a l < g.owner.length := by
        rcases minF_mem (prioDiff g) a l with h1 | h1
        · rw [h1]; exact hall a (by simp)
        · exact hall _ (List.mem_cons_of_mem a h1)
      refine .inr ⟨g.prio.getD (minF (prioDiff g) a l).toNat 0, prio_nonneg h.vg _, by simp, ?_⟩
      simp only [List.isEmpty_cons, Bool.not_false, Bool.and_true, if_true, List.headD_cons, List.tail_cons]
      rw [e, h.prio _ (by omega)]
end
end Go.Proofs.Ytohglckebkgbpaa
/-
  Swap on plain data: the game with exchanged players.
-/
namespace Go.Proofs.Ytohglckebkgbpaa
open Go.RowKit

theorem CallP.to_ {P : Program} {T : Tab} {f : FuncId} {xs : List AV} {rt : Ty} {r r' : rt.T} (h : CallP P T f xs rt r) (e : r = r') : CallP P T f xs rt r' := e ▸ h
theorem cp_Clone (xs : List Int) (hb : xs.length * 8 ≤ 140737488355328) (hin : ∀ x ∈ xs, inK .i64 x) : CallP Try.prog tT 41 [.d intsT xs] intsT xs := by
  refine callP_new ⟨fun _ _ => by kernel_rfl⟩ fun F w vs hs hr => ?_
  obtain ⟨v, vs', rfl, h1, h2⟩ := hr.cons
  have := h2.nil
  subst this
  refine (slices_Clone w v xs ((ints_of h1).mono hs) hb).mono ?_
  rintro e w' ⟨u, rfl, hu, hbl⟩
  exact ⟨u, rfl, of_ints (own_intsN hu (Nat.le_refl _)) hin, hbl⟩
theorem ints_cs {F : Mem} {xs : List Int} (hin : ∀ x ∈ xs, inK .i64 x) : RepCs F intT (ints xs) xs := by
  refine ⟨by simp [ints, Ty.sz], fun i hi => ?_⟩
  have : List.take 1 (List.drop (i * 1) (ints xs)) = [.int .i64 xs[i]] := by
    rw [Nat.mul_one, List.drop_eq_getElem_cons (by simpa [ints] using hi)]
    simp [ints]
  show RepC F intT (List.take 1 (List.drop (i * 1) (ints xs))) _
  rw [this]
  exact ⟨rfl, hin _ (List.getElem_mem hi)⟩
theorem cr_Clone (xs : List Int) (hb : xs.length * 8 ≤ 140737488355328) (hin : ∀ x ∈ xs, inK .i64 x) : CallR Try.prog tT 41 [.d intsT xs] 3 intsT xs := by
  refine ⟨⟨fun _ _ => by kernel_rfl⟩, fun F w vs _ hs hr => ?_⟩
  obtain ⟨v, vs', rfl, h1, h2⟩ := hr.cons
  have := h2.nil
  subst this
  refine (slices_Clone w v xs ((ints_of h1).mono hs) hb).mono ?_
  rintro e w' ⟨u, rfl, hu, hbl⟩
  refine ⟨u, F, rfl, hbl, Sub.refl _, hs.trans (bsub hbl), fun a u h1 h2 => (by rw [h1] at h2; simp at h2), ⟨_, by simpa [ints, Ty.sz] using hu, ints_cs hin⟩, fun a x ha e => ?_⟩
  have h3 := hs _ _ ha
  have h4 : a.block < w.heap.size := by
    rcases Nat.lt_or_ge a.block w.heap.size with h | h
    · exact h
    · simp [World.cell?, h] at h3
  rcases hu.2 with ⟨rfl, _⟩ | ⟨g, cap, cur, rfl, h5, _⟩
  · simp [blk] at e
  · simp [blk] at e
    omega
theorem cp_Contains (xs : List Int) (x : Int) : CallP Try.prog tT 31 [.d intsT xs, .d intT x] .bool (decide (x ∈ xs)) :=
  callP_ret ⟨fun _ _ => by kernel_rfl⟩ (fun _ => rfl) fun F w vs hs hr => by
    obtain ⟨v1, r1, rfl, h1, hr⟩ := hr.cons
    obtain ⟨v0, r0, rfl, h0, hr⟩ := hr.cons
    have := hr.nil; subst this
    have := int_of (F := F) h0; subst this
    exact slices_Contains w v1 _ _ ((ints_of h1).mono hs)
theorem cp_arenaValid (g : gameT.T) : CallP Try.prog tT 29 [.d gameT g] .bool (gameD g).valid :=
  callP_ret ⟨fun _ _ => by kernel_rfl⟩ (fun _ => rfl) fun F w vs hs hr => by
    obtain ⟨v1, r1, rfl, h1, hr⟩ := hr.cons
    have := hr.nil; subst this
    exact arena_Valid w v1 _ ((game_of h1).mono hs)
/-- the game with exchanged players -/
def swapS (g : gameT.T) : gameT.T :=
  if (gameD g).valid = false ∨ (30000 : Int) ∈ g.2.1 then ([], [], [], ()) else (g.1.map (1 - ·), g.2.1.map (· + 1), g.2.2.1, ())
theorem part_len (f : Int → Int) (xs : List Int) (i : Nat) : ((xs.take i).map f ++ xs.drop i).length = xs.length := by
  rw [List.length_append, List.length_map, List.length_take, List.length_drop]; omega
theorem part_get (f : Int → Int) (xs : List Int) (i : Nat) (hi : i < xs.length) : ((xs.take i).map f ++ xs.drop i).getD i 0 = xs.getD i 0 := by
  rw [List.getD_eq_getElem?_getD, List.getD_eq_getElem?_getD, List.getElem?_append_right (by rw [List.length_map, List.length_take]; omega)]
  rw [List.length_map, List.length_take, List.getElem?_drop, show i + (i - min i xs.length) = i by omega]
theorem part_set (f : Int → Int) (xs : List Int) (i : Nat) (hi : i < xs.length) : ((xs.take i).map f ++ xs.drop i).set i (f (xs.getD i 0)) = (xs.take (i + 1)).map f ++ xs.drop (i + 1) := by
  have h1 : ((xs.take i).map f).length = i := by rw [List.length_map, List.length_take]; omega
  rw [List.drop_eq_getElem_cons hi, List.set_append_right _ _ (by omega), h1, Nat.sub_self, List.set_cons_zero]
  rw [List.take_succ_eq_append_getElem hi, List.map_append, List.append_assoc]
  simp [List.getD_eq_getElem?_getD, List.getElem?_eq_getElem hi]
theorem part_all (f : Int → Int) (xs : List Int) : (xs.take xs.length).map f ++ xs.drop xs.length = xs.map f := by simp
theorem wf_ints {xs : List Int} (h : WF intsT xs) : ∀ x ∈ xs, inK .i64 x := h.2
theorem in64 {x : Int} (h1 : -9223372036854775808 ≤ x) (h2 : x ≤ 9223372036854775807) : inK .i64 x := ⟨h1, h2⟩
theorem cp_Swap (g : gameT.T) (hrow : ∀ l ∈ g.2.2.1, l.length ≤ 1000000) : CallP Try.prog tT 27 [.d gameT g] gameT (swapS g) := by
  refine sf27 g _ fun R hR wf => ?_
  obtain ⟨⟨wa1, wa2⟩, ⟨wb1, wb2⟩, ⟨wc1, wc2⟩, -⟩ := wf
  refine ⟨_, cp_arenaValid g, _, ⟨fun _ => cp_Contains _ _, ?_, ?_⟩⟩
  · intro h
    rw [hR]
    unfold swapS
    rw [if_pos (by simpa using h)]
  · intro hv hc
    have hc : ¬ (30000 : Int) ∈ g.2.1 := of_decide_eq_false hc
    obtain ⟨k1, k2, k3, k4, k5, k6⟩ := valid_parts hv
    have k2 : g.2.1.length = g.1.length := k2
    have k3 : g.2.2.1.length = g.1.length := k3
    have k1 : g.1.length ≤ 3000 := k1
    refine ⟨g.1, cr_Clone _ (by omega) wa2, g.2.1, cr_Clone _ (by omega) wb2, fun x => ∃ i : Nat, x.1 = i ∧ i ≤ g.1.length ∧ x.2.1 = ((g.1.take i).map (1 - ·) ++ g.1.drop i, (g.2.1.take i).map (· + 1) ++ g.2.1.drop i, g.2.2.1.take i, ()), fun x => g.1.length - x.1.toNat, ⟨0, rfl, Nat.zero_le _, by simp⟩, ?_⟩
    rintro ⟨x, y, u⟩ - ⟨i, e1, e2, e3⟩
    simp only at e1 e3
    subst e1 e3
    simp only [Int.toNat_natCast]
    refine ⟨fun h => ?_, fun h => ?_⟩
    · have hi : i < g.1.length := by omega
      rw [part_len, part_len, part_get _ _ _ hi, part_get _ _ _ (by omega)]
      have o1 := k4 (g.1.getD i 0) (by rw [List.getD_eq_getElem?_getD, List.getElem?_eq_getElem hi]; exact List.getElem_mem hi)
      have hi2 : i < g.2.1.length := by omega
      have o2 := k5 (g.2.1.getD i 0) (by rw [List.getD_eq_getElem?_getD, List.getElem?_eq_getElem hi2]; exact List.getElem_mem hi2)
      have hi3 : i < g.2.2.1.length := by omega
      have e3 : g.2.2.1.getD i [] = g.2.2.1[i] := by rw [List.getD_eq_getElem?_getD, List.getElem?_eq_getElem hi3]; rfl
      have w3 := wc2 _ (List.getElem_mem hi3)
      refine ⟨⟨by omega, h⟩, in64 (by omega) (by omega), by omega, in64 (by omega) (by omega), by omega, g.2.2.1[i], ?_, ?_, in64 (by omega) (by omega), ⟨i + 1, by omega, by omega, ?_⟩, ?_⟩
      · rw [e3]
        exact cp_Clone _ (by have := hrow _ (List.getElem_mem hi3); omega) w3.2
      · simp only [List.length_take, List.length_singleton]
        omega
      · rw [part_set (1 - ·) _ _ hi, part_set (· + 1) _ _ hi2, List.take_succ_eq_append_getElem hi3]
      · omega
    · have : i = g.1.length := by omega
      subst this
      rw [hR]
      unfold swapS
      rw [if_neg (by rintro (h | h); rw [hv] at h; cases h; exact hc h)]
      rw [part_all, show g.1.length = g.2.1.length from k2.symm, part_all, k2, ← k3, List.take_length]
end Go.Proofs.Ytohglckebkgbpaa
/-
  StrategyExchange: the law on plain data.
-/
namespace Go.Proofs.Ytohglckebkgbpaa
open Go.RowKit

theorem getD_map' (f : Int → Int) (xs : List Int) (i : Nat) (hi : i < xs.length) : (xs.map f).getD i 0 = f (xs.getD i 0) := by
  simp [List.getD_eq_getElem?_getD, List.getElem?_eq_getElem hi]
theorem valid_of {g : Game} (h1 : g.owner.length ≤ 3000) (h2 : g.prio.length = g.owner.length) (h3 : g.succ.length = g.owner.length) (h4 : ∀ x ∈ g.owner, 0 ≤ x ∧ x ≤ 1) (h5 : ∀ x ∈ g.prio, 0 ≤ x ∧ x ≤ 30000)
    (h6 : ∀ l ∈ g.succ, l ≠ [] ∧ ∀ x ∈ l, 0 ≤ x ∧ x < g.owner.length) : g.valid = true := by
  simp only [Game.valid, Bool.and_eq_true, decide_eq_true_eq, inR, List.all_eq_true, rowOk, out, Bool.not_eq_true', Bool.or_eq_false_iff, decide_eq_false_iff_not, List.isEmpty_eq_false_iff]
  refine ⟨⟨⟨⟨⟨h1, h2⟩, h3⟩, fun x hx => ?_⟩, fun x hx => ?_⟩, fun l hl => ⟨(h6 l hl).1, fun x hx => ?_⟩⟩
  · have := h4 x hx; omega
  · have := h5 x hx; omega
  · have := (h6 l hl).2 x hx; omega
theorem getD_in' {l : List Int} {i : Nat} (hi : i < l.length) : l.getD i 0 ∈ l := by
  rw [List.getD_eq_getElem?_getD, List.getElem?_eq_getElem hi]; exact List.getElem_mem hi
theorem swap_eq {g : gameT.T} (hv : (gameD g).valid = true) (h30 : (30000 : Int) ∉ g.2.1) : swapS g = (g.1.map (1 - ·), g.2.1.map (· + 1), g.2.2.1, ()) := by
  unfold swapS
  rw [if_neg (by rintro (h | h); rw [hv] at h; cases h; exact h30 h)]
theorem eq1 (a p : Int) : ((1 - a) == (1 - p)) = (a == p) := by rw [Bool.eq_iff_iff, beq_iff_eq, beq_iff_eq]; omega
theorem par1 (a p : Int) (hp : p = 0 ∨ p = 1) : ((a + 1) % 2 != 1 - p) = (a % 2 != p) := by rw [Bool.eq_iff_iff, bne_iff_ne, bne_iff_ne]; omega
theorem par2 (a p : Int) : ((a + 2) % 2 != p) = (a % 2 != p) := by rw [show (a + 2) % 2 = a % 2 by omega]
theorem swap_alike {g : gameT.T} (hv : (gameD g).valid = true) (h30 : (30000 : Int) ∉ g.2.1) {p : Int} (hp : p = 0 ∨ p = 1) : Alike (gameD g) (gameD (swapS g)) p (1 - p) 1 := by
  obtain ⟨k1, k2, k3, k4, k5, k6⟩ := valid_parts hv
  have k2' : g.2.1.length = g.1.length := k2
  have k4' : ∀ x : Int, x ∈ (g.1 : List Int) → 0 ≤ x ∧ x ≤ 1 := k4
  have k5' : ∀ x : Int, x ∈ (g.2.1 : List Int) → 0 ≤ x ∧ x ≤ 30000 := k5
  have k1' : (g.1 : List Int).length ≤ 3000 := k1
  rw [swap_eq hv h30]
  refine ⟨hv, valid_of (by simpa [gameD] using k1) (by simpa [gameD] using k2) (by simpa [gameD] using k3) ?_ ?_ (by simpa [gameD] using k6), by simp [gameD], rfl, ?_, ?_, ?_, ?_⟩
  · intro x hx
    obtain ⟨y, hy, rfl⟩ := List.mem_map.1 (show x ∈ g.1.map (1 - ·) from hx)
    have := k4' y hy
    show (0 : Int) ≤ 1 - y ∧ (1 : Int) - y ≤ 1
    omega
  · intro x hx
    obtain ⟨y, hy, rfl⟩ := List.mem_map.1 (show x ∈ g.2.1.map (· + 1) from hx)
    have := k5' y hy
    have h3 : ∀ z : Int, z ∈ (g.2.1 : List Int) → ¬ z = 30000 := fun z hz e => h30 (e ▸ hz)
    have h3 := h3 y hy
    have key : ∀ z : Int, 0 ≤ z ∧ z ≤ 30000 → ¬ z = 30000 → 0 ≤ z + 1 ∧ z + 1 ≤ 30000 := fun z a b => by omega
    exact key y this h3
  · intro i hi
    exact getD_map' (· + 1) g.2.1 i (by have hi' : i < g.1.length := hi; omega)
  · intro i hi
    have hi' : i < g.1.length := hi
    have e : (gameD (g.1.map (1 - ·), g.2.1.map (· + 1), g.2.2.1, ())).owner.getD i 0 = 1 - g.1.getD i 0 := getD_map' (1 - ·) g.1 i hi'
    rw [e]
    exact eq1 _ _
  · intro i hi
    have hi' : i < g.2.1.length := by have hi' : i < g.1.length := hi; omega
    have e : (gameD (g.1.map (1 - ·), g.2.1.map (· + 1), g.2.2.1, ())).prio.getD i 0 = g.2.1.getD i 0 + 1 := getD_map' (· + 1) g.2.1 i hi'
    rw [e]
    exact par1 _ _ hp
  · rcases hp with rfl | rfl <;> decide
def highS (g : gameT.T) : gameT.T := (g.1, g.2.1.map (· + 2), g.2.2.1, ())
theorem high_alike {g : gameT.T} (hv : (gameD g).valid = true) (h1000 : ∀ x : Int, x ∈ (g.2.1 : List Int) → x ≤ 1000) (p : Int) : Alike (gameD g) (gameD (highS g)) p p 2 := by
  obtain ⟨k1, k2, k3, k4, k5, k6⟩ := valid_parts hv
  have k2' : g.2.1.length = g.1.length := k2
  have k5' : ∀ x : Int, x ∈ (g.2.1 : List Int) → 0 ≤ x ∧ x ≤ 30000 := k5
  have k1' : (g.1 : List Int).length ≤ 3000 := k1
  refine ⟨hv, valid_of k1 (by simpa [gameD, highS] using k2) k3 k4 ?_ k6, rfl, rfl, ?_, fun _ _ => rfl, ?_, rfl⟩
  · intro x hx
    obtain ⟨y, hy, rfl⟩ := List.mem_map.1 (show x ∈ g.2.1.map (· + 2) from hx)
    have := k5' y hy
    have := h1000 y hy
    have key : ∀ z : Int, 0 ≤ z → z ≤ 1000 → 0 ≤ z + 2 ∧ z + 2 ≤ 30000 := fun z a b => by omega
    exact key y (k5' y hy).1 this
  · intro i hi
    exact getD_map' (· + 2) g.2.1 i (by have hi' : i < g.1.length := hi; omega)
  · intro i hi
    have hi' : i < g.2.1.length := by have hi' : i < g.1.length := hi; omega
    have e : (gameD (highS g)).prio.getD i 0 = g.2.1.getD i 0 + 2 := getD_map' (· + 2) g.2.1 i hi'
    rw [e]
    exact par2 _ _
theorem small_rows : ∀ {l : List (List Int)}, smallRows l = true → ∀ r ∈ l, r.length ≤ 1000000
  | r :: l, h, x, hx => by
    simp only [smallRows, Bool.and_eq_true, decide_eq_true_eq] at h
    rcases List.mem_cons.1 hx with rfl | hx
    · omega
    · exact small_rows h.2 x hx
theorem winner_in {g k : Game} {p q d : Int} (h : Alike g k p q d) (x : Path) : inK .i64 (winnerS g x) ∧ inK .i64 (winnerS k x) := by
  rcases h.winner x with ⟨e1, e2⟩ | ⟨c, h0, e1, e2⟩
  · rw [e1, e2]; exact ⟨in64 (by omega) (by omega), in64 (by omega) (by omega)⟩
  · rw [e1, e2]; exact ⟨in64 (by omega) (by omega), in64 (by omega) (by omega)⟩
theorem player01 (b : Bool) : playerS b = 0 ∨ playerS b = 1 := by cases b <;> simp [playerS]
theorem cp_Exchange (g : gameT.T) (second : Bool) (set : List Bool) (s : List Int) (x : pathT.T) : CallP Try.prog tT 8 [.d gameT g, .d .bool second, .d boolsT set, .d intsT s, .d pathT x] .bool true := by
  refine sf8 g second set s x true fun R hR wg _ _ _ _ => ?_
  have hT : R true := (hR true).2 rfl
  refine ⟨true, cp_head tT, _, cp_right tT g set s, fun _ => hT, fun hr h40 h41 => ?_⟩
  simp only [rightS, Bool.and_eq_true, smallG, decide_eq_true_eq] at hr
  obtain ⟨⟨⟨⟨⟨q1, q2⟩, q3⟩, q4⟩, hv⟩, hl1, hl2⟩ := hr
  obtain ⟨k1, k2, k3, k4, k5, k6⟩ := valid_parts hv
  have k2' : g.2.1.length = g.1.length := k2
  have k5' : ∀ x : Int, x ∈ (g.2.1 : List Int) → 0 ≤ x ∧ x ≤ 30000 := k5
  have k1' : (g.1 : List Int).length ≤ 3000 := k1
  have hp := player01 second
  refine ⟨_, cp_player tT second, swapS g, cp_Swap g ?_, fun y => ∃ i : Nat, y.1 = i ∧ i ≤ g.2.1.length ∧ y.2.1 = (g.1, (g.2.1.take i).map (· + 2), g.2.2.1, ()) ∧ ∀ j, j < i → g.2.1.getD j 0 ≤ 1000, fun y => g.2.1.length - y.1.toNat, ⟨0, rfl, Nat.zero_le _, by simp, fun j hj => absurd hj (Nat.not_lt_zero _)⟩, ?_⟩
  · exact small_rows q4
  rintro ⟨z, y, u⟩ - ⟨i, e1, e2, e3, e4⟩
  simp only at e1 e3
  subst e1 e3
  simp only [Int.toNat_natCast]
  refine ⟨fun h => ?_, fun h => ?_⟩
  · have hi : i < g.2.1.length := by omega
    have o2 := k5' _ (getD_in' hi)
    refine ⟨by omega, fun _ => hT, fun hle => ⟨in64 (by omega) (by omega), ?_, in64 (by omega) (by omega), ⟨i + 1, by omega, by omega, ?_, fun j hj => ?_⟩, ?_⟩⟩
    · simp only [List.length_map, List.length_take, List.length_singleton]
      omega
    · rw [List.take_succ_eq_append_getElem hi, List.map_append]
      simp [List.getD_eq_getElem?_getD, List.getElem?_eq_getElem hi]
    · rcases Nat.lt_or_eq_of_le (Nat.le_of_lt_succ hj) with h | rfl
      · exact e4 j h
      · exact hle
    · omega
  · have : i = g.2.1.length := by omega
    subst this
    have h1000 : ∀ x : Int, x ∈ (g.2.1 : List Int) → x ≤ 1000 := by
      intro x hx
      obtain ⟨j, hj, rfl⟩ := List.getElem_of_mem hx
      have := e4 j hj
      rwa [List.getD_eq_getElem?_getD, List.getElem?_eq_getElem hj] at this
    have h30 : (30000 : Int) ∉ g.2.1 := fun hm => by have := h1000 _ hm; omega
    rw [List.take_length]
    have A := swap_alike hv h30 hp
    have B := high_alike hv h1000 (playerS second)
    have hlen : x.1.length + x.2.1.length ≤ 1000000 := by omega
    obtain ⟨wi1, wi2⟩ := winner_in A (pathD x)
    have wi3 := (winner_in B (pathD x)).2
    have W1 := A.winner (pathD x)
    have W2 := B.winner (pathD x)
    have hps : inK .i64 (1 - playerS second) := by rcases hp with e | e <;> rw [e] <;> exact in64 (by omega) (by omega)
    have eh : ((swapS g).1, (swapS g).2.1, (swapS g).2.2.1, ()) = swapS g := rfl
    refine ⟨_, cp_Winner tT g x hlen wi1, _, cp_Winner tT (swapS g) x hlen wi2, fun _ h => ?_, _, fun _ _ => cp_Winner tT (highS g) x hlen wi3, ?_, ?_⟩
    · rcases W1 with ⟨a1, a2⟩ | ⟨c, h0, a1, a2⟩
      · rw [a1]; exact in64 (by omega) (by omega)
      · rw [a1]; exact in64 (by omega) (by omega)
    · intro hh
      exfalso
      have e6 : winnerS (gameD (highS g)) (pathD x) = winnerS (gameD g) (pathD x) := by
        rcases W2 with ⟨a1, a2⟩ | ⟨c, h0, a1, a2⟩
        · rw [a1, a2]
        · rw [a1, a2]; omega
      rcases hh with (hh | ⟨hh1, hh2⟩) | hh
      · rcases W1 with ⟨a1, a2⟩ | ⟨c, h0, a1, a2⟩
        · rw [a1, a2] at hh; exact absurd hh (by decide)
        · rw [a1, a2, decide_eq_false (by omega), decide_eq_false (by omega)] at hh; exact absurd hh (by decide)
      · rcases W1 with ⟨a1, a2⟩ | ⟨c, h0, a1, a2⟩
        · rw [a1] at hh1; omega
        · rw [a1, a2] at hh2; omega
      · exact hh e6
    · intro _ _ _
      refine ⟨_, cp_Wins tT g (playerS second) set s, fun _ => hps, _, fun _ => cp_Valid tT (swapS g) (1 - playerS second) set s, _, fun _ => cp_Valid tT g (playerS second) set s, _, fun _ _ => cp_Wins tT (swapS g) (1 - playerS second) set s, _, fun _ _ _ => cp_Wins tT (highS g) (playerS second) set s, ?_⟩
      rw [A.valid, A.wins, B.wins, hR]
      simp [selB]
end Go.Proofs.Ytohglckebkgbpaa
