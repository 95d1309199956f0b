/-
  Contract of strategy.Play: a map of visited positions, and a deferred function that makes the result.
-/
import Derived.Test.YtohglckebkgbpaaWinner
import Derived.Defers
namespace Go.Proofs.Ytohglckebkgbpaa
open Go.RowKit

def playTo (g : Game) (a b : List Int) (i : Int) : Int := (if g.owner.getD i.toNat 0 == 1 then b else a).getD i.toNat 0
/-- the positions up to the one that comes again, and that one -/
def playF (g : Game) (a b : List Int) : Nat → List Int → Int → Option (List Int × Int)
  | 0, _, _ => none
  | f + 1, l, i => if i ∈ l then some (l, i) else if playTo g a b i ∈ g.succ.getD i.toNat [] then playF g a b f (l ++ [i]) (playTo g a b i) else none
def splitAt (l : List Int) (i : Int) : Path := ⟨l.take (idxOf i l 0).toNat, l.drop (idxOf i l 0).toNat⟩
def playHead (g : Game) (a b : List Int) (start : Int) : Bool :=
  g.valid && decide (a.length = g.owner.length) && decide (b.length = g.owner.length) && decide (0 ≤ start) && decide (start < g.owner.length)
def playS (g : Game) (a b : List Int) (start : Int) : Path :=
  if playHead g a b start then match playF g a b (g.owner.length + 1) [] start with
    | some (l, i) => splitAt l i
    | none => ⟨[], []⟩
  else ⟨[], []⟩

def visFrom : Nat → List Int → List (Int × Value)
  | _, [] => []
  | k, x :: l => (x, .int .i64 (k + 1)) :: visFrom (k + 1) l
theorem visFrom_append (x : Int) : ∀ (l : List Int) (k : Nat), visFrom k (l ++ [x]) = visFrom k l ++ [(x, .int .i64 ((k + l.length : Nat) + 1))]
  | [], k => by simp [visFrom]
  | y :: l, k => by simp only [List.cons_append, visFrom, visFrom_append x l (k + 1), List.length_cons]; congr 6; omega
theorem aget_vis (x : Int) : ∀ (l : List Int) (k : Nat), (aget x (visFrom k l)).getD (.int .i64 0) = .int .i64 (idxOf x l k + 1)
  | [], k => by simp [visFrom, aget, idxOf]
  | y :: l, k => by
    simp only [visFrom, aget, idxOf]
    by_cases h : x = y
    · simp [h]
    · simp only [h, if_false, beq_iff_eq]; exact aget_vis x l (k + 1)
theorem aget_vis_none (x : Int) : ∀ (l : List Int) (k : Nat), x ∉ l → aget x (visFrom k l) = none
  | [], _, _ => rfl
  | y :: l, k, h => by
    simp only [List.mem_cons, not_or] at h
    simp only [visFrom, aget, h.1, if_false]; exact aget_vis_none x l (k + 1) h.2
theorem idxOf_bound (x : Int) : ∀ (l : List Int) (k : Nat), x ∈ l → (k : Int) ≤ idxOf x l k ∧ idxOf x l k < k + l.length
  | [], _, h => by simp at h
  | y :: l, k, h => by
    simp only [idxOf]
    by_cases e : x = y
    · simp [e]; omega
    · have h' : x ∈ l := by simpa [e] using h
      have := idxOf_bound x l (k + 1) h'
      simp only [e, beq_iff_eq, if_false, List.length_cons]
      omega
theorem idxOf_not (x : Int) (l : List Int) (k : Nat) (h : x ∉ l) : idxOf x l k = -1 := by
  induction l generalizing k with
  | nil => rfl
  | cons y l ih =>
    simp only [List.mem_cons, not_or] at h
    simp only [idxOf, beq_iff_eq, h.1, if_false]
    exact ih _ h.2
theorem zero_int : ∀ w, (zeroValue 3).run Try.prog w = .ok (.int .i64 0) w := fun _ => by kernel_rfl

/-- what the deferred function leaves in the result's variable -/
def Play1Post (W : World) (l : List Int) (i : Int) (b8 n : Nat) (e : Ending) (u : FrameMode) (w' : World) : Prop :=
  u = .returning ∧ (e = .returned (.tuple #[])) ∧ W.grownBy w' (some b8) ∧ ∃ sv lv, w'.cell? ⟨b8, 0, none⟩ = some sv ∧ w'.cell? ⟨b8, 1, none⟩ = some lv ∧ PathR (newM n w') (.agg #[sv, lv]) (splitAt l i)

theorem grown_setCell {W0 W : World} {b : Nat} (h : W0.grownBy W (some b)) (o : Nat) (v : Value) : W0.grownBy (W.setCell ⟨b, o, none⟩ v) (some b) :=
  grown_trans h ⟨rfl, rfl, rfl, by simp [World.setCell], fun k _ hk => Below.heap_setCell _ _ _ _ (fun e => hk (by rw [e]))⟩

theorem index2_0 (x y : Value) (w : World) : (Instr.index 53 (.agg #[x, y]) (.int .i64 0)).run Try.prog w = .ok x w := by kernel_rfl
theorem index2_1 (x y : Value) (w : World) : (Instr.index 53 (.agg #[x, y]) (.int .i64 1)).run Try.prog w = .ok y w := by kernel_rfl
theorem play1_over (W : World) (l : List Int) (v : Value) (i : Int) (b11 b7 b12 b10 b8 bm base n : Nat) (hn : n ≤ base) (h8 : b8 < base)
    (h11 : W.cell? ⟨b11, 0, none⟩ = some (.map (some bm))) (h7 : W.cell? ⟨b7, 0, none⟩ = some (.int .i64 i)) (h12 : W.cell? ⟨b12, 0, none⟩ = some (.bool true)) (h10 : W.cell? ⟨b10, 0, none⟩ = some v)
    (h80 : W.cell? ⟨b8, 0, none⟩ = some (.slice none 0 0)) (h81 : W.cell? ⟨b8, 1, none⟩ = some (.slice none 0 0)) (hm : MapAt ekInt W bm (visFrom 0 l)) (hf0 : W.frozen? ⟨b8, 0, none⟩ = false) (hf1 : W.frozen? ⟨b8, 1, none⟩ = false)
    (hown : W.ownsRow base 3 1 v l.length (ints l)) (hin : i ∈ l) (hl : l.length ≤ 4000) :
    CallsD Try.prog 30 #[.pointer (some ⟨b11, 0, none⟩), .pointer (some ⟨b7, 0, none⟩), .pointer (some ⟨b12, 0, none⟩), .pointer (some ⟨b10, 0, none⟩), .pointer (some ⟨b8, 0, none⟩)] .returning W
      (Play1Post W l i b8 n) := by
  have hlk : (Instr.lookup 52 (.map (some bm)) (.int .i64 i) false).run Try.prog W = .ok (.int .i64 (idxOf i l 0 + 1)) W := by
    have h := run_lookup_at (P := Try.prog) (KeyEnc.int Try.underlying3) Try.underlying52 zero_int hm i false
    simp only [aget_vis] at h
    exact h
  have hb := idxOf_bound i l 0 hin
  have HOW := Lib.hid hown
  have hv : Ints W.cell? v l := own_ints hown
  have HV := Lib.hid hv
  obtain ⟨a, cap, rfl, c1, c2⟩ := SlAt.shape hv
  have hpos : 0 < l.length := by omega
  obtain ⟨bl, offl, rfl, kl⟩ := Ints.get HV.out (Sub.refl _) hpos
  have hsp : Hid (splitAt l i = ⟨l.take (idxOf i l 0).toNat, l.drop (idxOf i l 0).toNat⟩) := rfl
  obtain ⟨k, hk⟩ := Int.eq_ofNat_of_zero_le (by omega : 0 ≤ idxOf i l 0)
  rw [hk] at hlk hb hsp
  have k1 : k ≤ l.length := by omega
  have k2 : (k : Int) ≤ l.length := by omega
  have k3 : k ≤ cap := by omega
  have k4 : (k : Int) ≤ cap := by omega
  have k5 : ¬ k = cap := by omega
  clear hin hv hk hm hb hown
  go_enter_d Try.func30, Try.ntmps30
  go_wp2
  refine wp_region_tail 8 (by kernel_rfl) (by kernel_rfl) ?_
  simp only [List.take_succ_cons, List.take_zero, List.drop_succ_cons, List.drop_zero]
  repeat still_step
  refine wpStill_nil ?_
  go_wp2
  go_end0
  refine ⟨rfl, grown_below (grown_setCell (grown_setCell (grown_refl _ _) _ _) _ _) (below_drew _), .slice (some ⟨bl, offl, none⟩) k k, by go_simp, .slice (some ⟨bl, offl + k, none⟩) (l.length - k) (cap - k), by go_simp, ?_⟩
  rw [hsp.out]
  have hfin : Ints (newM n (((W.setCell ⟨b8, 0, none⟩ (.slice (some ⟨bl, offl, none⟩) k k)).setCell ⟨b8, 1, none⟩ (.slice (some ⟨bl, offl + k, none⟩) (l.length - k) (cap - k))).drew)) (.slice (some ⟨bl, offl, none⟩) l.length cap) l :=
    own_intsN (own_below (ownsRow_setCell_below (ownsRow_setCell_below HOW.out (by simpa using h8) _) (by simpa using h8) _) (below_drew _)) hn
  exact ⟨_, _, rfl, Ints.cut hfin k1 (Nat.le_refl _) (by unfold maxLen; omega), Ints.drop hfin k1⟩

theorem play1_not (W : World) (i : Int) (l : List Int) (b11 b7 b12 b10 b8 bm : Nat)
    (h11 : W.cell? ⟨b11, 0, none⟩ = some (.map (some bm))) (h7 : W.cell? ⟨b7, 0, none⟩ = some (.int .i64 i)) (h12 : W.cell? ⟨b12, 0, none⟩ = some (.bool false)) (hm : MapAt ekInt W bm (visFrom 0 l)) (hl : l.length ≤ 4000) (hin : i ∈ l ∨ i ∉ l) :
    CallsD Try.prog 30 #[.pointer (some ⟨b11, 0, none⟩), .pointer (some ⟨b7, 0, none⟩), .pointer (some ⟨b12, 0, none⟩), .pointer (some ⟨b10, 0, none⟩), .pointer (some ⟨b8, 0, none⟩)] .returning W
      (fun e u w' => u = .returning ∧ e = .returned (.tuple #[]) ∧ w' = W) := by
  have hlk : (Instr.lookup 52 (.map (some bm)) (.int .i64 i) false).run Try.prog W = .ok (.int .i64 (idxOf i l 0 + 1)) W := by
    have h := run_lookup_at (P := Try.prog) (KeyEnc.int Try.underlying3) Try.underlying52 zero_int hm i false
    simp only [aget_vis] at h
    exact h
  have hb : -1 ≤ idxOf i l 0 ∧ idxOf i l 0 ≤ 4000 := by
    rcases hin with h | h
    · have := idxOf_bound i l 0 h; omega
    · rw [idxOf_not i l 0 h]; omega
  generalize idxOf i l 0 = k at hlk hb
  obtain ⟨k1, k2⟩ := hb
  clear hm hin
  go_enter_d Try.func30, Try.ntmps30
  go_wp2
  go_end0
  exact ⟨rfl, rfl⟩

theorem splitAt_len (l : List Int) (i : Int) : (splitAt l i).stem.length + (splitAt l i).loop.length = l.length := by
  simp [splitAt]; omega

theorem ints_nil (m : Mem) : Ints m (.slice none 0 0) [] := ⟨none, 0, rfl, by simp, by simp [maxLen], fun j hj => by simp at hj⟩
theorem pathR_nil (m : Mem) : PathR m (.agg #[.slice none 0 0, .slice none 0 0]) ⟨[], []⟩ := ⟨_, _, rfl, ints_nil m, ints_nil m⟩

/-- where the variables of a play lie: g's box, from, the result, the list, the map's variable, over, the map -/
structure PSt (g : Game) (ov pv sv : Value) (N M base : Nat) (W : World) (l : List Int) (i : Int) (v : Value) (over : Bool) : Prop where
  g0 : W.cell? ⟨N, 0, none⟩ = some ov
  g2 : W.cell? ⟨N, 2, none⟩ = some sv
  f0 : W.cell? ⟨N + 1, 0, none⟩ = some (.int .i64 i)
  r0 : W.cell? ⟨N + 1 + 1, 0, none⟩ = some (.slice none 0 0)
  r1 : W.cell? ⟨N + 1 + 1, 1, none⟩ = some (.slice none 0 0)
  l0 : W.cell? ⟨M, 0, none⟩ = some v
  m0 : W.cell? ⟨M + 1 + 1, 0, none⟩ = some (.map (some (M + 1)))
  o0 : W.cell? ⟨M + 1 + 1 + 1, 0, none⟩ = some (.bool over)
  z1 : W.frozen? ⟨N + 1, 0, none⟩ = false
  z2 : W.frozen? ⟨N + 1 + 1, 0, none⟩ = false
  z3 : W.frozen? ⟨N + 1 + 1, 1, none⟩ = false
  z4 : W.frozen? ⟨M, 0, none⟩ = false
  z5 : W.frozen? ⟨M + 1 + 1 + 1, 0, none⟩ = false

set_option maxHeartbeats 2000000 in
set_option maxRecDepth 100000 in
theorem strategy_PlayN (w : World) (v va vb : Value) (g : Game) (a b : List Int) (start : Int) (hg : GameR w.cell? v g) (ha : Ints w.cell? va a) (hb : Ints w.cell? vb b) :
    Calls Try.prog 11 #[v, va, vb, .int .i64 start] w (RetR w fun W u => PathR (newM w.heap.size W) u (playS g a b start)) := by
  have HG := Lib.hid hg
  obtain ⟨ov, pv, sv, rfl, ho, hpr, hsu⟩ := hg
  have HO := Lib.hid ho
  have HU := Lib.hid hsu
  have HA := Lib.hid ha
  have HB := Lib.hid hb
  obtain ⟨ao, co, rfl, o1, o2⟩ := SlAt.shape ho
  obtain ⟨au, cu, rfl, u1, u2⟩ := SlAt.shape hsu
  obtain ⟨aa, ca, rfl, a1, a2⟩ := SlAt.shape ha
  obtain ⟨ab, cb, rfl, b1, b2⟩ := SlAt.shape hb
  clear ho hpr hsu ha hb
  have hmm := @run_makeMap Try.prog
  have hmf : ∀ (fn : Fn) (first cap : Array Value) (w : World), (Instr.makeFunc fn first cap).run Try.prog w = .ok (.func fn first cap) w := fun _ _ _ _ => rfl
  go_enter_defers Try.func11, Try.ntmps11
  go_wp2_with fail
  refine (arena_Valid _ _ g (HG.out.mono (bsub (bstep (bstep (below_alloc _ _) (below_alloc _ _)) (below_alloc _ _))))).mono ?_
  rintro e w1 ⟨rfl, hb1⟩
  have c0 : w1.cell? ⟨w.heap.size, 0, none⟩ = some (.slice ao g.owner.length co) := bsub hb1 _ _ (by go_simp)
  have c1 : w1.cell? ⟨w.heap.size, 1, none⟩ = some pv := bsub hb1 _ _ (by go_simp)
  have c2 : w1.cell? ⟨w.heap.size, 2, none⟩ = some (.slice au g.succ.length cu) := bsub hb1 _ _ (by go_simp)
  have c3 : w1.cell? ⟨w.heap.size + 1, 0, none⟩ = some (.int .i64 start) := bsub hb1 _ _ (by go_simp)
  have c4 : w1.cell? ⟨w.heap.size + 1 + 1, 0, none⟩ = some (.slice none 0 0) := bsub hb1 _ _ (by go_simp)
  have c5 : w1.cell? ⟨w.heap.size + 1 + 1, 1, none⟩ = some (.slice none 0 0) := bsub hb1 _ _ (by go_simp)
  have y1 : w1.frozen? ⟨w.heap.size + 1, 0, none⟩ = false := by rw [bfree hb1 _ _ (by simp)]; go_simp
  have y2 : w1.frozen? ⟨w.heap.size + 1 + 1, 0, none⟩ = false := by rw [bfree hb1 _ _ (by simp)]; go_simp
  have y3 : w1.frozen? ⟨w.heap.size + 1 + 1, 1, none⟩ = false := by rw [bfree hb1 _ _ (by simp)]; go_simp
  have hz2 : w.heap.size + 1 + 1 < w1.heap.size := by have := hb1.size; simp at this; omega
  have hz1 : w.heap.size + 1 < w1.heap.size := by omega
  have hz0 : w.heap.size < w1.heap.size := by omega
  have B1 := Lib.hid (bstep (bstep (bstep (below_alloc w _) (below_alloc _ _)) (below_alloc _ _)) hb1); clear hb1
  by_cases hh : playHead g a b start = true
  · have hparts : g.valid = true ∧ a.length = g.owner.length ∧ b.length = g.owner.length ∧ 0 ≤ start ∧ start < g.owner.length := by
      simp only [playHead, Bool.and_eq_true, decide_eq_true_eq] at hh
      exact ⟨hh.1.1.1.1, hh.1.1.1.2, hh.1.1.2, hh.1.2, hh.2⟩
    obtain ⟨hv, h1, h2, h3, h4⟩ := hparts
    obtain ⟨v1, v2, v3, v4, v5, v6⟩ := valid_parts hv
    have V3 := Lib.hid v3; have V4 := Lib.hid v4; have V6 := Lib.hid v6
    clear v2 v3 v4 v5 v6
    have hr : Hid (playS g a b start = match playF g a b (g.owner.length + 1) [] start with | some (l, i) => splitAt l i | none => ⟨[], []⟩) := by simp [playS, hh, Hid]
    have q1 : ((a.length : Int) != (g.owner.length : Int)) = false := by simp [h1]
    have q2 : ((b.length : Int) != (g.owner.length : Int)) = false := by simp [h2]
    have H1 := Lib.hid h1; have H2 := Lib.hid h2
    clear h1 h2 hh
    go_wp2
    generalize hM : w1.heap.size = M at hz0 hz1 hz2 ⊢
    have HM := Lib.hid hM; clear hM
    go_loopg [] (g.owner.length + 1) (fun gk wr => ∃ (l : List Int) (i : Int) (v : Value), PSt g (.slice ao g.owner.length co) pv (.slice au g.succ.length cu) w.heap.size M (M + 1 + 1 + 1 + 1) wr l i v false ∧ Hid (Below w.heap.size w wr) ∧ Hid (MapAt ekInt wr (M + 1) (visFrom 0 l)) ∧
      Hid (wr.ownsRow (M + 1 + 1 + 1 + 1) 3 1 v l.length (ints l)) ∧ M + 1 + 1 + 1 + 1 ≤ wr.heap.size ∧ Hid (LGood (fun x => 0 ≤ x ∧ x < g.owner.length) g.owner.length gk l) ∧ Hid (0 ≤ i ∧ i < g.owner.length) ∧ Hid (playF g a b gk l i = playF g a b (g.owner.length + 1) [] start))
    case atStart =>
      obtain rfl := HM.out
      have hch : ∀ o1 o2 o3 o4, Below w1.heap.size w1 ((((w1.alloc o1).alloc o2).alloc o3).alloc o4) := fun o1 o2 o3 o4 => bstep (bstep (bstep (below_alloc _ _) (below_alloc _ _)) (below_alloc _ _)) (below_alloc _ _)
      have HCH := Lib.hid hch; clear hch
      refine ⟨[], start, .slice none 0 0, ⟨bsub (HCH.out _ _ _ _) _ _ c0, bsub (HCH.out _ _ _ _) _ _ c2, bsub (HCH.out _ _ _ _) _ _ c3, bsub (HCH.out _ _ _ _) _ _ c4, bsub (HCH.out _ _ _ _) _ _ c5, by go_simp, by go_simp, by go_simp,
        (bfree (HCH.out _ _ _ _) _ _ hz1).trans y1, (bfree (HCH.out _ _ _ _) _ _ hz2).trans y2, (bfree (HCH.out _ _ _ _) _ _ hz2).trans y3, by go_simp, by go_simp⟩, ?_, ?_, World.ownsRow_nil _ _ _ _, by simp, ⟨by simp, by simp, by simp⟩, ⟨h3, h4⟩, rfl⟩
      · exact bstep B1.out (HCH.out _ _ _ _)
      · exact ⟨#[], 0, (heap_alloc_old _ _ (by simp; try omega)).trans ((heap_alloc_old _ _ (by simp; try omega)).trans (heap_at _ _ _ (by simp))), by simp [visFrom], by simp, by simp⟩
    case round =>
      obtain ⟨l, i, v, hst, hb, hmap, hown, hbase, hgood, hi, hpf⟩ := hrel
      obtain ⟨i, rfl⟩ := Int.eq_ofNat_of_zero_le hi.out.1
      have hi1 : i < g.owner.length := by have := hi.out.2; omega
      have hmon := HM.out
      have hsub := Lib.hid (bsub hb.out)
      obtain ⟨e0, e1, e2, e3, e4, e5, e6, e7, z1, z2, z3, z4, z5⟩ := hst
      have hlk : (Instr.lookup 52 (.map (some (M + 1))) (.int .i64 (i : Int)) false).run Try.prog wr = .ok (.int .i64 (idxOf i l 0 + 1)) wr := by
        have h := run_lookup_at (P := Try.prog) (KeyEnc.int Try.underlying3) Try.underlying52 zero_int hmap.out (i : Int) false
        simp only [aget_vis] at h
        exact h
      have hll : Hid (l.length ≤ g.owner.length) := by
        have := nodup_le g.owner.length l hgood.out.2.1 hgood.out.1
        exact this
      cases gk with
      | zero => have := hgood.out.2.2; have := hll.out; omega
      | succ f =>
      by_cases hin : (i : Int) ∈ l
      · have hbd := idxOf_bound (i : Int) l 0 hin
        have hne : ((idxOf (i : Int) l 0 + 1) == (0 : Int)) = false := by simp; omega
        have hres : Hid (playS g a b start = splitAt l i) := by
          have h := hpf.out
          rw [playF, if_pos hin] at h
          rw [hr.out, ← h]; exact rfl
        have HIN := Lib.hid hin
        clear hbd hin
        generalize idxOf (i : Int) l 0 = ix at hlk hne
        clear hmon
        have hl8 : l.length ≤ 3000 := by have := hll.out; omega
        go_wp2
        refine leaves_cons (f := 30) (args := #[.pointer (some ⟨M + 1 + 1, 0, none⟩), .pointer (some ⟨w.heap.size + 1, 0, none⟩), .pointer (some ⟨M + 1 + 1 + 1, 0, none⟩), .pointer (some ⟨M, 0, none⟩), .pointer (some ⟨w.heap.size + 1 + 1, 0, none⟩)]) (by simp) (by simp [go_sem]) ?_
        refine (play1_over _ l v i _ _ _ _ _ (M + 1) (M + 1 + 1 + 1 + 1) w.heap.size (by omega) (by omega) (by go_simp) (by go_simp) (by go_simp) (by go_simp) (by go_simp) (by go_simp) ?o7 (by go_simp) (by go_simp) ?o10 HIN.out (by omega)).mono ?_
        case o7 => exact ((hmap.out.kept (Below.heap_setCell _ _ _ _ (by simp))).kept (Below.heap_setCell _ _ _ _ (by simp; omega))).kept (Below.heap_setCell _ _ _ _ (by simp; omega))
        case o10 => exact ownsRow_setCell_below (ownsRow_setCell_below (ownsRow_setCell_below hown.out (by simp) _) (by simp; omega) _) (by simp; omega) _
        rintro e u' w'' ⟨rfl, rfl, hg2, sv2, lv2, hs0, hs1, hpr⟩
        refine ⟨.agg #[sv2, lv2], by simp [results, Try.results11, go_sem, hs0, hs1], _, rfl, by rw [hres.out]; exact hpr, ?_⟩
        exact (((hb.out.setCell (by simp; omega) _).setCell (by simp; omega) _).setCell (by simp; omega) _).grown hg2 (by simp [World.setCell]; omega) (fun k hk => by simp at hk; omega)
      · have hno := idxOf_not (i : Int) l 0 hin
        rw [hno] at hlk
        have hlk' : (Instr.lookup 52 (.map (some (M + 1))) (.int .i64 (i : Int)) false).run Try.prog wr = .ok (.int .i64 0) wr := hlk
        have HIN := Lib.hid hin
        clear hlk hno hin
        have hl8 : l.length ≤ 3000 := by have := hll.out; omega
        go_wp2_with (at_builtin; refine wpList_app int_elem rfl _ _ rfl (M + 1 + 1 + 1 + 1) l.length 1 (ints l) [.int .i64 i] ?c1 ?c2 ?c3 ?c4 ?c5 ?_)
        case c1 => exact own_below hown.out (below_alloc _ _)
        case c2 => exact SrcAt.lit wr _ _ rfl _
        case c3 => omega
        case c4 => unfold maxLen; omega
        case c5 => simp; omega
        intro v' W2 hown2 hg2
        have hB : Below (M + 1 + 1 + 1 + 1) wr W2 := ((Below.refl _ wr).alloc hbase _).trans (below_base (by simp; omega) (own_below hown.out (below_alloc _ _)) hg2)
        have hC := fun (b o : Nat) (h : b < M + 1 + 1 + 1 + 1) => hB.cell (p := ⟨b, o, none⟩) h
        have hF := fun (b o : Nat) (h : b < M + 1 + 1 + 1 + 1) => hB.frozen (p := ⟨b, o, none⟩) h
        rw [← hC _ _ (by omega)] at e0 e1 e2 e3 e4 e5 e6 e7
        rw [← hF _ _ (by omega)] at z1 z2 z3 z4 z5
        have hmap2 : MapAt ekInt W2 (M + 1) (visFrom 0 l) := hmap.out.kept (hB.block _ (by omega))
        have hsz2 := hB.size
        obtain ⟨a', c', rfl, x1, x2⟩ := own_shape hown2
        have hmap3 : MapAt ekInt (W2.setCell ⟨M, 0, none⟩ (.slice a' (l.length + 1) c')) (M + 1) (visFrom 0 l) := hmap2.kept (Below.heap_setCell _ _ _ _ (by simp))
        obtain ⟨W4, hrun, hm4, hg4, hz4, hc4⟩ := run_update_at (P := Try.prog) (KeyEnc.int Try.underlying3) Try.underlying52 hmap3 (i : Int) (.int .i64 ((l.length : Int) + 1))
        rw [aput_new (aget_vis_none _ _ _ HIN.out)] at hm4
        have hrun : (Instr.mapUpdate 52 (.map (some (M + 1))) (.int .i64 (i : Int)) (.int .i64 ((l.length : Int) + 1))).run Try.prog (W2.setCell ⟨M, 0, none⟩ (.slice a' (l.length + 1) c')) = .ok () W4 := hrun
        have hB4 : Below w.heap.size w W4 := by
          refine Below.trans (Below.trans (hb.out.trans (hB.mono (by omega))) ((Below.refl _ W2).setCell (p := ⟨M, 0, none⟩) (by simp; omega) _)) ((Below.refl _ _).grown hg4 (by simp [World.setCell]; omega) (fun k hk => by simp at hk; omega))
        have hown4 : W4.ownsRow (M + 1 + 1 + 1 + 1) 3 1 (.slice a' (l.length + 1) c') (l ++ [(i : Int)]).length (ints (l ++ [(i : Int)])) := by
          have h1 : W2.ownsRow (M + 1 + 1 + 1 + 1) 3 1 (.slice a' (l.length + 1) c') (l ++ [(i : Int)]).length (ints (l ++ [(i : Int)])) := by rw [ints_append]; simpa [ints] using hown2
          exact (ownsRow_setCell_below h1 (a := ⟨M, 0, none⟩) (by simp; omega) _).kept hg4 (by
            cases hh : Value.ownBlock (.slice a' (l.length + 1) c') with
            | none => exact .inl rfl
            | some k => have := (h1.lt k hh).1; right; simp; omega)
        have g0 : W4.cell? ⟨w.heap.size, 0, none⟩ = some (.slice ao g.owner.length co) := by rw [hc4]; go_simp
        have g2 : W4.cell? ⟨w.heap.size, 2, none⟩ = some (.slice au g.succ.length cu) := by rw [hc4]; go_simp
        have gf : W4.cell? ⟨w.heap.size + 1, 0, none⟩ = some (.int .i64 i) := by rw [hc4]; go_simp
        have gr0 : W4.cell? ⟨w.heap.size + 1 + 1, 0, none⟩ = some (.slice none 0 0) := by rw [hc4]; go_simp
        have gr1 : W4.cell? ⟨w.heap.size + 1 + 1, 1, none⟩ = some (.slice none 0 0) := by rw [hc4]; go_simp
        have gl : W4.cell? ⟨M, 0, none⟩ = some (.slice a' (l.length + 1) c') := by rw [hc4]; go_simp
        have gm : W4.cell? ⟨M + 1 + 1, 0, none⟩ = some (.map (some (M + 1))) := by rw [hc4]; go_simp
        have go' : W4.cell? ⟨M + 1 + 1 + 1, 0, none⟩ = some (.bool false) := by rw [hc4]; go_simp
        have hzz : ∀ b o, b < M + 1 + 1 + 1 + 1 → b ≠ M + 1 → W4.frozen? ⟨b, o, none⟩ = W2.frozen? ⟨b, o, none⟩ := fun b o h1 h2 => by
          have h3 := World.frozen?_of_block (a := ⟨b, o, none⟩) (hg4.block b (by simp [World.setCell]; omega) (by simp; omega))
          rw [h3]
          go_simp
        have zs := z4
        rw [← hzz _ _ (by omega) (by omega)] at z1 z2 z3 z4 z5
        have HB4 := Lib.hid hB4; have HM4 := Lib.hid hm4; have HO4 := Lib.hid hown4
        have hs4 : M + 1 + 1 + 1 + 1 ≤ W4.heap.size := by rw [hz4]; simp [World.setCell]; omega
        clear hB hC hF e0 e1 e3 e4 e7 hmap2 hmap3 hB4 hown4 hm4 hg4 hzz hown2 hg2 hmon
        go_wp2
        clear e2 e5 e6 zs hrun hc4 hz4
        obtain ⟨bo, offo, rfl, k1⟩ := Ints.get HO.out (bsub HB4.out) hi1
        have hi2 : i < a.length := by have := H1.out; omega
        have hi3 : i < b.length := by have := H2.out; omega
        have hi4 : i < g.succ.length := by have := V3.out; omega
        obtain ⟨ba, offa, rfl, k2⟩ := Ints.get HA.out (bsub HB4.out) hi2
        obtain ⟨bb, offb, rfl, k3⟩ := Ints.get HB.out (bsub HB4.out) hi3
        obtain ⟨bs, offs, a6, cap6, rfl, k4, y1', y2', HR⟩ := Rows2.get HU.out (bsub HB4.out) hi4
        have how := V4.out _ (List.getElem_mem hi1)
        have hto : Hid (playTo g a b i = if g.owner[i] == 1 then b[i] else a[i]) := by
          simp only [playTo, Hid, Int.toNat_natCast, List.getD_eq_getElem?_getD, List.getElem?_eq_getElem hi1, Option.getD_some]
          split
          · rw [List.getElem?_eq_getElem hi3]; rfl
          · rw [List.getElem?_eq_getElem hi2]; rfl
        have hsucc : Hid (g.succ.getD i [] = g.succ[i]) := by simp [Hid, hi4]
        generalize g.owner[i] = own at k1 how hto
        generalize a[i] = toa at k2 hto
        generalize b[i] = tob at k3 hto
        have hcase : own = 0 ∨ own = 1 := by omega
        have hstep : Hid (∀ t, playTo g a b i = t → (t ∈ g.succ[i] → playF g a b f (l ++ [(i : Int)]) t = playF g a b (g.owner.length + 1) [] start) ∧ (t ∉ g.succ[i] → playS g a b start = ⟨[], []⟩)) := by
          intro t ht
          have h := hpf.out
          rw [playF, if_neg HIN.out] at h
          simp only [ht, Int.toNat_natCast, hsucc.out] at h
          refine ⟨fun hin => ?_, fun hin => ?_⟩
          · rw [if_pos hin] at h; exact h
          · rw [if_neg hin] at h
            rw [hr.out, ← h]
        have hlg : Hid (LGood (fun x => 0 ≤ x ∧ x < g.owner.length) g.owner.length f (l ++ [(i : Int)])) := by
          refine ⟨?_, ?_, ?_⟩
          · intro x hx
            rcases List.mem_append.1 hx with hx | hx
            · exact hgood.out.1 x hx
            · rw [List.mem_singleton.1 hx]; exact hi.out
          · exact List.nodup_append.2 ⟨hgood.out.2.1, by simp, fun p hp q hq e => HIN.out (by rw [List.mem_singleton.1 hq] at e; exact e ▸ hp)⟩
          · have := hgood.out.2.2
            simp; omega
        rcases hcase with rfl | rfl
        · have hto' := Lib.hid (hstep.out toa hto.out)
          have ix0 := index2_0
          have ix1 := index2_1
          go_quiet (fail)
          go_wp2_with fail
          refine (slices_Contains _ _ g.succ[i] toa (HR.out.mono (bsub (below_drewN _ _)))).mono ?_
          rintro e W5 ⟨rfl, hb5⟩
          have hb5 : Below W4.heap.size W4 W5 := bstep (below_drewN _ nq) hb5
          have hs5 := bsub hb5
          have hf5 := bfree hb5
          have g0 := hs5 _ _ g0; have g2 := hs5 _ _ g2; have gf := hs5 _ _ gf; have gr0 := hs5 _ _ gr0; have gr1 := hs5 _ _ gr1; have gl := hs5 _ _ gl; have gm := hs5 _ _ gm; have go' := hs5 _ _ go'
          rw [← hf5 _ _ (by omega)] at z1 z2 z3 z4 z5
          have HM5 := Lib.hid (HM4.out.below hb5); have HO5 := Lib.hid (own_below HO4.out hb5); have HB5 := Lib.hid (bstep HB4.out hb5)
          have hs5z : M + 1 + 1 + 1 + 1 ≤ W5.heap.size := by have := hb5.size; omega
          clear hs5 hf5 hb5 k1 k2 k3 k4 hto hstep ix0 ix1
          by_cases hin : toa ∈ g.succ[i]
          · have d1 : decide (toa ∈ g.succ[i]) = true := by simpa using hin
            have hrange := Lib.hid ((V6.out _ (List.getElem_mem hi4)).2 _ hin)
            have HP := Lib.hid (hto'.out.1 hin)
            clear hin hto'
            go_wp2
            go_roundg f
            case measure => omega
            case rel => 
              refine ⟨l ++ [(i : Int)], toa, .slice a' (l.length + 1) c', ⟨by go_simp, by go_simp, by go_simp, by go_simp, by go_simp, by go_simp, by go_simp, by go_simp, by go_simp, by go_simp, by go_simp, by go_simp, by go_simp⟩, ?_, ?_, ?_, ?_, hlg, hrange, HP⟩
              · exact HB5.out.setCell (by simp) _
              · have h := HM5.out.kept (w' := W5.setCell ⟨w.heap.size + 1, 0, none⟩ (.int .i64 toa)) (Below.heap_setCell _ _ _ _ (by simp; omega))
                rw [visFrom_append, Nat.zero_add]
                exact h
              · exact ownsRow_setCell_below HO5.out (by simp; omega) _
              · simp [World.setCell]; omega
          · have d1 : decide (toa ∈ g.succ[i]) = false := by simpa using hin
            have HP := Lib.hid (hto'.out.2 hin)
            clear hin hto'
            go_wp2
            refine leaves_cons (f := 30) (args := #[.pointer (some ⟨M + 1 + 1, 0, none⟩), .pointer (some ⟨w.heap.size + 1, 0, none⟩), .pointer (some ⟨M + 1 + 1 + 1, 0, none⟩), .pointer (some ⟨M, 0, none⟩), .pointer (some ⟨w.heap.size + 1 + 1, 0, none⟩)]) (by simp) (by simp [go_sem]) ?_
            refine (play1_not _ i (l ++ [(i : Int)]) _ _ _ _ _ (M + 1) (by go_simp) (by go_simp) (by go_simp) ?_ (by simp; omega) (.inl (by simp))).mono ?_
            · rw [visFrom_append, Nat.zero_add]
              exact (HM5.out.kept (Below.heap_setCell _ _ _ _ (by simp; omega))).kept (Below.heap_setCell _ _ _ _ (by simp; omega))
            rintro e u' w'' ⟨rfl, rfl, rfl⟩
            exact ⟨.agg #[.slice none 0 0, .slice none 0 0], by simp [results, Try.results11, go_sem, gr0, gr1], _, rfl, by rw [HP.out]; exact pathR_nil _, (HB5.out.setCell (by simp; omega) _).setCell (by simp; omega) _⟩
        · have hto' := Lib.hid (hstep.out tob hto.out)
          have ix0 := index2_0
          have ix1 := index2_1
          go_quiet (fail)
          go_wp2_with fail
          refine (slices_Contains _ _ g.succ[i] tob (HR.out.mono (bsub (below_drewN _ _)))).mono ?_
          rintro e W5 ⟨rfl, hb5⟩
          have hb5 : Below W4.heap.size W4 W5 := bstep (below_drewN _ nq) hb5
          have hs5 := bsub hb5
          have hf5 := bfree hb5
          have g0 := hs5 _ _ g0; have g2 := hs5 _ _ g2; have gf := hs5 _ _ gf; have gr0 := hs5 _ _ gr0; have gr1 := hs5 _ _ gr1; have gl := hs5 _ _ gl; have gm := hs5 _ _ gm; have go' := hs5 _ _ go'
          rw [← hf5 _ _ (by omega)] at z1 z2 z3 z4 z5
          have HM5 := Lib.hid (HM4.out.below hb5); have HO5 := Lib.hid (own_below HO4.out hb5); have HB5 := Lib.hid (bstep HB4.out hb5)
          have hs5z : M + 1 + 1 + 1 + 1 ≤ W5.heap.size := by have := hb5.size; omega
          clear hs5 hf5 hb5 k1 k2 k3 k4 hto hstep ix0 ix1
          by_cases hin : tob ∈ g.succ[i]
          · have d1 : decide (tob ∈ g.succ[i]) = true := by simpa using hin
            have hrange := Lib.hid ((V6.out _ (List.getElem_mem hi4)).2 _ hin)
            have HP := Lib.hid (hto'.out.1 hin)
            clear hin hto'
            go_wp2
            go_roundg f
            case measure => omega
            case rel => 
              refine ⟨l ++ [(i : Int)], tob, .slice a' (l.length + 1) c', ⟨by go_simp, by go_simp, by go_simp, by go_simp, by go_simp, by go_simp, by go_simp, by go_simp, by go_simp, by go_simp, by go_simp, by go_simp, by go_simp⟩, ?_, ?_, ?_, ?_, hlg, hrange, HP⟩
              · exact HB5.out.setCell (by simp) _
              · have h := HM5.out.kept (w' := W5.setCell ⟨w.heap.size + 1, 0, none⟩ (.int .i64 tob)) (Below.heap_setCell _ _ _ _ (by simp; omega))
                rw [visFrom_append, Nat.zero_add]
                exact h
              · exact ownsRow_setCell_below HO5.out (by simp; omega) _
              · simp [World.setCell]; omega
          · have d1 : decide (tob ∈ g.succ[i]) = false := by simpa using hin
            have HP := Lib.hid (hto'.out.2 hin)
            clear hin hto'
            go_wp2
            refine leaves_cons (f := 30) (args := #[.pointer (some ⟨M + 1 + 1, 0, none⟩), .pointer (some ⟨w.heap.size + 1, 0, none⟩), .pointer (some ⟨M + 1 + 1 + 1, 0, none⟩), .pointer (some ⟨M, 0, none⟩), .pointer (some ⟨w.heap.size + 1 + 1, 0, none⟩)]) (by simp) (by simp [go_sem]) ?_
            refine (play1_not _ i (l ++ [(i : Int)]) _ _ _ _ _ (M + 1) (by go_simp) (by go_simp) (by go_simp) ?_ (by simp; omega) (.inl (by simp))).mono ?_
            · rw [visFrom_append, Nat.zero_add]
              exact (HM5.out.kept (Below.heap_setCell _ _ _ _ (by simp; omega))).kept (Below.heap_setCell _ _ _ _ (by simp; omega))
            rintro e u' w'' ⟨rfl, rfl, rfl⟩
            exact ⟨.agg #[.slice none 0 0, .slice none 0 0], by simp [results, Try.results11, go_sem, gr0, gr1], _, rfl, by rw [HP.out]; exact pathR_nil _, (HB5.out.setCell (by simp; omega) _).setCell (by simp; omega) _⟩
  · have hr : Hid (playS g a b start = ⟨[], []⟩) := by simp [playS, hh, Hid]
    by_cases hv : g.valid = true
    · have hrest : Hid (¬ (a.length = g.owner.length ∧ b.length = g.owner.length ∧ 0 ≤ start ∧ start < g.owner.length)) := fun h => by
        simp [playHead, hv, h] at hh
      have HR := Lib.hid hrest; clear hh hrest
      by_cases h1 : a.length = g.owner.length
      · have q1 : ((a.length : Int) != (g.owner.length : Int)) = false := by simp [h1]
        have H1 := Lib.hid h1; clear h1
        by_cases h2 : b.length = g.owner.length
        · have q2 : ((b.length : Int) != (g.owner.length : Int)) = false := by simp [h2]
          have H2 := Lib.hid h2; clear h2
          by_cases h3 : start < 0
          · (go_wp2; exact ⟨.agg #[.slice none 0 0, .slice none 0 0], by simp [results, Try.results11, go_sem, c4, c5], _, rfl, by rw [hr.out]; exact pathR_nil _, (B1.out.setCell (by simp; omega) _).setCell (by simp; omega) _⟩)
          · have h4 : (g.owner.length : Int) ≤ start := by
              refine Int.not_lt.1 (fun h => HR.out ⟨H1.out, H2.out, by omega, h⟩)
            (go_wp2; exact ⟨.agg #[.slice none 0 0, .slice none 0 0], by simp [results, Try.results11, go_sem, c4, c5], _, rfl, by rw [hr.out]; exact pathR_nil _, (B1.out.setCell (by simp; omega) _).setCell (by simp; omega) _⟩)
        · have q2 : ((b.length : Int) != (g.owner.length : Int)) = true := by simp; omega
          (go_wp2; exact ⟨.agg #[.slice none 0 0, .slice none 0 0], by simp [results, Try.results11, go_sem, c4, c5], _, rfl, by rw [hr.out]; exact pathR_nil _, (B1.out.setCell (by simp; omega) _).setCell (by simp; omega) _⟩)
      · have q1 : ((a.length : Int) != (g.owner.length : Int)) = true := by simp; omega
        (go_wp2; exact ⟨.agg #[.slice none 0 0, .slice none 0 0], by simp [results, Try.results11, go_sem, c4, c5], _, rfl, by rw [hr.out]; exact pathR_nil _, (B1.out.setCell (by simp; omega) _).setCell (by simp; omega) _⟩)
    · rw [Bool.not_eq_true] at hv
      clear hh
      (go_wp2; exact ⟨.agg #[.slice none 0 0, .slice none 0 0], by simp [results, Try.results11, go_sem, c4, c5], _, rfl, by rw [hr.out]; exact pathR_nil _, (B1.out.setCell (by simp; omega) _).setCell (by simp; omega) _⟩)
theorem strategy_Play (w : World) (v va vb : Value) (g : Game) (a b : List Int) (start : Int) (hg : GameR w.cell? v g) (ha : Ints w.cell? va a) (hb : Ints w.cell? vb b) :
    Calls Try.prog 11 #[v, va, vb, .int .i64 start] w (RetR w fun W u => PathR W.cell? u (playS g a b start)) :=
  (strategy_PlayN w v va vb g a b start hg ha hb).mono fun _ _ ⟨u, h1, h2, h3⟩ => ⟨u, h1, h2.mono (newM_sub _ _), h3⟩
end Go.Proofs.Ytohglckebkgbpaa
