/-
  Contracts of the reference's Small and Valid (games), follows, Ints.
-/
import Derived.Test.YtohglckebkgbpaaArena
namespace Go.Proofs.Ytohglckebkgbpaa
open Go.RowKit

def smallRows : List (List Int) → Bool
  | [] => true
  | l :: r => decide (l.length ≤ 20) && smallRows r
def smallG (g : Game) (most : Int) : Bool := decide ((g.owner.length : Int) ≤ most) && decide ((g.prio.length : Int) ≤ most) && decide ((g.succ.length : Int) ≤ most) && smallRows g.succ

theorem ref_Small (w : World) (v : Value) (g : Game) (most : Int) (hg : GameR w.cell? v g) :
    Calls Try.prog 10 #[v, .int .i64 most] w (Ret w (.bool (smallG g most))) := by
  obtain ⟨ov, pv, sv, rfl, ho, hp, hsu⟩ := hg
  have HU := Lib.hid hsu
  obtain ⟨ao, co, rfl, o1, o2⟩ := SlAt.shape ho
  obtain ⟨ap, cp, rfl, p1, p2⟩ := SlAt.shape hp
  obtain ⟨au, cu, rfl, u1, u2⟩ := SlAt.shape hsu
  clear ho hp hsu
  by_cases h1 : (g.owner.length : Int) ≤ most
  · by_cases h2 : (g.prio.length : Int) ≤ most
    · by_cases h3 : (g.succ.length : Int) ≤ most
      · have hsm : Hid (∀ b, smallRows g.succ = b → smallG g most = b) := fun b h => by simp [smallG, h1, h2, h3, h]
        go_enter Try.func10, Try.ntmps10
        go_wp2
        go_loopg [5] g.succ.length (fun gk k wr => ∃ m : Nat, m ≤ g.succ.length ∧ gk = g.succ.length - m ∧ k = .int .i64 m ∧ wr = w.alloc (.cells #[.slice ao g.owner.length co, .slice ap g.prio.length cp, .slice au g.succ.length cu] 25) ∧ smallRows (g.succ.drop m) = smallRows g.succ)
        case atStart => exact ⟨0, Nat.zero_le _, rfl, rfl, rfl, rfl⟩
        case round =>
          obtain ⟨m, hm, hgk, rfl, rfl, hr⟩ := hrel
          have HR := Lib.hid hr; have HGK := Lib.hid hgk; clear hr hgk
          by_cases hlt : m < g.succ.length
          · obtain ⟨b, off, a', cap', rfl, k1, x1, x2, _⟩ := Rows2.get HU.out (Sub.refl _) hlt
            have K1 := cell_lt k1
            have hd : Hid (smallRows (g.succ.drop m) = (decide (g.succ[m].length ≤ 20) && smallRows (g.succ.drop (m + 1)))) := by
              rw [List.drop_eq_getElem_cons hlt]; rfl
            by_cases hb : g.succ[m].length ≤ 20
            · go_wp2
              go_roundg (gk - 1)
              case measure => have := HGK.out; omega
              case rel => exact ⟨m + 1, by omega, by have := HGK.out; omega, by go_num, rfl, by rw [← HR.out, hd.out]; simp [hb]⟩
            · go_wp2
              go_ret
              exact ⟨ret_bool (hsm.out false (by rw [← HR.out, hd.out]; simp [hb])).symm, below_alloc _ _⟩
          · have hdn : Hid (smallRows g.succ = true) := by rw [← HR.out, List.drop_of_length_le (by omega)]; rfl
            go_wp2
            go_ret
            exact ⟨ret_bool (hsm.out true hdn.out).symm, below_alloc _ _⟩
      · have hsm : Hid (smallG g most = false) := by simp [smallG, h3, Hid]
        go_enter Try.func10, Try.ntmps10
        go_wp2
        go_ret
        exact ⟨ret_bool hsm.out.symm, below_alloc _ _⟩
    · have hsm : Hid (smallG g most = false) := by simp [smallG, h2, Hid]
      go_enter Try.func10, Try.ntmps10
      go_wp2
      go_ret
      exact ⟨ret_bool hsm.out.symm, below_alloc _ _⟩
  · have hsm : Hid (smallG g most = false) := by simp [smallG, h1, Hid]
    go_enter Try.func10, Try.ntmps10
    go_wp2
    go_ret
    exact ⟨ret_bool hsm.out.symm, below_alloc _ _⟩


def refAt (g : Game) (i : Nat) : Bool := (!((g.owner.getD i 0 != 0) && (g.owner.getD i 0 != 1)) && !(decide (g.prio.getD i 0 < 0) || decide (30000 < g.prio.getD i 0))) && rowOk g.owner.length (g.succ.getD i [])
def refTo (g : Game) : Nat → Bool
  | 0 => true
  | i + 1 => refTo g i && refAt g i
theorem refTo_false {g : Game} {i : Nat} (h : refAt g i = false) : ∀ n, i < n → refTo g n = false
  | 0, hn => by omega
  | n + 1, hn => by
    simp only [refTo]
    by_cases e : i = n
    · subst e; simp [h]
    · rw [refTo_false h n (by omega)]; rfl
theorem refTo_at {g : Game} : ∀ {n : Nat}, refTo g n = true → ∀ i, i < n → refAt g i = true
  | 0, _, i, hi => by omega
  | n + 1, h, i, hi => by
    simp only [refTo, Bool.and_eq_true] at h
    by_cases e : i = n
    · rw [e]; exact h.2
    · exact refTo_at h.1 i (by omega)
theorem refTo_all {g : Game} : ∀ {n : Nat}, (∀ i, i < n → refAt g i = true) → refTo g n = true
  | 0, _ => rfl
  | n + 1, h => by rw [refTo, refTo_all (fun i hi => h i (by omega)), h n (by omega)]; rfl
theorem refTo_valid {g : Game} (h1 : g.owner.length ≤ 3000) (h2 : g.prio.length = g.owner.length) (h3 : g.succ.length = g.owner.length) : refTo g g.owner.length = g.valid := by
  rw [Bool.eq_iff_iff]
  constructor
  · intro h
    have hat := refTo_at h
    simp only [Game.valid, h1, h2, h3, decide_true, Bool.true_and, Bool.and_eq_true, inR, List.all_eq_true, out]
    refine ⟨⟨fun x hx => ?_, fun x hx => ?_⟩, fun x hx => ?_⟩
    · obtain ⟨i, hi, rfl⟩ := List.mem_iff_getElem.1 hx
      have := hat i hi
      simp only [refAt, List.getD_eq_getElem?_getD, List.getElem?_eq_getElem hi, Option.getD_some, Bool.and_eq_true] at this
      have h := this.1.1
      simp at h ⊢
      omega
    · obtain ⟨i, hi, rfl⟩ := List.mem_iff_getElem.1 hx
      have := hat i (by omega)
      simp only [refAt, List.getD_eq_getElem?_getD, List.getElem?_eq_getElem hi, Option.getD_some, Bool.and_eq_true] at this
      have h := this.1.2
      simp at h ⊢
      omega
    · obtain ⟨i, hi, rfl⟩ := List.mem_iff_getElem.1 hx
      have := hat i (by omega)
      simp only [refAt, List.getD_eq_getElem?_getD, List.getElem?_eq_getElem hi, Option.getD_some, Bool.and_eq_true] at this
      exact this.2
  · intro h
    simp only [Game.valid, Bool.and_eq_true, inR, List.all_eq_true, out] at h
    obtain ⟨⟨⟨_, ho⟩, hp⟩, hs⟩ := h
    refine refTo_all (fun i hi => ?_)
    have hi2 : i < g.prio.length := by omega
    have hi3 : i < g.succ.length := by omega
    have a := ho _ (List.getElem_mem hi)
    have b := hp _ (List.getElem_mem hi2)
    simp only [refAt, List.getD_eq_getElem?_getD, List.getElem?_eq_getElem hi, List.getElem?_eq_getElem hi2, List.getElem?_eq_getElem hi3, Option.getD_some, hs _ (List.getElem_mem hi3), Bool.and_true, Bool.and_eq_true]
    simp at a b ⊢
    omega

theorem greatest_calls (w : World) : Calls Try.prog 46 #[] w fun e w' => e = .returned (.int .i64 30000) ∧ w' = w := by
  go_enter Try.func46, Try.ntmps46
  go_wp2
  go_ret
  exact ⟨rfl, rfl⟩

set_option maxHeartbeats 2000000 in
set_option maxRecDepth 100000 in
theorem ref_Valid (w : World) (v : Value) (g : Game) (hg : GameR w.cell? v g) :
    Calls Try.prog 32 #[v] w (Ret w (.bool g.valid)) := by
  obtain ⟨ov, pv, sv, rfl, ho, hp, hsu⟩ := hg
  have HO := Lib.hid ho
  have HP := Lib.hid hp
  have HU := Lib.hid hsu
  obtain ⟨ao, co, rfl, o1, o2⟩ := SlAt.shape ho
  obtain ⟨ap, cp, rfl, p1, p2⟩ := SlAt.shape hp
  obtain ⟨au, cu, rfl, u1, u2⟩ := SlAt.shape hsu
  clear ho hp hsu
  by_cases h1 : g.owner.length ≤ 3000
  · by_cases h2 : g.prio.length = g.owner.length
    · have q2 : ((g.prio.length : Int) != (g.owner.length : Int)) = false := by simp [h2]
      by_cases h3 : g.succ.length = g.owner.length
      · have q3 : ((g.succ.length : Int) != (g.owner.length : Int)) = false := by simp [h3]
        have HV := Lib.hid (refTo_valid h1 h2 h3)
        have H2 := Lib.hid h2; have H3 := Lib.hid h3; clear h2 h3
        go_enter Try.func32, Try.ntmps32
        go_wp2
        have hB := below_alloc w (.cells #[.slice ao g.owner.length co, .slice ap g.prio.length cp, .slice au g.succ.length cu] 25)
        have c0 : (w.alloc (.cells #[.slice ao g.owner.length co, .slice ap g.prio.length cp, .slice au g.succ.length cu] 25)).cell? ⟨w.heap.size, 0, none⟩ = some (.slice ao g.owner.length co) := by go_simp
        have c1 : (w.alloc (.cells #[.slice ao g.owner.length co, .slice ap g.prio.length cp, .slice au g.succ.length cu] 25)).cell? ⟨w.heap.size, 1, none⟩ = some (.slice ap g.prio.length cp) := by go_simp
        have c2 : (w.alloc (.cells #[.slice ao g.owner.length co, .slice ap g.prio.length cp, .slice au g.succ.length cu] 25)).cell? ⟨w.heap.size, 2, none⟩ = some (.slice au g.succ.length cu) := by go_simp
        generalize (w.alloc (.cells #[.slice ao g.owner.length co, .slice ap g.prio.length cp, .slice au g.succ.length cu] 25)) = W at hB c0 c1 c2 ⊢
        have HB := Lib.hid hB; clear hB
        go_loopg [4] g.owner.length (fun gk k wr => ∃ m : Nat, m ≤ g.owner.length ∧ gk = g.owner.length - m ∧ k = .int .i64 m ∧ Hid (Below w.heap.size w wr) ∧ wr.cell? ⟨w.heap.size, 0, none⟩ = some (.slice ao g.owner.length co) ∧ wr.cell? ⟨w.heap.size, 1, none⟩ = some (.slice ap g.prio.length cp) ∧ wr.cell? ⟨w.heap.size, 2, none⟩ = some (.slice au g.succ.length cu) ∧ Hid (refTo g m = true))
        case atStart => exact ⟨0, Nat.zero_le _, rfl, rfl, HB.out, c0, c1, c2, rfl⟩
        case round =>
          obtain ⟨m, hm, hgk, rfl, hb, e0, e1, e2, HR⟩ := hrel
          have HGK := Lib.hid hgk; clear hgk
          clear c0 c1 c2
          by_cases hlt : m < g.owner.length
          · have l2 : m < g.prio.length := by have := H2.out; omega
            have l3 : m < g.succ.length := by have := H3.out; omega
            obtain ⟨b1, off1, rfl, k1⟩ := Ints.get HO.out (bsub hb.out) hlt
            obtain ⟨b2, off2, rfl, k2⟩ := Ints.get HP.out (bsub hb.out) l2
            obtain ⟨b3, off3, a3, cap3, rfl, k3, x1, x2, HRW⟩ := Rows2.get HU.out (bsub hb.out) l3
            have hat : Hid (refAt g m = ((!((g.owner[m] != 0) && (g.owner[m] != 1)) && !(decide (g.prio[m] < 0) || decide (30000 < g.prio[m]))) && rowOk g.owner.length g.succ[m])) := by
              simp only [refAt, Hid, List.getD_eq_getElem?_getD, List.getElem?_eq_getElem hlt, List.getElem?_eq_getElem l2, List.getElem?_eq_getElem l3, Option.getD_some]
            have hfin : Hid (refAt g m = false → g.valid = false) := fun h => by rw [← HV.out, refTo_false h _ hlt]
            have hgo : Hid (refAt g m = true → refTo g (m + 1) = true) := fun h => by rw [refTo, HR.out, h]; rfl
            generalize g.owner[m] = om at k1 hat
            generalize g.prio[m] = pm at k2 hat
            generalize g.succ[m] = rm at k3 x1 x2 HRW hat
            by_cases hom : om = 0 ∨ om = 1
            · have hoo : Hid ((om != 0 && om != 1) = false) := by rcases hom with rfl | rfl <;> exact rfl
              rcases hom with rfl | rfl
              all_goals
                by_cases hp0 : pm < 0
                · have q4 : decide (pm < 0) = true := by simpa using hp0
                  have ha : Hid (refAt g m = false) := by rw [hat.out, hoo.out, q4]; exact rfl
                  (go_wp2; go_quiet ((go_at_call 46; exact Calls.quiet_of_same (greatest_calls _))))
                  go_wp2
                  go_ret
                  exact ⟨ret_bool (hfin.out ha.out).symm, bstep hb.out (below_drewN _ _)⟩
                · have q4 : decide (pm < 0) = false := by simpa using hp0
                  by_cases hp1 : 30000 < pm
                  · have q5 : decide (30000 < pm) = true := by simpa using hp1
                    have ha : Hid (refAt g m = false) := by rw [hat.out, hoo.out, q4, q5]; exact rfl
                    (go_wp2; go_quiet ((go_at_call 46; exact Calls.quiet_of_same (greatest_calls _))))
                    go_wp2
                    go_ret
                    exact ⟨ret_bool (hfin.out ha.out).symm, bstep hb.out (below_drewN _ _)⟩
                  · have q5 : decide (30000 < pm) = false := by simpa using hp1
                    by_cases hr0 : rm.length = 0
                    · have q6 : ((rm.length : Int) == 0) = true := by simpa using hr0
                      have ha : Hid (refAt g m = false) := by rw [hat.out, List.eq_nil_of_length_eq_zero hr0]; exact Bool.and_false _
                      clear hr0
                      (go_wp2; go_quiet ((go_at_call 46; exact Calls.quiet_of_same (greatest_calls _))))
                      go_wp2
                      go_ret
                      exact ⟨ret_bool (hfin.out ha.out).symm, bstep hb.out (below_drewN _ _)⟩
                    · have q6 : ((rm.length : Int) == 0) = false := by simpa using hr0
                      have hro : Hid (refAt g m = inR 0 (g.owner.length - 1) rm) := by
                        have : rm.isEmpty = false := List.isEmpty_eq_false_iff.2 (fun e => hr0 (by rw [e]; rfl))
                        rw [hat.out, hoo.out, q4, q5, rowOk, this]; exact rfl
                      clear hr0
                      (go_wp2; go_quiet ((go_at_call 46; exact Calls.quiet_of_same (greatest_calls _))))
                      have hbq := bstep hb.out (below_drewN wr nq)
                      have j2 : (wr.drewN nq).cell? ⟨w.heap.size, 2, none⟩ = some (.slice (some ⟨b3, off3, none⟩) g.succ.length cu) := e2
                      have j0 : (wr.drewN nq).cell? ⟨w.heap.size, 0, none⟩ = some (.slice (some ⟨b1, off1, none⟩) g.owner.length co) := e0
                      have j1 : (wr.drewN nq).cell? ⟨w.heap.size, 1, none⟩ = some (.slice (some ⟨b2, off2, none⟩) g.prio.length cp) := e1
                      have j3 : (wr.drewN nq).cell? ⟨b3, off3 + m, none⟩ = some (.slice a3 rm.length cap3) := k3
                      have HRQ : Hid (Ints (wr.drewN nq).cell? (.slice a3 rm.length cap3) rm) := HRW.out.mono (bsub (below_drewN wr nq))
                      clear e0 e1 e2 k1 k2 k3 HRW
                      generalize wr.drewN nq = wq at hbq j0 j1 j2 j3 HRQ ⊢
                      have HBQ := Lib.hid hbq; clear hbq hb
                      have hgg : Hid (g.owner.length - (m + 1) < gk) := by have := HGK.out; show _ < _; omega
                      go_wp2
                      go_loopg [5] rm.length (fun gj k wx => ∃ t : Nat, t ≤ rm.length ∧ gj = rm.length - t ∧ k = .int .i64 t ∧ wx = wq ∧ Hid (inR 0 (g.owner.length - 1) (rm.drop t) = inR 0 (g.owner.length - 1) rm))
                      case atStart => exact ⟨0, Nat.zero_le _, rfl, rfl, rfl, rfl⟩
                      case round =>
                        rename_i gk1 _ _ _
                        obtain ⟨t, ht, hgj, rfl, rfl, hd⟩ := hrel
                        have HGJ := Lib.hid hgj; clear hgj
                        by_cases htl : t < rm.length
                        · obtain ⟨b4, off4, rfl, k4⟩ := Ints.get HRQ.out (Sub.refl _) htl
                          have hdd : Hid (inR 0 (g.owner.length - 1) rm = (!out 0 (g.owner.length - 1) rm[t] && inR 0 (g.owner.length - 1) (rm.drop (t + 1)))) := by
                            rw [← hd.out, List.drop_eq_getElem_cons htl]; rfl
                          generalize rm[t] = x at k4 hdd
                          by_cases hx0 : x < 0
                          · have ha : Hid (refAt g m = false) := by rw [hro.out, hdd.out]; simp [Hid, out, hx0]
                            go_wp2
                            go_ret
                            exact ⟨ret_bool (hfin.out ha.out).symm, HBQ.out⟩
                          · by_cases hx1 : (g.owner.length : Int) ≤ x
                            · have ha : Hid (refAt g m = false) := by
                                have : (g.owner.length : Int) - 1 < x := by omega
                                rw [hro.out, hdd.out]; simp [Hid, out, this]
                              go_wp2
                              go_ret
                              exact ⟨ret_bool (hfin.out ha.out).symm, HBQ.out⟩
                            · have hnx : Hid (inR 0 (g.owner.length - 1) (rm.drop (t + 1)) = inR 0 (g.owner.length - 1) rm) := by
                                have h1 : decide (x < 0) = false := by simpa using hx0
                                have h2 : decide ((g.owner.length : Int) - 1 < x) = false := by simp; omega
                                rw [hdd.out, out, h1, h2]; exact rfl
                              go_wp2
                              go_roundg (rm.length - (t + 1))
                              case measure => have := HGJ.out; omega
                              case rel => exact ⟨t + 1, by omega, rfl, by go_num, rfl, hnx⟩
                        · have ha : Hid (refAt g m = true) := by
                            rw [hro.out, ← hd.out, List.drop_of_length_le (by omega)]; exact rfl
                          go_wp2
                          go_roundg (g.owner.length - (m + 1))
                          case measure => exact hgg.out
                          case rel => exact ⟨m + 1, by omega, rfl, by go_num, HBQ.out, j0, j1, j2, hgo.out ha.out⟩
            · have q4 : (om != 0) = true := by simp; omega
              have q5 : (om != 1) = true := by simp; omega
              have ha : Hid (refAt g m = false) := by rw [hat.out]; simp [Hid, q4, q5]
              (go_wp2; go_quiet ((go_at_call 46; exact Calls.quiet_of_same (greatest_calls _))))
              go_wp2
              go_ret
              exact ⟨ret_bool (hfin.out ha.out).symm, bstep hb.out (below_drewN _ _)⟩
          · have hfin : Hid (g.valid = true) := by
              have h := HR.out
              have e : m = g.owner.length := by omega
              rw [e, HV.out] at h
              exact h
            go_wp2
            go_ret
            exact ⟨ret_bool hfin.out.symm, hb.out⟩
      · have q3 : ((g.succ.length : Int) != (g.owner.length : Int)) = true := by simp; omega
        have hf : Hid (g.valid = false) := by simp [Game.valid, h3, Hid]
        go_enter Try.func32, Try.ntmps32
        go_wp2
        go_ret
        exact ⟨ret_bool hf.out.symm, below_alloc _ _⟩
    · have q2 : ((g.prio.length : Int) != (g.owner.length : Int)) = true := by simp; omega
      have hf : Hid (g.valid = false) := by simp [Game.valid, h2, Hid]
      go_enter Try.func32, Try.ntmps32
      go_wp2
      go_ret
      exact ⟨ret_bool hf.out.symm, below_alloc _ _⟩
  · have hf : Hid (g.valid = false) := by simp [Game.valid, h1, Hid]
    go_enter Try.func32, Try.ntmps32
    go_wp2
    go_ret
    exact ⟨ret_bool hf.out.symm, below_alloc _ _⟩

theorem ref_Ints (w : World) (va vb : Value) (a b : List Int) (ha : Ints w.cell? va a) (hb : Ints w.cell? vb b) :
    Calls Try.prog 17 #[va, vb] w (Ret w (.bool (a == b))) := by
  have HA := Lib.hid ha
  have HB := Lib.hid hb
  obtain ⟨aa, ca, rfl, a1, a2⟩ := SlAt.shape ha
  obtain ⟨ab, cb, rfl, b1, b2⟩ := SlAt.shape hb
  clear ha hb
  by_cases hl : a.length = b.length
  · have q : ((a.length : Int) != (b.length : Int)) = false := by simp [hl]
    have HL := Lib.hid hl; clear hl
    go_enter Try.func17, Try.ntmps17
    go_wp2
    go_loopg [5] a.length (fun gk k wr => ∃ m n : Nat, m ≤ a.length ∧ gk = a.length - m ∧ k = .int .i64 m ∧ wr = w.drewN n ∧ (a.drop m == b.drop m) = (a == b))
    case atStart => exact ⟨0, 0, Nat.zero_le _, rfl, rfl, rfl, rfl⟩
    case round =>
      obtain ⟨m, n, hm, hgk, rfl, rfl, hr⟩ := hrel
      have HR := Lib.hid hr; have HGK := Lib.hid hgk; clear hr hgk
      by_cases hlt : m < a.length
      · have hlt2 : m < b.length := by have := HL.out; omega
        obtain ⟨b1', off1, rfl, k1⟩ := Ints.get HA.out (Sub.refl _) hlt
        obtain ⟨b2', off2, rfl, k2⟩ := Ints.get HB.out (Sub.refl _) hlt2
        have hd : Hid ((a.drop m == b.drop m) = ((a[m] == b[m]) && (a.drop (m + 1) == b.drop (m + 1)))) := by
          rw [List.drop_eq_getElem_cons hlt, List.drop_eq_getElem_cons hlt2]; rfl
        generalize a[m] = x at k1 hd
        generalize b[m] = y at k2 hd
        by_cases hxy : x = y
        · have q2 : (x != y) = false := by simp [hxy]
          have hx2 : Hid ((a.drop (m + 1) == b.drop (m + 1)) = (a == b)) := by rw [← HR.out, hd.out]; simp [Hid, hxy]
          clear hxy
          go_wp2
          go_quiet (fail)
          go_wp2
          go_roundg (gk - 1)
          case measure => have := HGK.out; omega
          case rel => exact ⟨m + 1, n + nq, by omega, by have := HGK.out; omega, by go_num, by simp, hx2.out⟩
        · have q2 : (x != y) = true := by simp [hxy]
          have hx2 : Hid ((a == b) = false) := by rw [← HR.out, hd.out]; simp [Hid, hxy]
          clear hxy
          go_wp2
          go_quiet (fail)
          go_wp2
          go_ret
          exact ⟨ret_bool hx2.out.symm, by simpa using below_drewN w (n + nq)⟩
      · have hx2 : Hid ((a == b) = true) := by
          rw [← HR.out, List.drop_of_length_le (by omega), List.drop_of_length_le (by have := HL.out; omega)]; rfl
        go_wp2
        go_ret
        exact ⟨ret_bool hx2.out.symm, below_drewN _ _⟩
  · have q : ((a.length : Int) != (b.length : Int)) = true := by simp; omega
    have hx2 : Hid ((a == b) = false) := by
      rw [Hid, beq_eq_false_iff_ne]; rintro rfl; exact hl rfl
    clear hl
    go_enter Try.func17, Try.ntmps17
    go_wp2
    go_ret
    exact ⟨ret_bool hx2.out.symm, Below.refl _ _⟩
end Go.Proofs.Ytohglckebkgbpaa
