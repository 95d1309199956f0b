/-
  What the evaluator says of an operation is so: parts of lists, literals, new memory, append.
-/
import Derived.Test.YtohglckebkgbpaaUg
import Derived.Laws.MakeOwn
namespace Go.Proofs.Ytohglckebkgbpaa
open Go.RowKit

theorem run_sb {P : Program} {w : World} {k : IntKind} {i : Int} {y : Nat} {code : BoundsCode} (h0 : 0 ≤ i) (h1 : i ≤ y) : (Instr.sliceBound (.int k i) y code).run P w = .ok i.toNat w := by
  simp [Instr.sliceBound, asIntOf, h0, h1]

section
variable {P : Program} {T : Tab} {B : Bx} {ρ : Nat → Value} {F : Mem} {M : Mm} {w : World} {o : Oper} {ρ0 : Operand → Value} {d : Option Nat} {evf : Operand → AV}
theorem optInt_some {x : Option Operand} {n : Int} (hev : ∀ x, RepA ρ F (evf x) (ρ0 x)) (h : optInt (x.map evf) = some (some n)) : ∃ k, x.map ρ0 = some (.int k n) := by
  cases x with
  | none => simp [optInt] at h
  | some x =>
    simp only [Option.map_some] at h ⊢
    have hx := hev x
    generalize evf x = ax at h hx
    unfold optInt at h
    split at h <;> simp only [Option.some.injEq, reduceCtorEq] at h
    rename_i k m e
    cases e
    subst h
    exact ⟨k, by rw [(rep_int hx).1]⟩
theorem optInt_none {x : Option Operand} (h : optInt (x.map evf) = some none) : x = none := by
  cases x with
  | none => rfl
  | some x =>
    simp only [Option.map_some] at h
    unfold optInt at h
    split at h <;> simp_all
def mxN (m : Option Int) (cap : Nat) : Nat := match m with | none => cap | some m => m.toNat
theorem partL_eq {α : Type} (xs : List α) (l h : Option Int) : partL xs l h = (xs.take (hiN h xs.length)).drop (loN l) := by
  cases l <;> cases h <;> simp [partL, hiN, loN]
theorem bounds_ok {isS : Bool} {n cap : Nat} {l h m : Option Int} {L H MX : Option Value} (hL : ∀ i, l = some i → ∃ k, L = some (.int k i)) (hH : ∀ i, h = some i → ∃ k, H = some (.int k i)) (hM : ∀ i, m = some i → ∃ k, MX = some (.int k i))
    (nL : l = none → L = none) (nH : h = none → H = none) (nM : m = none → MX = none) (hc : n ≤ cap) (hb : ∀ q, partOb n l h m = some q → q) :
    (Instr.sliceBounds isS n cap L H MX).run P w = .ok (loN l, hiN h n, mxN m cap) w ∧ loN l ≤ hiN h n ∧ hiN h n ≤ n ∧ hiN h n ≤ mxN m cap ∧ mxN m cap ≤ cap := by
  cases m with
  | none =>
    have e3 := nM rfl
    subst e3
    cases h with
    | none =>
      have e2 := nH rfl
      subst e2
      cases l with
      | none =>
        have e1 := nL rfl
        subst e1
        simp [Instr.sliceBounds, loN, hiN, mxN, hc]
      | some i =>
        obtain ⟨k, rfl⟩ := hL i rfl
        have hq : 0 ≤ i ∧ i ≤ n := hb _ rfl
        refine ⟨?_, by simp [loN, hiN]; omega, by simp [hiN], by simp [hiN, mxN, hc], by simp [mxN]⟩
        simp [Instr.sliceBounds, loN, hiN, mxN, run_sb hq.1 hq.2]
    | some j =>
      obtain ⟨k, rfl⟩ := hH j rfl
      cases l with
      | none =>
        have e1 := nL rfl
        subst e1
        have hq : 0 ≤ j ∧ j ≤ n := hb _ rfl
        refine ⟨?_, by simp [loN], by simp [hiN]; omega, by simp [hiN, mxN]; omega, by simp [mxN]⟩
        simp [Instr.sliceBounds, loN, hiN, mxN, run_sb hq.1 (show j ≤ (cap : Int) by omega)]
      | some i =>
        obtain ⟨k', rfl⟩ := hL i rfl
        have hq : 0 ≤ i ∧ i ≤ j ∧ j ≤ n := hb _ rfl
        refine ⟨?_, by simp [loN, hiN]; omega, by simp [hiN]; omega, by simp [hiN, mxN]; omega, by simp [mxN]⟩
        simp [Instr.sliceBounds, loN, hiN, mxN, run_sb (show 0 ≤ j by omega) (show j ≤ (cap : Int) by omega), run_sb hq.1 (show i ≤ ((j.toNat : Nat) : Int) by omega)]
  | some mm =>
    obtain ⟨km, rfl⟩ := hM mm rfl
    cases h with
    | none => cases l <;> exact absurd (hb _ rfl) id
    | some j =>
      obtain ⟨k, rfl⟩ := hH j rfl
      cases l with
      | none =>
        have e1 := nL rfl
        subst e1
        have hq : 0 ≤ j ∧ j ≤ mm ∧ mm ≤ n := hb _ rfl
        refine ⟨?_, by simp [loN], by simp [hiN]; omega, by simp [hiN, mxN]; omega, by simp [mxN]; omega⟩
        simp [Instr.sliceBounds, loN, hiN, mxN, run_sb (show 0 ≤ mm by omega) (show mm ≤ (cap : Int) by omega), run_sb hq.1 (show j ≤ ((mm.toNat : Nat) : Int) by omega)]
      | some i =>
        obtain ⟨k', rfl⟩ := hL i rfl
        have hq : 0 ≤ i ∧ i ≤ j ∧ j ≤ mm ∧ mm ≤ n := hb _ rfl
        refine ⟨?_, by simp [loN, hiN]; omega, by simp [hiN]; omega, by simp [hiN, mxN]; omega, by simp [mxN]; omega⟩
        simp [Instr.sliceBounds, loN, hiN, mxN, run_sb (show 0 ≤ mm by omega) (show mm ≤ (cap : Int) by omega), run_sb (show 0 ≤ j by omega) (show j ≤ ((mm.toNat : Nat) : Int) by omega), run_sb hq.1 (show i ≤ ((j.toNat : Nat) : Int) by omega)]
theorem s_slice {t : TypeId} {τ : Ty} {x : Operand} {L H MX : Option Operand} {l h m : Option Int} (hT : tabB P T = true) (st : St B ρ F M w) (hev : ∀ x, RepA ρ F (evf x) (ρ0 x)) (ho : o.op = .slice t x L H MX) (ht : T.ty t = some τ)
    (hl : optInt (L.map evf) = some l) (hh : optInt (H.map evf) = some h) (hm : optInt (MX.map evf) = some m) {p : Option Prop × AV} (hp : partA τ (evf x) l h m = some p) (hob : ∀ q, p.1 = some q → q) : OpOk P B ρ F w o ρ0 d p.2 M := by
  obtain ⟨ti, hlk, rfl⟩ := ty_look ht
  have hti := tab_ti hT hlk
  have hx := hev x
  have oL : ∀ i, l = some i → ∃ k, L.map ρ0 = some (.int k i) := fun i e => optInt_some hev (by rw [hl, e])
  have oH : ∀ i, h = some i → ∃ k, H.map ρ0 = some (.int k i) := fun i e => optInt_some hev (by rw [hh, e])
  have oM : ∀ i, m = some i → ∃ k, MX.map ρ0 = some (.int k i) := fun i e => optInt_some hev (by rw [hm, e])
  have nL : l = none → L.map ρ0 = none := fun e => by rw [optInt_none (evf := evf) (x := L) (by rw [hl, e])]; rfl
  have nH : h = none → H.map ρ0 = none := fun e => by rw [optInt_none (evf := evf) (x := H) (by rw [hh, e])]; rfl
  have nM : m = none → MX.map ρ0 = none := fun e => by rw [optInt_none (evf := evf) (x := MX) (by rw [hm, e])]; rfl
  generalize evf x = ax at hp hx
  generalize htt : ti.ty = tt at hp
  unfold partA at hp
  split at hp
  · rename_i τ' τ'' xs
    split at hp <;> simp only [Option.some.injEq, reduceCtorEq] at hp
    rename_i e
    subst e
    subst hp
    obtain ⟨hu, hte⟩ := ti_slice hti htt
    obtain ⟨te, hle, hee⟩ := ty_look hte
    obtain ⟨inf, z, hinf, hs, _⟩ := ti_info (tab_ti hT hle)
    obtain ⟨ad, cap, hv, c1, c2, c3⟩ := rep_sl hx
    obtain ⟨hb, b1, b2, b3, b4⟩ := bounds_ok (P := P) (w := w) (isS := true) (n := List.length xs) (cap := cap) oL oH oM nL nH nM c1 hob
    have hsz : inf.size = τ'.sz := by rw [hs, hee]
    have hrep : RepC F (.sl τ') [.slice ad (List.length xs) cap] xs := ⟨ad, cap, rfl, c1, c2, c3⟩
    have := sub_rep hrep b1 b2 b3 b4
    refine ok_value (v := .slice (if mxN m cap = loN l then ad else ad.map (·.add (loN l * τ'.sz))) (hiN h (List.length xs) - loN l) (mxN m cap - loN l)) st ?_ ?_
    · simp only [execOp, ho, Instr.sliceAt, Sem.run_bind, run_underlying hu, Result.andThen_ok, Instr.slice, hv, hb, sizeOf, typeInfo, run_program, hinf, Sem.run_pure, hsz]
    · show RepC F (.sl τ') [_] (partL xs l h)
      rw [partL_eq]
      exact this
  · rename_i τ'
    simp only [Option.some.injEq] at hp
    subst hp
    obtain ⟨hu, hte⟩ := ti_slice hti htt
    obtain ⟨te, hle, hee⟩ := ty_look hte
    obtain ⟨inf, z, hinf, hs, _⟩ := ti_info (tab_ti hT hle)
    have hv : ρ0 x = .slice none 0 0 := hx
    obtain ⟨hb, b1, b2, b3, b4⟩ := bounds_ok (P := P) (w := w) (isS := true) (n := 0) (cap := 0) oL oH oM nL nH nM (Nat.le_refl _) hob
    have z1 : hiN h 0 = 0 := by omega
    have z2 : loN l = 0 := by omega
    have z3 : mxN m 0 = 0 := by omega
    rw [z1, z2, z3] at hb
    refine ok_value (v := .slice none 0 0) st ?_ ⟨none, 0, rfl, Nat.le_refl _, by simp [maxLen], fun i hi => absurd hi (Nat.not_lt_zero _)⟩
    simp only [execOp, ho, Instr.sliceAt, Sem.run_bind, run_underlying hu, Result.andThen_ok, Instr.slice, hv, hb, sizeOf, typeInfo, run_program, hinf, Sem.run_pure, if_true, Nat.sub_self]
  · rename_i s
    split at hp <;> simp only [Option.some.injEq, reduceCtorEq] at hp
    subst hp
    have hu := ti_str hti htt
    obtain ⟨hv, hlen⟩ := rep_str hx
    obtain ⟨hb, b1, b2, b3, b4⟩ := bounds_ok (P := P) (w := w) (isS := false) (n := List.length s) (cap := List.length s) (m := none) oL oH oM nL nH nM (Nat.le_refl _) hob
    have e3 := nM rfl
    refine ok_value (v := .string ⟨((List.take (hiN h (List.length s)) s).drop (loN l)).toArray⟩) st ?_ ?_
    · rw [e3] at hb
      have hx : (ByteArray.mk s.toArray).extract (loN l) (hiN h (List.length s)) = ⟨((List.take (hiN h (List.length s)) s).drop (loN l)).toArray⟩ := by
        apply ByteArray.ext
        apply Array.ext'
        simp [ByteArray.data_extract, List.extract_eq_take_drop, List.drop_take]
      simp only [execOp, ho, Instr.sliceAt, Sem.run_bind, run_underlying hu, Result.andThen_ok, Instr.slice, hv, e3, bytes_size, hb, Option.isSome_none, Bool.false_eq_true, if_false, Sem.run_pure, hx]
    · show RepC F .str [_] (partL s l h)
      rw [partL_eq]
      refine ⟨rfl, ?_⟩
      simp
      omega
  · simp at hp
/-- a part of a row that the call owns -/
theorem s_view {t : TypeId} {τ : Ty} {x : Operand} {L H MX : Option Operand} {l h m : Option Int} (hT : tabB P T = true) (st : St B ρ F M w) (hev : ∀ x, RepA ρ F (evf x) (ρ0 x)) (ho : o.op = .slice t x L H MX) (ht : T.ty t = some τ)
    (hl : optInt (L.map evf) = some l) (hh : optInt (H.map evf) = some h) (hm : optInt (MX.map evf) = some m) {p : Option Prop × AV} (hp : viewA M τ (evf x) l h m = some p) (hob : ∀ q, p.1 = some q → q) : OpOk P B ρ F w o ρ0 d p.2 M := by
  obtain ⟨ti, hlk, rfl⟩ := ty_look ht
  have hti := tab_ti hT hlk
  have hx := hev x
  have oL : ∀ i, l = some i → ∃ k, L.map ρ0 = some (.int k i) := fun i e => optInt_some hev (by rw [hl, e])
  have oH : ∀ i, h = some i → ∃ k, H.map ρ0 = some (.int k i) := fun i e => optInt_some hev (by rw [hh, e])
  have oM : ∀ i, m = some i → ∃ k, MX.map ρ0 = some (.int k i) := fun i e => optInt_some hev (by rw [hm, e])
  have nL : l = none → L.map ρ0 = none := fun e => by rw [optInt_none (evf := evf) (x := L) (by rw [hl, e])]; rfl
  have nH : h = none → H.map ρ0 = none := fun e => by rw [optInt_none (evf := evf) (x := H) (by rw [hh, e])]; rfl
  have nM : m = none → MX.map ρ0 = none := fun e => by rw [optInt_none (evf := evf) (x := MX) (by rw [hm, e])]; rfl
  generalize evf x = ax at hp hx
  unfold viewA at hp
  split at hp <;> try (simp at hp; done)
  rename_i k
  split at hp <;> try (simp at hp; done)
  rename_i E te xs hM
  split at hp <;> simp only [Option.some.injEq, reduceCtorEq] at hp
  rename_i e
  subst hp
  obtain ⟨hu, hte⟩ := ti_slice hti e.symm
  obtain ⟨ti2, hle, hee⟩ := ty_look hte
  obtain ⟨inf, z, hinf, hs, _⟩ := ti_info (tab_ti hT hle)
  have hsz : inf.size = te.sz := by rw [hs, hee]
  obtain ⟨us, h1, h2⟩ := st.obs k _ hM
  have hv : ρ0 x = ρ k := hx
  obtain ⟨ad, cap, e1, c1, c2⟩ : ∃ ad cap, ρ k = .slice ad xs.length cap ∧ xs.length ≤ cap ∧ cap ≤ maxLen := by
    rcases h1.2 with ⟨e1, e2⟩ | ⟨g, cap, cur, e1, _, _, hc1, hc2, _⟩
    · have e2 : xs.length = 0 := e2
      exact ⟨none, 0, by rw [e1, e2], by omega, by simp [maxLen]⟩
    · exact ⟨_, cap, e1, hc1, hc2⟩
  obtain ⟨hb, b1, b2, b3, b4⟩ := bounds_ok (P := P) (w := w) (isS := true) (n := xs.length) (cap := cap) oL oH oM nL nH nM c1 hob
  refine ok_value (v := .slice (if mxN none cap = loN l then ad else ad.map (·.add (loN l * te.sz))) (hiN h xs.length - loN l) (mxN none cap - loN l)) st ?_ ⟨ad, _, cap, e1, b1, b2, c1, c2, rfl⟩
  simp only [execOp, ho, Instr.sliceAt, Sem.run_bind, run_underlying hu, Result.andThen_ok, Instr.slice, hv, e1, hb, sizeOf, typeInfo, run_program, hinf, Sem.run_pure, hsz]
/-- a row's front part, which the call owns then -/
theorem s_cut {t : TypeId} {τ : Ty} {x : Operand} {L H MX : Option Operand} {l h m : Option Int} {nm : Nat} {wr : Nat → Bool} {out : Out} (hT : tabB P T = true) (st : St B ρ F M w) (hev : ∀ x, RepA ρ F (evf x) (ρ0 x)) (ho : o.op = .slice t x L H MX) (ht : T.ty t = some τ)
    (hl : optInt (L.map evf) = some l) (hh : optInt (H.map evf) = some h) (hm : optInt (MX.map evf) = some m) (hp : cutA M wr nm (evf x) l h m = some out) (hob : ∀ q, out.ob = some q → q) (hd : NoName B M nm) (hsl : ∃ te, τ = .sl te) : OpOk P B ρ F w o ρ0 (some nm) out.val out.M := by
  obtain ⟨ti, hlk, rfl⟩ := ty_look ht
  have hti := tab_ti hT hlk
  obtain ⟨te, hte0⟩ := hsl
  have hx := hev x
  generalize hax : evf x = ax at hp hx
  unfold cutA at hp
  split at hp <;> try (simp at hp; done)
  rename_i k r
  cases hwr : wr k with
  | false => rw [hwr] at hp; simp at hp
  | true =>
  rw [hwr] at hp
  simp only [cond_true] at hp
  split at hp <;> simp only [Option.some.injEq, reduceCtorEq] at hp
  rename_i E te' xs hM
  subst hp
  have hq : 0 ≤ r ∧ r ≤ ((List.length xs : Nat) : Int) := hob _ rfl
  obtain ⟨hu, hte⟩ := ti_slice hti hte0
  obtain ⟨ti2, hle, hee⟩ := ty_look hte
  obtain ⟨inf, z, hinf, hs, _⟩ := ti_info (tab_ti hT hle)
  obtain ⟨us, h1, h2⟩ := st.obs k _ hM
  have hv : ρ0 x = ρ k := hx
  have eL : L.map ρ0 = none := by rw [optInt_none (evf := evf) (x := L) hl]; rfl
  have eM : MX.map ρ0 = none := by rw [optInt_none (evf := evf) (x := MX) hm]; rfl
  obtain ⟨kk, eH⟩ := optInt_some hev hh
  obtain ⟨ad, cap, e1, c1, c2⟩ : ∃ ad cap, ρ k = .slice ad xs.length cap ∧ xs.length ≤ cap ∧ cap ≤ maxLen := by
    rcases h1.2 with ⟨e1, e2⟩ | ⟨g, cap, cur, e1, _, _, hc1, hc2, _⟩
    · have e2 : xs.length = 0 := e2
      exact ⟨none, 0, by rw [e1, e2], by omega, by simp [maxLen]⟩
    · exact ⟨_, cap, e1, hc1, hc2⟩
  have hb : (Instr.sliceBounds true xs.length cap none (some (.int kk r)) none).run P w = .ok (0, r.toNat, cap) w := by
    simp [Instr.sliceBounds, run_sb hq.1 (show r ≤ (cap : Int) by omega)]
  have hlen : (xs.take r.toNat).length = r.toNat := by simp; omega
  have hrow : w.ownsRow 0 E te'.sz (.slice ad r.toNat cap) (xs.take r.toNat).length (us.take (r.toNat * te'.sz)) := by
    rw [hlen]
    have hul : us.length = xs.length * te'.sz := h1.1
    have hle2 : r.toNat * te'.sz ≤ xs.length * te'.sz := Nat.mul_le_mul_right _ (by omega)
    refine ⟨by rw [List.length_take, hul]; omega, ?_⟩
    rcases h1.2 with ⟨q1, q2⟩ | ⟨g, cap', cur, q1, q0, q2, q3, q4, q5, q6⟩
    · rw [e1] at q1
      have q2 : xs.length = 0 := q2
      have r0 : r.toNat = 0 := by omega
      simp only [Value.slice.injEq] at q1
      obtain ⟨rfl, _, rfl⟩ := q1
      left
      exact ⟨by rw [r0], r0⟩
    · rw [e1] at q1
      simp only [Value.slice.injEq] at q1
      obtain ⟨rfl, _, rfl⟩ := q1
      right
      refine ⟨g, cap, cur, rfl, q0, q2, by omega, q4, q5, ?_⟩
      rw [← q6, List.take_take]
      congr 1
      omega
  have hreps : RepCs F te' (us.take (r.toNat * te'.sz)) (xs.take r.toNat) := by
    refine ⟨by rw [hrow.1], fun i hi => ?_⟩
    rw [hlen] at hi
    have hk : ((us.take (r.toNat * te'.sz)).drop (i * te'.sz)).take te'.sz = (us.drop (i * te'.sz)).take te'.sz := by
      have : (i + 1) * te'.sz ≤ r.toNat * te'.sz := Nat.mul_le_mul_right _ hi
      rw [Nat.succ_mul] at this
      apply List.ext_getElem?
      intro j
      rw [List.getElem?_take, List.getElem?_take]
      split
      · rw [List.getElem?_drop, List.getElem?_drop, List.getElem?_take, if_pos (by omega)]
      · rfl
    rw [hk, List.getElem_take]
    exact h2.2 i (by omega)
  have hbk : blk (.slice ad r.toNat cap) = blk (ρ k) := by rw [e1]; cases ad <;> rfl
  refine ⟨.value (.slice ad r.toNat cap), w, _, upd ρ nm (.slice ad r.toNat cap), F, ?_, .inl rfl, (upd_self _ _ _).symm, ?_, upd_oth _ _ _, fun _ _ e => e⟩
  · simp only [execOp, ho, Instr.sliceAt, Sem.run_bind, run_underlying hu, Result.andThen_ok, Instr.slice, hv, e1, eL, eH, eM, hb, sizeOf, typeInfo, run_program, hinf, Sem.run_pure, Nat.zero_mul, Nat.sub_zero]
    congr 2
    by_cases hc : cap = 0
    · simp [hc]
    · rw [if_neg hc]
      cases ad with
      | none => rfl
      | some q => simp [Addr.add]
  · have hkill : ∀ j ob, killM M (some k) j = some ob → M j = some ob ∧ j ≠ k := by
      intro j ob hj
      simp only [killM] at hj
      cases hq' : Nat.beq j k with
      | true => rw [hq'] at hj; simp at hj
      | false => rw [hq'] at hj; exact ⟨hj, by intro e; subst e; simp at hq'⟩
    have s1 : St B ρ F (killM M (some k)) w := st.drop fun h o ho => (hkill h o ho).1
    refine s1.add nm _ _ ⟨?_, fun j ob hj => hd.obs j ob (hkill j ob hj).1, hd.lc, hd.lh⟩ ⟨_, hrow, hreps⟩ fun b hb => ?_
    · cases hq' : killM M (some k) nm with
      | none => rfl
      | some ob => have := (hkill nm ob hq').1; rw [hd.nom] at this; simp at this
    · rw [hbk] at hb
      exact ⟨st.mine k _ b hM hb, st.apart k _ b hM hb, fun j ob hj e => (hkill j ob hj).2 (st.inj j k ob _ b (hkill j ob hj).1 hM e hb)⟩
end
end Go.Proofs.Ytohglckebkgbpaa
