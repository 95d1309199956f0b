/-
  What the evaluator says of an operation is so: parts of lists, stores.
-/
import Derived.Test.YtohglckebkgbpaaUf
namespace Go.Proofs.Ytohglckebkgbpaa
open Go.RowKit

/-- a segment of a list written anew -/
def seg {α : Type} (l vs : List α) (o : Nat) : List α := l.take o ++ vs ++ l.drop (o + vs.length)
theorem seg_len {α : Type} {l vs : List α} {o : Nat} (h : o + vs.length ≤ l.length) : (seg l vs o).length = l.length := by
  simp [seg]; omega
theorem seg_at {α : Type} {l vs : List α} {o : Nat} (h : o + vs.length ≤ l.length) (k : Nat) : (seg l vs o)[k]? = if k < o then l[k]? else if k < o + vs.length then vs[k - o]? else l[k]? := by
  unfold seg
  have hm : min o l.length = o := by omega
  rw [List.getElem?_append, List.getElem?_append]
  simp only [List.length_append, List.length_take, hm]
  by_cases h1 : k < o
  · simp [h1, show k < o + vs.length by omega, List.getElem?_take]
  · by_cases h2 : k < o + vs.length
    · simp [h1, h2]
    · simp only [h1, h2, if_false]
      rw [List.getElem?_drop]
      congr 1; omega
theorem set_seg {α : Type} (l : List α) (i : Nat) (v : α) (h : i < l.length) : l.set i v = seg l [v] i := by
  apply List.ext_getElem?
  intro k
  rw [seg_at (by simp; omega), List.getElem?_set]
  by_cases h1 : i = k
  · subst h1; simp [h]
  · by_cases h2 : k < i
    · simp [h1, h2]
    · have : ¬ k < i + 1 := by omega
      simp [h1, h2, this]
theorem grown_setRow (w : World) (g : Nat) (cs : Array Value) : w.grownBy (w.setRow g cs) (some g) := ⟨rfl, rfl, rfl, by simp, fun k _ hk => setRow_other w g k _ (fun e => hk (by simp [e]))⟩
theorem RepCs.set {F : Mem} {t : Ty} {us vs : List Value} {xs : List t.T} {i : Nat} {y : t.T} (h : RepCs F t us xs) (hi : i < xs.length) (hv : RepC F t vs y) : RepCs F t (seg us vs (i * t.sz)) (xs.set i y) := by
  have hl : i * t.sz + vs.length ≤ us.length := by
    rw [h.1, hv.len, ← Nat.succ_mul]
    exact Nat.mul_le_mul_right _ hi
  refine ⟨by rw [seg_len hl, h.1, List.length_set], fun j hj => ?_⟩
  rw [List.length_set] at hj
  by_cases e : i = j
  · subst e
    rw [List.getElem_set_self]
    have : ((seg us vs (i * t.sz)).drop (i * t.sz)).take t.sz = vs := by
      apply List.ext_getElem?
      intro k
      rw [List.getElem?_take]
      split
      · rename_i hk
        rw [List.getElem?_drop, seg_at hl]
        have h1 : ¬ i * t.sz + k < i * t.sz := by omega
        have h2 : i * t.sz + k < i * t.sz + vs.length := by rw [hv.len]; omega
        simp [h1, h2]
      · rename_i hk
        rw [List.getElem?_eq_none (by rw [hv.len]; omega)]
    rw [this]
    exact hv
  · rw [List.getElem_set_ne e]
    have : ((seg us vs (i * t.sz)).drop (j * t.sz)).take t.sz = (us.drop (j * t.sz)).take t.sz := by
      apply List.ext_getElem?
      intro k
      rw [List.getElem?_take, List.getElem?_take]
      split
      · rename_i hk
        rw [List.getElem?_drop, List.getElem?_drop, seg_at hl]
        rcases Nat.lt_or_gt_of_ne e with h1 | h1
        · have : (i + 1) * t.sz ≤ j * t.sz := Nat.mul_le_mul_right _ h1
          rw [Nat.succ_mul] at this
          have h2 : ¬ j * t.sz + k < i * t.sz := by omega
          have h3 : ¬ j * t.sz + k < i * t.sz + vs.length := by rw [hv.len]; omega
          simp [h2, h3]
        · have : (j + 1) * t.sz ≤ i * t.sz := Nat.mul_le_mul_right _ h1
          rw [Nat.succ_mul] at this
          have h2 : j * t.sz + k < i * t.sz := by omega
          simp [h2]
      · rfl
    rw [this]
    exact h.2 j hj
theorem leafA_pair {a b : Ty} {x : (Ty.pair a b).T} : leafA (.pair a b) x = leafA a x.1 ++ leafA b x.2 := appL_eq _ _
theorem RepCs'.app {ρ : Nat → Value} {F : Mem} {l m : List Cap} {us vs : List Value} (h : RepCs' ρ F l us) (k : RepCs' ρ F m vs) : RepCs' ρ F (l ++ m) (us ++ vs) := by
  refine ⟨by simp [h.1, k.1], fun j c hj => ?_⟩
  rw [List.getElem?_append] at hj
  by_cases hlt : j < us.length
  · rw [← h.1, if_pos hlt] at hj
    have := h.2 j c hj
    simpa [List.getD_eq_getElem?_getD, List.getElem?_append, hlt] using this
  · rw [← h.1, if_neg hlt] at hj
    have := k.2 _ c hj
    simpa [List.getD_eq_getElem?_getD, List.getElem?_append, hlt] using this
theorem RepCs'.nil {ρ : Nat → Value} {F : Mem} : RepCs' ρ F [] [] := ⟨rfl, fun j c hj => by simp at hj⟩
theorem RepCs'.one {ρ : Nat → Value} {F : Mem} {c : Cap} {u : Value} (h : RepCap ρ F c u) : RepCs' ρ F [c] [u] :=
  ⟨rfl, fun j c' hj => by match j, hj with | 0, hj => simp at hj; subst hj; exact h⟩
theorem leafA_rep {ρ : Nat → Value} {F : Mem} : ∀ {t : Ty} {us : List Value} {x : t.T}, RepC F t us x → RepCs' ρ F (leafA t x) us
  | .unit, us, x, h => by rw [show us = [] from h]; exact RepCs'.nil
  | .pair a b, us, x, h => by
    obtain ⟨u1, u2, rfl, h1, h2⟩ := h
    rw [leafA_pair]
    exact (leafA_rep h1).app (leafA_rep h2)
  | .st b, us, x, h => leafA_rep (t := b) h
  | .arr n e, us, xs, h => by
    obtain ⟨h1, h2, _, h4⟩ := h
    have key : ∀ (xs : List e.T) (us : List Value), us.length = xs.length * e.sz → (∀ i (hi : i < xs.length), RepC F e ((us.drop (i * e.sz)).take e.sz) xs[i]) → RepCs' ρ F (leafs (leafA e) xs) us := by
      intro xs
      induction xs with
      | nil => intro us hl _; have : us = [] := List.eq_nil_of_length_eq_zero (by simpa using hl); subst this; exact RepCs'.nil
      | cons x xs ih =>
        intro us hl hr
        have h0 := hr 0 (by simp)
        simp only [Nat.zero_mul, List.drop_zero, List.getElem_cons_zero] at h0
        simp only [leafs, appL_eq]
        rw [← List.take_append_drop e.sz us]
        refine (leafA_rep h0).app (ih (us.drop e.sz) (by simp [hl, Nat.succ_mul]) fun i hi => ?_)
        have := hr (i + 1) (by simpa using hi)
        rw [List.drop_drop, Nat.add_comm, ← Nat.succ_mul]
        simpa using this
    exact key xs us (by rw [h1, h2]) h4
  | .tup _, _, _, h => h.elim
  | .int k, us, x, h => by
    obtain ⟨rfl, h1⟩ := h
    exact RepCs'.one (c := .d (.int k) x) ⟨rfl, h1⟩
  | .bool, us, x, h => by
    cases (show us = _ from h)
    exact RepCs'.one (c := .d .bool x) rfl
  | .str, us, x, h => by
    obtain ⟨rfl, h1⟩ := h
    exact RepCs'.one (c := .d .str x) ⟨rfl, h1⟩
  | .sl e, us, x, h => by
    obtain ⟨u, rfl⟩ := take_one h.len
    exact RepCs'.one (c := .d (.sl e) x) h
theorem leafN_rep {ρ : Nat → Value} {F : Mem} : ∀ {t : Ty} {us r : List Value}, zeroB t us = some r → ∃ u, us = u ++ r ∧ RepCs' ρ F (leafN t) u
  | .pair a b, us, r, h => by
    simp only [zeroB] at h
    cases h1 : zeroB a us with
    | none => rw [h1] at h; simp at h
    | some m =>
      rw [h1] at h
      obtain ⟨u1, rfl, k1⟩ := leafN_rep (ρ := ρ) (F := F) h1
      obtain ⟨u2, rfl, k2⟩ := leafN_rep (ρ := ρ) (F := F) h
      refine ⟨u1 ++ u2, by simp, ?_⟩
      simp only [leafN, appL_eq]
      exact k1.app k2
  | .st b, us, r, h => leafN_rep (t := b) h
  | .sl e, us, r, h => by
    cases us with
    | nil => simp [zeroB] at h
    | cons u us =>
      unfold zeroB at h
      split at h <;> try (simp at h; done)
      all_goals (try (simp_all; done))
      rename_i heq
      simp only [Option.some.injEq] at h
      subst h
      cases heq
      exact ⟨[_], rfl, RepCs'.one (c := .nil) rfl⟩
  | .unit, us, r, h => let ⟨u, e, k⟩ := zeroB_rep (F := F) h; ⟨u, e, leafA_rep k⟩
  | .arr n e, us, r, h => let ⟨u, e', k⟩ := zeroB_rep (F := F) h; ⟨u, e', leafA_rep k⟩
  | .int k, us, r, h => let ⟨u, e, q⟩ := zeroB_rep (F := F) h; ⟨u, e, leafA_rep q⟩
  | .bool, us, r, h => let ⟨u, e, q⟩ := zeroB_rep (F := F) h; ⟨u, e, leafA_rep q⟩
  | .str, us, r, h => let ⟨u, e, q⟩ := zeroB_rep (F := F) h; ⟨u, e, leafA_rep q⟩
  | .tup b, us, r, h => let ⟨u, e, q⟩ := zeroB_rep (F := F) h; ⟨u, e, leafA_rep q⟩
theorem leafN_zero {ρ : Nat → Value} {F : Mem} {t : Ty} {z : Value} (h : zeroVB t z = true) : RepCs' ρ F (leafN t) z.cells.toList := by
  cases t with
  | st b =>
    cases z <;> try (simp [zeroVB] at h; done)
    rename_i cs
    simp only [zeroVB] at h
    split at h
    · rename_i hz
      obtain ⟨u, hu, k⟩ := leafN_rep (ρ := ρ) (F := F) hz
      rw [List.append_nil] at hu
      show RepCs' ρ F (leafN b) cs.toList
      rw [hu]
      exact k
    · simp at h
  | sl e =>
    unfold zeroVB at h
    split at h <;> try (simp_all; done)
    exact RepCs'.one (c := .nil) rfl
  | unit => exact leafA_rep (zeroVB_rep (F := F) h).1
  | arr n e => exact leafA_rep (zeroVB_rep (F := F) h).1
  | int k => exact leafA_rep (zeroVB_rep (F := F) h).1
  | bool => exact leafA_rep (zeroVB_rep (F := F) h).1
  | str => exact leafA_rep (zeroVB_rep (F := F) h).1
  | tup b => exact leafA_rep (zeroVB_rep (F := F) h).1
  | pair a b => simp [zeroVB] at h
theorem sub_rep {F : Mem} {τ : Ty} {xs : List τ.T} {ad : Option Addr} {n cap l h m : Nat} (hr : RepC F (.sl τ) [.slice ad n cap] xs) (h1 : l ≤ h) (h2 : h ≤ xs.length) (h3 : h ≤ m) (h4 : m ≤ cap) :
    RepC F (.sl τ) [.slice (if m = l then ad else ad.map (·.add (l * τ.sz))) (h - l) (m - l)] ((xs.take h).drop l) := by
  obtain ⟨ad', cap', e, c1, c2, c3⟩ := hr
  simp only [List.cons.injEq, Value.slice.injEq, and_true] at e
  obtain ⟨rfl, rfl, rfl⟩ := e
  have hlen : ((xs.take h).drop l).length = h - l := by simp; omega
  refine ⟨_, m - l, by rw [hlen], by rw [hlen]; omega, by omega, fun i hi => ?_⟩
  rw [hlen] at hi
  obtain ⟨b, off, vs, rfl, k1, k2⟩ := c3 (l + i) (by omega)
  refine ⟨b, off + l * τ.sz, vs, ?_, fun j u hj => ?_, ?_⟩
  · rw [if_neg (by omega)]
    simp [add_mk]
  · have := k1 j u hj
    rw [Nat.add_mul] at this
    rw [show off + l * τ.sz + (i * τ.sz + j) = off + (l * τ.sz + i * τ.sz + j) by omega]
    exact this
  · have e : List.get ((xs.take h).drop l) ⟨i, by rw [hlen]; exact hi⟩ = List.get xs ⟨l + i, by omega⟩ := by simp
    rw [e]
    exact k2

section
variable {P : Program} {T : Tab} {B : Bx} {ρ : Nat → Value} {F : Mem} {M : Mm} {w : World} {o : Oper} {ρ0 : Operand → Value} {d : Option Nat} {evf : Operand → AV}
theorem cell_one {v : AV} {u : Value} (st : St B ρ F M w) (h : v.cellB M = true) (r : RepA ρ F v u) : u.cells = #[u] ∧ u.oneCell' = true := by
  cases v with
  | c y =>
    cases y with
    | any => simp [AV.cellB] at h
    | nil => rw [show u = _ from r]; exact ⟨rfl, rfl⟩
    | d t x => exact repv_one h r
    | kp t x => obtain ⟨_, _, _, rfl, _⟩ := r; exact ⟨rfl, rfl⟩
    | hp k off => obtain ⟨_, _, rfl⟩ := r; exact ⟨rfl, rfl⟩
    | hs hh =>
      simp only [AV.cellB] at h
      rw [show u = ρ hh from r]
      split at h <;> simp at h
      · rename_i e t xs hM
        obtain ⟨us, h1, _⟩ := st.obs hh _ hM
        rcases h1.2 with ⟨e1, _⟩ | ⟨_, _, _, e1, _⟩ <;> rw [e1] <;> exact ⟨rfl, rfl⟩
      · rename_i k v l hM
        obtain ⟨b, ls, e1, _⟩ := st.obs hh _ hM
        rw [e1]; exact ⟨rfl, rfl⟩
  | he k t i => obtain ⟨_, _, _, _, _, rfl⟩ := r; exact ⟨rfl, rfl⟩
  | hv k t l r' => obtain ⟨_, _, _, _, _, _, _, _, rfl⟩ := r; exact ⟨rfl, rfl⟩
  | fn f l => obtain ⟨_, rfl, _⟩ := r; exact ⟨rfl, rfl⟩
  | _ => simp [AV.cellB] at h
theorem caps_one (st : St B ρ F M w) : ∀ {l : List Cap} {us : List Value}, capsB M l = true → RepCs' ρ F l us → ∀ u ∈ us, u.oneCell' = true
  | [], us, _, h, u, hu => by have : us = [] := List.eq_nil_of_length_eq_zero (by simpa using h.1); subst this; simp at hu
  | c :: l, us, hb, h, u, hu => by
    cases us with
    | nil => simp at hu
    | cons v us =>
      simp only [capsB, Bool.and_eq_true] at hb
      rcases List.mem_cons.1 hu with rfl | hu
      · exact (cell_one st hb.1 (h.2 0 c rfl)).2
      · exact caps_one st hb.2 (us := us) ⟨by simpa using h.1, fun j c' hj => by simpa using h.2 (j + 1) c' (by simpa using hj)⟩ u hu
/-- a value's cells -/
theorem agA_some {t : Ty} {a : AV} {l : List Cap} (h : agA t a = some l) : a = .ag l := by
  cases a with
  | ag m =>
    cases t with
    | st b =>
      simp only [agA] at h
      cases hb : Nat.beq (lenL m) b.sz with
      | false => rw [hb] at h; simp at h
      | true =>
        rw [hb] at h
        simp only [cond_true, Option.some.injEq] at h
        rw [h]
    | _ => simp [agA] at h
  | _ => simp [agA] at h
theorem leaves_rep {t : Ty} {a : AV} {v : Value} {l : List Cap} (ht : t.isT = false) (st : St B ρ F M w) (h : a.leaves M t = some l) (r : RepA ρ F a v) : RepCs' ρ F l v.cells.toList := by
  unfold AV.leaves at h
  cases hg : agA t a with
  | some m =>
    rw [hg] at h
    simp only [Option.some.injEq] at h
    subst h
    have := agA_some hg
    subst this
    obtain ⟨vs, rfl, r1⟩ := r
    simpa [Value.cells] using r1
  | none =>
  rw [hg] at h
  simp only at h
  cases hx : a.as t with
  | some x =>
    rw [hx] at h
    simp only [Option.some.injEq] at h
    subst h
    exact leafA_rep ((as_rep hx r).cells ht)
  | none =>
    rw [hx] at h
    simp only at h
    cases a with
    | c x =>
      simp only at h
      cases hk : (t.cell && (AV.c x).cellB M) with
      | false => rw [hk] at h; simp at h
      | true =>
        rw [hk] at h
        simp only [cond_true, Option.some.injEq] at h
        subst h
        rw [Bool.and_eq_true] at hk
        rw [(cell_one st hk.2 r).1]
        exact RepCs'.one r
    | _ => simp at h
theorem segL_eq {α : Type} (l vs : List α) (o : Nat) : segL l vs o = seg l vs o := by simp [segL, seg, appL_eq, takeL_eq, dropL_eq, lenL_eq]
theorem run_storeVar {t : TypeId} {inf : TypeInfo} {b off : Nat} {e : TypeId} {cur : Array Value} {v : Value} (hi : P.info? t = some inf) (hs : v.cells.size = inf.size) (hb : w.heap[b]? = some (.cells cur e (0, 0))) (hfit : off + v.cells.size ≤ cur.size) (h1 : ∀ u ∈ v.cells.toList, u.oneCell' = true) :
    (storeVar t ⟨b, off, none⟩ v).run P w = .ok () (w.setRow b (seg cur.toList v.cells.toList off).toArray) := by
  have := run_storeCells_at P b off e v.cells.toList 0 cur w hb (by simpa using hfit) h1
  simp only [Nat.add_zero] at this
  simp [storeVar, sizeOf, typeInfo, hi, hs, this, seg]
/-- a store into an object -/
theorem s_store {t : TypeId} {p x : Operand} {τ : Ty} {M' : Mm} (hT : tabB P T = true) (st : St B ρ F M w) (hev : ∀ x, RepA ρ F (evf x) (ρ0 x)) (ho : o.op = .store t p x) (ht : T.ty t = some τ) {wr : Nat → Bool} (h : storeA M wr τ (evf p) (evf x) = some M') : OpOk P B ρ F w o ρ0 d .any M' := by
  obtain ⟨ti, hl, rfl⟩ := ty_look ht
  have hti := tab_ti hT hl
  obtain ⟨inf, z, hi, hs, _⟩ := ti_info hti
  have hp := hev p
  have hx := hev x
  generalize evf p = ap at h hp
  generalize evf x = ax at h hx
  have key : ∀ (b off : Nat) (e : TypeId) (cur : Array Value), ρ0 p = .pointer (some ⟨b, off, none⟩) → w.heap[b]? = some (.cells cur e (0, 0)) → (ρ0 x).cells.size = ti.ty.sz → off + (ρ0 x).cells.size ≤ cur.size → (∀ u ∈ (ρ0 x).cells.toList, u.oneCell' = true) →
      St B ρ F M' (w.setRow b (seg cur.toList (ρ0 x).cells.toList off).toArray) → OpOk P B ρ F w o ρ0 d .any M' := by
    intro b off e cur h1 h2 h3 h4 h5 h6
    refine ⟨.skip, _, undef, ρ, F, ?_, .inr ⟨rfl, rfl⟩, trivial, h6, fun _ _ => rfl, fun _ _ e => e⟩
    simp only [execOp, ho, Instr.storeAt, Instr.sureAddr, h1, Sem.run_bind, Sem.run_pure, Result.andThen_ok, run_storeVar (P := P) hi (h3.trans hs.symm) h2 h4 h5]
  unfold storeA at h
  simp only [lenL_eq, setL_eq, segL_eq] at h
  split at h
  · rename_i hh t' i
    split at h <;> try (simp at h; done)
    rename_i e
    subst e
    cases hwr : wr hh with
    | false => rw [hwr] at h; simp at h
    | true =>
    rw [hwr] at h
    simp only [cond_true] at h
    split at h <;> try (simp at h; done)
    rename_i E te xs hM
    split at h <;> try (simp at h; done)
    rename_i y hy
    split at h <;> simp only [Option.some.injEq, reduceCtorEq] at h
    rename_i e
    subst e
    subst h
    obtain ⟨b, n, cap, hρ, hin, hv⟩ := hp
    obtain ⟨hn, us, h1, h2⟩ := row_at st hM hρ
    have hxr := as_rep hy hx
    have hxc := hxr.cells (ti_isT hti)
    rcases h1.2 with ⟨e1, _⟩ | ⟨g, cap', cur, e1, hg0, hg, hnc, hcm, hcs, htk⟩
    · simp at e1
    simp only [Value.slice.injEq, Option.some.injEq, Addr.mk.injEq, and_true, true_and] at e1
    obtain ⟨rfl, rfl⟩ := e1
    have hsz := hxc.len
    rw [Array.length_toList] at hsz
    have hfit : i * ti.ty.sz + (ρ0 x).cells.size ≤ n * ti.ty.sz := by rw [hsz, ← Nat.succ_mul]; exact Nat.mul_le_mul_right _ hin
    have hfit2 : n * ti.ty.sz ≤ cur.size := by rw [hcs]; exact Nat.mul_le_mul_right _ hnc
    refine key b _ E cur hv hg hsz (Nat.le_trans hfit hfit2) hxc.one ?_
    refine st.put hh (.row E ti.ty xs) (.row E ti.ty (xs.set i y)) b hM (by rw [hρ]; rfl) (grown_setRow w b _) ?_
    have hlen : i * ti.ty.sz + (ρ0 x).cells.toList.length ≤ cur.toList.length := by simp; omega
    have hus : us.length = n * ti.ty.sz := h1.1
    refine ⟨seg us (ρ0 x).cells.toList (i * ti.ty.sz), ⟨?_, .inr ⟨b, cap, _, ?_, hg0, setRow_heap w b cur _ E _ hg, ?_, hcm, ?_, ?_⟩⟩, h2.set (by omega) hxc⟩
    · rw [seg_len (by rw [hus]; simpa using hfit), hus, List.length_set, hn]
    · rw [hρ, List.length_set, hn]
    · rw [List.length_set]; omega
    · rw [← hcs]
      have := seg_len hlen
      simpa using this
    · rw [List.length_set, ← hn]
      apply List.ext_getElem?
      intro k
      rw [List.getElem?_take]
      split
      · rename_i hk
        have hk' : us[k]? = cur.toList[k]? := by rw [← htk, List.getElem?_take, if_pos hk]
        have a1 := seg_at hlen k
        have a2 := seg_at (l := us) (vs := (ρ0 x).cells.toList) (o := i * ti.ty.sz) (by rw [hus]; simpa using hfit) k
        simp only [List.toList_toArray] at a1 ⊢
        rw [a1, a2, hk']
      · rename_i hk
        rw [List.getElem?_eq_none]
        rw [seg_len (by rw [hus]; simpa using hfit), hus]
        omega
  · rename_i hh off
    cases hwr : wr hh with
    | false => rw [hwr] at h; simp at h
    | true =>
    rw [hwr] at h
    simp only [cond_true] at h
    split at h <;> try (simp at h; done)
    rename_i cs hM
    obtain ⟨b, hρ, hv⟩ := hp
    obtain ⟨b', arr, E, e1, e3, e4, e5, e6⟩ := st.obs hh _ hM
    rw [hρ] at e1
    simp only [Value.pointer.injEq, Option.some.injEq, Addr.mk.injEq, and_true] at e1
    subst e1
    have fin : ∀ (leaves : List AV), leaves.length = (ρ0 x).cells.size → off + (ρ0 x).cells.size ≤ cs.length → (ρ0 x).cells.size = ti.ty.sz → (∀ u ∈ (ρ0 x).cells.toList, u.oneCell' = true) → (∀ j c, leaves[j]? = some c → RepA ρ F c ((ρ0 x).cells.toList.getD j undef)) →
        M' = upd M hh (some (.cells (seg cs leaves off))) → OpOk P B ρ F w o ρ0 d .any M' := by
      intro leaves l1 l2 l3 l4 l5 hM'
      have hlen : off + (ρ0 x).cells.toList.length ≤ arr.toList.length := by simp; omega
      refine key b off E arr hv e3 l3 (by omega) l4 ?_
      rw [hM']
      refine st.put hh _ _ b hM (by rw [hρ]; rfl) (grown_setRow w b _) ⟨b, _, E, hρ, setRow_heap w b arr _ E _ e3, ?_, ?_, ?_⟩
      · have := seg_len hlen
        rw [seg_len (by omega)]
        simpa [e4] using this
      · intro u hu
        simp only [seg, List.toList_toArray, List.mem_append] at hu
        rcases hu with (hu | hu) | hu
        · exact e5 u (List.mem_of_mem_take hu)
        · exact l4 u hu
        · exact e5 u (List.mem_of_mem_drop hu)
      · intro j c hj
        rw [seg_at (by omega)] at hj
        have a1 := seg_at hlen j
        have a2 : (seg arr.toList (ρ0 x).cells.toList off).toArray.getD j undef = ((seg arr.toList (ρ0 x).cells.toList off)[j]?).getD undef := by
          simp [Array.getD_eq_getD_getElem?]
        rw [a2, a1]
        simp only [Array.length_toList] at *
        rw [l1] at hj
        split at hj
        · rename_i h1
          rw [if_pos h1]
          have := e6 j c hj
          simpa [Array.getD_eq_getD_getElem?] using this
        · rename_i h1
          rw [if_neg h1]
          split at hj
          · rename_i h2
            rw [if_pos h2]
            have := l5 _ c hj
            simpa [List.getD_eq_getElem?_getD] using this
          · rename_i h2
            rw [if_neg h2]
            have := e6 j c hj
            simpa [Array.getD_eq_getD_getElem?] using this
    cases hc : ti.ty.cell with
    | true =>
      rw [hc] at h
      simp only [cond_true] at h
      cases hb : (ax.cellB M && Nat.blt off cs.length) with
      | false => rw [hb] at h; simp at h
      | true =>
        rw [hb] at h
        simp only [cond_true, Option.some.injEq] at h
        rw [Bool.and_eq_true] at hb
        have hlt : off < cs.length := by have := hb.2; simp [Nat.blt] at this; omega
        obtain ⟨q1, q2⟩ := cell_one st hb.1 hx
        refine fin [ax] (by rw [q1]; rfl) (by rw [q1]; show off + 1 ≤ _; omega) (by rw [q1, cell_sz hc]; rfl) (by rw [q1]; simpa using q2) ?_ (by rw [← h, set_seg _ _ _ hlt])
        intro j c hj
        match j, hj with
        | 0, hj => simp at hj; subst hj; rw [q1]; exact hx
    | false =>
      rw [hc] at h
      simp only [cond_false] at h
      split at h <;> try (simp at h; done)
      rename_i bb hbb
      split at h <;> try (simp at h; done)
      rename_i l hl
      cases hb : (Nat.ble (off + bb.sz) cs.length && Nat.beq l.length bb.sz && capsB M l) with
      | false => rw [hb] at h; simp at h
      | true =>
        rw [hb] at h
        simp only [cond_true, Option.some.injEq] at h
        simp only [Bool.and_eq_true] at hb
        obtain ⟨⟨hb1, hb2⟩, hb3⟩ := hb
        have hle := Nat.le_of_ble_eq_true hb1
        have hll := Nat.eq_of_beq_eq_true hb2
        have q2 := leaves_rep rfl st hl hx
        have q4 : (ρ0 x).cells.size = l.length := by rw [← Array.length_toList, q2.1]
        refine fin (avs l) (by rw [avs_len, q4]) (by rw [q4, hll]; exact hle) (by rw [q4, hll, hbb]; rfl) (caps_one st hb3 q2) (fun j c hj => ?_) h.symm
        rw [avs_get] at hj
        cases hj' : l[j]? with
        | none => rw [hj'] at hj; simp at hj
        | some c' =>
          rw [hj'] at hj
          simp only [Option.map_some, Option.some.injEq] at hj
          subst hj
          exact q2.2 j c' hj'
  · simp at h
end
end Go.Proofs.Ytohglckebkgbpaa
