/-
  Maps that a call makes: a block that holds a list of keys and values, whatever the keys' type.
-/
import Derived.Test.YtohglckebkgbpaaLib
import Derived.MapKept
namespace Go.Proofs.Ytohglckebkgbpaa
open Go.RowKit

section
variable {κ : Type} [DecidableEq κ]
def aget {ν : Type} (k : κ) : List (κ × ν) → Option ν
  | [] => none
  | (k', v) :: l => if k = k' then some v else aget k l
def aput {ν : Type} (k : κ) (v : ν) : List (κ × ν) → List (κ × ν)
  | [] => [(k, v)]
  | (k', v') :: l => if k = k' then (k', v) :: l else (k', v') :: aput k v l
def afind {ν : Type} (k : κ) : List (κ × ν) → Nat → Option (Nat × ν)
  | [], _ => none
  | (k', v) :: l, i => if k = k' then some (i, v) else afind k l (i + 1)
theorem afind_snd {ν : Type} (k : κ) : ∀ (l : List (κ × ν)) (i : Nat), (afind k l i).map (·.2) = aget k l
  | [], i => rfl
  | (k', v) :: l, i => by
    simp only [afind, aget]
    split
    · rfl
    · exact afind_snd k l (i + 1)
theorem aget_aput {ν : Type} (k j : κ) (v : ν) : ∀ l : List (κ × ν), aget j (aput k v l) = if j = k then some v else aget j l
  | [] => by simp [aput, aget]
  | (k', v') :: l => by
    simp only [aput]
    by_cases h : k = k'
    · subst h
      simp only [if_true, aget]
      by_cases hj : j = k <;> simp [hj]
    · simp only [h, if_false, aget]
      by_cases hj : j = k'
      · subst hj
        simp [Ne.symm h]
      · simp only [hj, if_false]
        exact aget_aput k j v l
theorem aput_new {ν : Type} {k : κ} {v : ν} : ∀ {l : List (κ × ν)}, aget k l = none → aput k v l = l ++ [(k, v)]
  | [], _ => rfl
  | (k', v') :: l, h => by
    simp only [aget] at h
    by_cases hk : k = k'
    · simp [hk] at h
    · simp only [hk, if_false] at h
      simp only [aput, hk, if_false, List.cons_append, aput_new h]
theorem afind_none {ν : Type} {k : κ} {l : List (κ × ν)} {i : Nat} (h : afind k l i = none) : aget k l = none := by rw [← afind_snd k l i, h]; rfl
theorem afind_some {ν : Type} {k : κ} : ∀ {l : List (κ × ν)} {i j : Nat} {v : ν}, afind k l i = some (j, v) → i ≤ j ∧ j - i < l.length ∧ (l[j - i]?) = some (k, v) ∧ ∀ u, aput k u l = l.set (j - i) (k, u)
  | [], i, j, v, h => by simp [afind] at h
  | (k', v') :: l, i, j, v, h => by
    simp only [afind] at h
    by_cases hk : k = k'
    · simp only [hk, if_true, Option.some.injEq, Prod.mk.injEq] at h
      obtain ⟨rfl, rfl⟩ := h
      simp [hk, aput]
    · simp only [hk, if_false] at h
      obtain ⟨h1, h2, h3, h4⟩ := afind_some h
      have e : j - i = (j - (i + 1)) + 1 := by omega
      refine ⟨by omega, by simp; omega, by rw [e]; simpa using h3, fun u => ?_⟩
      rw [e]
      simp only [aput, hk, if_false, List.set_cons_succ, h4 u]
end

/-- how keys of a type are written, and that the machine finds them -/
structure KeyEnc (P : Program) (kt : TypeId) {κ : Type} [DecidableEq κ] (ek : κ → Value) : Prop where
  check : ∀ (empty : Bool) (k : κ) (w : World), (Instr.checkKey empty 10000 kt (ek k)).run P w = .ok () w
  find : ∀ (k : κ) (l : List (κ × Value)) (es : List MapEntry), es.map (fun e => (e.key, e.val)) = l.map (fun p => (ek p.1, p.2)) → ∀ w, (Instr.findKey kt (ek k) es).run P w = .ok (afind k l 0) w
  same : ∀ k, Instr.sameBits 10000 (ek k) (ek k) = true

/-- block b is a map whose entries are those of l, in this order -/
def MapAt {κ : Type} (ek : κ → Value) (w : World) (b : Nat) (l : List (κ × Value)) : Prop :=
  ∃ es clock, w.heap[b]? = some (.map es clock) ∧ es.toList.map (fun e => (e.key, e.val)) = l.map (fun p => (ek p.1, p.2)) ∧ (∀ e ∈ es.toList, e.born < clock) ∧ (es.toList.map (·.born)).Nodup

section
variable {P : Program} {κ : Type} [DecidableEq κ] {ek : κ → Value} {w w' : World} {b : Nat} {l : List (κ × Value)}

omit [DecidableEq κ] in
theorem MapAt.new (w : World) : MapAt ek (w.alloc (.map #[] 0)) w.heap.size ([] : List (κ × Value)) := by
  refine ⟨#[], 0, ?_, by simp, by simp, by simp⟩
  show (w.heap.push _)[w.heap.size]? = _
  simp
omit [DecidableEq κ] in
theorem MapAt.lt (h : MapAt ek w b l) : b < w.heap.size := by
  obtain ⟨es, c, hb, _⟩ := h
  exact (Array.getElem?_eq_some_iff.1 hb).1
omit [DecidableEq κ] in
theorem MapAt.kept (h : MapAt ek w b l) (hb : w'.heap[b]? = w.heap[b]?) : MapAt ek w' b l := by
  obtain ⟨es, c, h1, h2⟩ := h
  exact ⟨es, c, hb.trans h1, h2⟩
omit [DecidableEq κ] in
theorem MapAt.below (h : MapAt ek w b l) (hb : Below w.heap.size w w') : MapAt ek w' b l := h.kept (hb.block b h.lt)
omit [DecidableEq κ] in
theorem MapAt.no_cell (h : MapAt ek w b l) {a : Addr} (ha : a.block = b) : w.cell? a = none := by
  obtain ⟨es, c, h1, _⟩ := h
  simp [World.cell?, ha, h1]

theorem run_lookup_at {kt et : TypeId} (K : KeyEnc P kt ek) {t : TypeId} (ht : P.underlying t = some (.map kt et)) {z : Value} (hz : ∀ w, (zeroValue et).run P w = .ok z w) (h : MapAt ek w b l) (k : κ) (ok : Bool) :
    (Instr.lookup t (.map (some b)) (ek k) ok).run P w = .ok (if ok then .tuple #[(aget k l).getD z, .bool (aget k l).isSome] else (aget k l).getD z) w := by
  obtain ⟨es, c, h1, h2, _⟩ := h
  have hf := K.find k l es.toList h2 w
  have hc := K.check es.isEmpty k w
  have ha := afind_snd k l 0
  simp only [Instr.lookup, Sem.run_bind, run_underlying ht, Result.andThen_ok, Sem.run_pure, MapKept.run_getObj_map h1, hc, hf]
  cases hh : afind k l 0 with
  | none =>
    rw [hh] at ha
    have ha : aget k l = none := ha.symm
    simp only [Sem.run_bind, hz, Result.andThen_ok, Sem.run_pure, ha]
    cases ok <;> rfl
  | some p =>
    rw [hh] at ha
    have ha : aget k l = some p.2 := ha.symm
    simp only [ha]
    cases ok <;> rfl

theorem run_update_at {kt et : TypeId} (K : KeyEnc P kt ek) {t : TypeId} (ht : P.underlying t = some (.map kt et)) (h : MapAt ek w b l) (k : κ) (v : Value) :
    ∃ w', (Instr.mapUpdate t (.map (some b)) (ek k) v).run P w = .ok () w' ∧ MapAt ek w' b (aput k v l) ∧ w.grownBy w' (some b) ∧ w'.heap.size = w.heap.size ∧ ∀ a, w'.cell? a = w.cell? a := by
  have hn := h
  obtain ⟨es, c, h1, h2, h3, h4⟩ := h
  have hf := K.find k l es.toList h2 w
  have hc := K.check false k w
  have hlen : es.size = l.length := by have := congrArg List.length h2; simpa using this
  have hlt : b < w.heap.size := hn.lt
  have fin : ∀ es' c', es'.toList.map (fun e => (e.key, e.val)) = (aput k v l).map (fun p => (ek p.1, p.2)) → (∀ e ∈ es'.toList, e.born < c') → (es'.toList.map (·.born)).Nodup →
      MapAt ek { w with heap := w.heap.setIfInBounds b (.map es' c') } b (aput k v l) ∧ w.grownBy { w with heap := w.heap.setIfInBounds b (.map es' c') } (some b) ∧
        ({ w with heap := w.heap.setIfInBounds b (.map es' c') } : World).heap.size = w.heap.size ∧ ∀ a, ({ w with heap := w.heap.setIfInBounds b (.map es' c') } : World).cell? a = w.cell? a := by
    intro es' c' e1 e2 e3
    refine ⟨⟨es', c', by simp [hlt], e1, e2, e3⟩, ⟨rfl, rfl, rfl, by simp, fun i hi hne => ?_⟩, by simp, fun a => ?_⟩
    · have : i ≠ b := fun e => hne (by rw [e])
      simp [Ne.symm this]
    · by_cases ha : a.block = b
      · rw [hn.no_cell ha]
        simp [World.cell?, ha, hlt]
      · exact World.cell?_of_block (by simp [Ne.symm ha])
  simp only [Instr.mapUpdate, Sem.run_bind, run_underlying ht, Result.andThen_ok, MapKept.run_getObj_map h1, hc, hf]
  cases hh : afind k l 0 with
  | none =>
    have hk := afind_none hh
    refine ⟨_, MapKept.run_setObj_map _ h1, fin _ _ ?_ ?_ ?_⟩
    · rw [aput_new hk]; simp [h2]
    · intro e he
      simp only [Array.toList_push, List.mem_append, List.mem_singleton] at he
      rcases he with he | rfl
      · have := h3 e he; omega
      · simp
    · simp only [Array.toList_push, List.map_append, List.map_cons, List.map_nil]
      rw [List.nodup_append]
      refine ⟨h4, by simp, ?_⟩
      intro x hx y hy
      simp only [List.mem_singleton] at hy
      obtain ⟨e, he, rfl⟩ := List.mem_map.1 hx
      have := h3 e he
      omega
  | some p =>
    obtain ⟨j, u⟩ := p
    obtain ⟨_, g2, g3, g4⟩ := afind_some hh
    simp only [Nat.sub_zero] at g2 g3 g4
    have hj : j < es.size := by omega
    have hkey : es[j].key = ek k := by
      have := congrArg (fun m => m[j]?) h2
      simp only [List.getElem?_map, g3, Option.map_some] at this
      simp [hj] at this
      exact this.1
    have hks : (Instr.keyThatStays (((es[j]?).map (·.key)).getD (ek k)) (ek k)).run P w = .ok (ek k) w := by
      simp [Instr.keyThatStays, hj, hkey, K.same k]
    simp only [Sem.run_bind, hks, Result.andThen_ok]
    refine ⟨_, MapKept.run_setObj_map _ h1, fin _ _ ?_ ?_ ?_⟩
    · rw [g4 v, List.map_set, ← h2]
      apply List.ext_getElem?
      intro i
      simp only [List.getElem?_map, Array.getElem?_toList, Array.getElem?_modify, List.getElem?_set, List.length_map]
      by_cases hi : j = i
      · subst hi; simp [hj]
      · simp [hi]
    · intro e he
      rw [Array.mem_toList_iff, Array.mem_iff_getElem?] at he
      obtain ⟨i, hi⟩ := he
      rw [Array.getElem?_modify] at hi
      by_cases hij : j = i
      · subst hij
        simp [hj] at hi
        subst hi
        exact h3 es[j] (by simp)
      · simp only [hij, if_false] at hi
        exact h3 e (by rw [Array.mem_toList_iff, Array.mem_iff_getElem?]; exact ⟨i, hi⟩)
    · have : (es.modify j fun e => { e with key := ek k, val := v }).toList.map (·.born) = es.toList.map (·.born) := by
        apply List.ext_getElem?
        intro i
        simp only [List.getElem?_map, Array.getElem?_toList, Array.getElem?_modify]
        by_cases hi : j = i
        · subst hi; simp [hj]
        · simp [hi]
      rw [this]; exact h4
end

/-- ints as keys -/
def ekInt (n : Int) : Value := .int .i64 n
theorem findNow_int (k : Int) : ∀ (l : List (Int × Value)) (es : List MapEntry) (i : Nat), es.map (fun e => (e.key, e.val)) = l.map (fun p => (ekInt p.1, p.2)) → Instr.findNow (.int .i64) (ekInt k) es i = some (afind k l i)
  | [], es, i, h => by
    cases es with
    | nil => rfl
    | cons e es => simp at h
  | p :: l, es, i, h => by
    cases es with
    | nil => simp at h
    | cons e es =>
      simp only [List.map_cons, List.cons.injEq, Prod.mk.injEq] at h
      obtain ⟨⟨h1, h2⟩, h3⟩ := h
      simp only [Instr.findNow, h1, Instr.sameNow, ekInt, afind, if_true]
      by_cases hk : k = p.1
      · simp [hk, h2]
      · have : (k == p.1) = false := by simpa using hk
        simp only [this, hk, if_false]
        exact findNow_int k l es (i + 1) h3
theorem KeyEnc.int {P : Program} {kt : TypeId} (hk : P.underlying kt = some (.int .i64)) : KeyEnc P kt ekInt where
  check := fun e k w => by
    show (Instr.checkKey e (9999 + 1) kt _).run P w = _
    unfold Instr.checkKey
    simp [run_underlying hk, ekInt]
  find := fun k l es h w => by
    simp [Instr.findKey, run_underlying hk, findNow_int k l es 0 h]
  same := fun k => by simp [ekInt, Instr.sameBits]
end Go.Proofs.Ytohglckebkgbpaa
