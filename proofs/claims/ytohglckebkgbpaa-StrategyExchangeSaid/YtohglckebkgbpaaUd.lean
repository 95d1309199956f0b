/-
  What the evaluator says of an operation is so: operations that only compute and read.
-/
import Derived.Test.YtohglckebkgbpaaUc
namespace Go.Proofs.Ytohglckebkgbpaa
open Go.RowKit

/-- an operation, run: its value, the memory behind it -/
def OpOk (P : Program) (B : Bx) (ρ : Nat → Value) (F : Mem) (w : World) (o : Oper) (ρ0 : Operand → Value) (d : Option Nat) (val : AV) (M' : Mm) : Prop :=
  ∃ n w' v ρ' F', (execOp ρ0 o).run P w = .ok n w' ∧ (n = .value v ∨ (n = .skip ∧ v = undef)) ∧ RepA ρ' F' val v ∧ St B ρ' F' M' w' ∧ (∀ k, some k ≠ d → ρ' k = ρ k) ∧ Sub F F'

section
variable {P : Program} {T : Tab} {B : Bx} {ρ : Nat → Value} {F : Mem} {M : Mm} {w : World} {o : Oper} {ρ0 : Operand → Value} {d : Option Nat} {evf : Operand → AV}
theorem ok_value {v : Value} {val : AV} (st : St B ρ F M w) (hr : (execOp ρ0 o).run P w = .ok (.value v) w) (r : RepA ρ F val v) : OpOk P B ρ F w o ρ0 d val M :=
  ⟨_, w, v, ρ, F, hr, .inl rfl, r, st, fun _ _ => rfl, fun _ _ e => e⟩

theorem rep_int {k : IntKind} {n : Int} {v : Value} (h : RepA ρ F (.d (.int k) n) v) : v = .int k n ∧ inK k n := by
  obtain ⟨e, h1⟩ := h
  exact ⟨by simpa using e, h1⟩
theorem rep_bool {b : Bool} {v : Value} (h : RepA ρ F (.d .bool b) v) : v = .bool b := by
  have e : [v] = [Value.bool b] := h
  simpa using e
theorem rep_str {s : List UInt8} {v : Value} (h : RepA ρ F (.d .str s) v) : v = .string ⟨s.toArray⟩ ∧ s.length ≤ maxLen := by
  obtain ⟨e, h1⟩ := h
  exact ⟨by simpa using e, h1⟩
theorem rep_sl {t : Ty} {xs : List t.T} {v : Value} (h : RepA ρ F (.d (.sl t) xs) v) : ∃ ad cap, v = .slice ad xs.length cap ∧ xs.length ≤ cap ∧ cap ≤ maxLen ∧
      ∀ i (h : i < xs.length), ∃ b off vs, ad = some ⟨b, off, none⟩ ∧ (∀ j u, vs[j]? = some u → F ⟨b, off + (i * t.sz + j), none⟩ = some u) ∧ RepC F t vs xs[i] := by
  obtain ⟨ad, cap, e, r⟩ := h
  exact ⟨ad, cap, by simpa using e, r⟩
theorem mk_int {k : IntKind} {n : Int} (h : inK k n) : RepA ρ F (.d (.int k) n) (.int k n) := ⟨rfl, h⟩
theorem mk_bool {b : Bool} : RepA ρ F (.d .bool b) (.bool b) := rfl

theorem typed_rep {ty : TypeId} {x : AV} {v : Value} (r : RepA ρ F x v) : RepA ρ F (typed T ty x) v := by
  unfold typed
  split
  · rename_i cs
    have hv : v = .agg cs := r
    split
    · rename_i b hb
      split
      · rename_i hz
        obtain ⟨u, hu, k⟩ := zeroB_rep (F := F) hz
        rw [List.append_nil] at hu
        refine ⟨cs.toList, by rw [hv], ?_⟩
        rw [hu]
        exact k
      · exact hv
    · rename_i n e hb
      split
      · rename_i hz
        obtain ⟨u, hu, k⟩ := zeroB_rep (F := F) hz
        rw [List.append_nil] at hu
        refine ⟨cs.toList, by rw [hv], ?_⟩
        rw [hu]
        exact k
      · exact hv
    · exact hv
  · exact r

theorem s_move {x : Operand} (st : St B ρ F M w) (hev : ∀ x, RepA ρ F (evf x) (ρ0 x)) (ho : o.op = .move x) : OpOk P B ρ F w o ρ0 d (typed T o.type (evf x)) M :=
  ok_value (v := ρ0 x) st (by simp [execOp, ho]) (typed_rep (hev x))
theorem s_assign {x : Operand} (st : St B ρ F M w) (hev : ∀ x, RepA ρ F (evf x) (ρ0 x)) (ho : o.op = .assign x) : OpOk P B ρ F w o ρ0 d (typed T o.type (evf x)) M :=
  ok_value (v := ρ0 x) st (by simp [execOp, ho]) (typed_rep (hev x))

theorem s_pick {c a b : Operand} (st : St B ρ F M w) (hev : ∀ x, RepA ρ F (evf x) (ρ0 x)) (ho : o.op = .pick c a b) {g : Bool} (hc : evf c = .d .bool g) {p : Option Prop × AV} (hp : pickA g (evf a) (evf b) = some p) (hob : ∀ q, p.1 = some q → q) : OpOk P B ρ F w o ρ0 d p.2 M := by
  have hcv := rep_bool (by have := hev c; rwa [hc] at this)
  have ha := hev a
  have hb := hev b
  refine ok_value (v := if g then ρ0 a else ρ0 b) st ?_ ?_
  · simp only [execOp, ho, hcv, asBool, Sem.run_bind, Sem.run_pure, Result.andThen_ok]
  · unfold pickA at hp
    split at hp <;> simp only [Option.some.injEq, reduceCtorEq] at hp
    · rename_i x y e1 e2
      subst hp
      rw [e1] at ha; rw [e2] at hb
      have h1 := rep_bool ha; have h2 := rep_bool hb
      cases g
      · simpa [h2, selB] using mk_bool
      · simpa [h1, selB] using mk_bool
    · rename_i g0 x y e1 e2
      subst hp
      rw [e1] at ha; rw [e2] at hb
      have h2 := rep_bool hb
      have hg := hob _ rfl
      cases g
      · simpa [h2, selB] using mk_bool
      · have h1 := rep_bool (ha.1 (hg rfl))
        simpa [h1, selB] using mk_bool
    · rename_i x g0 y e1 e2
      subst hp
      rw [e1] at ha; rw [e2] at hb
      have h1 := rep_bool ha
      have hg := hob _ rfl
      cases g
      · have h2 := rep_bool (hb.1 (hg rfl))
        simpa [h2, selB] using mk_bool
      · simpa [h1, selB] using mk_bool

theorem eqGuard_int {op : BinOp} {t : TypeId} {x y : Operand} {k k' : IntKind} {a b : Int} : (eqGuard op t x y (.int k a) (.int k' b)).run P w = .ok () w := by cases op <;> rfl
theorem eqGuard_bool {op : BinOp} {t : TypeId} {x y : Operand} {a b : Bool} : (eqGuard op t x y (.bool a) (.bool b)).run P w = .ok () w := by cases op <;> rfl
theorem eqGuard_str {op : BinOp} {t : TypeId} {x y : Operand} {a b : ByteArray} : (eqGuard op t x y (.string a) (.string b)).run P w = .ok () w := by cases op <;> rfl
theorem run_intBin {P : Program} {w : World} {op : BinOp} {k : IntKind} {a b : Int} {t : TypeId} {p : Option Prop × AV} (ha : inK k a) (hb : inK k b) (h : intB op k a b = some p) (hob : ∀ q, p.1 = some q → q) :
    ∃ v, (binOp op t (.int k a) (.int k b)).run P w = .ok v w ∧ RepA ρ F p.2 v := by
  unfold intB at h
  split at h <;> simp only [Option.some.injEq, reduceCtorEq] at h <;> subst h
  case h_1 => have h := hob _ rfl; exact ⟨.int k (a + b), by simp [binOp, Op.intArith, wrap_inK h], mk_int h⟩
  case h_2 => have h := hob _ rfl; exact ⟨.int k (a - b), by simp [binOp, Op.intArith, wrap_inK h], mk_int h⟩
  case h_3 => have h := hob _ rfl; exact ⟨.int k (a * b), by simp [binOp, Op.intArith, wrap_inK h], mk_int h⟩
  case h_4 =>
    have h := hob _ rfl
    have h0 : b ≠ 0 := by omega
    have hin : inK k (a / b) := ⟨by have := ha.1; have h2 : 0 ≤ a / b := Int.ediv_nonneg h.1 (by omega); have : lo k ≤ 0 := (inK0 k).1; omega, by have := ha.2; have : a / b ≤ a := Int.ediv_le_self _ h.1; omega⟩
    exact ⟨.int k (a / b), by simp [binOp, Op.intDiv, h0, Int.tdiv_eq_ediv_of_nonneg h.1, wrap_inK hin], mk_int hin⟩
  case h_5 =>
    have h := hob _ rfl
    have h0 : b ≠ 0 := by omega
    have hin : inK k (a % b) := ⟨by have h2 : 0 ≤ a % b := Int.emod_nonneg _ h0; have : lo k ≤ 0 := (inK0 k).1; omega, by have := hb.2; have : a % b < b := Int.emod_lt_of_pos _ h.2; omega⟩
    exact ⟨.int k (a % b), by simp [binOp, Op.intDiv, h0, Int.tmod_eq_emod_of_nonneg h.1], mk_int hin⟩
  case h_6 => exact ⟨.bool (decide (a = b)), by simp [binOp, Op.intCmp, BEq.beq], mk_bool⟩
  case h_7 => exact ⟨.bool (!decide (a = b)), by simp [binOp, Op.intCmp, bne, BEq.beq], mk_bool⟩
  case h_8 => exact ⟨.bool (decide (a < b)), by simp [binOp, Op.intCmp], mk_bool⟩
  case h_9 => exact ⟨.bool (decide (a ≤ b)), by simp [binOp, Op.intCmp], mk_bool⟩
  case h_10 => exact ⟨.bool (decide (b < a)), by simp [binOp, Op.intCmp], mk_bool⟩
  case h_11 => exact ⟨.bool (decide (b ≤ a)), by simp [binOp, Op.intCmp], mk_bool⟩
theorem bytes_toList (l : List UInt8) : (ByteArray.mk l.toArray).toList = l := by rw [ByteArray.toList_eq]
theorem bytes_size (l : List UInt8) : (ByteArray.mk l.toArray).size = l.length := by simp [ByteArray.size]
theorem bytes_append (a b : List UInt8) : ByteArray.mk a.toArray ++ ByteArray.mk b.toArray = ByteArray.mk (a ++ b).toArray := by
  apply ByteArray.ext
  simp [ByteArray.data_append]
theorem list_beq (a b : List UInt8) : (a == b) = decide (a = b) := by rw [Bool.eq_iff_iff]; simp
theorem run_strBin {P : Program} {w : World} {op : BinOp} {a b : List UInt8} {t : TypeId} {p : Option Prop × AV} (h : strB op a b = some p) (hob : ∀ q, p.1 = some q → q) :
    ∃ v, (binOp op t (.string ⟨a.toArray⟩) (.string ⟨b.toArray⟩)).run P w = .ok v w ∧ RepA ρ F p.2 v := by
  unfold strB at h
  split at h <;> simp only [Option.some.injEq, reduceCtorEq] at h <;> subst h
  case h_1 =>
    have h : a.length + b.length ≤ 4294967296 := hob _ rfl
    refine ⟨.string ⟨(a ++ b).toArray⟩, ?_, rfl, by simp [maxLen]; omega⟩
    have h2 : ¬ (((a.length + b.length : Nat) : Int) > IntKind.i64.max) := by simp [IntKind.max, IntKind.bits, IntKind.signed]; omega
    simp only [binOp, Op.stringOp, bytes_size, h2, if_false, Sem.run_pure, bytes_append]
  case h_2 => exact ⟨.bool (decide (a = b)), by simp [binOp, Op.stringOp, bytes_toList, list_beq], mk_bool⟩
  case h_3 => exact ⟨.bool (!decide (a = b)), by simp [binOp, Op.stringOp, bytes_toList, list_beq], mk_bool⟩
theorem ti_int {T : Tab} {P : Program} {i : TypeId} {ti : TI} {k : IntKind} (h : tiB P T i ti = true) (ht : ti.ty = .int k) : P.underlying i = some (.int k) := by
  unfold tiB at h
  rw [Bool.and_eq_true] at h
  have h1 := h.2
  rw [ht] at h1
  cases hu : P.underlying i with
  | none => rw [hu] at h1; simp at h1
  | some d => rw [hu] at h1; cases d <;> simp at h1; rw [h1]
theorem ti_str {T : Tab} {P : Program} {i : TypeId} {ti : TI} (h : tiB P T i ti = true) (ht : ti.ty = .str) : P.underlying i = some .string := by
  unfold tiB at h
  rw [Bool.and_eq_true] at h
  have h1 := h.2
  rw [ht] at h1
  cases hu : P.underlying i with
  | none => rw [hu] at h1; simp at h1
  | some d => rw [hu] at h1; cases d <;> simp at h1; rfl
theorem ti_bool {T : Tab} {P : Program} {i : TypeId} {ti : TI} (h : tiB P T i ti = true) (ht : ti.ty = .bool) : P.underlying i = some .bool := by
  unfold tiB at h
  rw [Bool.and_eq_true] at h
  have h1 := h.2
  rw [ht] at h1
  cases hu : P.underlying i with
  | none => rw [hu] at h1; simp at h1
  | some d => rw [hu] at h1; cases d <;> simp at h1; rfl
theorem run_boolBin {op : BinOp} {a b : Bool} {t : TypeId} {p : Option Prop × AV} (ht : P.underlying t = some .bool) (h : boolB op a b = some p) :
    ∃ v, (binOp op t (.bool a) (.bool b)).run P w = .ok v w ∧ RepA ρ F p.2 v := by
  have he : (Op.equal t (.bool a) (.bool b)).run P w = .ok (a == b) w := run_equalIn_bool' w 9999 t a b ht
  unfold boolB at h
  split at h <;> simp only [Option.some.injEq, reduceCtorEq] at h <;> subst h
  · exact ⟨.bool (a == b), by simp only [binOp, Sem.run_bind, he, Result.andThen_ok, Sem.run_pure], mk_bool⟩
  · exact ⟨.bool (!(a == b)), by simp only [binOp, Sem.run_bind, he, Result.andThen_ok, Sem.run_pure], mk_bool⟩
theorem s_bin {op : BinOp} {t t2 : TypeId} {X Y : Operand} (hT : tabB P T = true) (st : St B ρ F M w) (hev : ∀ x, RepA ρ F (evf x) (ρ0 x)) (ho : o.op = .binOp op t X Y t2) {p : Option Prop × AV} (h : binA op (T.ty t) (evf X) (evf Y) = some p) (hob : ∀ q, p.1 = some q → q) : OpOk P B ρ F w o ρ0 d p.2 M := by
  have hx := hev X
  have hy := hev Y
  have key : ∀ r, (do eqGuard op t X Y (ρ0 X) (ρ0 Y); binOp op t (ρ0 X) (ρ0 Y) : Sem Value).run P w = .ok r w → RepA ρ F p.2 r → OpOk P B ρ F w o ρ0 d p.2 M := fun r h1 h2 =>
    ok_value (v := r) st (by simp only [execOp, ho]; rw [Sem.run_bind, h1]; simp only [Result.andThen_ok, Sem.run_pure]) h2
  generalize evf X = x at h hx
  generalize evf Y = y at h hy
  generalize hty : T.ty t = ty at h
  unfold binA at h
  split at h
  · rename_i k a k' b
    split at h
    · rename_i hk
      subst hk
      obtain ⟨e1, ha⟩ := rep_int hx
      obtain ⟨e2, hb⟩ := rep_int hy
      obtain ⟨r, h1, h2⟩ := run_intBin (P := P) (w := w) (t := t) (ρ := ρ) (F := F) ha hb h hob
      exact key r (by rw [e1, e2, Sem.run_bind, eqGuard_int]; exact h1) h2
    · simp at h
  · rename_i a b
    obtain ⟨e1, ha⟩ := rep_str hx
    obtain ⟨e2, hb⟩ := rep_str hy
    obtain ⟨r, h1, h2⟩ := run_strBin (P := P) (w := w) (t := t) (ρ := ρ) (F := F) h hob
    exact key r (by rw [e1, e2, Sem.run_bind, eqGuard_str]; exact h1) h2
  · rename_i a b
    have e1 := rep_bool hx
    have e2 := rep_bool hy
    split at h
    · obtain ⟨ti, hl, e⟩ := ty_look hty
      have hu := ti_bool (tab_ti hT hl) e
      obtain ⟨r, h1, h2⟩ := run_boolBin (P := P) (w := w) (t := t) (ρ := ρ) (F := F) hu h
      exact key r (by rw [e1, e2, Sem.run_bind, eqGuard_bool]; exact h1) h2
    · simp at h
  · simp at h
theorem s_un {op : UnOp} {t : TypeId} {x : Operand} (st : St B ρ F M w) (hev : ∀ x, RepA ρ F (evf x) (ρ0 x)) (ho : o.op = .unOp op t x) {p : Option Prop × AV} (hp : unA op (evf x) = some p) (hob : ∀ q, p.1 = some q → q) : OpOk P B ρ F w o ρ0 d p.2 M := by
  have hx := hev x
  unfold unA at hp
  split at hp
  · rename_i b e
    rw [e] at hx
    have hv := rep_bool hx
    split at hp <;> simp only [Option.some.injEq, reduceCtorEq] at hp
    subst hp
    exact ok_value (v := .bool (!b)) st (by simp [execOp, ho, hv, Op.unary]) mk_bool
  · rename_i k n e
    rw [e] at hx
    obtain ⟨hv, _⟩ := rep_int hx
    split at hp <;> simp only [Option.some.injEq, reduceCtorEq] at hp
    subst hp
    have h := hob _ rfl
    exact ok_value (v := .int k (0 - n)) st (by simp only [execOp, ho, hv, Op.unary, Op.intArith, wrap_inK h, Sem.run_bind, Sem.run_pure, Result.andThen_ok]) (mk_int h)
  · simp at hp
theorem ti_under {T : Tab} {P : Program} {i : TypeId} {ti : TI} (h : tiB P T i ti = true) : ∃ d, P.underlying i = some d := by
  unfold tiB at h
  rw [Bool.and_eq_true] at h
  have h1 := h.2
  cases hu : P.underlying i with
  | none => rw [hu] at h1; simp at h1
  | some d => exact ⟨d, rfl⟩
theorem grown_bytes (w : World) (e : TypeId) (s : ByteArray) : w.grownBy (Lib.bytesWorld w e s) none where
  os := rfl
  tape := rfl
  output := rfl
  size := by rw [Lib.bytesWorld_size]; omega
  block := fun b hb _ => by rw [Lib.bytesWorld_at_old w e s b hb]
theorem s_convBytes {src t : TypeId} {x : Operand} (hT : tabB P T = true) (st : St B ρ F M w) (hev : ∀ x, RepA ρ F (evf x) (ρ0 x)) (ho : o.op = .convert src t x) {σ : Ty} (hsrc : T.ty src = some σ) (ht : T.ty t = some (.sl (.int .u8))) {s : List UInt8} (e2 : evf x = .d .str s) : OpOk P B ρ F w o ρ0 d (.d (.sl (.int .u8)) (bytesI s)) M := by
  unfold bytesI
  obtain ⟨ti, hl, e1⟩ := ty_look ht
  have hti := tab_ti hT hl
  obtain ⟨ti2, hl2, rfl⟩ := ty_look hsrc
  obtain ⟨ds, hds⟩ := ti_under (tab_ti hT hl2)
  obtain ⟨hu, hte⟩ := ti_slice hti e1
  obtain ⟨te, hle, hee⟩ := ty_look hte
  have hue := ti_int (tab_ti hT hle) hee
  have hx := hev x
  rw [e2] at hx
  obtain ⟨hv, hlen⟩ := rep_str hx
  have hrun : (execOp ρ0 o).run P w = .ok (.value (.slice (some ⟨w.heap.size, 0, none⟩) s.length (grownCap w s.length 0 ti.elem))) (Lib.bytesWorld w ti.elem ⟨s.toArray⟩) := by
    have := Lib.run_convert_string_bytes (P := P) w src t ti.elem ⟨s.toArray⟩ hds hu hue
    simp only [execOp, ho, hv, this, Sem.run_bind, Result.andThen_ok]
    rfl
  have s1 : St B ρ F M (Lib.bytesWorld w ti.elem ⟨s.toArray⟩) := st.grow (grown_bytes w _ _) (by simp) fun h o ho => ⟨ho, .inl rfl⟩
  have hM : ∀ h o, M h = some o → blk (ρ h) ≠ some w.heap.size := fun h o ho hb => by have := (st.obs h o ho).lt _ hb; omega
  obtain ⟨s2, s3⟩ := s1.fact w.heap.size (fun hz => by have := st.zlt _ hz; have := st.size; omega) hM
  refine ⟨_, _, _, ρ, _, hrun, .inl rfl, ?_, s2, fun _ _ => rfl, s3⟩
  have hcap := grownCap_ge w s.length 0 ti.elem
  have hcap2 := grownCap_le_maxLen w s.length 0 ti.elem hlen
  refine ⟨some ⟨w.heap.size, 0, none⟩, grownCap w s.length 0 ti.elem, by rw [List.length_map], by rw [List.length_map]; exact hcap, hcap2, fun i hi => ?_⟩
  have hi' : i < s.length := by rw [List.length_map] at hi; exact hi
  have hget : (s.map fun b => ((b.toNat : Nat) : Int)).get ⟨i, hi⟩ = ((s[i].toNat : Nat) : Int) := by simp
  refine ⟨w.heap.size, 0, [.int .u8 ((s[i].toNat : Nat) : Int)], rfl, fun j u hj => ?_, ?_⟩
  · have hj0 : j = 0 := by
      rcases Nat.eq_zero_or_pos j with h | h
      · exact h
      · rw [List.getElem?_eq_none (by simp only [List.length_singleton]; omega)] at hj; simp at hj
    subst hj0
    simp only [List.getElem?_cons_zero, Option.some.injEq] at hj
    subst hj
    have := Lib.bytesWorld_cell w ti.elem ⟨s.toArray⟩ i hi'
    show (if (⟨w.heap.size, 0 + (i * 1 + 0), none⟩ : Addr).block = w.heap.size then _ else _) = _
    rw [if_pos rfl]
    have e0 : 0 + (i * (Ty.int IntKind.u8).sz + 0) = i := by show 0 + (i * 1 + 0) = i; omega
    rw [e0, this]
    simp [List.getD_eq_getElem?_getD, hi']
  · refine ⟨by rw [hget], ?_⟩
    rw [hget]
    have : s[i].toNat < 256 := s[i].toNat_lt
    exact ⟨by show (0 : Int) ≤ _; omega, by show _ ≤ (255 : Int); omega⟩
theorem s_conv {src t : TypeId} {x : Operand} (hT : tabB P T = true) (st : St B ρ F M w) (hev : ∀ x, RepA ρ F (evf x) (ρ0 x)) (ho : o.op = .convert src t x) {σ : Ty} (hsrc : T.ty src = some σ) {τ : Ty} (ht : T.ty t = some τ) {p : Option Prop × AV} (hp : convA τ (evf x) = some p) (hob : ∀ q, p.1 = some q → q) : OpOk P B ρ F w o ρ0 d p.2 M := by
  obtain ⟨ti, hl, rfl⟩ := ty_look ht
  have hti := tab_ti hT hl
  obtain ⟨ti2, hl2, rfl⟩ := ty_look hsrc
  obtain ⟨ds, hds⟩ := ti_under (tab_ti hT hl2)
  have hx := hev x
  unfold convA at hp
  split at hp <;> simp only [Option.some.injEq, reduceCtorEq] at hp <;> subst hp
  · rename_i k' k n e1 e2
    rw [e2] at hx
    obtain ⟨hv, _⟩ := rep_int hx
    have h := hob _ rfl
    have hu := ti_int hti e1
    refine ok_value (v := .int k' n) st ?_ (mk_int h)
    simp only [execOp, ho, hv, convert, Sem.run_bind, run_underlying hds, run_underlying hu, Result.andThen_ok]
    cases ds <;> simp [Conv.intToInt, wrap_inK h]
  · rename_i s e1 e2
    rw [e2] at hx
    obtain ⟨hv, hl⟩ := rep_str hx
    have hu := ti_str hti e1
    refine ok_value (v := .string ⟨s.toArray⟩) st ?_ ⟨rfl, hl⟩
    simp only [execOp, ho, hv, convert, Sem.run_bind, run_underlying hds, run_underlying hu, Result.andThen_ok]
    cases ds <;> simp
  · rename_i s e1 e2
    exact s_convBytes hT st hev ho hsrc (by rw [ht, e1]) e2
theorem s_nilCheck {x : Operand} (st : St B ρ F M w) (hev : ∀ x, RepA ρ F (evf x) (ρ0 x)) (ho : o.op = .nilCheck x) {v : AV} (hp : nilA (evf x) = some v) : OpOk P B ρ F w o ρ0 d v M := by
  have hx := hev x
  have e := nilA_eq hp
  unfold nilA at hp
  split at hp <;> simp only [Option.some.injEq, reduceCtorEq] at hp
  · rename_i t y e2
    rw [e2] at hx e
    obtain ⟨b, off, us, hv, _⟩ := hx
    refine ok_value (v := ρ0 x) st ?_ (by rw [e]; exact hev x |> fun h => by rw [e2] at h; exact h)
    simp only [execOp, ho, hv]
    rfl
  · rename_i h off e2
    rw [e2] at hx e
    obtain ⟨b, _, hv⟩ := hx
    refine ok_value (v := ρ0 x) st ?_ (by rw [e]; exact hev x |> fun h => by rw [e2] at h; exact h)
    simp only [execOp, ho, hv]
    rfl
theorem s_len {x : Operand} {args : Array Operand} {tys : Array TypeId} {ty : TypeId} {τ : Ty} (hT : tabB P T = true) (st : St B ρ F M w) (hev : ∀ x, RepA ρ F (evf x) (ρ0 x)) (ho : o.op = .call { callee := .builtin .len, args, argTypes := tys }) (ha : args.toList = [x])
    (h0 : tys.toList = [ty]) (h1 : T.ty ty = some τ) {v : AV} (hp : lenA M τ (evf x) = some v) : OpOk P B ρ F w o ρ0 d v M := by
  obtain ⟨ti, hl, rfl⟩ := ty_look h1
  have hti := tab_ti hT hl
  have hx := hev x
  have ha' : args = #[x] := by rw [← Array.toArray_toList (xs := args), ha]
  have h0' : tys = #[ty] := by rw [← Array.toArray_toList (xs := tys), h0]
  subst ha' h0'
  have key : ∀ (n : Nat) (u : Value), n ≤ maxLen → ρ0 x = u → (∀ w, (Builtin.len_ #[ty] o.type #[u]).run P w = .ok (.int .i64 n) w) → v = .d (.int .i64) (n : Int) → OpOk P B ρ F w o ρ0 d v M := by
    intro n u hn hu hr hv
    subst hv
    refine ok_value (v := .int .i64 n) st ?_ (mk_int ⟨by show (-9223372036854775808 : Int) ≤ n; omega, by simp only [maxLen] at hn; show (n : Int) ≤ 9223372036854775807; omega⟩)
    simp only [execOp, ho, resolve, invoke, builtin, Sem.run_bind, Sem.run_pure, Result.andThen_ok, List.map_toArray, List.map_cons, List.map_nil, hu, hr]
  have sl : ∀ (e : Ty) (ad : Option Addr) (n cap : Nat), ti.ty = .sl e → ∀ w, (Builtin.len_ #[ty] o.type #[.slice ad n cap]).run P w = .ok (.int .i64 n) w := by
    intro e ad n cap he w
    have := (ti_slice hti he).1
    simp [Builtin.len_, run_underlying this, goInt]
  generalize hx0 : evf x = ax at hp hx
  generalize ht : ti.ty = τ at hp
  unfold lenA at hp
  split at hp <;> try (simp at hp; done)
  · simp only [Option.some.injEq] at hp
    exact key 0 (.slice none 0 0) (by simp [maxLen]) hx (sl _ _ _ _ ht) hp.symm
  · rename_i t xs
    obtain ⟨ad, cap, hv, hc1, hc2, _⟩ := rep_sl hx
    simp only [Option.some.injEq] at hp
    exact key (List.length xs) _ (Nat.le_trans hc1 hc2) hv (sl _ _ _ _ ht) hp.symm
  · rename_i s
    obtain ⟨hv, hl⟩ := rep_str hx
    simp only [Option.some.injEq] at hp
    refine key (List.length s) _ hl hv (fun w => ?_) hp.symm
    have := ti_str hti ht
    simp [Builtin.len_, run_underlying this, goInt, bytes_size]
  · rename_i h
    split at hp <;> simp only [Option.some.injEq, reduceCtorEq] at hp
    rename_i E te xs hM
    obtain ⟨us, h1, h2⟩ := st.obs h _ hM
    have hv : ρ0 x = ρ h := hx
    rcases h1.2 with ⟨e1, e2⟩ | ⟨g, cap, cur, e1, _, _, hc1, hc2, _⟩
    · exact key xs.length (.slice none 0 0) (by omega) (by rw [hv, e1]) (fun w => by simpa [e2] using sl _ none 0 0 ht w) hp.symm
    · exact key xs.length _ (by omega) (by rw [hv, e1]) (sl _ _ _ _ ht) hp.symm
  · rename_i e h t l r
    obtain ⟨ad, n, cap, e1, h1, h2, h3, h4, hv⟩ := hx
    simp only [Option.some.injEq] at hp
    exact key (r - l) _ (by omega) hv (sl _ _ _ _ ht) hp.symm
end
end Go.Proofs.Ytohglckebkgbpaa
