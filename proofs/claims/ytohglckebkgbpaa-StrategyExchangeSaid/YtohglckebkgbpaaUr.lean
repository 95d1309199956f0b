/-
  Regions on plain data: a region, whatever its order.
-/
import Derived.Test.YtohglckebkgbpaaUq
namespace Go.Proofs.Ytohglckebkgbpaa
open Go.RowKit

/-- the names of the objects that a region makes -/
def allocDs (own : List Nat) (ops : List Oper) : List Nat := match ops with
  | [] => []
  | o :: l => bif allocB own (dstN o) o.op then dstN o :: allocDs own l else allocDs own l
def distinctB : List Nat → Bool
  | [] => true
  | a :: l => !memB l a && distinctB l
def dstsB (nt : Nat) : List Oper → Bool
  | [] => true
  | o :: l => (match o.dst with | some d => Nat.blt d nt | none => true) && dstsB nt l
def apB (X : Sx) (ops : List Oper) (dyn : Bool) (Sx Sy : List Nat) (x y : Oper) : Bool :=
  (match x.dst with
   | some d => !memB (looks ops y) d && (match y.dst with | some d' => !Nat.beq d d' | none => true)
   | none => true) &&
  (match y.dst with
   | some d => !memB (looks ops x) d
   | none => true) &&
  (((Nat.ble (X.tch x) 1 || Nat.beq (X.tch y) 0) && (Nat.ble (X.tch y) 1 || Nat.beq (X.tch x) 0)) || (dyn && disjB Sx Sy))
/-- what must be so of a region whose order is open; fs: the objects that each operation names -/
def orderB (X : Sx) (ops : List Oper) (A : List Nat) (dyn : Bool) (fs : List (List Nat)) : Bool :=
  (List.range ops.length).all fun i => match ops[i]? with
    | none => true
    | some y => (y.after.toList.all fun g => !Region.binds .any g || Nat.blt g.on i) && (List.range i).all fun j => match ops[j]? with
      | none => true
      | some x => bif (A.getD i 0).testBit j then (y.after.toList.any fun g => Region.binds .any g && (Nat.beq g.on j || (Nat.blt j g.on && (A.getD g.on 0).testBit j))) else apB X ops dyn (nthL fs j) (nthL fs i) x y
/-- a region whose order is open -/
def vcAny (P : Program) (T : Tab) (X : Sx) (nt : Nat) (ops : List Oper) (K : Env → Mm → Prop) (e : Env) (M : Mm) : Prop :=
  bif dstsB nt ops && distinctB (allocDs X.own ops) then
    (bif orderB X ops (Region.before ops.toArray).toList false [] then vcOps P T X ops false ops (fun _ => K) e M
    else vcOps P T X ops true ops (fun fs e' M' => bif orderB X ops (Region.before ops.toArray).toList true fs then K e' M' else False) e M)
  else False
theorem orderB_static {X : Sx} {ops : List Oper} {A : List Nat} {fs gs : List (List Nat)} : orderB X ops A false fs = orderB X ops A false gs := by
  simp only [orderB, apB, Bool.false_and]

section
variable {P : Program} {T : Tab} {X : Sx} {nt : Nat} {B : Bx} {df : List Nat} {ro : Option Nat} {ops : Array Oper}
/-- the new names of the operations that are still to come are free -/
def FreeL (X : Sx) (B : Bx) (df : List Nat) (ops : Array Oper) (l : List Nat) (e : Env) (M : Mm) : Prop := ∀ i ∈ l, ∀ o, ops[i]? = some o → X.alc o = true → NoN B df e M (X.nm o)
theorem mem_allocDs {own : List Nat} {l : List Oper} {o : Oper} (h : o ∈ l) (ha : allocB own (dstN o) o.op = true) : dstN o ∈ allocDs own l := by
  induction l with
  | nil => simp at h
  | cons x l ih =>
    rcases List.mem_cons.1 h with rfl | h
    · simp [allocDs, ha]
    · have := ih h
      simp only [allocDs]
      cases allocB own (dstN x) x.op <;> simp [this]
theorem distinct_at {own : List Nat} : ∀ {l : List Oper} {i j : Nat} {x y : Oper}, distinctB (allocDs own l) = true → i ≠ j → l[i]? = some x → l[j]? = some y → allocB own (dstN x) x.op = true → allocB own (dstN y) y.op = true → dstN x ≠ dstN y
  | [], i, j, x, y, _, _, hi, _, _, _ => by simp at hi
  | z :: l, i, j, x, y, hd, hij, hi, hj, hx, hy => by
    have hd' : distinctB (allocDs own l) = true ∧ (allocB own (dstN z) z.op = true → memB (allocDs own l) (dstN z) = false) := by
      simp only [allocDs] at hd
      cases hz : allocB own (dstN z) z.op with
      | false => rw [hz] at hd; exact ⟨hd, by simp⟩
      | true =>
        rw [hz] at hd
        simp only [cond_true, distinctB, Bool.and_eq_true, Bool.not_eq_true'] at hd
        exact ⟨hd.2, fun _ => hd.1⟩
    cases i with
    | zero =>
      cases j with
      | zero => exact absurd rfl hij
      | succ j =>
        simp only [List.getElem?_cons_zero, Option.some.injEq] at hi
        subst hi
        simp only [List.getElem?_cons_succ] at hj
        have h1 := hd'.2 hx
        intro e
        have := memB_mem.2 (mem_allocDs (List.mem_of_getElem? hj) hy)
        rw [← e, h1] at this
        simp at this
    | succ i =>
      simp only [List.getElem?_cons_succ] at hi
      cases j with
      | zero =>
        simp only [List.getElem?_cons_zero, Option.some.injEq] at hj
        subst hj
        have h1 := hd'.2 hy
        intro e
        have := memB_mem.2 (mem_allocDs (List.mem_of_getElem? hi) hx)
        rw [e, h1] at this
        simp at this
      | succ j => exact distinct_at (i := i) (j := j) hd'.1 (fun e => hij (by rw [e])) hi (by simpa using hj) hx hy
theorem NoN.step {o : Oper} {e : Env} {M M' : Mm} {val : AV} {h : Nat} (k : NoN B df e M h) (hne : h ≠ X.nm o ∨ X.alc o = false) (hs : Stp P T X ops.toList o e M val M') : NoN B df (updD e o.dst val) M' h := by
  obtain ⟨k1, k2, k3⟩ := hs.nouse ⟨k.env, k.nam.obs⟩ hne
  refine ⟨⟨k3 k.nam.nom, k2, k.nam.lc, k.nam.lh⟩, fun t => ?_, k.df⟩
  rw [updD_at]
  split
  · exact k1
  · exact k.env t
theorem FreeL.step {l l' : List Nat} {i : Nat} {o : Oper} {e : Env} {M M' : Mm} {val : AV} (hd : distinctB (allocDs X.own ops.toList) = true) (hf : FreeL X B df ops l e M) (hl : ∀ j ∈ l', j ∈ l ∧ j ≠ i) (hi : ops[i]? = some o) (hs : Stp P T X ops.toList o e M val M') : FreeL X B df ops l' (updD e o.dst val) M' := by
  intro j hj y hy ha
  obtain ⟨h1, h2⟩ := hl j hj
  refine (hf j h1 y hy ha).step ?_ hs
  cases hao : X.alc o with
  | false => exact .inr rfl
  | true =>
    refine .inl fun e => distinct_at hd h2 (by simpa using hy) (by simpa using hi) ha hao ?_
    simp only [Sx.nm] at e
    omega
theorem disj_iff {a b : List Nat} (h : disjB a b = true) : ∀ k ∈ a, k ∉ b := by
  induction a with
  | nil => simp
  | cons x l ih =>
    simp only [disjB, Bool.and_eq_true, Bool.not_eq_true'] at h
    intro k hk hb
    rcases List.mem_cons.1 hk with rfl | hk
    · rw [memB_mem.2 hb] at h; simp at h
    · exact ih h.2 k hk hb
theorem Foot.local_ {o : Oper} {e e' : Env} {S : List Nat} (h : ∀ t ∈ looks ops.toList o, e t = e' t) (k : Foot T X o e S) : Foot T X o e' S := by
  refine ⟨fun x hx j hj => k.1 x hx j ?_, k.2⟩
  rw [ev_local (e' := e') fun t ht => h t (by subst ht; simp only [looks, List.mem_append, List.mem_filterMap]; exact .inl ⟨_, hx, rfl⟩)]
  exact hj
theorem Run.swap {dyn : Bool} {Fp : Nat → List Nat} {l : List Nat} {K : Env → Mm → Prop} {i j : Nat} {e : Env} {M : Mm}
    (hap : ∀ x y, ops[i]? = some x → ops[j]? = some y → apB X ops.toList dyn (Fp i) (Fp j) x y = true) (h : Run P T X ops.toList Fp K (i :: j :: l) e M) : Run P T X ops.toList Fp K (j :: i :: l) e M := by
  simp only [Run] at h ⊢
  cases hi : ops.toList[i]? with
  | none => rw [hi] at h; simpa [hi] using h
  | some x =>
    rw [hi] at h
    cases hj : ops.toList[j]? with
    | none => rw [hj] at h; simpa [hi, hj] using h
    | some y =>
      rw [hj] at h
      simp only at h ⊢
      obtain ⟨v, M1, ⟨s1, f1⟩, u, M2, ⟨s2, f2⟩, k⟩ := h
      have hi' : ops[i]? = some x := by simpa using hi
      have hj' : ops[j]? = some y := by simpa using hj
      have ha := hap x y hi' hj'
      simp only [apB, Bool.and_eq_true, Bool.or_eq_true] at ha
      obtain ⟨⟨a1, a2⟩, a34⟩ := ha
      have b1 : ∀ d, x.dst = some d → d ∉ looks ops.toList y ∧ y.dst ≠ some d := by
        intro d hd
        rw [hd] at a1
        simp only [Bool.and_eq_true] at a1
        refine ⟨fun hm => by rw [memB_mem.2 hm] at a1; simp at a1, fun hy => ?_⟩
        rw [hy] at a1
        simp [Nat.beq_refl] at a1
      have b2 : ∀ d, y.dst = some d → d ∉ looks ops.toList x := by
        intro d hd
        rw [hd] at a2
        simp only at a2
        exact fun hm => by rw [memB_mem.2 hm] at a2; simp at a2
      have c1 : ∀ t ∈ looks ops.toList y, updD e x.dst v t = e t := fun t ht => by
        rw [updD_at]
        split
        · rename_i hd; exact absurd ht (b1 t hd).1
        · rfl
      have c2 : ∀ t ∈ looks ops.toList x, e t = updD e y.dst u t := fun t ht => by
        rw [updD_at]
        split
        · rename_i hd; exact absurd ht (b2 t hd)
        · rfl
      have l1 : Stp P T X ops.toList y e M1 u M2 := s2.local_ c1
      have g1 : Foot T X y e (Fp j) := f2.local_ c1
      have l2' : ∀ M M', Stp P T X ops.toList x e M v M' → Stp P T X ops.toList x (updD e y.dst u) M v M' ∧ Foot T X x (updD e y.dst u) (Fp i) := fun M M' s => ⟨s.local_ c2, f1.local_ c2⟩
      have hk : Run P T X ops.toList Fp K l (updD (updD e y.dst u) x.dst v) M2 := by rw [updD_comm fun d hd he => (b1 d he).2 hd]; exact k
      rcases a34 with ⟨a3, a4⟩ | ⟨_, a5⟩
      · by_cases tx : X.tch x = 0
        · have e1 := s1.rd (by omega)
          subst e1
          exact ⟨u, M2, ⟨l1, g1⟩, v, M2, l2' M2 M2 (s1.noM tx M2), hk⟩
        · by_cases ty : X.tch y = 0
          · have e2 := s2.rd (by omega)
            subst e2
            exact ⟨u, M, ⟨l1.noM ty M, g1⟩, v, M2, l2' M M2 s1, hk⟩
          · have tx1 : X.tch x ≤ 1 := by
              rcases a3 with h | h
              · exact Nat.le_of_ble_eq_true h
              · exact absurd (Nat.eq_of_beq_eq_true h) ty
            have e1 := s1.rd tx1
            subst e1
            have ty1 : X.tch y ≤ 1 := by
              rcases a4 with h | h
              · exact Nat.le_of_ble_eq_true h
              · exact absurd (Nat.eq_of_beq_eq_true h) tx
            have e2 := s2.rd ty1
            subst e2
            exact ⟨u, M2, ⟨l1, g1⟩, v, M2, l2' M2 M2 s1, hk⟩
      · obtain ⟨M', s3, s4⟩ := Stp.swap f1 g1 (disj_iff a5) s1 l1
        exact ⟨u, M', ⟨s3, g1⟩, v, M2, l2' _ _ s4, hk⟩
theorem Run.front {dyn : Bool} {Fp : Nat → List Nat} {K : Env → Mm → Prop} {i : Nat} {post : List Nat} : ∀ {pre : List Nat} {e : Env} {M : Mm}, (∀ j ∈ pre, ∀ x y, ops[j]? = some x → ops[i]? = some y → apB X ops.toList dyn (Fp j) (Fp i) x y = true) → Run P T X ops.toList Fp K (pre ++ i :: post) e M → Run P T X ops.toList Fp K (i :: (pre ++ post)) e M
  | [], _, _, _, h => h
  | j :: pre, e, M, hap, h => by
    apply Run.swap (i := j) (j := i) (hap j (by simp))
    have step : ∀ {e : Env} {M : Mm}, Run P T X ops.toList Fp K (pre ++ i :: post) e M → Run P T X ops.toList Fp K (i :: (pre ++ post)) e M := fun {e M} hr => Run.front (fun k hk => hap k (by simp [hk])) hr
    have h0 := h
    rw [List.cons_append] at h0
    unfold Run at h0 ⊢
    cases hj : ops.toList[j]? with
    | none =>
      rw [hj] at h0
      exact step h0
    | some x =>
      rw [hj] at h0
      obtain ⟨v, M1, s1, k⟩ := h0
      exact ⟨v, M1, s1, step k⟩
theorem dst_lt {l : List Oper} {o : Oper} (h : dstsB nt l = true) (ho : o ∈ l) : ∀ d, o.dst = some d → d < nt := by
  induction l with
  | nil => simp at ho
  | cons x l ih =>
    simp only [dstsB, Bool.and_eq_true] at h
    rcases List.mem_cons.1 ho with rfl | ho
    · intro d hd
      have := h.1
      rw [hd] at this
      exact blt_lt this
    · exact ih h.2 ho
def dstL : List Oper → List Nat
  | [] => []
  | o :: l => oDs o ++ dstL l
theorem mem_dstL {l : List Oper} {o : Oper} {d : Nat} (h : o ∈ l) (hd : d ∈ oDs o) : d ∈ dstL l := by
  induction l with
  | nil => simp at h
  | cons x l ih =>
    simp only [dstL, List.mem_append]
    rcases List.mem_cons.1 h with rfl | h
    · exact .inl hd
    · exact .inr (ih h)
/-- the state amid a region -/
structure Mid (T : Tab) (X : Sx) (nt : Nat) (B : Bx) (df : List Nat) (ops : Array Oper) (N : Nat) (N0 : Nat → Prop) (M0 : Mm) (ρ0 : Nat → Value) (F0 : Mem) (a0 : Act) (l : List Nat) (ρ : Nat → Value) (F : Mem) (e : Env) (M : Mm) (a : Act) (w : World) : Prop where
  rel : Rel T nt B df ρ F e M a w
  fr : Fr (dstL ops.toList) (fun h => X.n ≤ h) ρ0 F0 a0 ρ F a
  free : FreeL X B df ops l e M
  high : ∀ h, (N ≤ h ∨ (h < X.n ∧ N0 h)) → NoN B df e M h
  top : X.n + nt ≤ N
  lock : ∀ h, h < X.n → X.wr h = false → M h = M0 h
/-- what a region has come to, to be said of the machine -/
def Lift (T : Tab) (X : Sx) (nt : Nat) (B : Bx) (df : List Nat) (ds : List Nat) (N0 : Nat → Prop) (M0 : Mm) (ρ0 : Nat → Value) (F0 : Mem) (a0 : Act) (K : Env → Mm → Prop) (a' : Act) (w' : World) : Prop :=
  ∃ ρ' F' e' M', Rel T nt B df ρ' F' e' M' a' w' ∧ Fr ds (fun h => X.n ≤ h) ρ0 F0 a0 ρ' F' a' ∧ (∀ h, (X.n + nt ≤ h ∨ (h < X.n ∧ N0 h)) → NoN B df e' M' h) ∧ (∀ h, h < X.n → X.wr h = false → M' h = M0 h) ∧ K e' M'
theorem nm_range {o : Oper} (hd : ∀ d, o.dst = some d → d < nt) (ha : X.alc o = true) (hnt : 0 < nt) : X.n ≤ X.nm o ∧ X.nm o < X.n + nt := by
  unfold Sx.nm dstN
  cases hq : o.dst with
  | none => simp; omega
  | some d => have := hd d hq; simp; omega
theorem Mid.step (hT : tabB P T = true) (hnt : 0 < nt) (hdst : dstsB nt ops.toList = true) (hdis : distinctB (allocDs X.own ops.toList) = true) {N : Nat} {N0 : Nat → Prop} {M0 : Mm} {ρ0 : Nat → Value} {F0 : Mem} {a0 : Act} {l l' : List Nat} {i : Nat} {o : Oper} {ρ : Nat → Value} {F : Mem} {e : Env} {M M' : Mm} {a : Act} {w : World} {val : AV}
    (h : Mid T X nt B df ops N N0 M0 ρ0 F0 a0 l ρ F e M a w) (hi : ops[i]? = some o) (hil : i ∈ l) (hl : ∀ j ∈ l', j ∈ l ∧ j ≠ i) (hs : Stp P T X ops.toList o e M val M') {Q : Exit → Act → World → Prop} {K : Act → World → Prop}
    (hK : ∀ ρ' F' a' w', Mid T X nt B df ops N N0 M0 ρ0 F0 a0 l' ρ' F' (updD e o.dst val) M' a' w' → K a' w') : wpOpIn (Fw ro) 0 P ops Q i K a w := by
  have hmem : o ∈ ops.toList := List.mem_of_getElem? (by simpa using hi : ops.toList[i]? = some o)
  have hlt := dst_lt hdst hmem
  have htop := h.top
  have hne : ∀ h, N ≤ h ∨ h < X.n → h ≠ X.nm o ∨ X.alc o = false := by
    intro h hh
    cases ha : X.alc o with
    | false => exact .inr rfl
    | true => have := nm_range hlt ha hnt; left; omega
  refine stp_run hT h.rel hi hlt (fun ha => h.free i hil o hi ha) hs fun ρ' F' a' w' hrel hfrm => hK _ _ _ _ ⟨hrel, ?_, h.free.step hdis hl hi hs, fun k hk => (h.high k hk).step (hne k (hk.imp id fun q => q.1)) hs, htop, fun k hk hw => ?_⟩
  · refine h.fr.trans (hfrm.mono (fun t ht => mem_dstL hmem ht) fun t ht => ?_)
    obtain ⟨h1, rfl⟩ := ht
    exact (nm_range hlt h1 hnt).1
  · rw [hs.lock hw (hne k (.inr hk))]
    exact h.lock k hk hw
/-- the operations that are still to come -/
def rem (n : Nat) (listed : Array Bool) : List Nat := (List.range n).filter fun i => !listed.getD i true
theorem rem_sorted (n : Nat) (listed : Array Bool) : (rem n listed).Pairwise (· < ·) := List.Pairwise.filter _ List.pairwise_lt_range
theorem rem_nodup (n : Nat) (listed : Array Bool) : (rem n listed).Nodup := (rem_sorted n listed).imp fun h => Nat.ne_of_lt h
theorem mem_rem {n : Nat} {listed : Array Bool} {i : Nat} : i ∈ rem n listed ↔ i < n ∧ listed.getD i true = false := by simp [rem]
theorem rem_set {n : Nat} {listed : Array Bool} {i : Nat} (hs : listed.size = n) : rem n (listed.setIfInBounds i true) = (rem n listed).filter (· ≠ i) := by
  unfold rem
  rw [List.filter_filter]
  apply List.filter_congr
  intro k hk
  rw [List.mem_range] at hk
  by_cases h : i = k
  · subst h
    simp [Array.getD_eq_getD_getElem?, Array.getElem?_setIfInBounds, hs, hk]
  · have h' : ¬ k = i := fun e => h e.symm
    simp [Array.getD_eq_getD_getElem?, Array.getElem?_setIfInBounds_ne h, h']
theorem filter_mid {i : Nat} {pre post : List Nat} (h : (pre ++ i :: post).Nodup) : (pre ++ i :: post).filter (· ≠ i) = pre ++ post := by
  rw [List.nodup_append] at h
  obtain ⟨_, h2, h3⟩ := h
  rw [List.nodup_cons] at h2
  rw [List.filter_append, List.filter_cons_of_neg (by simp), List.filter_eq_self.2, List.filter_eq_self.2]
  · intro a ha
    simp only [ne_eq, decide_eq_true_eq]
    intro e
    subst e
    exact h2.1 ha
  · intro a ha
    simp only [ne_eq, decide_eq_true_eq]
    intro e
    subst e
    exact h3 a ha a (by simp) rfl
/-- every operation that is listed has behind it all that it waits for -/
def Closed (A : List Nat) (listed : Array Bool) (n : Nat) : Prop := ∀ i, i < n → listed.getD i true = true → ∀ j, j < i → (A.getD i 0).testBit j = true → listed.getD j true = true
theorem run_any (hT : tabB P T = true) (hnt : 0 < nt) (hdst : dstsB nt ops.toList = true) (hdis : distinctB (allocDs X.own ops.toList) = true) {A : List Nat} {dyn : Bool} {fs : List (List Nat)} (hord : orderB X ops.toList A dyn fs = true) {Q : Exit → Act → World → Prop} {K : Env → Mm → Prop} {N0 : Nat → Prop} {M0 : Mm} {ρ0 : Nat → Value} {Fa : Mem} {a0 : Act}
    (hQ : ∀ a w, Lift T X nt B df (dstL ops.toList) N0 M0 ρ0 Fa a0 K a w → Q .normal a w) :
    ∀ (m : Nat) (listed : Array Bool) {ρ : Nat → Value} {F : Mem} {e : Env} {M : Mm} {a : Act} {w : World}, listed.size = ops.size → (rem ops.size listed).length = m → Closed A listed ops.size → Mid T X nt B df ops (X.n + nt) N0 M0 ρ0 Fa a0 (rem ops.size listed) ρ F e M a w → Run P T X ops.toList (nthL fs) K (rem ops.size listed) e M → wpAnyIn (Fw ro) 0 P .any ops Q m listed a w := by
  have hord' : ∀ i, i < ops.size → ∀ y, ops[i]? = some y → (∀ g ∈ y.after.toList, Region.binds .any g = true → g.on < i) ∧ ∀ j, j < i → ∀ x, ops[j]? = some x → if (A.getD i 0).testBit j = true then (∃ g ∈ y.after.toList, Region.binds .any g = true ∧ (g.on = j ∨ (j < g.on ∧ (A.getD g.on 0).testBit j = true))) else apB X ops.toList dyn (nthL fs j) (nthL fs i) x y = true := by
    intro i hi y hy
    have h1 := List.all_eq_true.1 hord i (by simpa using hi)
    have hy' : ops.toList[i]? = some y := by simpa using hy
    rw [hy'] at h1
    simp only [Bool.and_eq_true, List.all_eq_true, List.mem_range] at h1
    refine ⟨fun g hg hb => ?_, fun j hj x hx => ?_⟩
    · have := h1.1 g hg
      rw [hb] at this
      exact blt_lt (by simpa using this)
    · have := h1.2 j hj
      have hx' : ops.toList[j]? = some x := by simpa using hx
      rw [hx'] at this
      simp only at this
      cases hb : (A.getD i 0).testBit j with
      | true =>
        rw [hb] at this
        simp only [cond_true, List.any_eq_true, Bool.and_eq_true, Bool.or_eq_true] at this
        obtain ⟨g, h2, h3, h4⟩ := this
        refine ⟨g, h2, h3, ?_⟩
        rcases h4 with h4 | h4
        · exact .inl (Nat.eq_of_beq_eq_true h4)
        · exact .inr ⟨blt_lt h4.1, h4.2⟩
      | false =>
        rw [hb] at this
        exact this
  have hready : ∀ (listed : Array Bool) i, i ∈ Region.ready .any ops listed ↔ (i < ops.size ∧ listed.getD i true = false ∧ ∀ y, ops[i]? = some y → ∀ g ∈ y.after.toList, Region.binds .any g = true → listed.getD g.on false = true) := by
    intro listed i
    simp only [Region.ready, List.mem_filter, List.mem_range, Bool.and_eq_true, Bool.not_eq_true']
    constructor
    · rintro ⟨h1, h2, h3⟩
      refine ⟨h1, h2, fun y hy g hg hb => ?_⟩
      rw [hy] at h3
      simp only [Option.map_some, Option.getD_some, Array.all_eq_true_iff_forall_mem] at h3
      have := h3 g (by simpa using hg)
      rw [hb] at this
      simpa using this
    · rintro ⟨h1, h2, h3⟩
      refine ⟨h1, h2, ?_⟩
      have hy : ops[i]? = some ops[i] := by simp [h1]
      rw [hy]
      simp only [Option.map_some, Option.getD_some, Array.all_eq_true_iff_forall_mem]
      intro g hg
      cases hb : Region.binds .any g with
      | false => rfl
      | true => simpa using h3 _ hy g (by simpa using hg) hb
  intro m
  induction m with
  | zero =>
    intro listed ρ F e M a w hsz hlen hcl h hr
    have hnil : rem ops.size listed = [] := List.eq_nil_of_length_eq_zero hlen
    rw [hnil] at hr
    refine ⟨?_, hQ _ _ ⟨ρ, F, e, M, h.rel, h.fr, h.high, h.lock, hr⟩⟩
    rw [List.eq_nil_iff_forall_not_mem]
    intro i hi
    obtain ⟨h1, h2, _⟩ := (hready listed i).1 hi
    have : i ∈ rem ops.size listed := mem_rem.2 ⟨h1, h2⟩
    rw [hnil] at this
    simp at this
  | succ m ih =>
    intro listed ρ F e M a w hsz hlen hcl h hr
    have hgd : ∀ k, k < ops.size → listed.getD k false = listed.getD k true := fun k hk => by
      simp [Array.getD_eq_getD_getElem?, hsz, hk]
    refine ⟨fun hnone => ?_, fun i hi => ?_⟩
    · exfalso
      cases hrem : rem ops.size listed with
      | nil => rw [hrem] at hlen; simp at hlen
      | cons i l =>
        have hmem : i ∈ rem ops.size listed := by rw [hrem]; simp
        obtain ⟨h1, h2⟩ := mem_rem.1 hmem
        have : i ∈ Region.ready .any ops listed := by
          refine (hready listed i).2 ⟨h1, h2, fun y hy g hg hb => ?_⟩
          have hlt := (hord' i h1 y hy).1 g hg hb
          rw [hgd _ (by omega)]
          cases hq : listed.getD g.on true with
          | true => rfl
          | false =>
            have h3 : g.on ∈ rem ops.size listed := mem_rem.2 ⟨by omega, hq⟩
            have hs := rem_sorted ops.size listed
            rw [hrem] at h3 hs
            rw [List.pairwise_cons] at hs
            rcases List.mem_cons.1 h3 with h4 | h4
            · omega
            · have := hs.1 _ h4; omega
        rw [hnone] at this
        simp at this
    · obtain ⟨h1, h2, h3⟩ := (hready listed i).1 hi
      have hmem : i ∈ rem ops.size listed := mem_rem.2 ⟨h1, h2⟩
      have hoi : ops[i]? = some ops[i] := by simp [h1]
      obtain ⟨pre, post, hsplit⟩ := List.append_of_mem hmem
      have hnd := rem_nodup ops.size listed
      have hso := rem_sorted ops.size listed
      have hset : rem ops.size (listed.setIfInBounds i true) = pre ++ post := by
        rw [rem_set hsz, hsplit]
        rw [hsplit] at hnd
        exact filter_mid hnd
      have hpre : ∀ j ∈ pre, j < i ∧ j < ops.size ∧ listed.getD j true = false := by
        intro j hj
        rw [hsplit, List.pairwise_append] at hso
        have hjm : j ∈ rem ops.size listed := by rw [hsplit]; simp [hj]
        exact ⟨hso.2.2 j hj i (by simp), mem_rem.1 hjm⟩
      -- what i waits for is listed
      have hanc : ∀ j, j < i → (A.getD i 0).testBit j = true → listed.getD j true = true := by
        intro j hj hb
        have hoj : ops[j]? = some ops[j] := by simp
        have := (hord' i h1 _ hoi).2 j hj _ hoj
        rw [if_pos hb] at this
        obtain ⟨g, g1, g2, g3⟩ := this
        have hgon := (hord' i h1 _ hoi).1 g g1 g2
        have hl := h3 _ hoi g g1 g2
        rw [hgd _ (by omega)] at hl
        rcases g3 with g3 | ⟨g3, g4⟩
        · rw [← g3]; exact hl
        · exact hcl g.on (by omega) hl j g3 g4
      have hrun : Run P T X ops.toList (nthL fs) K (i :: (pre ++ post)) e M := by
        refine Run.front (dyn := dyn) ?_ (by rw [← hsplit]; exact hr)
        intro j hj x y hx hy
        obtain ⟨p1, p2, p3⟩ := hpre j hj
        have := (hord' i h1 y (by simpa using hy)).2 j p1 x (by simpa using hx)
        cases hb : (A.getD i 0).testBit j with
        | true => have := hanc j p1 hb; rw [p3] at this; simp at this
        | false => rw [hb] at this; simp only [Bool.false_eq_true, if_false] at this; exact this
      unfold Run at hrun
      have hoi' : ops.toList[i]? = some ops[i] := by simp
      rw [hoi'] at hrun
      obtain ⟨val, M', ⟨hs, _⟩, hr'⟩ := hrun
      refine Mid.step hT hnt hdst hdis (l' := rem ops.size (listed.setIfInBounds i true)) h hoi hmem (fun j hj => ?_) hs fun ρ' F' a' w' hmid => ?_
      · rw [rem_set hsz, List.mem_filter] at hj
        exact ⟨hj.1, by simpa using hj.2⟩
      refine ih (listed.setIfInBounds i true) (by simp [hsz]) ?_ ?_ hmid (by rw [hset]; exact hr')
      · rw [hset]
        rw [hsplit] at hlen
        simp at hlen ⊢
        omega
      · intro k hk hkl j hj hb
        by_cases hki : i = k
        · subst hki
          have := hanc j hj hb
          have hne : i ≠ j := by omega
          simpa [Array.getD_eq_getD_getElem?, Array.getElem?_setIfInBounds_ne hne] using this
        · have hkl' : listed.getD k true = true := by simpa [Array.getD_eq_getD_getElem?, Array.getElem?_setIfInBounds_ne hki] using hkl
          have := hcl k hk hkl' j hj hb
          by_cases hij : i = j
          · subst hij
            simp [Array.getD_eq_getD_getElem?, hsz, h1]
          · simpa [Array.getD_eq_getD_getElem?, Array.getElem?_setIfInBounds_ne hij] using this
theorem vcAny_run (hm : P.follows .mixedOrders = true) (hT : tabB P T = true) (hnt : 0 < nt) {id : Nat} {K : Env → Mm → Prop} {ρ : Nat → Value} {F : Mem} {e : Env} {M : Mm} {a : Act} {w : World} (h : Rel T nt B df ρ F e M a w) (hfree : ∀ k, X.n ≤ k → NoN B df e M k) (hv : vcAny P T X nt ops.toList K e M) :
    (Code.region id ops true).wpIn (Fw ro) 0 P (fun ex a' w' => ex = .normal ∧ Lift T X nt B df (dstL ops.toList) (fun h => NoN B df e M h) M ρ F a K a' w') a w := by
  unfold vcAny at hv
  cases hb : (dstsB nt ops.toList && distinctB (allocDs X.own ops.toList)) with
  | false => rw [hb] at hv; exact hv.elim
  | true =>
    rw [hb] at hv
    simp only [cond_true] at hv
    simp only [Bool.and_eq_true] at hb
    obtain ⟨b1, b2⟩ := hb
    obtain ⟨dyn, fs, hord, hrun⟩ : ∃ (dyn : Bool) (fs : List (List Nat)), orderB X ops.toList (Region.before ops.toList.toArray).toList dyn fs = true ∧ Run P T X ops.toList (nthL fs) K (List.range ops.size) e M := by
      cases hs : orderB X ops.toList (Region.before ops.toList.toArray).toList false [] with
      | true =>
        rw [hs] at hv
        simp only [cond_true] at hv
        obtain ⟨fs, hr1⟩ := vcOps_run (ops := ops.toList) ops.toList 0 _ _ rfl hv
        have hr2 := hr1 (nthL fs) fun j => by rw [Nat.zero_add]
        simp only [Nat.zero_add, List.map_id', Array.length_toList] at hr2
        exact ⟨false, fs, by rw [orderB_static (gs := [])]; exact hs, hr2⟩
      | false =>
        rw [hs] at hv
        simp only [cond_false] at hv
        obtain ⟨fs, hr1⟩ := vcOps_run (ops := ops.toList) ops.toList 0 _ _ rfl hv
        have hr2 := hr1 (nthL fs) fun j => by rw [Nat.zero_add]
        simp only [Nat.zero_add, List.map_id', Array.length_toList] at hr2
        have b3 : orderB X ops.toList (Region.before ops.toList.toArray).toList true fs = true := by
          obtain ⟨_, _, hk⟩ := hr2.end_
          revert hk
          cases orderB X ops.toList (Region.before ops.toList.toArray).toList true fs with
          | true => intro _; rfl
          | false => exact fun hk => hk.elim
        exact ⟨true, fs, b3, hr2.mono (K' := K) fun e M hk => by rw [b3] at hk; exact hk⟩
    refine wpIn_region_any hm ?_
    have hrem : rem ops.size (Array.replicate ops.size false) = List.range ops.size := by
      unfold rem
      rw [List.filter_eq_self]
      intro i hi
      rw [List.mem_range] at hi
      simp [Array.getD_eq_getD_getElem?, hi]
    have hd : Rel T nt B df ρ F e M a { w with drawn := w.drawn + 1 } := by
      refine ⟨?_, h.env, h.size, h.defs, h.glob⟩
      exact h.st.grow (w' := w.drew) (row := none) ⟨rfl, rfl, rfl, Nat.le_refl _, fun _ _ _ => rfl⟩ (by simp) fun h o ho => ⟨ho, .inl rfl⟩
    refine run_any hT hnt b1 b2 hord (fun a' w' hl => ⟨rfl, hl⟩) ops.size _ (by simp) (by rw [hrem]; simp) ?_ ⟨hd, Fr.refl _ _ _ _ _, fun i _ o ho ha => ?_, fun k hk => hk.elim (fun q => hfree k (by omega)) (fun q => q.2), Nat.le_refl _, fun _ _ _ => rfl⟩ (by rw [hrem]; exact hrun)
    · intro i hi hl
      simp [Array.getD_eq_getD_getElem?, hi] at hl
    · exact hfree _ (nm_range (dst_lt b1 (List.mem_of_getElem? (by simpa using ho : ops.toList[i]? = some o))) ha hnt).1
end
end Go.Proofs.Ytohglckebkgbpaa
