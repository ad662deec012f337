/- A deterministic layer over the model, part P: regions whose order is drawn. -/
import Derived.Test.YtnlnbhcjgacgmaaGreatDoorDsOa
import Derived.Orders
set_option linter.unusedVariables false
set_option linter.unusedSimpArgs false
namespace Go.Ds
noncomputable section

structure Pn where
  i : Nat
  o : Oper
  T : Tr Value
  v : Value
  al : Option (Nat × DO)

def floats (o : Oper) : Bool := looks o || allocs o
/-- Is i among those that must come ahead of j? -/
def bit (M : List Nat) (j i : Nat) : Bool :=
  match M[j]? with
  | some m => m.testBit i
  | none => false
def dstEq (x y : Oper) : Bool :=
  match x.dst, y.dst with
  | some a, some b => Nat.beq a b
  | _, _ => false
def hits (ops : Array Oper) (x y : Oper) : Bool :=
  match x.dst with
  | some d => (y.looksAt ops).any (Nat.beq d)
  | none => false
def conflict (ops : Array Oper) (x y : Oper) : Bool := hits ops x y || hits ops y x
/-- i may stand ahead of j. -/
def pairOk (ops : Array Oper) (M : List Nat) (i j : Nat) : Bool :=
  match ops.toList[i]?, ops.toList[j]? with
  | some x, some y => !Nat.beq i j && !bit M i j && !dstEq x y && (bit M j i || (floats x && !conflict ops x y))
  | _, _ => false
def pairsOk (ops : Array Oper) (M : List Nat) : List Nat → Bool
  | [] => true
  | i :: r => r.all (pairOk ops M i) && pairsOk ops M r
def reachE (M : List Nat) : List Edge → Nat
  | [] => 0
  | e :: r => match Region.binds .any e with
    | true => (Nat.shiftLeft 1 e.on).lor ((match M[e.on]? with | some m => m | none => 0).lor (reachE M r))
    | false => reachE M r
def maskOk (M : List Nat) (i : Nat) (o : Oper) : Bool :=
  o.after.toList.all (fun e => !Region.binds .any e || Nat.blt e.on i) &&
  match M[i]? with
  | some m => Nat.blt m (2 ^ i) && Nat.beq (m.land (reachE M o.after.toList)) m
  | none => true
def masksOk (M : List Nat) : Nat → List Oper → Bool
  | _, [] => true
  | i, o :: r => maskOk M i o && masksOk M (i + 1) r
def drawOk (n ng : Nat) (ops : Array Oper) (L M : List Nat) : Bool :=
  ops.toList.all (opOk n ng) && pairsOk ops M L && L.all (fun i => Nat.blt i ops.toList.length) && (List.range ops.toList.length).all (fun i => L.any (Nat.beq i)) &&
    Nat.beq L.length ops.toList.length && masksOk M 0 ops.toList

def doEq : DO → DO → Bool
  | .row a e l h, .row b e' l' h' => vlEq (eqV 6) a b && Nat.beq e e' && Nat.beq l l' && Nat.beq h h'
  | .map [], .map [] => true
  | _, _ => false
theorem doEq_eq {a b : DO} (h : doEq a b = true) : a = b := by
  unfold doEq at h
  split at h
  · simp only [Bool.and_eq_true] at h
    rw [vlEq_eq (eqV_eq 6) h.1.1.1, Nat.eq_of_beq_eq_true h.1.1.2, Nat.eq_of_beq_eq_true h.1.2, Nat.eq_of_beq_eq_true h.2]
  · rfl
  · cases h
def still (C : Ctx) (ops : Array Oper) (H : DH) (p : Pn) : Bool :=
  match p.al with
  | none =>
    match pval C ops p.T p.o H with
    | some v => eqV 6 v p.v
    | none => false
  | some (h, ob) =>
    match H.get h with
    | some o2 => doEq o2 ob
    | none => false
/-- What a pending one says is still so. -/
def Good (C : Ctx) (ops : Array Oper) (p : Pn) (H : DH) : Prop :=
  match p.al with
  | none => pval C ops p.T p.o H = some p.v
  | some (h, ob) => H.get h = some ob
theorem still_good {C : Ctx} {ops : Array Oper} {H : DH} {p : Pn} (hs : still C ops H p = true) : Good C ops p H := by
  unfold still at hs
  unfold Good
  cases ha : p.al with
  | none =>
    rw [ha] at hs
    simp only at hs ⊢
    cases hv : pval C ops p.T p.o H with
    | none => rw [hv] at hs; cases hs
    | some v => rw [hv] at hs; rw [eqV_eq _ _ _ hs]
  | some q =>
    obtain ⟨h, ob⟩ := q
    rw [ha] at hs
    simp only at hs ⊢
    cases hg : H.get h with
    | none => rw [hg] at hs; cases hs
    | some o2 => rw [hg] at hs; rw [doEq_eq hs]
def keep (C : Ctx) (ops : Array Oper) (M : List Nat) (i : Nat) (H : DH) : List Pn → Option (List Pn)
  | [] => some []
  | p :: r =>
    match bit M i p.i with
    | true => keep C ops M i H r
    | false =>
      match still C ops H p with
      | true => (keep C ops M i H r).map (p :: ·)
      | false => none
def evalL (C : Ctx) (call : Calling) (ops : Array Oper) (M : List Nat) : List Nat → Tr Value → DH → List Pn → DRes
  | [], T, H, _ => some (.normal, T, H)
  | i :: rest, T, H, Pd =>
    match ops.toList[i]? with
    | none => none
    | some o =>
      match looks o with
      | true =>
        match pval C ops T o H with
        | some v => evalL C call ops M rest (dput o.dst v T) H (⟨i, o, T, v, none⟩ :: Pd)
        | none => none
      | false =>
       match allocs o with
       | true =>
        match dwanted ops T o, dop C (deval T) o H with
        | true, some (.val v, H1) =>
          match H1.get (2 * H.n), keep C ops [] i H1 Pd with
          | some ob, some Pd' => evalL C call ops M rest (dput o.dst v T) H1 (⟨i, o, T, v, some (2 * H.n, ob)⟩ :: Pd')
          | _, _ => none
        | _, _ => none
       | false =>
        match dwanted ops T o with
        | false => evalL C call ops M rest (dput o.dst undef T) H Pd
        | true =>
          match stepOp C call o T H with
          | some (.ret v, H1) =>
            match keep C ops M i H1 Pd with
            | some Pd' => evalL C call ops M rest (dput o.dst v T) H1 Pd'
            | none => none
          | some (.panic v, H1) => some (.panic v false, T, H1)
          | none => none

/-! ### What the check says -/
theorem reachE_spec {M : List Nat} : ∀ {es : List Edge} {j : Nat}, (reachE M es).testBit j = true → ∃ e ∈ es, Region.binds .any e = true ∧ (e.on = j ∨ bit M e.on j = true) := by
  intro es
  induction es with
  | nil => intro j h; simp [reachE] at h
  | cons e r ih =>
    intro j h
    unfold reachE at h
    cases hb : Region.binds .any e with
    | false =>
      rw [hb] at h
      obtain ⟨e', h1, h2⟩ := ih h
      exact ⟨e', List.mem_cons_of_mem _ h1, h2⟩
    | true =>
      rw [hb] at h
      simp only at h
      change (((1 <<< e.on) ||| ((match M[e.on]? with | some m => m | none => 0) ||| reachE M r)) : Nat).testBit j = true at h
      rw [Nat.testBit_or, Nat.testBit_or, Bool.or_eq_true, Bool.or_eq_true] at h
      rcases h with h | h | h
      · refine ⟨e, List.mem_cons_self, hb, .inl ?_⟩
        rw [Nat.testBit_shiftLeft] at h
        simp only [Bool.and_eq_true, decide_eq_true_eq] at h
        obtain ⟨h1, h2⟩ := h
        cases hk : j - e.on with
        | zero => omega
        | succ k => rw [hk, Nat.testBit_succ] at h2; simp at h2
      · refine ⟨e, List.mem_cons_self, hb, .inr ?_⟩
        unfold bit
        cases hm : M[e.on]? with
        | none => rw [hm] at h; simp at h
        | some m => rw [hm] at h; exact h
      · obtain ⟨e', h1, h2⟩ := ih h
        exact ⟨e', List.mem_cons_of_mem _ h1, h2⟩

structure DrawOK (n ng : Nat) (ops : Array Oper) (L M : List Nat) : Prop where
  ok : ∀ (i : Nat) (o : Oper), ops.toList[i]? = some o → opOk n ng o = true
  pair : L.Pairwise (fun i j => pairOk ops M i j = true)
  bnd : ∀ i ∈ L, i < ops.size
  all : ∀ i, i < ops.size → i ∈ L
  len : L.length = ops.size
  mask : ∀ (i : Nat) (o : Oper), ops.toList[i]? = some o → (∀ e ∈ o.after, Region.binds .any e = true → e.on < i) ∧ ∀ j, bit M i j = true → j < i ∧ ∃ e ∈ o.after, Region.binds .any e = true ∧ (e.on = j ∨ bit M e.on j = true)

theorem maskOk_spec {M : List Nat} {i : Nat} {o : Oper} (h : maskOk M i o = true) : (∀ e ∈ o.after, Region.binds .any e = true → e.on < i) ∧ ∀ j, bit M i j = true → j < i ∧ ∃ e ∈ o.after, Region.binds .any e = true ∧ (e.on = j ∨ bit M e.on j = true) := by
  simp only [maskOk, Bool.and_eq_true, List.all_eq_true, Bool.or_eq_true, Bool.not_eq_true'] at h
  obtain ⟨h1, h2⟩ := h
  refine ⟨fun e he hb => ?_, fun j hj => ?_⟩
  · rcases h1 e (Array.mem_toList_iff.2 he) with h | h
    · rw [hb] at h; cases h
    · exact Nat.le_of_ble_eq_true h
  · unfold bit at hj
    cases hm : M[i]? with
    | none => rw [hm] at hj; cases hj
    | some m =>
      rw [hm] at h2 hj
      simp only [Bool.and_eq_true] at h2 hj
      obtain ⟨h3, h4⟩ := h2
      have h3 : m < 2 ^ i := Nat.le_of_ble_eq_true h3
      have h4 := Nat.eq_of_beq_eq_true h4
      refine ⟨?_, ?_⟩
      · rcases Nat.lt_or_ge j i with hlt | hge
        · exact hlt
        · have := Nat.testBit_lt_two_pow (Nat.lt_of_lt_of_le h3 (Nat.pow_le_pow_right (by decide) hge))
          rw [this] at hj; cases hj
      · have h5 : (m &&& reachE M o.after.toList).testBit j = true := by
          change (m.land (reachE M o.after.toList)).testBit j = true
          rw [h4]; exact hj
        rw [Nat.testBit_and, Bool.and_eq_true] at h5
        obtain ⟨e, he, hb⟩ := reachE_spec h5.2
        exact ⟨e, Array.mem_toList_iff.1 he, hb⟩
theorem masksOk_spec {M : List Nat} : ∀ {l : List Oper} {k : Nat}, masksOk M k l = true → ∀ (i : Nat) (o : Oper), l[i]? = some o → maskOk M (k + i) o = true := by
  intro l
  induction l with
  | nil => intro k h i o ho; simp at ho
  | cons x l ih =>
    intro k h i o ho
    simp only [masksOk, Bool.and_eq_true] at h
    cases i with
    | zero => simp at ho; subst ho; exact h.1
    | succ i =>
      have := ih h.2 i o (by simpa using ho)
      rwa [show k + 1 + i = k + (i + 1) by omega] at this
theorem pairsOk_spec {ops : Array Oper} {M : List Nat} : ∀ {l : List Nat}, pairsOk ops M l = true → l.Pairwise (fun i j => pairOk ops M i j = true) := by
  intro l
  induction l with
  | nil => exact fun _ => .nil
  | cons i l ih =>
    intro h
    simp only [pairsOk, Bool.and_eq_true, List.all_eq_true] at h
    exact .cons h.1 (ih h.2)
theorem drawOk_spec {n ng : Nat} {ops : Array Oper} {L M : List Nat} (h : drawOk n ng ops L M = true) : DrawOK n ng ops L M := by
  simp only [drawOk, Bool.and_eq_true, List.all_eq_true] at h
  obtain ⟨⟨⟨⟨⟨h1, h2⟩, h3⟩, h4⟩, h5⟩, h6⟩ := h
  refine ⟨fun i o ho => h1 o (List.mem_of_getElem? ho), pairsOk_spec h2, fun i hi => by have := Nat.le_of_ble_eq_true (h3 i hi); simp at this; omega, fun i hi => ?_, by simpa using Nat.eq_of_beq_eq_true h5, fun i o ho => maskOk_spec (by simpa using masksOk_spec h6 i o ho)⟩
  have := h4 i (List.mem_range.2 (by simpa using hi))
  rw [List.any_eq_true] at this
  obtain ⟨j, hj, he⟩ := this
  have := Nat.eq_of_beq_eq_true he
  subst this
  exact hj

theorem pairOk_spec {ops : Array Oper} {M : List Nat} {i j : Nat} (h : pairOk ops M i j = true) {x y : Oper} (hx : ops.toList[i]? = some x) (hy : ops.toList[j]? = some y) :
    i ≠ j ∧ bit M i j = false ∧ (∀ d, x.dst = some d → y.dst ≠ some d) ∧ (bit M j i = true ∨ (floats x = true ∧ (∀ d, x.dst = some d → d ∉ y.looksAt ops) ∧ (∀ d, y.dst = some d → d ∉ x.looksAt ops))) := by
  unfold pairOk at h
  rw [hx, hy] at h
  simp only [Bool.and_eq_true, Bool.not_eq_true', Bool.or_eq_true] at h
  obtain ⟨⟨⟨h1, h2⟩, h3⟩, h4⟩ := h
  have hhit : ∀ (x y : Oper), hits ops x y = false → ∀ d, x.dst = some d → d ∉ y.looksAt ops := by
    intro x y hh d hd hm
    unfold hits at hh
    rw [hd] at hh
    simp only at hh
    have : (y.looksAt ops).any (Nat.beq d) = true := List.any_eq_true.2 ⟨d, hm, by simp⟩
    rw [this] at hh; cases hh
  refine ⟨fun e => ?_, h2, fun d hd hd' => ?_, ?_⟩
  · subst e; simp at h1
  · unfold dstEq at h3
    rw [hd, hd'] at h3
    simp at h3
  · rcases h4 with h4 | ⟨h4, h5⟩
    · exact .inl h4
    · unfold conflict at h5
      rw [Bool.or_eq_false_iff] at h5
      exact .inr ⟨h4, hhit x y h5.1, hhit y x h5.2⟩

/-! ### Temporaries -/
theorem getD_put (a : Act) (dst : Option Tmp) (v : Value) (t : Nat) (hd : ∀ d, dst = some d → d < a.tmps.size) :
    (a.put dst v).tmps.getD t Go.undef = if dst = some t then v else a.tmps.getD t Go.undef := by
  cases dst with
  | none => simp [Act.put]
  | some d =>
    have hlt := hd d rfl
    simp only [Act.put, Array.getD_eq_getD_getElem?]
    by_cases e : d = t
    · subst e
      rw [if_pos rfl]
      simp [hlt]
    · rw [if_neg (by simpa using e), Array.getElem?_setIfInBounds_ne e]
theorem size_put (a : Act) (dst : Option Tmp) (v : Value) : (a.put dst v).tmps.size = a.tmps.size := by
  cases dst <;> simp [Act.put]
theorem defers_put (a : Act) (dst : Option Tmp) (v : Value) : (a.put dst v).defers = a.defers := by
  cases dst <;> simp [Act.put]
theorem tget_dput (T : Tr Value) (dst : Option Tmp) (v : Value) (t : Nat) : tget (dput dst v T) t = if dst = some t then v else tget T t := by
  cases dst with
  | none => simp [dput]
  | some d =>
    simp only [dput, tget_set]
    by_cases e : t = d
    · subst e; simp
    · rw [if_neg e, if_neg (by simpa using Ne.symm e)]

/-- What an operation looks at is as it should be. -/
theorem wanted_rel' {β : Emb} {T : Tr Value} {a : Act} (ops : Array Oper) (o : Oper) (hT : ∀ t ∈ o.looksAt ops, V β (tget T t) (a.tmps.getD t Go.undef)) :
    Region.wanted o (yielded ops a.tmps) = dwanted ops T o := by
  unfold Region.wanted dwanted
  cases hg : o.guard with
  | none => rfl
  | some p =>
    obtain ⟨j, want⟩ := p
    simp only
    unfold yielded
    have he : ops.toList[j]? = ops[j]? := by rw [Array.getElem?_toList]
    rw [he]
    cases hj : ops[j]? with
    | none => rfl
    | some oj =>
      simp only [Option.bind_some]
      cases hd : oj.dst with
      | none => rfl
      | some t =>
        simp only [Option.bind_some]
        have hv := hT t (List.mem_append_right _ (by simp [hg, hj, hd]))
        have hgd : a.tmps.getD t Go.undef = (a.tmps[t]?).getD Go.undef := by simp [Array.getD_eq_getD_getElem?]
        rw [hgd] at hv
        unfold tget at hv
        cases hT2 : T.get t with
        | none =>
          rw [hT2] at hv
          cases ha : a.tmps[t]? with
          | none => rfl
          | some x =>
            rw [ha] at hv
            simp only [Option.getD_some] at hv
            obtain ⟨ys, hy, _⟩ := V.tuple_inv hv
            rw [hy]; rfl
        | some v =>
          rw [hT2] at hv
          cases ha : a.tmps[t]? with
          | none =>
            rw [ha] at hv
            simp only [Option.getD_none] at hv
            cases v <;> cases hv <;> rfl
          | some x =>
            rw [ha] at hv
            simp only [Option.getD_some] at hv
            cases hv <;> simp
theorem opds_rel {β : Emb} {ng n : Nat} {T : Tr Value} {a : Act} {ops : Array Oper} {o : Oper} (hG : GOK ng β) (hok : opOk n ng o = true) (hT : ∀ t ∈ o.looksAt ops, V β (tget T t) (a.tmps.getD t Go.undef)) :
    ∀ x ∈ o.op.operands.toList, V β (deval T x) (a.eval x) := by
  intro x hx
  simp only [opOk, Bool.and_eq_true, List.all_eq_true] at hok
  have hx' := hok.1 x hx
  cases x with
  | tmp t => exact hT t (List.mem_append_left _ (List.mem_filterMap.2 ⟨.tmp t, hx, rfl⟩))
  | const v => exact plain_V β hx'
  | global g =>
    obtain ⟨s, hs⟩ := hG g (Nat.le_of_ble_eq_true hx')
    exact V.ptr (bi := ⟨g, 0, s⟩) (o := 0) hs
  | func f => exact V.func' _ (VL.nil β) (VL.nil β)
theorem keep_spec {C : Ctx} {ops : Array Oper} {M : List Nat} {i : Nat} {H : DH} : ∀ {Pd Pd' : List Pn}, keep C ops M i H Pd = some Pd' → ∀ p ∈ Pd, bit M i p.i = false → p ∈ Pd' ∧ Good C ops p H := by
  intro Pd
  induction Pd with
  | nil => intro Pd' h p hp; cases hp
  | cons q r ih =>
    intro Pd' h p hp hb
    unfold keep at h
    cases hq : bit M i q.i with
    | true =>
      rw [hq] at h
      rcases List.mem_cons.1 hp with e | hp
      · subst e; rw [hq] at hb; cases hb
      · exact ih h p hp hb
    | false =>
      rw [hq] at h
      cases hs : still C ops H q with
      | false => rw [hs] at h; cases h
      | true =>
        rw [hs] at h
        obtain ⟨l, hl, he⟩ := Option.map_eq_some_iff.1 h
        subst he
        rcases List.mem_cons.1 hp with e | hp
        · subst e
          exact ⟨List.mem_cons_self, still_good hs⟩
        · obtain ⟨h1, h2⟩ := ih hl p hp hb
          exact ⟨List.mem_cons_of_mem _ h1, h2⟩

/-! ### Where a run in some order stands -/
structure Inv (C : Ctx) (ops : Array Oper) (M : List Nat) (n0 ng n : Nat) (D : List Deferred) (β : Emb) (H : DH) (w : World) (T : Tr Value) (a : Act) (listed : Array Bool) (U : List Pn) (rest : List Nat) (Pd : List Pn) : Prop where
  sub : ∀ p ∈ U, p ∈ Pd
  op : ∀ p ∈ U, ops.toList[p.i]? = some p.o ∧ (p.al = none → looks p.o = true)
  pv : ∀ p ∈ U, Good C ops p H
  al : ∀ p ∈ U, ∀ h ob, p.al = some (h, ob) → allocs p.o = true ∧ dwanted ops p.T p.o = true ∧ β h = none ∧ (∃ k, h = 2 * k ∧ n0 ≤ k ∧ k < H.n) ∧ ∃ Hp : DH, h = 2 * Hp.n ∧ dop C (deval p.T) p.o Hp = some (.val p.v, Hp.alloc ob)
  apart : ∀ p ∈ U, ∀ q ∈ U, p.i ≠ q.i → ∀ h ob h' ob', p.al = some (h, ob) → q.al = some (h', ob') → h ≠ h'
  n0le : n0 ≤ H.n
  tmp : ∀ t, (∀ p ∈ U, p.o.dst ≠ some t) → V β (tget T t) (a.tmps.getD t Go.undef)
  ops1 : ∀ p ∈ U, ∀ t ∈ p.o.looksAt ops, ∀ q ∈ U, q.o.dst = some t → bit M p.i q.i = true → tget p.T t = q.v
  ops2 : ∀ p ∈ U, ∀ t ∈ p.o.looksAt ops, (∀ q ∈ U, q.o.dst = some t → bit M p.i q.i = false) → V β (tget p.T t) (a.tmps.getD t Go.undef)
  out : ∀ p ∈ U, ∀ t, p.o.dst = some t → tget T t = p.v
  pair : (U.map (·.i) ++ rest).Pairwise (fun i j => pairOk ops M i j = true)
  bnd : ∀ i ∈ U.map (·.i) ++ rest, i < ops.size
  lst : ∀ i, i < ops.size → (listed.getD i true = false ↔ i ∈ U.map (·.i) ++ rest)
  lsize : listed.size = ops.size
  clo : ∀ i, listed.getD i false = true → ∀ j, bit M i j = true → listed.getD j false = true
  size : a.tmps.size = n
  defers : a.defers = D
  glob : GOK ng β
  rel : R β H w

section
variable {P : Program} {C : Ctx} (hC : CtxOK P C) {n0 ng n : Nat} {D : List Deferred} {ops : Array Oper} {L M : List Nat} (hD : DrawOK n ng ops L M)
include hD

/-- The next operation is a floating one: it is known ahead of being done. -/
theorem Inv.push {β : Emb} {H H' : DH} {w : World} {T : Tr Value} {a : Act} {listed : Array Bool} {U : List Pn} {i : Nat} {rest : List Nat} {Pd Pd' : List Pn} (h : Inv C ops M n0 ng n D β H w T a listed U (i :: rest) Pd) {o : Oper} (ho : ops.toList[i]? = some o)
    {p : Pn} (hpi : p.i = i) (hpo : p.o = o) (hpT : p.T = T) (hl : p.al = none → looks o = true) (hR' : R β H' w) (hn : H.n ≤ H'.n) (hgood : ∀ q ∈ U, Good C ops q H') (hgp : Good C ops p H')
    (hal : ∀ hh ob, p.al = some (hh, ob) → allocs o = true ∧ dwanted ops T o = true ∧ β hh = none ∧ (∃ k, hh = 2 * k ∧ H.n ≤ k ∧ k < H'.n) ∧ ∃ Hp : DH, hh = 2 * Hp.n ∧ dop C (deval T) o Hp = some (.val p.v, Hp.alloc ob))
    (hsub : ∀ q ∈ U, q ∈ Pd') (hpm : p ∈ Pd') :
    Inv C ops M n0 ng n D β H' w (dput o.dst p.v T) a listed (U ++ [p]) rest Pd' := by
  subst hpi
  subst hpo
  subst hpT
  have hp : ∀ q ∈ U, pairOk ops M q.i p.i = true := fun q hq => (List.pairwise_append.1 h.pair).2.2 q.i (List.mem_map.2 ⟨q, hq, rfl⟩) p.i List.mem_cons_self
  have hii : bit M p.i p.i = false := by
    cases hb : bit M p.i p.i with
    | false => rfl
    | true => exact absurd ((hD.mask p.i p.o ho).2 p.i hb).1 (Nat.lt_irrefl _)
  have hs : ∀ q ∈ U, ∀ t, p.o.dst = some t → q.o.dst ≠ some t := fun q hq t ht hqt => (pairOk_spec (hp q hq) (h.op q hq).1 ho).2.2.1 t hqt ht
  have mem : ∀ {q : Pn}, q ∈ U ++ [p] → q ∈ U ∨ q = p := fun hq => by simpa using hq
  refine ⟨?_, ?_, ?_, ?_, ?_, Nat.le_trans h.n0le hn, ?_, ?_, ?_, ?_, ?_, ?_, ?_, h.lsize, h.clo, h.size, h.defers, h.glob, hR'⟩
  · intro q hq
    rcases mem hq with hq | rfl
    · exact hsub q hq
    · exact hpm
  · intro q hq
    rcases mem hq with hq | rfl
    · exact h.op q hq
    · exact ⟨ho, hl⟩
  · intro q hq
    rcases mem hq with hq | rfl
    · exact hgood q hq
    · exact hgp
  · intro q hq hh ob hqa
    rcases mem hq with hq | rfl
    · obtain ⟨a1, a2, a3, ⟨k, a4, a5, a6⟩, a7⟩ := h.al q hq hh ob hqa
      exact ⟨a1, a2, a3, ⟨k, a4, a5, Nat.lt_of_lt_of_le a6 hn⟩, a7⟩
    · obtain ⟨a1, a2, a3, ⟨k, a4, a5, a6⟩, a7⟩ := hal hh ob hqa
      exact ⟨a1, a2, a3, ⟨k, a4, Nat.le_trans h.n0le a5, a6⟩, a7⟩
  · intro q hq q' hq' hne hh ob hh' ob' hqa hqa'
    rcases mem hq with hq1 | rfl
    · rcases mem hq' with hq' | rfl
      · exact h.apart q hq1 q' hq' hne hh ob hh' ob' hqa hqa'
      · obtain ⟨a1, a2, a3, ⟨k, a4, a5, a6⟩, a7⟩ := h.al q hq1 hh ob hqa
        obtain ⟨b1, b2, b3, ⟨k', b4, b5, b6⟩, b7⟩ := hal hh' ob' hqa'
        omega
    · rcases mem hq' with hq' | rfl
      · obtain ⟨a1, a2, a3, ⟨k, a4, a5, a6⟩, a7⟩ := h.al q' hq' hh' ob' hqa'
        obtain ⟨b1, b2, b3, ⟨k', b4, b5, b6⟩, b7⟩ := hal hh ob hqa
        omega
      · exact absurd rfl hne
  · intro t ht
    rw [tget_dput, if_neg (ht p (by simp))]
    exact h.tmp t fun q hq => ht q (by simp [hq])
  · intro q hqm t ht q' hq' hqd hb
    rcases mem hqm with hqm1 | rfl
    · rcases mem hq' with hq' | rfl
      · exact h.ops1 q hqm1 t ht q' hq' hqd hb
      · have := (pairOk_spec (hp q hqm1) (h.op q hqm1).1 ho).2.1
        rw [this] at hb; cases hb
    · rcases mem hq' with hq' | rfl
      · exact h.out q' hq' t hqd
      · rw [hii] at hb; cases hb
  · intro q hqm t ht hall
    rcases mem hqm with hqm | rfl
    · exact h.ops2 q hqm t ht fun q' hq' => hall q' (by simp [hq'])
    · refine h.tmp t fun q' hq' hqd => ?_
      have h1 := hall q' (by simp [hq']) hqd
      rcases (pairOk_spec (hp q' hq') (h.op q' hq').1 ho).2.2.2 with h2 | ⟨_, h2, _⟩
      · rw [h1] at h2; cases h2
      · exact h2 t hqd ht
  · intro q hqm t ht
    rw [tget_dput]
    rcases mem hqm with hqm | rfl
    · rw [if_neg fun e => hs q hqm t e ht]
      exact h.out q hqm t ht
    · rw [if_pos ht]
  · simpa using h.pair
  · intro j hj; exact h.bnd j (by simpa using hj)
  · intro j hj; rw [h.lst j hj]; simp

omit hD in
/-- Something new is known, but has no block yet. -/
theorem R.silent {β : Emb} {H : DH} {w : World} (hR : R β H w) (o : DO) : R β (H.alloc o) w := by
  have hf := hR.fresh H.n (Nat.le_refl _)
  have ne : ∀ {j : Nat} {bi : BI}, β j = some bi → j ≠ 2 * H.n := fun hb e => by subst e; rw [hf] at hb; cases hb
  refine ⟨fun j o' bi hj hb => ?_, fun j j' bi bi' hj hj' hb hb' he => ?_, fun k hk => hR.fresh k (by simp at hk; omega), hR.lt⟩
  · rw [DH.get_alloc, if_neg (ne hb)] at hj
    exact hR.obj j o' bi hj hb
  · rw [DH.get_alloc, if_neg (ne hb)] at hj
    rw [DH.get_alloc, if_neg (ne hb')] at hj'
    exact hR.inj j j' bi bi' hj hj' hb hb' he
omit hD in
theorem Ext.silent {β0 β : Emb} {H0 H : DH} {w0 w : World} (h : Ext β0 H0 w0 β H w) (hR : R β H w) (o : DO) : Ext β0 H0 w0 β (H.alloc o) w := by
  have hf := hR.fresh H.n (Nat.le_refl _)
  refine ⟨h.sub, h.size, h.keep, fun j bi hj hb => ?_, h.os, h.tape, h.output, Nat.le_trans h.n (by simp), h.dom⟩
  rw [DH.get_alloc, if_neg (fun e => by subst e; rw [hf] at hb; cases hb)] at hj
  exact h.live j bi hj hb
omit hD in
theorem Ext.late {β0 β : Emb} {H0 H : DH} {w0 w : World} (h : Ext β0 H0 w0 β H w) {hh k : Nat} (hk : hh = 2 * k) (hn : H0.n ≤ k) (hb : β hh = none) (x : Obj) (size : Nat) :
    Ext β0 H0 w0 (embAdd β hh ⟨w.heap.size, 0, size⟩) H (w.alloc x) := by
  refine ⟨h.sub.trans (embAdd_le hb), by have := h.size; simp; omega, fun r hr hno => ?_, fun j bi hj hbj => ?_, h.os, h.tape, h.output, h.n, fun j bi hbj => ?_⟩
  · rw [heap_alloc_lt (Nat.lt_of_lt_of_le hr h.size)]
    exact h.keep r hr hno
  · by_cases e : j = hh
    · subst e; simp at hbj; subst hbj; exact .inr h.size
    · rw [embAdd_ne e] at hbj
      exact h.live j bi hj hbj
  · by_cases e : j = hh
    · exact .inr ⟨k, e.trans hk, hn⟩
    · rw [embAdd_ne e] at hbj
      exact h.dom j bi hbj

theorem adv {call : Calling} : ∀ (rest : List Nat) {β0 : Emb} {H0 : DH} {w0 : World} {β : Emb} {H : DH} {w : World} {T : Tr Value} {a : Act} {listed : Array Bool} {U : List Pn} {Pd : List Pn} {r : DExit × Tr Value × DH},
    Inv C ops M n0 ng n D β H w T a listed U rest Pd → evalL C call ops M rest T H Pd = some r → Ext β0 H0 w0 β H w → (∀ {ρ : Operand → Value} {o : Oper} {H : DH} {v : Value} {H1 : DH}, allocs o = true → dop C ρ o H = some (.val v, H1) → ∃ ob, H1 = H.alloc ob) →
    ∃ rest' U' T' H' Pd', Inv C ops M n0 ng n D β H' w T' a listed U' rest' Pd' ∧ evalL C call ops M rest' T' H' Pd' = some r ∧ Ext β0 H0 w0 β H' w ∧ U'.length + rest'.length = U.length + rest.length ∧
      (∀ i r', rest' = i :: r' → ∃ o, ops.toList[i]? = some o ∧ looks o = false ∧ allocs o = false) := by
  intro rest
  induction rest with
  | nil => intro β0 H0 w0 β H w T a listed U Pd r h he hx _; exact ⟨[], U, T, H, Pd, h, he, hx, rfl, fun i r' e => by cases e⟩
  | cons i rest ih =>
    intro β0 H0 w0 β H w T a listed U Pd r h he hx hA
    have he0 := he
    unfold evalL at he
    cases ho : ops.toList[i]? with
    | none => rw [ho] at he; cases he
    | some o =>
      rw [ho] at he
      simp only at he
      cases hl : looks o with
      | false =>
        rw [hl] at he
        simp only at he
        cases hla : allocs o with
        | false => exact ⟨i :: rest, U, T, H, Pd, h, he0, hx, rfl, fun i' r' e => by cases e; exact ⟨o, ho, hl, hla⟩⟩
        | true =>
          rw [hla] at he
          simp only at he
          cases hw : dwanted ops T o with
          | false => rw [hw] at he; cases he
          | true =>
            rw [hw] at he
            cases hd : dop C (deval T) o H with
            | none => rw [hd] at he; cases he
            | some dr =>
              obtain ⟨dr, H1⟩ := dr
              rw [hd] at he
              cases dr with
              | skip => cases he
              | enter _ _ => cases he
              | panic _ => cases he
              | val v =>
                simp only at he
                obtain ⟨ob, rfl⟩ := hA hla hd
                have hg : (H.alloc ob).get (2 * H.n) = some ob := by simp
                rw [hg] at he
                cases hk : keep C ops [] i (H.alloc ob) Pd with
                | none => rw [hk] at he; cases he
                | some Pd2 =>
                  rw [hk] at he
                  simp only at he
                  have hks : ∀ q ∈ U, q ∈ Pd2 ∧ Good C ops q (H.alloc ob) := fun q hq => keep_spec hk q (h.sub q hq) (by simp [bit])
                  have hI := h.push (C := C) hD ho (p := ⟨i, o, T, v, some (2 * H.n, ob)⟩) (H' := H.alloc ob) (Pd' := ⟨i, o, T, v, some (2 * H.n, ob)⟩ :: Pd2) rfl rfl rfl (fun e => by cases e) (h.rel.silent ob) (by simp) (fun q hq => (hks q hq).2) hg
                    (fun hh ob' e => by
                      simp only [Option.some.injEq, Prod.mk.injEq] at e
                      obtain ⟨rfl, rfl⟩ := e
                      exact ⟨hla, hw, h.rel.fresh H.n (Nat.le_refl _), ⟨H.n, rfl, Nat.le_refl _, by simp⟩, H, rfl, hd⟩)
                    (fun q hq => List.mem_cons_of_mem _ (hks q hq).1) List.mem_cons_self
                  obtain ⟨rest', U', T', H', Pd', h1, h2, h5, h3, h4⟩ := ih hI he (hx.silent h.rel ob) hA
                  refine ⟨rest', U', T', H', Pd', h1, h2, h5, ?_, h4⟩
                  rw [h3]; simp; omega
      | true =>
        rw [hl] at he
        simp only at he
        cases hv : pval C ops T o H with
        | none => rw [hv] at he; cases he
        | some v =>
          rw [hv] at he
          have hI := h.push (C := C) hD ho (p := ⟨i, o, T, v, none⟩) (H' := H) (Pd' := ⟨i, o, T, v, none⟩ :: Pd) rfl rfl rfl (fun _ => hl) h.rel (Nat.le_refl _) h.pv hv (fun hh ob e => by cases e) (fun q hq => List.mem_cons_of_mem _ (h.sub q hq)) List.mem_cons_self
          obtain ⟨rest', U', T', H', Pd', h1, h2, h5, h3, h4⟩ := ih hI he hx hA
          refine ⟨rest', U', T', H', Pd', h1, h2, h5, ?_, h4⟩
          rw [h3]; simp; omega

theorem Inv.ahead {β : Emb} {H : DH} {w : World} {T : Tr Value} {a : Act} {listed : Array Bool} {U : List Pn} {rest : List Nat} {Pd : List Pn} (h : Inv C ops M n0 ng n D β H w T a listed U rest Pd)
    {i : Nat} (hi : i ∈ Region.ready .any ops listed) : i < ops.size ∧ i ∈ U.map (·.i) ++ rest ∧ ∀ j, bit M i j = true → j ∉ U.map (·.i) ++ rest := by
  obtain ⟨h0, o, ho, hall⟩ := mem_ready.1 hi
  have hlt := (Array.getElem?_eq_some_iff.1 ho).1
  refine ⟨hlt, (h.lst i hlt).1 h0, fun j hj hm => ?_⟩
  obtain ⟨hji, e, he, hb, hor⟩ := (hD.mask i o (by rw [Array.getElem?_toList]; exact ho)).2 j hj
  have h1 := hall e he hb
  have h2 : listed.getD j false = true := by
    rcases hor with rfl | hor
    · exact h1
    · exact h.clo _ h1 j hor
  have h3 := (h.lst j (h.bnd j hm)).2 hm
  have h4 : j < listed.size := by rw [h.lsize]; exact h.bnd j hm
  simp only [Array.getD_eq_getD_getElem?, Array.getElem?_eq_getElem h4, Option.getD_some] at h2 h3
  rw [h2] at h3; cases h3
theorem Inv.mark {β : Emb} {H : DH} {w : World} {T : Tr Value} {a : Act} {listed : Array Bool} {U : List Pn} {rest : List Nat} {Pd : List Pn} (h : Inv C ops M n0 ng n D β H w T a listed U rest Pd)
    {i : Nat} (hi : i ∈ Region.ready .any ops listed) : ∀ k, (listed.setIfInBounds i true).getD k false = true → ∀ j, bit M k j = true → (listed.setIfInBounds i true).getD j false = true := by
  intro k hk j hj
  by_cases e : i = k
  · subst e
    obtain ⟨h0, o, ho, hall⟩ := mem_ready.1 hi
    obtain ⟨hji, e, he, hb, hor⟩ := (hD.mask i o (by rw [Array.getElem?_toList]; exact ho)).2 j hj
    rcases hor with rfl | hor
    · exact getD_set_true (hall e he hb)
    · exact getD_set_true (h.clo _ (hall e he hb) j hor)
  · rw [getD_set_ne false e] at hk
    exact getD_set_true (h.clo k hk j hj)
end
end
end Go.Ds
