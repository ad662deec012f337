/- A deterministic layer over the model, part D: the table of types; reading, parts, equality. -/
import Derived.Test.YtnlnbhcjgacgmaaGreatDoorDsC
set_option linter.unusedVariables false
set_option linter.unusedSimpArgs false
namespace Go.Ds
noncomputable section

def dkRel : DK → TypeDesc → Bool
  | .bool, .bool => true
  | .int k, .int k' => decide (k = k')
  | .string, .string => true
  | .ptr e, .pointer e' => decide (e = e')
  | .slice e, .slice e' => decide (e = e')
  | .array n e, .array n' e' => decide (n = n') && decide (e = e')
  | .map k e, .map k' e' => decide (k = k') && decide (e = e')
  | .struct fs, .struct fields => decide (fields.toList.map (fun f => (f.offset, f.type)) = fs)
  | .func, .func _ _ _ => true
  | .iface, .interface _ => true
  | .unsafeP, .unsafePointer => true
  | .other, .struct _ => false
  | .other, .array _ _ => false
  | .other, .interface _ => false
  | .other, _ => true
  | _, _ => false
def eqokRel (P : Program) (t : TypeId) : TypeDesc → Bool
  | .struct fields => !P.eqGuardType P.depth t && !P.stoodInHeld t && fields.toList.all fun f => f.name != "_"
  | .array _ _ => !P.eqGuardType P.depth t
  | _ => false
def tiChk (P : Program) (t : TypeId) (i : TI) : Bool :=
  match P.underlying t, P.info? t with
  | some d, some info => decide (info.size = i.size) && decide (info.bytes = i.bytes) && dkRel i.kind d && (!i.eqok || eqokRel P t d) &&
    (match info.zero, i.zero with
     | some z, some z' => plain z' && decide (z'.cells.size = i.size) && Instr.sameBits 12 z z'
     | _, none => true
     | none, some _ => false) &&
    (match d with | .struct fields => fields.toList.all fun f => (P.info? f.type).isSome | _ => true)
  | _, _ => false
structure TIok (P : Program) (t : TypeId) (i : TI) : Prop where
  und : ∃ d, P.underlying t = some d ∧ dkRel i.kind d = true ∧ (i.eqok = true → eqokRel P t d = true)
  info : ∃ info, P.info? t = some info ∧ info.size = i.size ∧ info.bytes = i.bytes ∧ (∀ z, i.zero = some z → info.zero = some z)
  zero : ∀ z, i.zero = some z → plain z = true ∧ z.cells.size = i.size
  flds : ∀ fields, P.underlying t = some (.struct fields) → ∀ f ∈ fields.toList, ∃ fi, P.info? f.type = some fi
structure CtxOK (P : Program) (C : Ctx) : Prop where
  ty : ∀ t i, C.ty.get t = some i → TIok P t i
  fn : ∀ f F, C.fn.get f = some F → P.funcs[f]? = some F ∧ F.body.isSome = true ∧ (F.name == "runtime.NumGoroutine") = false
  ext : ∀ f g, C.ext f = some g → ∃ F e, P.funcs[f]? = some F ∧ F.body.isNone = true ∧ (F.name == "runtime.NumGoroutine") = false ∧ Extern.findNext F = none ∧ Extern.find F = some e ∧
    ∀ (args : List Value) (v : Value), g args = some v → ∀ β args' w, VL β args args' → ∃ v', (e ⟨args'⟩).run P w = .ok v' w ∧ V β v v'
  lies : ∀ p ∈ C.lies, p.2.1 < P.cellsOf p.1 ∧ rowAt P (fun t => sameLayout P P.depth t p.2.2) P.depth p.1 1 p.2.1 1 = true
  mth : ∀ t n f, (t, n, f) ∈ C.mth → ∀ v w, (method (P.types.size + Made.depth) t v n).run P w = .ok (f, v) w

section
variable {P : Program} {C : Ctx} {t : TypeId} {i : TI} {w : World}
theorem run_und (h : TIok P t i) : ∃ d, dkRel i.kind d = true ∧ (i.eqok = true → eqokRel P t d = true) ∧ P.underlying t = some d ∧ ∀ w, (underlying t).run P w = .ok d w := by
  obtain ⟨d, h1, h2, h3⟩ := h.und
  exact ⟨d, h2, h3, h1, fun w => by simp [underlying, h1]⟩
theorem run_size (h : TIok P t i) (w : World) : (sizeOf t).run P w = .ok i.size w := by
  obtain ⟨info, h1, h2, h3, h4⟩ := h.info
  simp [sizeOf, typeInfo, h1, h2]
theorem run_info (h : TIok P t i) : ∃ info, info.size = i.size ∧ info.bytes = i.bytes ∧ ∀ w, (typeInfo t).run P w = .ok info w := by
  obtain ⟨info, h1, h2, h3, h4⟩ := h.info
  exact ⟨info, h2, h3, fun w => by simp [typeInfo, h1]⟩
theorem run_zero (h : TIok P t i) {z : Value} (hz : i.zero = some z) (w : World) : (zeroValue t).run P w = .ok z w := by
  obtain ⟨info, h1, h2, h3, h4⟩ := h.info
  simp [zeroValue, typeInfo, h1, h4 z hz]
theorem run_isAgg (h : TIok P t i) (w : World) : (isAgg t).run P w = .ok i.kind.isAgg w := by
  obtain ⟨d, h1, h2, h3, hr⟩ := run_und h
  simp only [isAgg, Sem.run_bind, hr, Result.andThen_ok]
  cases hk : i.kind <;> cases d <;> simp [hk, dkRel, DK.isAgg] at h1 ⊢
end

theorem ObjRel.row_inv {β : Emb} {bi : BI} {cells : List Value} {e : TypeId} {lo hi : Nat} {x : Obj} (h : ObjRel β bi (.row cells e lo hi) x) :
    ∃ cs fr, x = .cells cs e fr ∧ cs.size = bi.size ∧ bi.base + cells.length ≤ bi.size ∧ VL β cells ((cs.toList.drop bi.base).take cells.length) ∧ FR bi lo hi fr := by
  cases x <;> simp only [ObjRel] at h
  rename_i cs e' fr
  obtain ⟨rfl, h⟩ := h
  exact ⟨cs, fr, rfl, h⟩
theorem R.row {β : Emb} {H : DH} {w : World} (hR : R β H w) {h : Nat} {cells : List Value} {e : TypeId} {lo hi : Nat} (hg : H.get h = some (.row cells e lo hi)) {bi : BI} (hb : β h = some bi) :
    ∃ cs fr, w.heap[bi.rb]? = some (.cells cs e fr) ∧ cs.size = bi.size ∧ bi.base + cells.length ≤ bi.size ∧ VL β cells ((cs.toList.drop bi.base).take cells.length) ∧ FR bi lo hi fr := by
  obtain ⟨x, hx, hr⟩ := hR.obj h _ bi hg hb
  obtain ⟨cs, fr, rfl, h1⟩ := hr.row_inv
  exact ⟨cs, fr, hx, h1⟩
theorem take_drop_view {β : Emb} {cells l : List Value} {base : Nat} (h : VL β cells ((l.drop base).take cells.length)) (o n : Nat) (hl : o + n ≤ cells.length) :
    VL β ((cells.drop o).take n) ((l.drop (base + o)).take n) := by
  have h1 := (h.drop o).take n
  have : ((((l.drop base).take cells.length).drop o).take n) = ((l.drop (base + o)).take n) := by
    rw [List.drop_take, List.take_take, List.drop_drop]
    congr 1
    omega
  rwa [this] at h1

section
variable {P : Program} {C : Ctx} (hC : CtxOK P C) {β : Emb} {H : DH} {w : World}
include hC

theorem dpart_sound {t : TypeId} {cs : List Value} {cs' : Array Value} {off : Nat} {x : Value} (h : dpart C t cs off = some x) (hv : VL β cs cs'.toList) :
    ∃ x', (∀ w, (part t cs' off).run P w = .ok x' w) ∧ V β x x' := by
  unfold dpart at h
  cases ht : C.ty.get t with
  | none => simp [ht] at h
  | some i =>
    have hi := hC.ty t i ht
    simp only [ht] at h
    cases ha : i.kind.isAgg with
    | true =>
      simp only [ha, if_true, Option.some.injEq] at h
      subst h
      refine ⟨.agg (cs'.extract off (off + i.size)), fun w => by simp [part, run_isAgg hi, ha, run_size hi], V.agg' ?_⟩
      unfold VA
      have : (cs'.extract off (off + i.size)).toList = (cs'.toList.drop off).take i.size := by simp [List.extract_eq_drop_take']
      rw [this]
      exact (hv.drop off).take _
    | false =>
      simp only [ha, Bool.false_eq_true, if_false] at h
      obtain ⟨y, hy, hvy⟩ := hv.get h
      have hy' : cs'[off]? = some y := by rw [← Array.getElem?_toList]; exact hy
      exact ⟨y, fun w => by simp [part, run_isAgg hi, ha, hy'], hvy⟩

theorem dload_sound {t : TypeId} {v v' x : Value} (h : dload C t v H = some x) (hv : V β v v') (hR : R β H w) :
    ∃ x', (Instr.loadAt t v').run P w = .ok x' w ∧ V β x x' := by
  unfold dload at h
  split at h
  · rename_i hh o
    cases hv with
    | ptr hb =>
      rename_i bi
      split at h
      · rename_i i cells e lo hi ht hg
        have hi := hC.ty t i ht
        obtain ⟨cs, fr, hx, hsz, hle, hvl, _⟩ := hR.row hg hb
        cases ha : i.kind.isAgg with
        | true =>
          simp only [ha, if_true] at h
          split at h
          · rename_i hl
            simp only [Option.some.injEq] at h
            subst h
            have hrun := run_loadCells' P bi.rb (bi.base + o) i.size w cs e fr hx (by omega)
            exact ⟨_, by simp [Instr.loadAt, Instr.sureAddr, loadVar, run_isAgg hi, ha, run_size hi, hrun], V.agg' (take_drop_view hvl o i.size hl)⟩
          · cases h
        | false =>
          simp only [ha, Bool.false_eq_true, if_false] at h
          obtain ⟨y, hy, hvy⟩ := hvl.get h
          have hlt : o < cells.length := (List.getElem?_eq_some_iff.1 h).1
          have hy' : cs[bi.base + o]? = some y := by
            rw [← Array.getElem?_toList]
            rw [List.getElem?_take, if_pos hlt, List.getElem?_drop] at hy
            exact hy
          exact ⟨y, by simp [Instr.loadAt, Instr.sureAddr, loadVar, run_isAgg hi, ha, cell_of hx, hy'], hvy⟩
      · cases h
  · cases h

end

theorem bsEq_eq (a b : List UInt8) : bsEq a b = (a == b) := by
  induction a generalizing b with
  | nil => cases b <;> simp [bsEq]
  | cons x a ih =>
    cases b with
    | nil => simp [bsEq]
    | cons y b =>
      simp only [bsEq, ih, List.cons_beq_cons]
      congr 1
      by_cases e : x = y
      · subst e; simp
      · have : x.toNat ≠ y.toNat := fun h => e (UInt8.toNat_inj.1 h)
        rw [Tr.beq_false this]
        simp [e]
theorem bsEq_string (a b : ByteArray) : bsEq a.data.toList b.data.toList = (a == b) := by
  rw [bsEq_eq]
  show _ = (a.data == b.data)
  rw [Bool.eq_iff_iff, beq_iff_eq, beq_iff_eq]
  exact ⟨fun h => Array.ext' h, fun h => by rw [h]⟩

section
variable {P : Program} {C : Ctx} (hC : CtxOK P C) {β : Emb}
include hC
theorem deqFields_sound {eq : TypeId → Value → Value → Option Bool} {xs ys : List Value} {xs' ys' : Array Value} (hx : VL β xs xs'.toList) (hy : VL β ys ys'.toList) {n : Nat}
    (heq : ∀ t x y b, eq t x y = some b → ∀ x' y', V β x x' → V β y y' → ∀ w, (Op.equalIn n t x' y').run P w = .ok b w) :
    ∀ (fs : List Field), (∀ f ∈ fs, f.name ≠ "_") → ∀ b, deqFields C eq xs ys (fs.map fun f => (f.offset, f.type)) = some b → ∀ w,
      (forIn fs ((none, ()) : Option Bool × Unit) fun f __s =>
            if f.name = "_" then (Pure.pure (ForInStep.yield (none, ())) : Sem (ForInStep (Option Bool × Unit)))
            else do
              let __do_lift ← part f.type xs' f.offset
              let __do_lift_1 ← part f.type ys' f.offset
              let __do_lift ← Op.equalIn n f.type __do_lift __do_lift_1
              if __do_lift = false then Pure.pure (ForInStep.done (some false, ())) else Pure.pure (ForInStep.yield (none, ()))).run P w = .ok (if b then (none, ()) else (some false, ())) w := by
  intro fs
  induction fs with
  | nil => intro _ b h w; simp [deqFields] at h; subst h; simp
  | cons f fs ih =>
    intro hn b h w
    simp only [List.map_cons, deqFields] at h
    split at h
    · rename_i a a2 h1 h2
      obtain ⟨u, hu, hvu⟩ := dpart_sound hC (β := β) h1 hx
      obtain ⟨u2, hu2, hvu2⟩ := dpart_sound hC (β := β) h2 hy
      have hne : f.name ≠ "_" := hn f (List.mem_cons_self ..)
      have hn' : ∀ f ∈ fs, f.name ≠ "_" := fun g hg => hn g (List.mem_cons_of_mem _ hg)
      split at h
      · rename_i he
        have hr := heq _ _ _ _ he u u2 hvu hvu2
        simp only [List.forIn_cons, hne, if_false, Sem.run_bind, hu, hu2, hr, Result.andThen_ok, Bool.true_eq_false, Sem.run_pure]
        exact ih hn' b h w
      · rename_i he hnt
        cases hb : eq f.type a a2 with
        | none => rw [hb] at h; cases h
        | some r =>
          rw [hb] at h
          cases r with
          | true => exact absurd hb hnt
          | false =>
            cases h
            have hr := heq _ _ _ _ hb u u2 hvu hvu2
            simp only [List.forIn_cons, hne, if_false, Sem.run_bind, hu, hu2, hr, Result.andThen_ok, if_true, Sem.run_pure, Bool.false_eq_true]
    · cases h
theorem deqArray_sound {eq : TypeId → Value → Value → Option Bool} {xs ys : List Value} {xs' ys' : Array Value} (hx : VL β xs xs'.toList) (hy : VL β ys ys'.toList) {n : Nat} (e size : Nat)
    (heq : ∀ t x y b, eq t x y = some b → ∀ x' y', V β x x' → V β y y' → ∀ w, (Op.equalIn n t x' y').run P w = .ok b w) :
    ∀ (k i : Nat) b, deqFields C eq xs ys (fieldsOfArray e size k i) = some b → ∀ w,
      (forIn (List.range' i k) ((none, ()) : Option Bool × Unit) fun i __s => do
              let __do_lift ← part e xs' (i * size)
              let __do_lift_1 ← part e ys' (i * size)
              let __do_lift ← Op.equalIn n e __do_lift __do_lift_1
              if __do_lift = false then (Pure.pure (ForInStep.done (some false, ())) : Sem (ForInStep (Option Bool × Unit))) else Pure.pure (ForInStep.yield (none, ()))).run P w = .ok (if b then (none, ()) else (some false, ())) w := by
  intro k
  induction k with
  | zero => intro i b h w; simp [fieldsOfArray, deqFields] at h; subst h; simp
  | succ k ih =>
    intro i b h w
    simp only [fieldsOfArray, deqFields] at h
    split at h
    · rename_i a a2 h1 h2
      obtain ⟨u, hu, hvu⟩ := dpart_sound hC (β := β) h1 hx
      obtain ⟨u2, hu2, hvu2⟩ := dpart_sound hC (β := β) h2 hy
      split at h
      · rename_i he
        have hr := heq _ _ _ _ he u u2 hvu hvu2
        simp only [List.range'_succ, List.forIn_cons, Sem.run_bind, hu, hu2, hr, Result.andThen_ok, Bool.true_eq_false, if_false, Sem.run_pure]
        exact ih (i + 1) b h w
      · rename_i he hnt
        cases hb : eq e a a2 with
        | none => rw [hb] at h; cases h
        | some r =>
          rw [hb] at h
          cases r with
          | true => exact absurd hb hnt
          | false =>
            cases h
            have hr := heq _ _ _ _ hb u u2 hvu hvu2
            simp only [List.range'_succ, List.forIn_cons, Sem.run_bind, hu, hu2, hr, Result.andThen_ok, if_true, Sem.run_pure, Bool.false_eq_true, if_false]
    · cases h
omit hC in
theorem dk_struct {fs : List (Nat × TypeId)} {d : TypeDesc} (h : dkRel (.struct fs) d = true) : ∃ fields, d = .struct fields ∧ fields.toList.map (fun f => (f.offset, f.type)) = fs := by
  cases d <;> simp [dkRel] at h
  exact ⟨_, rfl, h⟩

theorem deq_sound : ∀ (d : Nat) (t : TypeId) (x y : Value) (b : Bool), deq C d t x y = some b → ∀ n, d ≤ n → ∀ x' y', V β x x' → V β y y' → ∀ w, (Op.equalIn n t x' y').run P w = .ok b w := by
  intro d
  induction d with
  | zero => intro t x y b h; simp [deq] at h
  | succ d ih =>
    intro t x y b h n hn x' y' hx hy w
    obtain ⟨n, rfl⟩ : ∃ m, n = m + 1 := ⟨n - 1, by omega⟩
    unfold deq at h
    cases ht : C.ty.get t with
    | none => simp [ht] at h
    | some i =>
      have hi := hC.ty t i ht
      obtain ⟨ds, hd, hq, hds, hr⟩ := run_und hi
      simp only [ht] at h
      unfold Op.equalIn
      simp only [Sem.run_bind, hr, Result.andThen_ok]
      split at h
      · -- bool
        rename_i hk; rw [hk] at hd; cases ds <;> simp [dkRel] at hd
        cases hx; cases hy; cases h; simp
      · rename_i hk; rw [hk] at hd; cases ds <;> simp [dkRel] at hd
        cases hx; cases hy
        split at h
        · rename_i e; subst e; cases h; simp
        · cases h
      · rename_i hk; rw [hk] at hd; cases ds <;> simp [dkRel] at hd
        cases hx; cases hy; cases h; simp [bsEq_string]
      · rename_i hk; rw [hk] at hd; cases ds <;> simp [dkRel] at hd
        cases hx; cases hy <;> (cases h; simp)
      · rename_i hk; rw [hk] at hd; cases ds <;> simp [dkRel] at hd
        cases hx; cases hy; cases h; simp
      · rename_i e p q hk; rw [hk] at hd; cases ds <;> simp [dkRel] at hd
        subst hd
        split at h
        · rename_i ie hte
          have hie := hC.ty e ie hte
          split at h
          · rename_i hc
            obtain ⟨hz, hb, hs1, hs2⟩ := hc
            cases h
            cases hx with
            | ptr hbx =>
              cases hy with
              | ptr hby =>
                simp only at hb hs1 hs2
                subst hb
                rw [hbx] at hby; cases hby
                simp only [Sem.run_bind, run_size hie, Result.andThen_ok, ne_eq, hz, not_false_eq_true, if_true, sameAddr, beq_self_eq_true, Sem.run_pure]
                congr 1
                rw [Bool.eq_iff_iff]
                simp
          · cases h
        · cases h
      · rename_i hk; rw [hk] at hd; cases ds <;> simp [dkRel] at hd
        cases hx; cases hy; cases h; simp
      · rename_i hk; rw [hk] at hd; cases ds <;> simp [dkRel] at hd
        cases hx; cases hy; cases h; simp
      · rename_i hk; rw [hk] at hd; cases ds <;> simp [dkRel] at hd
        cases hx; cases hy; cases h; simp
      · -- struct
        rename_i fs xs ys hk
        rw [hk] at hd
        obtain ⟨fields, rfl, hfs⟩ := dk_struct hd
        obtain ⟨xs', rfl, hxs⟩ := hx.agg_inv
        obtain ⟨ys', rfl, hys⟩ := hy.agg_inv
        split at h
        · rename_i he
          have hq := hq he
          simp only [eqokRel, Bool.and_eq_true, Bool.not_eq_true', List.all_eq_true, bne_iff_ne, ne_eq] at hq
          rw [← hfs] at h
          have := deqFields_sound hC (β := β) (n := n) hxs hys (fun t x y b hb x' y' hx hy w => ih t x y b hb n (by omega) x' y' hx hy w) fields.toList hq.2 b h w
          rw [Array.forIn_toList] at this
          simp [hq.1.2, this]
          cases b <;> simp
        · cases h
      · rename_i m e xs ys hk
        rw [hk] at hd
        cases ds <;> simp [dkRel] at hd
        obtain ⟨rfl, rfl⟩ := hd
        obtain ⟨xs', rfl, hxs⟩ := hx.agg_inv
        obtain ⟨ys', rfl, hys⟩ := hy.agg_inv
        split at h
        · rename_i ie hte
          have hie := hC.ty _ ie hte
          split at h
          · have := deqArray_sound hC (β := β) (n := n) hxs hys _ ie.size (fun t x y b hb x' y' hx hy w => ih t x y b hb n (by omega) x' y' hx hy w) _ 0 b h w
            simp [run_size hie, this]
            cases b <;> simp
          · cases h
        · cases h
      · rename_i hk; rw [hk] at hd; cases ds <;> simp [dkRel] at hd
        cases hx; cases hy <;> (cases h; simp)
      · rename_i hk; rw [hk] at hd; cases ds <;> simp [dkRel] at hd
        cases hx; cases hy; cases h; simp
      · rename_i hk; rw [hk] at hd; cases ds <;> simp [dkRel] at hd
        cases hx; cases hy <;> (cases h; simp)
      · rename_i hk; rw [hk] at hd; cases ds <;> simp [dkRel] at hd
        cases hx; cases hy; cases h; simp
      · rename_i hk; rw [hk] at hd; cases ds <;> simp [dkRel] at hd
        cases hx; cases hy; cases h; simp
      · rename_i hk; rw [hk] at hd; cases ds <;> simp [dkRel] at hd
        cases hx; cases hy; cases h; simp
      · rename_i hk; rw [hk] at hd; cases ds <;> simp [dkRel] at hd
        cases hx; cases hy; cases h; simp
      · cases h
end
end
end Go.Ds
