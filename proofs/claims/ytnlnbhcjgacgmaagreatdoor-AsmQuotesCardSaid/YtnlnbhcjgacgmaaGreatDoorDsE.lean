/- A deterministic layer over the model, part E: the operations that leave the heap as it is. -/
import Derived.Test.YtnlnbhcjgacgmaaGreatDoorDsD
import Derived.Laws.Strings
set_option linter.unusedVariables false
set_option linter.unusedSimpArgs false
namespace Go.Ds
noncomputable section

theorem toList_bytes (s : ByteArray) : s.toList = s.data.toList := ByteArray.toList_eq s
theorem mkS_append (a b : ByteArray) : (.string (a ++ b) : Value) = mkS (a.data.toList ++ b.data.toList) := by
  unfold mkS
  congr 1

theorem dint_sound {op : BinOp} {k : IntKind} {a b : Int} {r : Value} (h : dint op k a b = some r) (hs : op ≠ .shl) (hs2 : op ≠ .shr) (P : Program) (t : TypeId) (w : World) :
    (binOp op t (.int k a) (.int k b)).run P w = .ok r w ∧ ∀ β, V β r r := by
  cases op <;> simp only [dint, Option.some.injEq] at h <;> first
    | (subst h; exact ⟨by simp [binOp, Op.intArith, Op.intBits, Op.intCmp], fun β => by first | exact .int _ _ | exact .bool _⟩)
    | (cases h; done)
    | (exact absurd rfl hs)
    | (exact absurd rfl hs2)
    | (split at h
       · cases h
       · rename_i hb
         simp only [Option.some.injEq] at h
         subst h
         exact ⟨by simp [binOp, Op.intDiv, hb], fun β => .int _ _⟩)
theorem dshift_sound {op : BinOp} {k k' : IntKind} {a b : Int} {r : Value} (h : dshift op k a b = some r) (P : Program) (t : TypeId) (w : World) :
    (binOp op t (.int k a) (.int k' b)).run P w = .ok r w ∧ ∀ β, V β r r := by
  unfold dshift at h
  split at h
  · cases h
  · rename_i hb
    cases op <;> simp only [Option.some.injEq] at h <;> first
      | (cases h; done)
      | (subst h; exact ⟨by simp [binOp, Op.shift, hb], fun β => .int _ _⟩)
theorem dstr_sound {op : BinOp} {a b : ByteArray} {r : Value} (h : dstr op a.data.toList b.data.toList = some r) (P : Program) (t : TypeId) (w : World) :
    (binOp op t (.string a) (.string b)).run P w = .ok r w ∧ ∀ β, V β r r := by
  cases op <;> simp only [dstr, Option.some.injEq] at h <;> first
    | (cases h; done)
    | (subst h; exact ⟨by simp [binOp, Op.stringOp, toList_bytes, bsEq_eq], fun β => .bool _⟩)
    | (split at h
       · rename_i hl
         simp only [Option.some.injEq] at h
         subst h
         refine ⟨?_, fun β => .string _⟩
         have h1 : ¬ (9223372036854775807 : Int) < ((a.size + b.size : Nat) : Int) := by
           have e1 : a.data.toList.length = a.size := by simp
           have e2 : b.data.toList.length = b.size := by simp
           unfold maxStr at hl
           omega
         have h2 : IntKind.i64.max = 9223372036854775807 := by decide
         simp only [binOp, Op.stringOp, h2, gt_iff_lt, h1, if_false, Sem.run_pure, mkS_append]
       · cases h)

section
variable {P : Program} {C : Ctx} (hC : CtxOK P C) {β : Emb}
include hC

omit hC in
theorem eqGuard_plain {op : BinOp} {t : TypeId} {ox oy : Operand} {x y : Value} (h : (match x, y with | .nilIface, .nilIface => isCst ox || isCst oy | .agg _, .agg _ => !P.eqGuardType P.depth t | _, _ => true) = true) (w : World) :
    (eqGuard op t ox oy x y).run P w = .ok () w := by
  unfold eqGuard
  by_cases ho : (op matches .eql | .neq) = true
  · cases x <;> cases y <;> simp_all [isCst]
    · cases ox <;> cases oy <;> simp_all [isCst]
  · cases op <;> first | (exact absurd rfl ho) | rfl

theorem deq_agg {t : TypeId} {xs ys : Array Value} {d : Nat} {b : Bool} (h : deq C d t (.agg xs) (.agg ys) = some b) : P.eqGuardType P.depth t = false := by
  cases d with
  | zero => simp [deq] at h
  | succ d =>
    unfold deq at h
    cases ht : C.ty.get t with
    | none => simp [ht] at h
    | some i =>
      have hi := hC.ty t i ht
      obtain ⟨ds, hd, hq, hds, hr⟩ := run_und hi
      simp only [ht] at h
      cases hk : i.kind <;> simp only [hk] at h hd <;> first
        | (cases h; done)
        | skip
      · rename_i n e
        cases hie : C.ty.get e with
        | none => simp [hie] at h
        | some ie =>
          simp only [hie] at h
          split at h
          · rename_i he
            have := hq he
            cases ds <;> simp [dkRel] at hd
            simpa [eqokRel] using this
          · cases h
      · split at h
        · rename_i he
          have := hq he
          cases ds <;> simp [dkRel] at hd
          simp [eqokRel] at this
          exact this.1.1
        · cases h

theorem binOp_eq {op : BinOp} (ho : op = .eql ∨ op = .neq) {t : TypeId} {x y x' y' : Value} {b : Bool} (h : deq C eqDepth t x y = some b) (hx : V β x x') (hy : V β y y')
    (hni : ∀ k a k' c, ¬ (x = .int k a ∧ y = .int k' c)) (hns : ∀ a c, ¬ (x = .string a ∧ y = .string c)) (w : World) :
    (binOp op t x' y').run P w = .ok (.bool (if op = .eql then b else !b)) w := by
  have hs := deq_sound hC eqDepth t x y b h Op.maxDepth (by decide) x' y' hx hy w
  have hs : (Op.equal t x' y').run P w = .ok b w := hs
  have hf : ∀ (r : Sem Value), True := fun _ => trivial
  rcases ho with rfl | rfl
  · cases hx <;> cases hy <;> first
      | (exact absurd ⟨rfl, rfl⟩ (hni _ _ _ _))
      | (exact absurd ⟨rfl, rfl⟩ (hns _ _))
      | (simp [binOp, hs]; done)
  · cases hx <;> cases hy <;> first
      | (exact absurd ⟨rfl, rfl⟩ (hni _ _ _ _))
      | (exact absurd ⟨rfl, rfl⟩ (hns _ _))
      | (simp [binOp, hs]; done)

theorem dbin_sound {op : BinOp} {t : TypeId} {ox oy : Operand} {x y x' y' r : Value} (h : dbin C op t ox oy x y = some r) (hx : V β x x') (hy : V β y y') (w : World) :
    ∃ r', (do eqGuard op t ox oy x' y'; binOp op t x' y' : Sem Value).run P w = .ok r' w ∧ V β r r' := by
  unfold dbin at h
  split at h
  · rename_i k a k' b
    cases hx; cases hy
    have hg := eqGuard_plain (P := P) (op := op) (t := t) (ox := ox) (oy := oy) (x := .int k a) (y := .int k' b) rfl w
    split at h
    · have := dshift_sound (k' := k') h P t w
      exact ⟨r, by simp only [Sem.run_bind, hg, Result.andThen_ok]; exact this.1, this.2 β⟩
    · have := dshift_sound (k' := k') h P t w
      exact ⟨r, by simp only [Sem.run_bind, hg, Result.andThen_ok]; exact this.1, this.2 β⟩
    · rename_i h1 h2
      split at h
      · rename_i e
        subst e
        have := dint_sound h (fun e => h1 e) (fun e => h2 e) P t w
        exact ⟨r, by simp only [Sem.run_bind, hg, Result.andThen_ok]; exact this.1, this.2 β⟩
      · cases h
  · rename_i a b
    cases hx; cases hy
    have hg := eqGuard_plain (P := P) (op := op) (t := t) (ox := ox) (oy := oy) (x := .string a) (y := .string b) rfl w
    have := dstr_sound h P t w
    exact ⟨r, by simp only [Sem.run_bind, hg, Result.andThen_ok]; exact this.1, this.2 β⟩
  · rename_i hni hns
    unfold dbinEq at h
    split at h
    · cases h
    · rename_i hnn
      have key : ∀ b, deq C eqDepth t x y = some b → (eqGuard op t ox oy x' y').run P w = .ok () w := by
        intro b hb
        refine eqGuard_plain ?_ w
        cases hx <;> cases hy <;> first
          | rfl
          | skip
        · show (isCst ox || isCst oy) = true
          cases hh : (isCst ox || isCst oy) with
          | true => rfl
          | false => simp [isNilIface, hh] at hnn
        · show (!P.eqGuardType P.depth t) = true
          rw [deq_agg hC hb]; rfl
      have hni' : ∀ k a k' c, ¬ (x = .int k a ∧ y = .int k' c) := fun k a k' c e => hni k a k' c e.1 e.2
      have hns' : ∀ a c, ¬ (x = .string a ∧ y = .string c) := fun a c e => hns a c e.1 e.2
      have fin : ∀ b, deq C eqDepth t x y = some b → (op = .eql ∨ op = .neq) → ∃ r', (do eqGuard op t ox oy x' y'; binOp op t x' y' : Sem Value).run P w = .ok r' w ∧ V β (.bool (if op = .eql then b else !b)) r' := by
        intro b hb ho
        refine ⟨_, ?_, .bool _⟩
        rw [Sem.run_bind, key b hb]
        exact binOp_eq hC ho hb hx hy hni' hns' w
      cases hb : deq C eqDepth t x y with
      | none => rw [hb] at h; cases op <;> cases h
      | some b =>
        rw [hb] at h
        cases op <;> simp only [Option.map_some, Option.some.injEq] at h <;> first
          | (cases h; done)
          | (subst h; exact fin b hb (.inl rfl))
          | (subst h; exact fin b hb (.inr rfl))

omit hC in
theorem dun_sound {op : UnOp} {x x' r : Value} (h : dun op x = some r) (hx : V β x x') (w : World) : (Op.unary op x').run P w = .ok r w ∧ V β r r := by
  cases op <;> cases hx <;> simp only [dun] at h <;> first
    | (cases h; done)
    | (cases h; exact ⟨rfl, .int _ _⟩)
    | (cases h; exact ⟨rfl, .bool _⟩)

theorem run_fields {f : Nat} {s : TypeId} {i : TI} (hs : C.ty.get s = some i) {fs : List (Nat × TypeId)} (hk : i.kind = .struct fs) {off : Nat} {ft : TypeId} (hf : fs[f]? = some (off, ft)) :
    ∃ fields fl, (∀ w, (underlying s).run P w = .ok (.struct fields) w) ∧ fields[f]? = some fl ∧ fl.offset = off ∧ fl.type = ft := by
  obtain ⟨d, hd, hq, hds, hr⟩ := run_und (hC.ty s i hs)
  rw [hk] at hd
  obtain ⟨fields, rfl, hfs⟩ := dk_struct hd
  subst hfs
  rw [List.getElem?_map] at hf
  cases hfl : fields.toList[f]? with
  | none => rw [hfl] at hf; cases hf
  | some fl =>
    rw [hfl] at hf
    simp only [Option.map_some, Option.some.injEq, Prod.mk.injEq] at hf
    exact ⟨fields, fl, hr, by rw [← Array.getElem?_toList]; exact hfl, hf.1, hf.2⟩

theorem dfieldAddr_sound {s : TypeId} {x x' r : Value} {f : Nat} (h : dfieldAddr C s x f = some r) (hx : V β x x') (w : World) : ∃ r', (Instr.fieldAt s x' f).run P w = .ok r' w ∧ V β r r' := by
  unfold dfieldAddr at h
  split at h
  · rename_i i hh o hs
    split at h
    · rename_i fs hk
      split at h
      · rename_i off ft hf
        split at h
        · rename_i k hft
          split at h
          · rename_i hz
            cases h
            obtain ⟨fields, fl, hr, hfl, rfl, rfl⟩ := run_fields hC hs hk hf
            cases hx with
            | ptr hb =>
              rename_i bi
              refine ⟨.pointer (some ⟨bi.rb, bi.base + (o + fl.offset), none⟩), ?_, .ptr hb⟩
              simp [Instr.fieldAt, hr, hfl, Instr.sureAddr, fieldPlace, run_size (hC.ty _ _ hft), hz, addr_add, Nat.add_assoc]
          · cases h
        · cases h
      · cases h
    · cases h
  · cases h

theorem dfield_sound {s : TypeId} {x x' r : Value} {f : Nat} (h : dfield C s x f = some r) (hx : V β x x') (w : World) : ∃ r', (Instr.field s x' f).run P w = .ok r' w ∧ V β r r' := by
  unfold dfield at h
  split at h
  · rename_i i cs hs
    split at h
    · rename_i fs hk
      split at h
      · rename_i off ft hf
        obtain ⟨fields, fl, hr, hfl, rfl, rfl⟩ := run_fields hC hs hk hf
        obtain ⟨cs', rfl, hcs⟩ := hx.agg_inv
        obtain ⟨u, hu, hvu⟩ := dpart_sound hC h hcs
        exact ⟨u, by simp [Instr.field, hr, hfl, asAgg, hu], hvu⟩
      · cases h
    · cases h
  · cases h

omit hC in
theorem dk_array {n : Nat} {e : TypeId} {d : TypeDesc} (h : dkRel (.array n e) d = true) : d = .array n e := by
  cases d <;> simp [dkRel] at h
  obtain ⟨rfl, rfl⟩ := h; rfl
omit hC in
theorem dk_slice {e : TypeId} {d : TypeDesc} (h : dkRel (.slice e) d = true) : d = .slice e := by
  cases d <;> simp [dkRel] at h
  subst h; rfl
omit hC in
theorem dk_string {d : TypeDesc} (h : dkRel .string d = true) : d = .string := by cases d <;> simp [dkRel] at h; rfl
omit hC in
theorem dk_map {k e : TypeId} {d : TypeDesc} (h : dkRel (.map k e) d = true) : d = .map k e := by
  cases d <;> simp [dkRel] at h
  obtain ⟨rfl, rfl⟩ := h; rfl
omit hC in
theorem dk_ptr {e : TypeId} {d : TypeDesc} (h : dkRel (.ptr e) d = true) : d = .pointer e := by
  cases d <;> simp [dkRel] at h
  subst h; rfl
omit hC in
theorem dk_int {k : IntKind} {d : TypeDesc} (h : dkRel (.int k) d = true) : d = .int k := by
  cases d <;> simp [dkRel] at h
  subst h; rfl
theorem run_kind {t : TypeId} {i : TI} (ht : C.ty.get t = some i) : ∃ d, dkRel i.kind d = true ∧ P.underlying t = some d ∧ ∀ w, (underlying t).run P w = .ok d w := by
  obtain ⟨d, hd, _, h2, hr⟩ := run_und (hC.ty t i ht)
  exact ⟨d, hd, h2, hr⟩

theorem dindexAddr_sound {t : TypeId} {x x' ix ix' r : Value} (h : dindexAddr C t x ix = some r) (hx : V β x x') (hix : V β ix ix') (w : World) : ∃ r', (Instr.indexAt t x' ix').run P w = .ok r' w ∧ V β r r' := by
  unfold dindexAddr at h
  split at h
  · rename_i i k n ht
    cases hix
    obtain ⟨d, hd, _, hr⟩ := run_kind hC ht
    split at h
    · rename_i len e hh o hk
      rw [hk] at hd; cases dk_array hd
      split at h
      · rename_i ie hte
        split at h
        · rename_i hn
          cases h
          cases hx with
          | ptr hb =>
            rename_i bi
            refine ⟨.pointer (some ⟨bi.rb, bi.base + (o + n.toNat * ie.size), none⟩), ?_, .ptr hb⟩
            simp [Instr.indexAt, asIntOf, hr, Instr.sureAddr, hn, run_size (hC.ty _ _ hte), addr_add, Nat.add_assoc]
        · cases h
      · cases h
    · rename_i e hh o s len c hk
      rw [hk] at hd; cases dk_slice hd
      split at h
      · rename_i ie hte
        split at h
        · rename_i hn
          obtain ⟨hs, hn⟩ := hn
          cases h
          cases hx with
          | sl hb hnc hcc ha =>
            rename_i c' ad bi
            rcases ha with ha | ⟨ha, _⟩
            · omega
            · subst ha
              refine ⟨.pointer (some ⟨bi.rb, bi.base + (o + n.toNat * ie.size), none⟩), ?_, .ptr hb⟩
              simp [Instr.indexAt, asIntOf, hr, hn, run_size (hC.ty _ _ hte), addr_add, Nat.add_assoc]
        · cases h
      · cases h
    · cases h
  · cases h

theorem dindex_sound {t : TypeId} {x x' ix ix' r : Value} (h : dindex C t x ix = some r) (hx : V β x x') (hix : V β ix ix') (w : World) : ∃ r', (Instr.index t x' ix').run P w = .ok r' w ∧ V β r r' := by
  unfold dindex at h
  split at h
  · rename_i i k n ht
    cases hix
    obtain ⟨d, hd, _, hr⟩ := run_kind hC ht
    split at h
    · rename_i len e cs hk
      rw [hk] at hd; cases dk_array hd
      split at h
      · rename_i ie hte
        split at h
        · rename_i hn
          obtain ⟨cs', rfl, hcs⟩ := hx.agg_inv
          obtain ⟨u, hu, hvu⟩ := dpart_sound hC h hcs
          exact ⟨u, by simp [Instr.index, asIntOf, hr, hn, run_size (hC.ty _ _ hte), hu], hvu⟩
        · cases h
      · cases h
    · rename_i s hk
      rw [hk] at hd; cases dk_string hd
      cases hx
      split at h
      · rename_i hn
        cases hb : s.data.toList[n.toNat]? with
        | none => rw [hb] at h; cases h
        | some b =>
          rw [hb] at h
          simp only [Option.map_some, Option.some.injEq] at h
          subst h
          have hlt : n.toNat < s.size := by
            have := (List.getElem?_eq_some_iff.1 hb).1
            simpa using this
          have hg : s[n.toNat]? = some b := by
            rw [getElem?_pos s n.toNat hlt]
            have := (List.getElem?_eq_some_iff.1 hb).2
            rw [← this]
            rfl
          exact ⟨_, by simp [Instr.index, asIntOf, hr, hn, hg], .int _ _⟩
      · cases h
    · cases h
  · cases h
end
end
end Go.Ds
