/- A deterministic layer over the model, part G: maps. -/
import Derived.Test.YtnlnbhcjgacgmaaGreatDoorDsF
set_option linter.unusedVariables false
set_option linter.unusedSimpArgs false
namespace Go.Ds
noncomputable section

theorem EL.cons_inv {β : Emb} {k v : Value} {es : List (Value × Value)} {res : List MapEntry} (h : EL β ((k, v) :: es) res) : ∃ e res', res = e :: res' ∧ V β k e.key ∧ V β v e.val ∧ EL β es res' := by
  cases res with
  | nil => have := h.1.1; simp at this
  | cons e res' =>
    obtain ⟨h1, h2⟩ := h
    simp only [List.map_cons] at h1 h2
    obtain ⟨y, ys, e1, a1, b1⟩ := h1.cons_inv
    obtain ⟨y2, ys2, e2, a2, b2⟩ := h2.cons_inv
    simp only [List.cons.injEq] at e1 e2
    obtain ⟨rfl, rfl⟩ := e1
    obtain ⟨rfl, rfl⟩ := e2
    exact ⟨e, res', rfl, a1, a2, b1, b2⟩
theorem EL.nil_inv {β : Emb} {res : List MapEntry} (h : EL β [] res) : res = [] := by
  have := h.1.1
  simp at this
  exact List.eq_nil_of_length_eq_zero this.symm
theorem EL.length {β : Emb} {es : List (Value × Value)} {res : List MapEntry} (h : EL β es res) : es.length = res.length := by simpa using h.1.1

section
variable {P : Program} {C : Ctx} (hC : CtxOK P C) {β : Emb}
include hC

theorem keyFields_sound {d n : Nat} {em : Bool} (ih : ∀ t v, dkeyOk C d t v = true → ∀ v', V β v v' → ∀ w, (Instr.checkKey em n t v').run P w = .ok () w) {xs : List Value} {xs' : Array Value} (hx : VL β xs xs'.toList) :
    ∀ (fs : List Field), ((fs.map fun f => (f.offset, f.type)).all fun p => (match dpart C p.2 xs p.1 with | some x => dkeyOk C d p.2 x | none => false)) = true → ∀ w,
      (forIn fs PUnit.unit fun f __s =>
            if f.name = "_" then (Pure.pure (ForInStep.yield PUnit.unit) : Sem (ForInStep PUnit))
            else do
              let __do_lift ← part f.type xs' f.offset
              (fun a => ForInStep.yield PUnit.unit) <$> Instr.checkKey em n f.type __do_lift).run P w = .ok PUnit.unit w := by
  intro fs
  induction fs with
  | nil => intro _ w; simp
  | cons f fs ihf =>
    intro h w
    simp only [List.map_cons, List.all_cons, Bool.and_eq_true] at h
    obtain ⟨h1, h2⟩ := h
    by_cases hn : f.name = "_"
    · simp only [List.forIn_cons, hn, if_true, Sem.run_bind, Sem.run_pure, Result.andThen_ok]
      exact ihf h2 w
    · cases hp : dpart C f.type xs f.offset with
      | none => simp [hp] at h1
      | some x =>
        simp only [hp] at h1
        obtain ⟨u, hu, hvu⟩ := dpart_sound hC (β := β) hp hx
        simp only [List.forIn_cons, hn, if_false, Sem.run_bind, Sem.run_map, hu, ih _ _ h1 u hvu, Result.andThen_ok]
        exact ihf h2 w
theorem keyArray_sound {d n : Nat} {em : Bool} (ih : ∀ t v, dkeyOk C d t v = true → ∀ v', V β v v' → ∀ w, (Instr.checkKey em n t v').run P w = .ok () w) {xs : List Value} {xs' : Array Value} (hx : VL β xs xs'.toList) (e : TypeId) {ie : TI} (hte : C.ty.get e = some ie) :
    ∀ (k i : Nat), ((fieldsOfArray e ie.size k i).all fun p => (match dpart C p.2 xs p.1 with | some x => dkeyOk C d p.2 x | none => false)) = true → ∀ w,
      (forIn (List.range' i k) PUnit.unit fun i __s => do
              let __do_lift ← sizeOf e
              let __do_lift ← part e xs' (i * __do_lift)
              (fun a => (ForInStep.yield PUnit.unit : ForInStep PUnit)) <$> Instr.checkKey em n e __do_lift).run P w = .ok PUnit.unit w := by
  intro k
  induction k with
  | zero => intro i _ w; simp
  | succ k ihk =>
    intro i h w
    simp only [fieldsOfArray, List.all_cons, Bool.and_eq_true] at h
    obtain ⟨h1, h2⟩ := h
    cases hp : dpart C e xs (i * ie.size) with
    | none => simp [hp] at h1
    | some x =>
      simp only [hp] at h1
      obtain ⟨u, hu, hvu⟩ := dpart_sound hC (β := β) hp hx
      simp only [List.range'_succ, List.forIn_cons, Sem.run_bind, Sem.run_map, run_size (hC.ty _ _ hte), hu, ih _ _ h1 u hvu, Result.andThen_ok]
      exact ihk (i + 1) h2 w

theorem dkeyOk_sound {em : Bool} : ∀ (d : Nat) (t : TypeId) (v : Value), dkeyOk C d t v = true → ∀ n, d ≤ n → ∀ v', V β v v' → ∀ w, (Instr.checkKey em n t v').run P w = .ok () w := by
  intro d
  induction d with
  | zero => intro t v h; simp [dkeyOk] at h
  | succ d ih =>
    intro t v h n hn v' hv w
    obtain ⟨n, rfl⟩ : ∃ m, n = m + 1 := ⟨n - 1, by omega⟩
    unfold dkeyOk at h
    cases ht : C.ty.get t with
    | none => simp [ht] at h
    | some i =>
      obtain ⟨ds, hd, _, hr⟩ := run_kind hC ht
      simp only [ht] at h
      unfold Instr.checkKey
      simp only [Sem.run_bind, hr, Result.andThen_ok]
      split at h
      · rename_i hk; rw [hk] at hd; cases ds <;> simp [dkRel] at hd
        cases hv; simp
      · rename_i hk; rw [hk] at hd; cases ds <;> simp [dkRel] at hd
        cases hv; simp
      · rename_i hk; rw [hk] at hd; cases ds <;> simp [dkRel] at hd
        cases hv; simp
      · rename_i fs cs hk; rw [hk] at hd
        obtain ⟨fields, rfl, hfs⟩ := dk_struct hd
        obtain ⟨cs', rfl, hcs⟩ := hv.agg_inv
        simp only [Bool.and_eq_true] at h
        rw [← hfs] at h
        have := keyFields_sound hC (β := β) (d := d) (n := n) (em := em) (fun t v h v' hv w => ih t v h n (by omega) v' hv w) hcs fields.toList h.2 w
        rw [Array.forIn_toList] at this
        simp [this]
      · rename_i m e cs hk; rw [hk] at hd; cases dk_array hd
        obtain ⟨cs', rfl, hcs⟩ := hv.agg_inv
        simp only [Bool.and_eq_true] at h
        cases hte : C.ty.get e with
        | none => simp [hte] at h
        | some ie =>
          simp only [hte] at h
          have := keyArray_sound hC (β := β) (d := d) (n := n) (em := em) (fun t v h v' hv w => ih t v h n (by omega) v' hv w) hcs e hte m 0 h.2 w
          simp [this]
      · cases h

/-- What a search has found, in both. -/
def FoundRel (β : Emb) (res : List MapEntry) (off : Nat) : Option (Nat × Value) → Option (Nat × Value) → Prop
  | none, none => True
  | some (i, v), some (i', v') => i' = i ∧ V β v v' ∧ off ≤ i ∧ ∃ e, res[i - off]? = some e ∧ e.val = v'
  | _, _ => False

theorem findNow_sound {d : Nat} {kt : TypeId} {ds : TypeDesc} (hu : ∀ w, (underlying kt).run P w = .ok ds w) {k k' : Value} (hk : V β k k') : ∀ (es : List (Value × Value)) (res : List MapEntry) (j : Nat) (r : Option (Nat × Value)) (q : Option (Nat × Value)),
    dfind (deq C d kt) k es j = some r → EL β es res → Instr.findNow ds k' res j = some q → FoundRel β res j r q := by
  intro es
  induction es with
  | nil =>
    intro res j r q h hE hq
    cases hE.nil_inv
    simp only [dfind, Option.some.injEq] at h
    simp only [Instr.findNow, Option.some.injEq] at hq
    subst h; subst hq; trivial
  | cons p es ih =>
    intro res j r q h hE hq
    obtain ⟨a, v⟩ := p
    obtain ⟨e, res', rfl, hka, hva, hE'⟩ := hE.cons_inv
    simp only [dfind] at h
    simp only [Instr.findNow] at hq
    have hnow : ∀ b c, deq C d kt k a = some b → Instr.sameNow ds k' e.key = some c → c = b := by
      intro b c hb hc
      have hs := deq_sound hC d kt k a b hb d (Nat.le_refl _) k' e.key hk hka default
      cases d with
      | zero => simp [deq] at hb
      | succ d =>
        unfold Op.equalIn at hs
        simp only [Sem.run_bind, hu, Result.andThen_ok] at hs
        clear hq hk hka
        generalize e.key = ek at hs hc
        unfold Instr.sameNow at hc
        split at hc
        · split at hc
          · rename_i e3; subst e3; cases hc; simp at hs; exact hs
          · cases hc
        · cases hc; simpa using hs
        · cases hc; simpa using hs
        · cases hc
    have shift : ∀ r q, FoundRel β res' (j + 1) r q → FoundRel β (e :: res') j r q := by
      intro r q hf
      cases r with
      | none => cases q with | none => trivial | some _ => exact hf.elim
      | some p =>
        cases q with
        | none => exact hf.elim
        | some q =>
          obtain ⟨h1, h2, h3, e2, h4, h5⟩ := hf
          refine ⟨h1, h2, by omega, e2, ?_, h5⟩
          rw [show p.1 - j = (p.1 - (j + 1)) + 1 by omega]
          exact h4
    cases hb : deq C d kt k a with
    | none => simp [hb] at h
    | some b =>
      cases hc : Instr.sameNow ds k' e.key with
      | none => simp [hc] at hq
      | some c =>
        have := hnow b c hb hc
        subst this
        cases c with
        | true =>
          simp only [hb, Option.some.injEq] at h
          simp only [hc, Option.some.injEq] at hq
          subst h; subst hq
          exact ⟨rfl, hva, Nat.le_refl _, e, by simp, rfl⟩
        | false =>
          simp only [hb] at h
          simp only [hc] at hq
          exact shift _ _ (ih res' (j + 1) r q h hE' hq)

theorem findAsking_sound {d : Nat} (hdd : d ≤ Op.maxDepth) {kt : TypeId} {k k' : Value} (hk : V β k k') (w : World) : ∀ (es : List (Value × Value)) (res : List MapEntry) (j : Nat) (r : Option (Nat × Value)),
    dfind (deq C d kt) k es j = some r → EL β es res → ∃ q, (Instr.findAsking kt k' res j).run P w = .ok q w ∧ FoundRel β res j r q := by
  intro es
  induction es with
  | nil =>
    intro res j r h hE
    cases hE.nil_inv
    simp only [dfind, Option.some.injEq] at h
    subst h
    exact ⟨none, by simp [Instr.findAsking], trivial⟩
  | cons p es ih =>
    intro res j r h hE
    obtain ⟨a, v⟩ := p
    obtain ⟨e, res', rfl, hka, hva, hE'⟩ := hE.cons_inv
    simp only [dfind] at h
    cases hb : deq C d kt k a with
    | none => simp [hb] at h
    | some b =>
      have hs : (Op.equal kt k' e.key).run P w = .ok b w := deq_sound hC d kt k a b hb _ hdd k' e.key hk hka w
      cases b with
      | true =>
        simp only [hb, Option.some.injEq] at h
        subst h
        exact ⟨some (j, e.val), by simp [Instr.findAsking, hs], rfl, hva, Nat.le_refl _, e, by simp, rfl⟩
      | false =>
        simp only [hb] at h
        obtain ⟨q, hq, hf⟩ := ih res' (j + 1) r h hE'
        refine ⟨q, by simp [Instr.findAsking, hs, hq], ?_⟩
        cases r with
        | none => cases q with | none => trivial | some _ => exact hf.elim
        | some p =>
          cases q with
          | none => exact hf.elim
          | some q =>
            obtain ⟨h1, h2, h3, e2, h4, h5⟩ := hf
            refine ⟨h1, h2, by omega, e2, ?_, h5⟩
            rw [show p.1 - j = (p.1 - (j + 1)) + 1 by omega]
            exact h4

theorem findKey_sound {d : Nat} (hdd : d ≤ Op.maxDepth) {kt : TypeId} {i : TI} (ht : C.ty.get kt = some i) {k k' : Value} (hk : V β k k') (w : World) {es : List (Value × Value)} {res : List MapEntry} {r : Option (Nat × Value)}
    (h : dfind (deq C d kt) k es 0 = some r) (hE : EL β es res) : ∃ q, (Instr.findKey kt k' res).run P w = .ok q w ∧ FoundRel β res 0 r q := by
  obtain ⟨ds, hd, _, hr⟩ := run_kind hC ht
  cases hn : Instr.findNow ds k' res 0 with
  | some q => exact ⟨q, by simp [Instr.findKey, hr, hn], findNow_sound hC hr hk es res 0 r q h hE hn⟩
  | none =>
    obtain ⟨q, hq, hf⟩ := findAsking_sound hC hdd hk w es res 0 r h hE
    exact ⟨q, by simp [Instr.findKey, hr, hn, hq], hf⟩

end
end
end Go.Ds
