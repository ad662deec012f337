/- A deterministic layer over the model, part L: an operation, whichever. -/
import Derived.Test.YtnlnbhcjgacgmaaGreatDoorDsK
set_option linter.unusedVariables false
set_option linter.unusedSimpArgs false
namespace Go.Ds
noncomputable section

/-- What unsafe.String comes to: its ends that are none are left open. -/
theorem unsafeString_eq (ts : Array TypeId) (ty : TypeId) (p : Option Addr) (len_ : Value) : ∃ (a1 : Sem Value) (a2 a3 : Sem PUnit) (a4 a5 : Sem Value), Builtin.unsafeString_ ts ty #[.pointer p, len_] = (do
  let n ← asInt len_
  let some pt := ts[0]? | a1
  if n < 0 then a2
  if n > IntKind.i64.max then a3
  match p with
  | none => if n = 0 then pure (.string .empty) else a4
  | some a =>
    if n = 0 then pure (.string .empty)
    else if ← variablesAt a (← elemOf pt) n.toNat then do
      let s ← loadBytes a .empty n.toNat
      freeze a n.toNat
      pure (.string s)
    else a5) := ⟨_, _, _, _, _, rfl⟩

section
variable {P : Program} {C : Ctx} (hC : CtxOK P C) {β : Emb} {H : DH} {w : World}
include hC

theorem dmakeSlice_sound {t : TypeId} {l l' c c' r : Value} {H' : DH} (h : dmakeSlice C t l c H = some (r, H')) (hl : V β l l') (hc : V β c c') (hR : R β H w) :
    ∃ r' w' β', (Instr.makeSlice t l' c').run P w = .ok r' w' ∧ V β' r r' ∧ R β' H' w' ∧ Ext β H w β' H' w' := by
  unfold dmakeSlice at h
  split at h
  · rename_i i ln cn ht
    cases hl; cases hc
    obtain ⟨d, hd, _, hr⟩ := run_kind hC ht
    split at h
    · rename_i e hk
      rw [hk] at hd; cases dk_slice hd
      split at h
      · rename_i ie hte
        have hie := hC.ty e ie hte
        obtain ⟨info, hi1, hi2, hinf⟩ := run_info hie
        split at h
        · rename_i z hz
          obtain ⟨hpz, hzs⟩ := hie.zero z hz
          split at h
          · rename_i hcnd
            obtain ⟨h1, h2, h3, h4, h5⟩ := hcnd
            cases h
            have wrapc : IntKind.i64.wrap cn = cn := by
              have e1 : IntKind.i64.bits = 64 := rfl
              unfold IntKind.wrap
              simp only [e1, IntKind.signed, Bool.true_and]
              have : cn % 2 ^ 64 = cn := by omega
              rw [this]
              simp; omega
            have wrapl : IntKind.i64.wrap ln = ln := by
              have e1 : IntKind.i64.bits = 64 := rfl
              unfold IntKind.wrap
              simp only [e1, IntKind.signed, Bool.true_and]
              have : ln % 2 ^ 64 = ln := by omega
              rw [this]
              simp; omega
            obtain ⟨cN, rfl⟩ := Int.eq_ofNat_of_zero_le (show 0 ≤ cn by omega)
            obtain ⟨lN, rfl⟩ := Int.eq_ofNat_of_zero_le h1
            simp only [Int.toNat_natCast] at h3 ⊢
            have hvz : VL β z.cells.toList z.cells.toList := (plain_V β hpz).cells
            have hzero := fun w => run_zero hie hz w
            obtain ⟨β', hb, r1, r2⟩ := dnewRow_sound e (VL_rep hvz cN) [] hR (FR_none _ 0 0 fun _ h => absurd h (Nat.lt_irrefl _))
            simp only [List.append_nil] at r1 r2
            refine ⟨.slice (some ⟨w.heap.size, 0, none⟩) lN cN, _, β', ?_, ?_, r1, r2⟩
            · have hb48 : ¬ (2 ^ 48 < (info.bytes : Int) * (cN : Int)) := by
                rw [hi2, ← Int.natCast_mul, Nat.mul_comm]
                unfold maxN at h3
                omega
              have hneg : ¬ (cN : Int) < 0 := by omega
              have hneg2 : ¬ (lN : Int) < 0 := by omega
              have hgt : ¬ (cN : Int) < (lN : Int) := by omega
              have hrep : ((Array.range (cN * ie.size)).map (z.cells[· % z.cells.size]!)) = ⟨rep z.cells.toList cN⟩ := by
                apply Array.ext'
                rw [← hzs]
                exact rep_model z.cells (by omega) cN
              simp only [Instr.makeSlice, Sem.run_bind, hr, Result.andThen_ok, asInt, asIntOf, Sem.run_pure, hinf, wrapc, wrapl, hneg, hneg2, hgt, hb48, decide_false, Bool.or_self, gt_iff_lt, Bool.false_eq_true, if_false, run_askRoom, Int.toNat_natCast, run_size hie]
              by_cases h0 : cN * ie.size = 0
              · have hc0 : cN = 0 := by
                  rcases Nat.mul_eq_zero.1 h0 with h | h
                  · exact h
                  · exact absurd h h4
                subst hc0
                have e0 : Array.range 0 = (#[] : Array Nat) := by rw [← Array.size_eq_zero_iff]; simp
                simp [newRow, rep, e0]
              · simp only [h0, if_false, Sem.run_bind, hzero, Result.andThen_ok, Sem.run_pure, hrep]
                simp [newRow]
            · refine .sl hb (by omega) (Nat.le_refl _) (.inr ⟨by simp, ?_⟩)
              simp [rep_length, hzs]
          · cases h
        · cases h
      · cases h
    · cases h
  · cases h

theorem dunsafeString_sound {pt ty : TypeId} {ts : Array TypeId} (hts : ts[0]? = some pt) {p p' l l' r : Value} {H' : DH} (h : dunsafeString C pt p l H = some (r, H')) (hp : V β p p') (hl : V β l l') (hR : R β H w) :
    ∃ r' w', (Builtin.unsafeString_ ts ty #[p', l']).run P w = .ok r' w' ∧ V β r r' ∧ R β H' w' ∧ Ext β H w β H' w' := by
  have hmax : IntKind.i64.max = 9223372036854775807 := by decide
  unfold dunsafeString at h
  split at h
  · cases hp; cases hl
    split at h
    · rename_i hn; subst hn; cases h
      exact ⟨mkS [], w, by obtain ⟨a1, a2, a3, a4, a5, he⟩ := unsafeString_eq ts ty _ _; rw [he]; simp [asInt, asIntOf, hts, hmax]; rfl, .string _, hR, Ext.refl _ _ _⟩
    · cases h
  · rename_i hh o k n
    cases hl
    cases hp with
    | ptr hb =>
      rename_i bi
      split at h
      · rename_i hn; subst hn; cases h
        exact ⟨mkS [], w, by obtain ⟨a1, a2, a3, a4, a5, he⟩ := unsafeString_eq ts ty _ _; rw [he]; simp [asInt, asIntOf, hts, hmax]; rfl, .string _, hR, Ext.refl _ _ _⟩
      · rename_i hn
        split at h
        · cases h
        · rename_i hnn
          simp only [not_or] at hnn
          obtain ⟨hn1, hn2⟩ := hnn
          split at h
          · rename_i i cells e lo hi hpt hg
            obtain ⟨d, hd, _, hr⟩ := run_kind hC hpt
            split at h
            · rename_i e' hk
              rw [hk] at hd; cases dk_ptr hd
              split at h
              · rename_i ie hte
                split at h
                · rename_i hc
                  obtain ⟨rfl, hs1, hle, hlh⟩ := hc
                  split at h
                  · rename_i bs hbs
                    cases h
                    obtain ⟨cs, fr, hx, hsz, hle2, hvl, hf⟩ := hR.row hg hb
                    have hcells : ((cs.toList.drop (bi.base + o)).take n.toNat) = ((cells.drop o).take n.toNat) := bytesOfCells_eq hbs (take_drop_view hvl o _ hle)
                    have hld := loadBytes_run P w bi.rb hx n.toNat (bi.base + o) ByteArray.empty bs (by omega) (by rw [hcells]; exact hbs)
                    have hcell1 : P.cellsOf e = 1 := by
                      obtain ⟨info, e1, e2, _, _⟩ := (hC.ty _ _ hte).info
                      simp [Program.cellsOf, e1, e2, hs1]
                    have hvar : (variablesAt ⟨bi.rb, bi.base + o, none⟩ e n.toNat).run P w = .ok true w := by
                      have hlies : liesAt P P.depth e (cs.size / 1) (bi.base + o) e n.toNat = true := by
                        obtain ⟨N, hN⟩ : ∃ N, P.depth = N + 1 := ⟨_, rfl⟩
                        have hrow : rowAt P (fun x => sameLayout P P.depth x e) P.depth e (cs.size / 1) (bi.base + o) n.toNat = true := by
                          have hsame : sameLayout P P.depth e e = true := by
                            rw [hN]; unfold sameLayout; simp
                          rw [hN] at hsame ⊢
                          unfold rowAt
                          simp only [hcell1, Nat.one_ne_zero, if_false, Nat.div_one, Nat.mod_one, beq_self_eq_true, Bool.true_and, hsame, Bool.and_true]
                          rw [Bool.or_eq_true]
                          exact .inl (by simp; omega)
                        unfold liesAt
                        rw [hN]
                        simp only
                        rw [hN] at hrow
                        rw [hrow]
                        rfl
                      rw [Nat.div_one] at hlies
                      simp [variablesAt, shape_of hx, hcell1, hlies]
                    have hposn : 0 < n.toNat := by omega
                    have hfrz : w.freeze ⟨bi.rb, bi.base + o, none⟩ n.toNat = setBlk w bi.rb (.cells cs e (if fr.1 == fr.2 then (bi.base + o, bi.base + o + n.toNat) else (min fr.1 (bi.base + o), max fr.2 (bi.base + o + n.toNat)))) := by
                      unfold World.freeze setBlk
                      rw [if_neg (by omega)]
                      congr 1
                      obtain ⟨hlt, hge⟩ := Array.getElem?_eq_some_iff.1 hx
                      apply Array.ext (by simp)
                      intro j h1 h2
                      rw [Array.getElem_modify, Array.getElem_setIfInBounds (by simpa using h2)]
                      by_cases ej : bi.rb = j
                      · subst ej; simp [hge]
                      · simp [ej]
                    have hnew : ObjRel β bi (.row cells e (if lo = hi then o else min lo o) (if lo = hi then o + n.toNat else max hi (o + n.toNat)))
                        (.cells cs e (if fr.1 == fr.2 then (bi.base + o, bi.base + o + n.toNat) else (min fr.1 (bi.base + o), max fr.2 (bi.base + o + n.toNat)))) := by
                      refine ⟨rfl, hsz, hle2, hvl, ?_⟩
                      unfold FR
                      by_cases hfe : fr.1 = fr.2
                      · simp only [hfe, beq_self_eq_true, if_true]
                        by_cases hloh : lo = hi
                        · simp only [hloh, if_true]; exact .inr (.inl (by omega))
                        · simp only [hloh, if_false]; exact .inr (.inl (by omega))
                      · have hfe2 : (fr.1 == fr.2) = false := by simpa using hfe
                        simp only [hfe2, Bool.false_eq_true, if_false]
                        rcases hf with hf | ⟨hf1, hf2, hf3⟩ | ⟨hf1, hf2⟩
                        · exact absurd hf.1 hfe
                        · simp only [show ¬ lo = hi by omega, if_false]; exact .inr (.inl (by omega))
                        · omega
                    obtain ⟨r1, r2⟩ := hR.write (by rw [hg]; simp) hb _ _ hnew
                    refine ⟨mkS bs, _, ?_, .string _, r1, r2⟩
                    have hn3 : ¬ n < 0 := hn1
                    have hn4 : ¬ (9223372036854775807 : Int) < n := by unfold maxN at hn2; omega
                    obtain ⟨a1, a2, a3, a4, a5, he⟩ := unsafeString_eq ts ty _ _
                    rw [he]
                    simp only [Sem.run_bind, asInt, asIntOf, Sem.run_pure, Result.andThen_ok, hts, hn3, hn, hmax, gt_iff_lt, hn4, if_false, elemOf, hr, hvar, if_true, hld, run_freeze, hfrz]
                    rfl
                  · cases h
                · cases h
              · cases h
            · cases h
          · cases h
  · cases h

theorem drange_sound {t : TypeId} {x x' r : Value} {H' : DH} (h : drange C t x H = some (r, H')) (hx : V β x x') (hR : R β H w) :
    ∃ r' w' β', (Instr.range t x').run P w = .ok r' w' ∧ V β' r r' ∧ R β' H' w' ∧ Ext β H w β' H' w' := by
  unfold drange at h
  split at h
  · rename_i i s ht
    obtain ⟨d, hd, _, hr⟩ := run_kind hC ht
    cases hx
    split at h
    · rename_i hk
      rw [hk] at hd; cases dk_string hd
      cases h
      have := hR.alloc (.iter s 0) (.stringIter s 0) 0 ⟨rfl, rfl, rfl⟩
      refine ⟨.pointer (some ⟨w.heap.size, 0, none⟩), _, _, by simp [Instr.range, hr], ?_, this.1, this.2⟩
      have hp := V.ptr (β := embAdd β (2 * H.n) ⟨w.heap.size, 0, 0⟩) (o := 0) (embAdd_same _ _ _)
      simpa using hp
    · cases h
  · cases h

omit hC in
theorem dnext_sound {x x' r : Value} {ty : TypeId} {H' : DH} (h : dnext x H = some (r, H')) (hx : V β x x') (hR : R β H w) :
    ∃ r' w', (Instr.next x' true ty).run P w = .ok r' w' ∧ V β r r' ∧ R β H' w' ∧ Ext β H w β H' w' := by
  unfold dnext at h
  split at h
  · rename_i hh
    cases hx with
    | ptr hb =>
      rename_i bi
      split at h
      · rename_i s pos hg
        obtain ⟨hw, hb0⟩ := hR.iter hg hb
        have hp : ∀ v, plain v = true → V β v v := fun v hv => plain_V β hv
        split at h
        · rename_i hlt
          cases h
          obtain ⟨r1, r2⟩ := hR.write (by rw [hg]; simp) hb (.iter s (pos + (Utf8.decode s pos).2)) (.stringIter s (pos + (Utf8.decode s pos).2)) ⟨rfl, rfl, hb0⟩
          refine ⟨_, _, ?_, hp _ (by rfl), r1, r2⟩
          simp [Instr.next, hb0, run_getObj_iter hw, hlt, run_setObj_iter hw, goInt]
        · rename_i hlt
          cases h
          refine ⟨_, w, ?_, hp _ (by rfl), hR, Ext.refl _ _ _⟩
          simp [Instr.next, hb0, run_getObj_iter hw, hlt]
      · cases h
  · cases h

theorem dlen_sound {t ty : TypeId} {ts : Array TypeId} (hts : ts[0]? = some t) {args : Array Value} {x x' r : Value} (ha : args[0]? = some x') (h : dlenOp C t x H = some r) (hx : V β x x') (hR : R β H w) :
    (Builtin.len_ ts ty args).run P w = .ok r w ∧ V β r r := by
  unfold dlenOp at h
  cases ht : C.ty.get t with
  | none => simp [ht] at h
  | some i =>
    obtain ⟨d, hd, _, hr⟩ := run_kind hC ht
    simp only [ht] at h
    split at h
    · rename_i hk
      rw [hk] at hd; cases dk_string hd
      cases hx; cases h
      exact ⟨by simp [Builtin.len_, hts, ha, hr, goInt], .int _ _⟩
    · rename_i hk
      rw [hk] at hd; cases dk_slice hd
      cases hx <;> (cases h; exact ⟨by simp [Builtin.len_, hts, ha, hr, goInt], .int _ _⟩)
    · rename_i hk
      rw [hk] at hd; cases dk_array hd
      cases h
      exact ⟨by simp [Builtin.len_, hts, ha, hr, goInt], .int _ _⟩
    · rename_i hk
      rw [hk] at hd; cases dk_map hd
      cases hx; cases h
      exact ⟨by simp [Builtin.len_, hts, ha, hr, goInt], .int _ _⟩
    · rename_i hk
      rw [hk] at hd; cases dk_map hd
      cases hx with
      | map hb =>
        split at h
        · rename_i es hg
          cases h
          obtain ⟨res, c, hw, hE⟩ := hR.map hg hb
          have := hE.length
          exact ⟨by simp [Builtin.len_, hts, ha, hr, goInt, run_getObj_map hw, this], .int _ _⟩
        · cases h
    · cases h

omit hC in
theorem dmaxs_sound (big : Bool) (f : Value → Value → Sem Value) (hf : ∀ k x k' y, f (.int k x) (.int k' y) = Pure.pure (.int k (if (if big then y > x else y < x) then y else x))) : ∀ (l l' : List Value) (x r : Value), dmaxs big x l = some r → VL β l l' → (∃ k n, x = .int k n) → (l'.foldlM f x).run P w = .ok r w ∧ V β r r := by
  intro l
  induction l with
  | nil =>
    intro l' x r h hl hx
    cases hl.nil_inv
    obtain ⟨k, n, rfl⟩ := hx
    simp only [dmaxs, Option.some.injEq] at h
    subst h
    exact ⟨by simp, .int _ _⟩
  | cons y l ih =>
    intro l' x r h hl hx
    obtain ⟨y', ys, rfl, h1, h2⟩ := hl.cons_inv
    obtain ⟨k, n, rfl⟩ := hx
    simp only [dmaxs] at h
    cases h1 <;> simp only [dmax] at h <;> first
      | (cases h; done)
      | (rename_i k' n'
         have := ih ys _ r h h2 ⟨_, _, rfl⟩
         exact ⟨by simp only [List.foldlM_cons, Sem.run_bind, hf, Sem.run_pure, Result.andThen_ok]; exact this.1, this.2⟩)

theorem run_v {s : Sem Value} {w w' : World} {v : Value} (h : s.run P w = .ok v w') : (do Pure.pure (Next.value (← s)) : Sem Next).run P w = .ok (.value v) w' := by
  have _ := hC
  simp [h]

/-- What an operation comes to, in both. -/
def OpRes (β : Emb) (dr : DR) (r : Result Next) (w' : World) : Prop :=
  match dr with
  | .val v => ∃ v', r = .ok (.value v') w' ∧ V β v v'
  | .skip => r = .ok .skip w'
  | .enter f args => ∃ args' : List Value, r = .ok (.enter f ⟨args'⟩) w' ∧ VL β args args'
  | .panic v => ∃ v', r = .halt (.panic v') w' ∧ V β v v'

theorem dbuiltin_sound {b : Builtin} {ts : Array TypeId} {ty : TypeId} {cs : Array Bool} {args args' : List Value} {r : Value} {H' : DH} (h : dbuiltin C b ts.toList args H = some (r, H')) (ha : VL β args args') (hR : R β H w) :
    ∃ r' w' β', (builtin b ts ty cs ⟨args'⟩).run P w = .ok (.value r') w' ∧ V β' r r' ∧ R β' H' w' ∧ Ext β H w β' H' w' := by
  unfold dbuiltin at h
  split at h
  · rename_i t l x l2 hts
    obtain ⟨v, hv, he⟩ := Option.map_eq_some_iff.1 h
    cases he
    obtain ⟨y, ys, rfl, h1, h2⟩ := ha.cons_inv
    obtain ⟨e1, e2⟩ := dlen_sound hC (ty := ty) (ts := ts) (args := ⟨y :: ys⟩) (by rw [← Array.getElem?_toList, hts]; rfl) rfl hv h1 hR
    exact ⟨_, w, β, run_v hC e1, e2, hR, Ext.refl _ _ _⟩
  · rename_i t t2 l s x hts
    obtain ⟨y, ys, rfl, h1, h2⟩ := ha.cons_inv
    obtain ⟨y2, ys2, rfl, h3, h4⟩ := h2.cons_inv
    cases h4.nil_inv
    obtain ⟨r', w', β', e1, e2⟩ := dappend_sound hC (ty := ty) h h1 h3 hR
    have : Builtin.append_ ts ty #[y, y2] = Builtin.append_ #[t, t2] ty #[y, y2] := by
      have a0 : ts[0]? = some t := by rw [← Array.getElem?_toList, hts]; rfl
      have a1 : ts[1]? = some t2 := by rw [← Array.getElem?_toList, hts]; rfl
      unfold Builtin.append_
      rw [a0, a1]
      rfl
    exact ⟨r', w', β', run_v hC (by rw [← this] at e1; exact e1), e2⟩
  · rename_i t l d x hts
    obtain ⟨y, ys, rfl, h1, h2⟩ := ha.cons_inv
    obtain ⟨y2, ys2, rfl, h3, h4⟩ := h2.cons_inv
    cases h4.nil_inv
    obtain ⟨r', w', e1, e2⟩ := dcopy_sound hC (ty := ty) (ts := ts) (by rw [← Array.getElem?_toList, hts]; rfl) h h1 h3 hR
    exact ⟨r', w', β, run_v hC e1, e2⟩
  · rename_i t l m k hts
    obtain ⟨H2, hv, he⟩ := Option.map_eq_some_iff.1 h
    cases he
    obtain ⟨y, ys, rfl, h1, h2⟩ := ha.cons_inv
    obtain ⟨y2, ys2, rfl, h3, h4⟩ := h2.cons_inv
    cases h4.nil_inv
    obtain ⟨w', e1, e2, e3⟩ := ddelete_sound hC (t2 := ty) (ts := ts) (by rw [← Array.getElem?_toList, hts]; rfl) hv h1 h3 hR
    exact ⟨.tuple #[], w', β, run_v hC e1, plain_V β rfl, e2, e3⟩
  · rename_i t l hts
    split at h
    · rename_i i ht
      obtain ⟨d, hd, _, hr⟩ := run_kind hC ht
      split at h
      · rename_i e hk
        rw [hk] at hd; cases dk_slice hd
        cases h
        obtain ⟨y, ys, rfl, h1, h2⟩ := ha.cons_inv
        cases h2.nil_inv
        cases h1
        refine ⟨.int .i64 0, w, β, run_v hC ?_, .int _ _, hR, Ext.refl _ _ _⟩
        have a0 : ts[0]? = some t := by rw [← Array.getElem?_toList, hts]; rfl
        simp [Builtin.cap_, a0, hr, goInt]
      · cases h
    · cases h
  · rename_i x l
    split at h
    · rename_i k n
      obtain ⟨v, hv, he⟩ := Option.map_eq_some_iff.1 h
      cases he
      obtain ⟨y, ys, rfl, h1, h2⟩ := ha.cons_inv
      cases h1
      obtain ⟨e1, e2⟩ := dmaxs_sound (P := P) (w := w) true Builtin.max2 (fun k x k' y => by simp [Builtin.max2]) _ _ _ _ hv h2 ⟨_, _, rfl⟩
      exact ⟨_, w, β, run_v hC (by simpa [Builtin.max_] using e1), e2, hR, Ext.refl _ _ _⟩
    · cases h
  · rename_i x l
    split at h
    · rename_i k n
      obtain ⟨v, hv, he⟩ := Option.map_eq_some_iff.1 h
      cases he
      obtain ⟨y, ys, rfl, h1, h2⟩ := ha.cons_inv
      cases h1
      obtain ⟨e1, e2⟩ := dmaxs_sound (P := P) (w := w) false Builtin.min2 (fun k x k' y => by simp [Builtin.min2]) _ _ _ _ hv h2 ⟨_, _, rfl⟩
      exact ⟨_, w, β, run_v hC (by simpa [Builtin.min_] using e1), e2, hR, Ext.refl _ _ _⟩
    · cases h
  · cases h
    obtain ⟨y, ys, rfl, h1, h2⟩ := ha.cons_inv
    cases h2.nil_inv
    cases h1
    exact ⟨.pointer none, w, β, run_v hC rfl, .ptrNil, hR, Ext.refl _ _ _⟩
  · rename_i hh o s n c
    cases h
    obtain ⟨y, ys, rfl, h1, h2⟩ := ha.cons_inv
    cases h2.nil_inv
    cases h1 with
    | sl hb hn hcc hab =>
      rename_i c' ad bi
      rcases hab with hab | ⟨rfl, hab⟩
      · omega
      · refine ⟨_, w, β, run_v hC ?_, .ptr hb, hR, Ext.refl _ _ _⟩
        have : c' ≠ 0 := by omega
        show (Builtin.unsafeSliceData_ ts ty #[.slice (some ⟨bi.rb, bi.base + o, none⟩) n c']).run P w = _
        have e : Builtin.unsafeSliceData_ ts ty #[.slice (some ⟨bi.rb, bi.base + o, none⟩) n c'] = (do
            if c' ≠ 0 then Pure.pure (.pointer (some ⟨bi.rb, bi.base + o, none⟩))
            else if (← viewAt (⟨bi.rb, bi.base + o, none⟩ : Addr).block).isSome then Pure.pure (.pointer (some ⟨bi.rb, bi.base + o, none⟩))
            else Pure.pure (.pointer (some ⟨← newObj (.view ⟨bi.rb, bi.base + o, none⟩ (← elemOf ty)), 0, none⟩))) := rfl
        rw [e]
        simp [this]
  · rename_i pt l p n hts
    obtain ⟨y, ys, rfl, h1, h2⟩ := ha.cons_inv
    obtain ⟨y2, ys2, rfl, h3, h4⟩ := h2.cons_inv
    cases h4.nil_inv
    obtain ⟨r', w', e1, e2⟩ := dunsafeString_sound hC (ty := ty) (ts := ts) (by rw [← Array.getElem?_toList, hts]; rfl) h h1 h3 hR
    exact ⟨r', w', β, run_v hC e1, e2⟩
  · cases h

theorem dcallFn_sound {f : FuncId} {args args' : List Value} {dr : DR} (h : dcallFn C f args = some dr) (ha : VL β args args') (w : World) : OpRes β dr ((callFunc f ⟨args'⟩).run P w) w := by
  unfold dcallFn at h
  split at h
  · rename_i F hF
    cases h
    obtain ⟨h1, h2, h3⟩ := hC.fn f F hF
    refine ⟨args', ?_, ha⟩
    have hnb : F.body.isNone = false := by cases hb : F.body <;> simp [hb] at h2 ⊢
    simp only [callFunc, Sem.run_bind, run_program, Result.andThen_ok, h1, h3, hnb, Bool.false_eq_true, if_false, Sem.run_pure]
  · split at h
    · rename_i g hg
      obtain ⟨v, hv, rfl⟩ := Option.map_eq_some_iff.1 h
      obtain ⟨F, e, h1, h2, h3, h4, h5, h6⟩ := hC.ext f g hg
      obtain ⟨v', hv1, hv2⟩ := h6 args v hv β args' w ha
      refine ⟨v', ?_, hv2⟩
      simp only [callFunc, Sem.run_bind, run_program, Result.andThen_ok, h1, h3, h2, if_true, Bool.false_eq_true, if_false, run_mark, h4, h5, hv1, Sem.run_pure]
      trace_state
    · cases h

end
end
end Go.Ds
