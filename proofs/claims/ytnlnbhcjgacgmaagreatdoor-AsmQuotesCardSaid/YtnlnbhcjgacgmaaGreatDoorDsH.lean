/- A deterministic layer over the model, part H: maps that are read and written. -/
import Derived.Test.YtnlnbhcjgacgmaaGreatDoorDsG
set_option linter.unusedVariables false
set_option linter.unusedSimpArgs false
namespace Go.Ds
noncomputable section

theorem run_getObj_map {P : Program} {w : World} {r : Nat} {es : Array MapEntry} {c : Nat} (h : w.heap[r]? = some (.map es c)) : (getObj r).run P w = .ok (.map es c) w := by
  simp [getObj, Sem.run, h]
theorem run_getObj_iter {P : Program} {w : World} {r : Nat} {s : ByteArray} {p : Nat} (h : w.heap[r]? = some (.stringIter s p)) : (getObj r).run P w = .ok (.stringIter s p) w := by
  simp [getObj, Sem.run, h]
theorem run_setObj_map {P : Program} {w : World} {r : Nat} {es : Array MapEntry} {c : Nat} (h : w.heap[r]? = some (.map es c)) (o : Obj) : (setObj r o).run P w = .ok () (setBlk w r o) := by
  simp [setObj, Sem.run, h, setBlk]
theorem run_setObj_iter {P : Program} {w : World} {r : Nat} {s : ByteArray} {p : Nat} (h : w.heap[r]? = some (.stringIter s p)) (o : Obj) : (setObj r o).run P w = .ok () (setBlk w r o) := by
  simp [setObj, Sem.run, h, setBlk]

theorem R.map {β : Emb} {H : DH} {w : World} (hR : R β H w) {h : Nat} {es : List (Value × Value)} (hg : H.get h = some (.map es)) {bi : BI} (hb : β h = some bi) :
    ∃ res c, w.heap[bi.rb]? = some (.map res c) ∧ EL β es res.toList := by
  obtain ⟨x, hx, hr⟩ := hR.obj h _ bi hg hb
  cases x <;> simp only [ObjRel] at hr
  exact ⟨_, _, hx, hr⟩
theorem R.iter {β : Emb} {H : DH} {w : World} (hR : R β H w) {h : Nat} {s : ByteArray} {p : Nat} (hg : H.get h = some (.iter s p)) {bi : BI} (hb : β h = some bi) :
    w.heap[bi.rb]? = some (.stringIter s p) ∧ bi.base = 0 := by
  obtain ⟨x, hx, hr⟩ := hR.obj h _ bi hg hb
  cases x <;> simp only [ObjRel] at hr
  obtain ⟨rfl, rfl, hb0⟩ := hr
  exact ⟨hx, hb0⟩

theorem VL.eraseIdx {β : Emb} {a b : List Value} (h : VL β a b) (j : Nat) : VL β (a.eraseIdx j) (b.eraseIdx j) := by
  induction a generalizing b j with
  | nil => cases h.nil_inv; exact VL.nil β
  | cons x a ih =>
    obtain ⟨y, ys, rfl, h1, h2⟩ := h.cons_inv
    cases j with
    | zero => exact h2
    | succ j => exact VL.cons h1 (ih h2 j)
theorem map_eraseIdx {α γ : Type} (f : α → γ) : ∀ (l : List α) (j : Nat), (l.eraseIdx j).map f = (l.map f).eraseIdx j
  | [], _ => rfl
  | _ :: _, 0 => rfl
  | x :: l, j + 1 => by simp [map_eraseIdx f l j]
theorem EL.eraseIdx {β : Emb} {es : List (Value × Value)} {res : List MapEntry} (h : EL β es res) (j : Nat) : EL β (es.eraseIdx j) (res.eraseIdx j) := by
  unfold EL
  rw [map_eraseIdx, map_eraseIdx, map_eraseIdx, map_eraseIdx]
  exact ⟨h.1.eraseIdx j, h.2.eraseIdx j⟩
theorem EL.push {β : Emb} {es : List (Value × Value)} {res : List MapEntry} (h : EL β es res) {k v : Value} {e : MapEntry} (hk : V β k e.key) (hv : V β v e.val) : EL β (es ++ [(k, v)]) (res ++ [e]) := by
  unfold EL
  simp only [List.map_append, List.map_cons, List.map_nil]
  exact ⟨h.1.append (VL.cons hk (VL.nil β)), h.2.append (VL.cons hv (VL.nil β))⟩
theorem EL.set {β : Emb} {es : List (Value × Value)} {res : List MapEntry} (h : EL β es res) {k v : Value} {e : MapEntry} (hk : V β k e.key) (hv : V β v e.val) (j : Nat) : EL β (es.set j (k, v)) (res.set j e) := by
  unfold EL
  simp only [List.map_set]
  exact ⟨h.1.set j hk, h.2.set j hv⟩

theorem sameBits_mono : ∀ (n m : Nat) (a b : Value), n ≤ m → Instr.sameBits n a b = true → Instr.sameBits m a b = true := by
  intro n
  induction n with
  | zero =>
    intro m a b hm h
    cases a <;> cases b <;> first
      | (simp [Instr.sameBits] at h; done)
      | (cases m <;> first | (simp [Instr.sameBits]; done) | simpa [Instr.sameBits] using h)
  | succ n ih =>
    intro m a b hm h
    obtain ⟨m, rfl⟩ : ∃ k, m = k + 1 := ⟨m - 1, by omega⟩
    cases a <;> cases b <;> first
      | (simp [Instr.sameBits] at h; done)
      | (simp [Instr.sameBits]; done)
      | (simpa [Instr.sameBits] using h)
      | skip
    · simp only [Instr.sameBits, Bool.and_eq_true] at h ⊢
      exact ⟨h.1, ih m _ _ (by omega) h.2⟩
    · simp only [Instr.sameBits, Bool.and_eq_true, List.all_eq_true] at h ⊢
      exact ⟨h.1, fun p hp => ih m _ _ (by omega) (h.2 p hp)⟩

section
variable {P : Program} {C : Ctx} (hC : CtxOK P C) {β : Emb} {H : DH} {w : World}
include hC

omit hC in
theorem dkey_ty {d : Nat} {kt : TypeId} {k : Value} (h : dkeyOk C d kt k = true) : ∃ i, C.ty.get kt = some i := by
  cases d with
  | zero => simp [dkeyOk] at h
  | succ d =>
    unfold dkeyOk at h
    cases ht : C.ty.get kt with
    | none => simp [ht] at h
    | some i => exact ⟨i, rfl⟩

theorem dlookup_sound {t : TypeId} {x x' k k' r : Value} {ok : Bool} (h : dlookup C t x k ok H = some r) (hx : V β x x') (hk : V β k k') (hR : R β H w) :
    ∃ r', (Instr.lookup t x' k' ok).run P w = .ok r' w ∧ V β r r' := by
  unfold dlookup at h
  cases ht : C.ty.get t with
  | none => simp [ht] at h
  | some i =>
    obtain ⟨d, hd, _, hr⟩ := run_kind hC ht
    simp only [ht] at h
    split at h
    · rename_i kt et hkd
      rw [hkd] at hd; cases dk_map hd
      split at h
      · rename_i hkey
        obtain ⟨ik, hik⟩ := dkey_ty hkey
        have two : ∀ (a b a' b' : Value), V β a a' → V β b b' → V β (.tuple #[a, b]) (.tuple #[a', b']) := fun a b a' b' h1 h2 => V.tuple' (VL.cons h1 (VL.cons h2 (VL.nil β)))
        split at h
        · cases h
        · rename_i es hes
          have main : ∃ res : Array MapEntry, EL β es res.toList ∧ ((x' = .map none ∧ res = #[]) ∨ ∃ rb c, x' = .map (some rb) ∧ w.heap[rb]? = some (.map res c)) := by
            cases hx <;> simp only at hes <;> first
              | (cases hes; done)
              | skip
            · cases hes; exact ⟨#[], ⟨VL.nil β, VL.nil β⟩, .inl ⟨rfl, rfl⟩⟩
            · rename_i hh bi hb
              split at hes
              · rename_i es2 hg
                cases hes
                obtain ⟨res, c, hw, hE⟩ := hR.map hg hb
                exact ⟨res, hE, .inr ⟨_, c, rfl, hw⟩⟩
              · cases hes
          obtain ⟨res, hE, hxr⟩ := main
          have hck := dkeyOk_sound hC (em := res.isEmpty) eqDepth kt k hkey 10000 (by decide) k' hk w
          split at h
          · cases h
          · rename_i j v hf
            obtain ⟨q, hq, hfr⟩ := findKey_sound hC (by decide) hik hk w hf hE
            cases q with
            | none => exact hfr.elim
            | some q =>
              obtain ⟨j', v'⟩ := q
              obtain ⟨h1, h2, h3, h4⟩ := hfr
              cases h
              cases ok with
              | true =>
                refine ⟨.tuple #[v', .bool true], ?_, two _ _ _ _ h2 (.bool true)⟩
                rcases hxr with ⟨rfl, rfl⟩ | ⟨rb, c, rfl, hw⟩
                · simp only [show (#[] : Array MapEntry).isEmpty = true from rfl, show (#[] : Array MapEntry).toList = [] from rfl] at hck hq
                  simp [Instr.lookup, hr, hck, hq]
                · simp [Instr.lookup, hr, run_getObj_map hw, hck, hq]
              | false =>
                refine ⟨v', ?_, h2⟩
                rcases hxr with ⟨rfl, rfl⟩ | ⟨rb, c, rfl, hw⟩
                · simp only [show (#[] : Array MapEntry).isEmpty = true from rfl, show (#[] : Array MapEntry).toList = [] from rfl] at hck hq
                  simp [Instr.lookup, hr, hck, hq]
                · simp [Instr.lookup, hr, run_getObj_map hw, hck, hq]
          · rename_i hf
            obtain ⟨q, hq, hfr⟩ := findKey_sound hC (by decide) hik hk w hf hE
            cases q with
            | some _ => exact hfr.elim
            | none =>
              split at h
              · rename_i ie hie
                obtain ⟨z, hz, rfl⟩ := Option.map_eq_some_iff.1 h
                have hzr := run_zero (hC.ty _ _ hie) hz w
                have hvz := plain_V β ((hC.ty _ _ hie).zero z hz).1
                cases ok with
                | true =>
                  refine ⟨.tuple #[z, .bool false], ?_, two _ _ _ _ hvz (.bool false)⟩
                  rcases hxr with ⟨rfl, rfl⟩ | ⟨rb, c, rfl, hw⟩
                  · simp only [show (#[] : Array MapEntry).isEmpty = true from rfl, show (#[] : Array MapEntry).toList = [] from rfl] at hck hq
                    simp [Instr.lookup, hr, hck, hq, hzr]
                  · simp [Instr.lookup, hr, run_getObj_map hw, hck, hq, hzr]
                | false =>
                  refine ⟨z, ?_, hvz⟩
                  rcases hxr with ⟨rfl, rfl⟩ | ⟨rb, c, rfl, hw⟩
                  · simp only [show (#[] : Array MapEntry).isEmpty = true from rfl, show (#[] : Array MapEntry).toList = [] from rfl] at hck hq
                    simp [Instr.lookup, hr, hck, hq, hzr]
                  · simp [Instr.lookup, hr, run_getObj_map hw, hck, hq, hzr]
              · cases h
      · cases h
    · cases h

theorem dmapUpdate_sound {t : TypeId} {m m' k k' v v' : Value} {H' : DH} (h : dmapUpdate C t m k v H = some H') (hm : V β m m') (hk : V β k k') (hv : V β v v') (hR : R β H w) :
    ∃ w', (Instr.mapUpdate t m' k' v').run P w = .ok () w' ∧ R β H' w' ∧ Ext β H w β H' w' := by
  unfold dmapUpdate at h
  split at h
  · rename_i i hh ht
    obtain ⟨d, hd, _, hr⟩ := run_kind hC ht
    split at h
    · rename_i kt et es hkd hg
      rw [hkd] at hd; cases dk_map hd
      split at h
      · rename_i hkey
        obtain ⟨ik, hik⟩ := dkey_ty hkey
        cases hm with
        | map hb =>
          rename_i bi
          obtain ⟨res, c, hw, hE⟩ := hR.map hg hb
          have hck := dkeyOk_sound hC (em := false) eqDepth kt k hkey 10000 (by decide) k' hk w
          split at h
          · cases h
          · rename_i j vv hf
            obtain ⟨q, hq, hfr⟩ := findKey_sound hC (by decide) hik hk w hf hE
            cases q with
            | none => exact hfr.elim
            | some q =>
              obtain ⟨j', v2⟩ := q
              obtain ⟨h1, h2, h3, e, he, h4⟩ := hfr
              subst h1
              split at h
              · rename_i hsame
                cases h
                simp only [Nat.sub_zero] at he
                have he' : res[j']? = some e := by rw [← Array.getElem?_toList]; exact he
                have hlt : j' < res.size := (Array.getElem?_eq_some_iff.1 he').1
                have hlt2 : j' < es.length := by rw [hE.length]; simpa using hlt
                have hbits : Instr.sameBits 10000 e.key k' = true := by
                  rw [List.getElem?_eq_getElem hlt2] at hsame
                  simp only [Option.map_some, sameKey, Bool.and_eq_true] at hsame
                  obtain ⟨⟨p1, p2⟩, p3⟩ := hsame
                  have hke : V β es[j'].1 e.key := hE.1.2 j' _ _ (by simp [hlt2]) (by simp [he])
                  rw [plain_eq p1 hke, plain_eq p2 hk]
                  exact sameBits_mono 12 10000 _ _ (by decide) p3
                have hstay : (Instr.keyThatStays e.key k').run P w = .ok k' w := by simp [Instr.keyThatStays, hbits]
                have hmod : (res.modify j' fun e => { e with key := k', val := v' }).toList = res.toList.set j' { e with key := k', val := v' } := by
                  rw [Array.toList_modify]
                  apply List.ext_getElem?
                  intro n
                  rw [List.getElem?_modify, List.getElem?_set]
                  by_cases e1 : j' = n
                  · subst e1; simp [hlt, he]; rw [← he', Array.getElem?_eq_getElem hlt] at *; simp_all
                  · simp [e1]
                have hnew : ObjRel β bi (.map (es.set j' (k, v))) (.map (res.modify j' fun e => { e with key := k', val := v' }) c) := by
                  simp only [ObjRel, hmod]
                  exact hE.set (e := { e with key := k', val := v' }) hk hv j'
                obtain ⟨r1, r2⟩ := hR.write (by rw [hg]; simp) hb _ _ hnew
                refine ⟨_, ?_, r1, r2⟩
                simp [Instr.mapUpdate, hr, run_getObj_map hw, hck, hq, he', hstay, run_setObj_map hw]
              · cases h
          · rename_i hf
            obtain ⟨q, hq, hfr⟩ := findKey_sound hC (by decide) hik hk w hf hE
            cases q with
            | some _ => exact hfr.elim
            | none =>
              cases h
              have hnew : ObjRel β bi (.map (es ++ [(k, v)])) (.map (res.push { key := k', val := v', born := c }) (c + 1)) := by
                simp only [ObjRel, Array.toList_push]
                exact hE.push (e := { key := k', val := v', born := c }) hk hv
              obtain ⟨r1, r2⟩ := hR.write (by rw [hg]; simp) hb _ _ hnew
              refine ⟨_, ?_, r1, r2⟩
              simp [Instr.mapUpdate, hr, run_getObj_map hw, hck, hq, run_setObj_map hw]
      · cases h
    · cases h
  · cases h

theorem ddelete_sound {t t2 : TypeId} {ts : Array TypeId} (hts : ts[0]? = some t) {m m' k k' : Value} {H' : DH} (h : ddelete C t m k H = some H') (hm : V β m m') (hk : V β k k') (hR : R β H w) :
    ∃ w', (Builtin.delete_ ts t2 #[m', k']).run P w = .ok (.tuple #[]) w' ∧ R β H' w' ∧ Ext β H w β H' w' := by
  unfold ddelete at h
  split at h
  · rename_i i hh ht
    obtain ⟨d, hd, _, hr⟩ := run_kind hC ht
    split at h
    · rename_i kt et es hkd hg
      rw [hkd] at hd; cases dk_map hd
      split at h
      · rename_i hkey
        obtain ⟨ik, hik⟩ := dkey_ty hkey
        cases hm with
        | map hb =>
          rename_i bi
          obtain ⟨res, c, hw, hE⟩ := hR.map hg hb
          have hck := dkeyOk_sound hC (em := res.isEmpty) eqDepth kt k hkey 10000 (by decide) k' hk w
          split at h
          · cases h
          · rename_i j vv hf
            obtain ⟨q, hq, hfr⟩ := findKey_sound hC (by decide) hik hk w hf hE
            cases q with
            | none => exact hfr.elim
            | some q =>
              obtain ⟨j', v2⟩ := q
              obtain ⟨h1, h2, h3, e, he, h4⟩ := hfr
              subst h1
              cases h
              have hnew : ObjRel β bi (.map (es.eraseIdx j')) (.map (res.eraseIdxIfInBounds j') c) := by
                simp only [ObjRel]
                have : (res.eraseIdxIfInBounds j').toList = res.toList.eraseIdx j' := by simp
                rw [this]
                exact hE.eraseIdx j'
              obtain ⟨r1, r2⟩ := hR.write (by rw [hg]; simp) hb _ _ hnew
              refine ⟨_, ?_, r1, r2⟩
              simp [Builtin.delete_, hts, hr, run_getObj_map hw, hck, hq, run_setObj_map hw]
          · rename_i hf
            obtain ⟨q, hq, hfr⟩ := findKey_sound hC (by decide) hik hk w hf hE
            cases q with
            | some _ => exact hfr.elim
            | none =>
              cases h
              have hs := setBlk_self hw
              refine ⟨w, ?_, hR, Ext.refl _ _ _⟩
              simp [Builtin.delete_, hts, hr, run_getObj_map hw, hck, hq, run_setObj_map hw, hs]
      · cases h
    · cases h
  · cases h
end
end
end Go.Ds
