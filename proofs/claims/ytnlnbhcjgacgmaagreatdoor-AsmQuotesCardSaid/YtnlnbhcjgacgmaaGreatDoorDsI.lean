/- A deterministic layer over the model, part I: memory that is made and written; append and copy. -/
import Derived.Test.YtnlnbhcjgacgmaaGreatDoorDsH
import Derived.Laws.Append
set_option linter.unusedVariables false
set_option linter.unusedSimpArgs false
namespace Go.Ds
noncomputable section

theorem VL.oneCell {β : Emb} {vs vs' : List Value} (h : VL β vs vs') (h1 : vs.all (·.oneCell') = true) : vs'.all (·.oneCell') = true := by
  rw [List.all_eq_true] at h1 ⊢
  intro y hy
  obtain ⟨i, hi⟩ := List.mem_iff_getElem?.1 hy
  have hlt : i < vs.length := by rw [h.1]; exact (List.getElem?_eq_some_iff.1 hi).1
  have := h.2 i _ _ (List.getElem?_eq_getElem hlt) hi
  rw [← this.oneCell]
  exact h1 _ (List.getElem_mem hlt)

theorem view_get {cs : Array Value} {base n i : Nat} (hi : i < n) : ((cs.toList.drop base).take n)[i]? = cs[base + i]? := by
  rw [List.getElem?_take, if_pos hi, List.getElem?_drop, Array.getElem?_toList]
theorem VL_view {β : Emb} {cells : List Value} {cs : Array Value} {base : Nat} (hl : base + cells.length ≤ cs.size) (h : ∀ i x y, cells[i]? = some x → cs[base + i]? = some y → V β x y) : VL β cells ((cs.toList.drop base).take cells.length) := by
  refine ⟨by simp; omega, fun i x y hx hy => ?_⟩
  have hi : i < cells.length := (List.getElem?_eq_some_iff.1 hx).1
  rw [view_get hi] at hy
  exact h i x y hx hy

theorem thaw_spec {lo hi o n : Nat} (h : thaw lo hi o n = true) : lo = hi ∨ hi < lo ∨ o + n ≤ lo ∨ hi ≤ o := by
  unfold thaw at h
  simp only [Bool.or_eq_true] at h
  rcases h with ((h | h) | h) | h
  · exact .inl (Nat.eq_of_beq_eq_true h)
  · exact .inr (.inl (Nat.le_of_ble_eq_true h))
  · exact .inr (.inr (.inl (Nat.le_of_ble_eq_true h)))
  · exact .inr (.inr (.inr (Nat.le_of_ble_eq_true h)))

section
variable {P : Program} {C : Ctx} (hC : CtxOK P C) {β : Emb} {H : DH} {w : World}

theorem dwrite_sound {h o : Nat} {vs vs' : List Value} {H' : DH} (hd : dwrite H h o vs = some H') {bi : BI} (hb : β h = some bi) (hv : VL β vs vs') (hR : R β H w) :
    ∃ w', (storeCells ⟨bi.rb, bi.base + o, none⟩ vs').run P w = .ok () w' ∧ R β H' w' ∧ Ext β H w β H' w' := by
  unfold dwrite at hd
  split at hd
  · rename_i cells e lo hi hg
    split at hd
    · rename_i hc
      obtain ⟨hl, ht, h1⟩ := hc
      cases hd
      obtain ⟨cs, fr, hx, hsz, hle, hvl, hf⟩ := hR.row hg hb
      have hvlen := hv.1
      have ht := thaw_spec ht
      have hrun := run_storeCells P bi.rb (bi.base + o) vs' 0 w cs e fr hx (by omega) (fun j hj => by
        rcases hf with hf | ⟨hf1, hf2, hf3⟩ | ⟨hf1, hf2⟩
        · omega
        · omega
        · omega) (hv.oneCell h1)
      have hnew : ObjRel β bi (.row (splice cells o vs) e lo hi) (.cells (spliceA cs (bi.base + o) vs') e fr) := by
        refine ⟨rfl, by rw [spliceA_size]; exact hsz, by rw [length_splice _ _ _ hl]; exact hle, ?_, hf⟩
        refine VL_view (by rw [length_splice _ _ _ hl, spliceA_size]; omega) fun i x y hx hy => ?_
        have hi : i < cells.length := by
          have := (List.getElem?_eq_some_iff.1 hx).1
          rwa [length_splice _ _ _ hl] at this
        rw [getElem?_splice _ _ _ hl] at hx
        rw [getElem?_spliceA] at hy
        by_cases hin : o ≤ i ∧ i < o + vs.length
        · rw [if_pos hin] at hx
          rw [if_pos (by omega), show bi.base + i - (bi.base + o) = i - o by omega] at hy
          exact hv.2 _ x y hx hy
        · rw [if_neg hin] at hx
          rw [if_neg (by omega)] at hy
          exact hvl.2 i x y hx (by rw [view_get hi]; exact hy)
      obtain ⟨r1, r2⟩ := hR.write (by rw [hg]; simp) hb _ _ hnew
      exact ⟨_, hrun, r1, r2⟩
    · cases hd
  · cases hd

include hC in
theorem dstore_sound {t : TypeId} {a a' x x' : Value} {H' : DH} (h : dstore C t a x H = some H') (ha : V β a a') (hx : V β x x') (hR : R β H w) :
    ∃ w', (Instr.storeAt t a' x').run P w = .ok () w' ∧ R β H' w' ∧ Ext β H w β H' w' := by
  unfold dstore at h
  split at h
  · rename_i hh o
    cases ht : C.ty.get t with
    | none => simp [ht] at h
    | some i =>
      simp only [ht] at h
      split at h
      · rename_i hs
        cases ha with
        | ptr hb =>
          rename_i bi
          have hcs := hx.cells
          have hsz : x'.cells.size = i.size := by rw [← hcs.all.1]; exact hs
          obtain ⟨w', hrun, r1, r2⟩ := dwrite_sound (P := P) h hb hcs hR
          exact ⟨w', by simp [Instr.storeAt, Instr.sureAddr, storeVar, run_size (hC.ty t i ht), hsz, hrun], r1, r2⟩
      · cases h
  · cases h

/-- A new row. -/
theorem dnewRow_sound (e : TypeId) {cells cells' : List Value} (hv : VL β cells cells') (extra : List Value) (hR : R β H w) {lo hi : Nat} {fr : Nat × Nat} (hf : FR ⟨w.heap.size, 0, cells'.length + extra.length⟩ lo hi fr) :
    ∃ β', β' (2 * H.n) = some ⟨w.heap.size, 0, cells'.length + extra.length⟩ ∧ R β' (H.alloc (.row cells e lo hi)) (w.alloc (.cells ⟨cells' ++ extra⟩ e fr)) ∧ Ext β H w β' (H.alloc (.row cells e lo hi)) (w.alloc (.cells ⟨cells' ++ extra⟩ e fr)) := by
  have hle := embAdd_le (bi := (⟨w.heap.size, 0, cells'.length + extra.length⟩ : BI)) (hR.fresh H.n (Nat.le_refl _))
  have := hR.alloc (.row cells e lo hi) (.cells ⟨cells' ++ extra⟩ e fr) (cells'.length + extra.length) (by
    refine ⟨rfl, by simp, by have := hv.1; simp; omega, ?_, hf⟩
    refine VL_view (by have := hv.1; simp; omega) fun i x y hx hy => ?_
    have hi : i < cells.length := (List.getElem?_eq_some_iff.1 hx).1
    have hi' : i < cells'.length := hv.1 ▸ hi
    simp only [Nat.zero_add, List.getElem?_toArray] at hy
    rw [List.getElem?_append_left hi'] at hy
    exact (hv.2 i x y hx hy).mono hle)
  exact ⟨_, by simp, this.1, this.2⟩

theorem FR_none (bi : BI) (lo hi : Nat) (h : lo = hi → 0 < lo → bi.base = 0) : FR bi lo hi (0, 0) := .inl ⟨rfl, h⟩

theorem dnew_sound (e : TypeId) {v v' : Value} (hv : V β v v') (hR : R β H w) :
    ∃ x' w' β', (do pure (.pointer (some (← newVar e v'))) : Sem Value).run P w = .ok x' w' ∧ V β' (dnew H e v.cells.toList).1 x' ∧ R β' (dnew H e v.cells.toList).2 w' ∧ Ext β H w β' (dnew H e v.cells.toList).2 w' := by
  obtain ⟨β', hb, r1, r2⟩ := dnewRow_sound e (hv.cells : VL β _ _) [] hR (FR_none _ 1 1 fun _ _ => rfl)
  simp only [List.append_nil] at r1 r2
  refine ⟨.pointer (some ⟨w.heap.size, 0, none⟩), _, β', ?_, ?_, r1, r2⟩
  · simp [newVar, newRow]
  · have := V.ptr (β := β') (o := 0) hb
    simpa [dnew] using this

theorem rep_get (z : List Value) : ∀ (n i : Nat), (rep z n)[i]? = if i < n * z.length then z[i % z.length]? else none := by
  intro n
  induction n with
  | zero => intro i; simp [rep]
  | succ n ih =>
    intro i
    simp only [rep]
    rcases Nat.lt_or_ge i z.length with h | h
    · rw [List.getElem?_append_left h, if_pos (by rw [Nat.add_mul]; omega), Nat.mod_eq_of_lt h]
    · rw [List.getElem?_append_right h, ih]
      have e : (i - z.length) % z.length = i % z.length := by
        conv => rhs; rw [← Nat.sub_add_cancel h]
        simp
      rw [e]
      by_cases hl : i < (n + 1) * z.length
      · rw [if_pos hl, if_pos (by rw [Nat.add_mul] at hl; omega)]
      · rw [if_neg hl, if_neg (by rw [Nat.add_mul] at hl; omega)]
theorem rep_length (z : List Value) : ∀ n, (rep z n).length = n * z.length := by
  intro n
  induction n with
  | zero => simp [rep]
  | succ n ih => simp [rep, ih, Nat.add_mul]; omega
theorem rep_model (z : Array Value) (hz : 0 < z.size) (n : Nat) : ((Array.range (n * z.size)).map (z[· % z.size]!)).toList = rep z.toList n := by
  apply List.ext_getElem?
  intro i
  rw [rep_get]
  by_cases h : i < n * z.size
  · have hm : i % z.size < z.size := Nat.mod_lt _ hz
    simp [h, hm]
  · simp [h]
theorem VL_rep {β : Emb} {z z' : List Value} (h : VL β z z') : ∀ n, VL β (rep z n) (rep z' n)
  | 0 => VL.nil β
  | n + 1 => h.append (VL_rep h n)

theorem dsrc_sound {size m n : Nat} {x x' : Value} {news : List Value} (h : dsrc size x m H = some news) (hl : dlen x = some n) (hm : m ≤ n) (hx : V β x x') (hR : R β H w) :
    ∃ news', (∀ dn, (Builtin.firstCells size m x').run P { w with drawn := dn } = .ok ⟨news'⟩ { w with drawn := dn }) ∧ VL β news news' ∧ news.length = m * size := by
  unfold dsrc at h
  split at h
  · cases hx
    split at h
    · cases h
      rename_i e
      subst e
      exact ⟨[], fun _ => rfl, VL.nil β, by simp⟩
    · cases h
  · rename_i hh o s nn cc
    split at h
    · rename_i cells e lo hi hg
      split at h
      · rename_i hc
        obtain ⟨rfl, hle⟩ := hc
        cases h
        simp only [dlen, Option.some.injEq] at hl
        subst hl
        have hlen : ((cells.drop o).take (m * s)).length = m * s := by simp; omega
        cases hx with
        | sl hb hn hcc ha =>
          rename_i c' ad bi
          obtain ⟨cs, fr, hxx, hsz, hle2, hvl, hf⟩ := hR.row hg hb
          rcases ha with ha | ⟨rfl, ha⟩
          · have : m = 0 := by omega
            subst this
            refine ⟨[], fun dn => ?_, by simp; exact VL.nil β, hlen⟩
            simp [Builtin.firstCells, loadCells, loadCellsFrom]
          · refine ⟨_, fun dn => ?_, take_drop_view hvl o (m * s) hle, hlen⟩
            exact run_loadCells' P bi.rb (bi.base + o) (m * s) { w with drawn := dn } cs e fr hxx (by omega)
      · cases h
    · cases h
  · rename_i s
    split at h
    · rename_i hc
      obtain ⟨rfl, hle⟩ := hc
      cases h
      cases hx
      refine ⟨(s.data.toList.take m).map fun b => .int .u8 b.toNat, fun dn => ?_, ?_, by simp; exact Nat.min_eq_left hle⟩
      · simp only [Builtin.firstCells, Sem.run_pure]
        congr 1
        apply Array.ext'
        simp [ByteArray.data_extract, List.extract_eq_drop_take']
      · refine VL.of_plain (p := plainN 0) (fun x hx => plainN_V β 0 x hx) ?_
        rw [List.all_eq_true]
        intro y hy
        obtain ⟨b, _, rfl⟩ := List.mem_map.1 hy
        rfl
    · cases h
  · cases h

theorem run_lenOf {x x' : Value} {n : Nat} (h : dlen x = some n) (hx : V β x x') (w : World) : (Builtin.lenOf x').run P w = .ok n w := by
  cases hx <;> simp only [dlen, Option.some.injEq] at h <;> first
    | (cases h; done)
    | (subst h; simp [Builtin.lenOf])
end
end
end Go.Ds
