/- A deterministic layer over the model, part B: heaps over handles, what relates them to the model's worlds, and what a step does to both. -/
import Derived.Test.YtnlnbhcjgacgmaaGreatDoorDsA
set_option linter.unusedVariables false
set_option linter.unusedSimpArgs false
namespace Go.Ds
noncomputable section

/-! ### Blocks of a world -/
def setBlk (w : World) (r : Nat) (x : Obj) : World := { w with heap := w.heap.setIfInBounds r x }
@[simp] theorem size_setBlk (w : World) (r : Nat) (x : Obj) : (setBlk w r x).heap.size = w.heap.size := by simp [setBlk]
theorem heap_setBlk (w : World) (r : Nat) (x : Obj) (i : Nat) : (setBlk w r x).heap[i]? = if i = r then (if r < w.heap.size then some x else none) else w.heap[i]? := by
  simp only [setBlk, Array.getElem?_setIfInBounds]
  by_cases h : r = i
  · subst h; simp
  · rw [if_neg h, if_neg (fun e => h e.symm)]
theorem heap_setBlk_ne {w : World} {r i : Nat} {x : Obj} (h : i ≠ r) : (setBlk w r x).heap[i]? = w.heap[i]? := by rw [heap_setBlk, if_neg h]
theorem heap_setBlk_same {w : World} {r : Nat} {x y : Obj} (h : w.heap[r]? = some y) : (setBlk w r x).heap[r]? = some x := by
  rw [heap_setBlk, if_pos rfl, if_pos (Array.getElem?_eq_some_iff.1 h).1]
theorem setBlk_self {w : World} {r : Nat} {x : Obj} (h : w.heap[r]? = some x) : setBlk w r x = w := by
  obtain ⟨hl, he⟩ := Array.getElem?_eq_some_iff.1 h
  have : w.heap.setIfInBounds r x = w.heap := by
    apply Array.ext (by simp)
    intro i h1 h2
    rw [Array.getElem_setIfInBounds]
    split
    · rename_i e; subst e; exact he.symm
    · rfl
  unfold setBlk
  rw [this]
theorem setBlk_setBlk (w : World) (r : Nat) (x y : Obj) : setBlk (setBlk w r x) r y = setBlk w r y := by
  unfold setBlk
  congr 1
  simp
theorem heap_alloc (w : World) (x : Obj) (i : Nat) : (w.alloc x).heap[i]? = if i = w.heap.size then some x else w.heap[i]? := by
  simp only [World.alloc, Array.getElem?_push]
theorem heap_alloc_lt {w : World} {x : Obj} {i : Nat} (h : i < w.heap.size) : (w.alloc x).heap[i]? = w.heap[i]? := by rw [heap_alloc, if_neg (by omega)]
theorem lt_of_heap {w : World} {r : Nat} {x : Obj} (h : w.heap[r]? = some x) : r < w.heap.size := (Array.getElem?_eq_some_iff.1 h).1

theorem addr_add (r o i : Nat) : (⟨r, o, none⟩ : Addr).add i = ⟨r, o + i, none⟩ := by
  unfold Addr.add; split
  · subst_vars; rfl
  · rfl
theorem cell_of {w : World} {r : Nat} {c : Array Value} {e : TypeId} {fr : Nat × Nat} (h : w.heap[r]? = some (.cells c e fr)) (o : Nat) : w.cell? ⟨r, o, none⟩ = c[o]? := by
  simp [World.cell?, h]
theorem frozen_of {w : World} {r : Nat} {c : Array Value} {e : TypeId} {fr : Nat × Nat} (h : w.heap[r]? = some (.cells c e fr)) (o : Nat) : w.frozen? ⟨r, o, none⟩ = (decide (fr.1 ≤ o) && decide (o < fr.2)) := by
  simp [World.frozen?, h]
theorem shape_of {w : World} {r : Nat} {c : Array Value} {e : TypeId} {fr : Nat × Nat} (h : w.heap[r]? = some (.cells c e fr)) : w.shape? r = some (e, c.size) := by
  simp [World.shape?, h]
theorem setCell_of {w : World} {r : Nat} {c : Array Value} {e : TypeId} {fr : Nat × Nat} (h : w.heap[r]? = some (.cells c e fr)) (o : Nat) (v : Value) :
    w.setCell ⟨r, o, none⟩ v = setBlk w r (.cells (c.setIfInBounds o v) e fr) := by
  obtain ⟨hl, he⟩ := Array.getElem?_eq_some_iff.1 h
  unfold World.setCell setBlk
  congr 1
  apply Array.ext (by simp)
  intro i h1 h2
  rw [Array.getElem_modify, Array.getElem_setIfInBounds (by simpa using h2)]
  by_cases e : r = i
  · subst e; simp [he]
  · simp [e]

/-- Cells written one behind the other. -/
def spliceA (c : Array Value) (k : Nat) : List Value → Array Value
  | [] => c
  | v :: vs => spliceA (c.setIfInBounds k v) (k + 1) vs
def splice (c : List Value) (k : Nat) (vs : List Value) : List Value := c.take k ++ vs ++ c.drop (k + vs.length)
theorem spliceA_size : ∀ (vs : List Value) (c : Array Value) (k : Nat), (spliceA c k vs).size = c.size
  | [], _, _ => rfl
  | v :: vs, c, k => by simp [spliceA, spliceA_size vs]
theorem getElem?_spliceA : ∀ (vs : List Value) (c : Array Value) (k i : Nat), (spliceA c k vs)[i]? = if k ≤ i ∧ i < k + vs.length ∧ i < c.size then vs[i - k]? else c[i]?
  | [], c, k, i => by simp [spliceA]; omega
  | v :: vs, c, k, i => by
    simp only [spliceA, getElem?_spliceA vs, Array.size_setIfInBounds, Array.getElem?_setIfInBounds, List.length_cons]
    by_cases h1 : k + 1 ≤ i ∧ i < k + 1 + vs.length ∧ i < c.size
    · rw [if_pos h1, if_pos (by omega)]
      obtain ⟨d, rfl⟩ : ∃ d, i = k + 1 + d := ⟨i - (k + 1), by omega⟩
      rw [show k + 1 + d - (k + 1) = d by omega, show k + 1 + d - k = d + 1 by omega]; rfl
    · rw [if_neg h1]
      by_cases e : k = i
      · subst e
        by_cases hs : k < c.size
        · rw [if_pos rfl, if_pos hs, if_pos (by omega)]; simp
        · rw [if_pos rfl, if_neg hs, if_neg (by omega)]; simp; omega
      · rw [if_neg e, if_neg (by omega)]
theorem getElem?_splice (c : List Value) (k : Nat) (vs : List Value) (hk : k + vs.length ≤ c.length) (i : Nat) : (splice c k vs)[i]? = if k ≤ i ∧ i < k + vs.length then vs[i - k]? else c[i]? := by
  unfold splice
  rcases Nat.lt_or_ge i k with h | h
  · rw [if_neg (by omega), List.append_assoc, List.getElem?_append_left (by simp; omega), List.getElem?_take, if_pos h]
  · rcases Nat.lt_or_ge i (k + vs.length) with h2 | h2
    · rw [if_pos ⟨h, h2⟩, List.getElem?_append_left (by simp; omega), List.getElem?_append_right (by simp; omega)]
      simp [Nat.min_eq_left (show k ≤ c.length by omega)]
    · rw [if_neg (by omega), List.getElem?_append_right (by simp; omega), List.getElem?_drop]
      congr 1
      simp; omega
theorem length_splice (c : List Value) (k : Nat) (vs : List Value) (hk : k + vs.length ≤ c.length) : (splice c k vs).length = c.length := by
  unfold splice; simp; omega
theorem run_storeCells (P : Program) (r o : Nat) : ∀ (vs : List Value) (i : Nat) (w : World) (c : Array Value) (e : TypeId) (fr : Nat × Nat), w.heap[r]? = some (.cells c e fr) → o + i + vs.length ≤ c.size →
    (∀ j, j < vs.length → ¬ (fr.1 ≤ o + i + j ∧ o + i + j < fr.2)) → vs.all (·.oneCell') = true →
    (storeCells ⟨r, o, none⟩ vs i).run P w = .ok () (setBlk w r (.cells (spliceA c (o + i) vs) e fr)) := by
  intro vs
  induction vs with
  | nil => intro i w c e fr h _ _ _; simp only [storeCells, Sem.run_pure, spliceA]; rw [setBlk_self h]
  | cons v vs ih =>
    intro i w c e fr h hl hf h1
    simp only [List.all_cons, Bool.and_eq_true, List.length_cons] at h1 hl hf
    have hlt : o + i < c.size := by omega
    have hcell : w.cell? ⟨r, o + i, none⟩ = some c[o + i] := by rw [cell_of h, Array.getElem?_eq_getElem hlt]
    have hfz : w.frozen? ⟨r, o + i, none⟩ = false := by
      rw [frozen_of h]
      have := hf 0 (by omega)
      simp only [Nat.add_zero] at this
      simp; omega
    simp only [storeCells, Sem.run_bind, addr_add, run_store P w _ v _ h1.1, hcell, hfz, Bool.false_eq_true, if_false, Result.andThen_ok, setCell_of h]
    have h2 := ih (i + 1) (setBlk w r (.cells (c.setIfInBounds (o + i) v) e fr)) (c.setIfInBounds (o + i) v) e fr (heap_setBlk_same h) (by simp; omega)
      (fun j hj => by have := hf (j + 1) (by omega); omega) h1.2
    rw [h2, setBlk_setBlk]
    rfl
theorem run_loadCells' (P : Program) (r o n : Nat) (w : World) (c : Array Value) (e : TypeId) (fr : Nat × Nat) (h : w.heap[r]? = some (.cells c e fr)) (hl : o + n ≤ c.size) :
    (loadCells ⟨r, o, none⟩ n).run P w = .ok ((c.toList.drop o).take n).toArray w := by
  have hlen : ((c.toList.drop o).take n).length = n := by simp; omega
  have := run_loadCells_list (P := P) w ⟨r, o, none⟩ ((c.toList.drop o).take n) (fun j v hj => by
    rw [addr_add, cell_of h]
    rw [List.getElem?_take] at hj
    split at hj
    · rw [List.getElem?_drop] at hj; simpa using hj
    · cases hj)
  rwa [hlen] at this

/-! ### Heaps over handles -/
inductive DO : Type where
  /-- Cells; the element's type; which are frozen: none if 'lo = hi' ('0 < lo': and the block begins here); 'hi < lo': a mark behind the last. -/
  | row (cells : List Value) (elem : TypeId) (lo hi : Nat)
  | map (es : List (Value × Value))
  | iter (s : ByteArray) (pos : Nat)

structure DH : Type where
  t : Tr DO
  n : Nat

def DH.get (H : DH) (h : Nat) : Option DO := H.t.get h
def DH.set (H : DH) (h : Nat) (o : Option DO) : DH := { t := H.t.set h o, n := H.n }
def DH.alloc (H : DH) (o : DO) : DH := { t := H.t.set (2 * H.n) (some o), n := H.n + 1 }
@[simp] theorem DH.get_set (H : DH) (h : Nat) (o : Option DO) (j : Nat) : (H.set h o).get j = if j = h then o else H.get j := by simp [DH.get, DH.set]
@[simp] theorem DH.get_alloc (H : DH) (o : DO) (j : Nat) : (H.alloc o).get j = if j = 2 * H.n then some o else H.get j := by simp [DH.get, DH.alloc]
/-- A number is passed over. -/
def DH.bump (H : DH) : DH := { t := H.t, n := H.n + 1 }
@[simp] theorem DH.get_bump (H : DH) (j : Nat) : H.bump.get j = H.get j := rfl
@[simp] theorem DH.n_bump (H : DH) : H.bump.n = H.n + 1 := rfl
@[simp] theorem DH.n_set (H : DH) (h : Nat) (o : Option DO) : (H.set h o).n = H.n := rfl
@[simp] theorem DH.n_alloc (H : DH) (o : DO) : (H.alloc o).n = H.n + 1 := rfl

/-- Frozen cells, seen from a handle. -/
def FR (bi : BI) (lo hi : Nat) (fr : Nat × Nat) : Prop :=
  (fr.1 = fr.2 ∧ (lo = hi → 0 < lo → bi.base = 0)) ∨ (lo < hi ∧ bi.base + lo ≤ fr.1 ∧ fr.2 ≤ bi.base + hi) ∨ (hi < lo ∧ bi.size ≤ fr.1)
def EL (β : Emb) (es : List (Value × Value)) (res : List MapEntry) : Prop :=
  VL β (es.map (·.1)) (res.map (·.key)) ∧ VL β (es.map (·.2)) (res.map (·.val))
def ObjRel (β : Emb) (bi : BI) : DO → Obj → Prop
  | .row cells e lo hi, .cells cs e' fr => e' = e ∧ cs.size = bi.size ∧ bi.base + cells.length ≤ bi.size ∧ VL β cells ((cs.toList.drop bi.base).take cells.length) ∧ FR bi lo hi fr
  | .map es, .map res _ => EL β es res.toList
  | .iter s pos, .stringIter s' pos' => s' = s ∧ pos' = pos ∧ bi.base = 0
  | _, _ => False

structure R (β : Emb) (H : DH) (w : World) : Prop where
  obj : ∀ h o bi, H.get h = some o → β h = some bi → ∃ x, w.heap[bi.rb]? = some x ∧ ObjRel β bi o x
  inj : ∀ h h' bi bi', H.get h ≠ none → H.get h' ≠ none → β h = some bi → β h' = some bi' → bi.rb = bi'.rb → h = h'
  fresh : ∀ k, H.n ≤ k → β (2 * k) = none
  lt : ∀ h bi, β h = some bi → bi.rb < w.heap.size

structure Ext (β : Emb) (H : DH) (w : World) (β' : Emb) (H' : DH) (w' : World) : Prop where
  sub : EmbLe β β'
  size : w.heap.size ≤ w'.heap.size
  keep : ∀ r, r < w.heap.size → (∀ h bi, H.get h ≠ none → β h = some bi → bi.rb ≠ r) → w'.heap[r]? = w.heap[r]?
  live : ∀ h bi, H'.get h ≠ none → β' h = some bi → (∃ h0 bi0, H.get h0 ≠ none ∧ β h0 = some bi0 ∧ bi0.rb = bi.rb) ∨ w.heap.size ≤ bi.rb
  os : w'.os = w.os
  tape : w'.tape = w.tape
  output : w'.output = w.output
  n : H.n ≤ H'.n
  dom : ∀ h bi, β' h = some bi → β h = some bi ∨ ∃ k, h = 2 * k ∧ H.n ≤ k

theorem Ext.refl (β : Emb) (H : DH) (w : World) : Ext β H w β H w :=
  ⟨EmbLe.refl β, Nat.le_refl _, fun _ _ _ => rfl, fun h bi hh hb => .inl ⟨h, bi, hh, hb, rfl⟩, rfl, rfl, rfl, Nat.le_refl _, fun _ _ hb => .inl hb⟩
theorem Ext.trans {β β1 β2 : Emb} {H H1 H2 : DH} {w w1 w2 : World} (a : Ext β H w β1 H1 w1) (b : Ext β1 H1 w1 β2 H2 w2) : Ext β H w β2 H2 w2 where
  sub := a.sub.trans b.sub
  size := Nat.le_trans a.size b.size
  keep := fun r hr hn => by
    rw [b.keep r (Nat.lt_of_lt_of_le hr a.size) ?_, a.keep r hr hn]
    intro h bi hh hb e
    rcases a.live h bi hh hb with ⟨h0, bi0, h1, h2, h3⟩ | h1
    · exact hn h0 bi0 h1 h2 (h3.trans e)
    · omega
  live := fun h bi hh hb => by
    rcases b.live h bi hh hb with ⟨h0, bi0, h1, h2, h3⟩ | h1
    · rcases a.live h0 bi0 h1 h2 with ⟨h4, bi4, h5, h6, h7⟩ | h4
      · exact .inl ⟨h4, bi4, h5, h6, h7.trans h3⟩
      · exact .inr (h3 ▸ h4)
    · exact .inr (Nat.le_trans a.size h1)
  os := b.os.trans a.os
  tape := b.tape.trans a.tape
  output := b.output.trans a.output
  n := Nat.le_trans a.n b.n
  dom := fun h bi hb => by
    rcases b.dom h bi hb with h1 | ⟨k, h1, h2⟩
    · exact a.dom h bi h1
    · exact .inr ⟨k, h1, Nat.le_trans a.n h2⟩

theorem EL.mono {β β' : Emb} (hle : EmbLe β β') {es : List (Value × Value)} {res : List MapEntry} (h : EL β es res) : EL β' es res := ⟨h.1.mono hle, h.2.mono hle⟩
theorem ObjRel.mono {β β' : Emb} (hle : EmbLe β β') {bi : BI} {o : DO} {x : Obj} (h : ObjRel β bi o x) : ObjRel β' bi o x := by
  cases o <;> cases x <;> simp only [ObjRel] at h ⊢
  · exact ⟨h.1, h.2.1, h.2.2.1, h.2.2.2.1.mono hle, h.2.2.2.2⟩
  · exact h.mono hle
  · exact h

/-- A draw is nothing. -/
theorem R.draw {β : Emb} {H : DH} {w : World} (h : R β H w) (n : Nat) : R β H { w with drawn := n } := ⟨h.obj, h.inj, h.fresh, h.lt⟩
theorem Ext.draw (β : Emb) (H : DH) (w : World) (n : Nat) : Ext β H w β H { w with drawn := n } :=
  ⟨EmbLe.refl β, Nat.le_refl _, fun _ _ _ => rfl, fun h bi hh hb => .inl ⟨h, bi, hh, hb, rfl⟩, rfl, rfl, rfl, Nat.le_refl _, fun _ _ hb => .inl hb⟩

theorem R.bump {β : Emb} {H : DH} {w : World} (h : R β H w) : R β H.bump w := ⟨h.obj, h.inj, fun k hk => h.fresh k (by simp at hk; omega), h.lt⟩
theorem Ext.bump (β : Emb) (H : DH) (w : World) : Ext β H w β H.bump w :=
  ⟨EmbLe.refl β, Nat.le_refl _, fun _ _ _ => rfl, fun h bi hh hb => .inl ⟨h, bi, hh, hb, rfl⟩, rfl, rfl, rfl, by simp, fun _ _ hb => .inl hb⟩

def embAdd (β : Emb) (h : Nat) (bi : BI) : Emb := fun j => if j = h then some bi else β j
theorem embAdd_le {β : Emb} {h : Nat} {bi : BI} (hn : β h = none) : EmbLe β (embAdd β h bi) := fun j b hb => by
  unfold embAdd
  split
  · rename_i e; subst e; rw [hn] at hb; cases hb
  · exact hb
@[simp] theorem embAdd_same (β : Emb) (h : Nat) (bi : BI) : embAdd β h bi h = some bi := by simp [embAdd]
theorem embAdd_ne {β : Emb} {h j : Nat} {bi : BI} (e : j ≠ h) : embAdd β h bi j = β j := by simp [embAdd, e]

/-- Something new. -/
theorem R.alloc {β : Emb} {H : DH} {w : World} (hR : R β H w) (o : DO) (x : Obj) (size : Nat) (ho : ObjRel (embAdd β (2 * H.n) ⟨w.heap.size, 0, size⟩) ⟨w.heap.size, 0, size⟩ o x) :
    R (embAdd β (2 * H.n) ⟨w.heap.size, 0, size⟩) (H.alloc o) (w.alloc x) ∧ Ext β H w (embAdd β (2 * H.n) ⟨w.heap.size, 0, size⟩) (H.alloc o) (w.alloc x) := by
  have hle := embAdd_le (bi := (⟨w.heap.size, 0, size⟩ : BI)) (hR.fresh H.n (Nat.le_refl _))
  refine ⟨⟨?_, ?_, ?_, ?_⟩, ⟨hle, by simp, ?_, ?_, rfl, rfl, rfl, by simp, fun j bj hj => by
    by_cases e : j = 2 * H.n
    · exact .inr ⟨H.n, e, Nat.le_refl _⟩
    · rw [embAdd_ne e] at hj; exact .inl hj⟩⟩
  · intro h o' bi hg hb
    by_cases e : h = 2 * H.n
    · subst e
      simp at hg hb
      subst hg; subst hb
      exact ⟨x, by rw [heap_alloc, if_pos rfl], ho⟩
    · rw [DH.get_alloc, if_neg e] at hg
      rw [embAdd_ne e] at hb
      obtain ⟨y, hy, hr⟩ := hR.obj h o' bi hg hb
      exact ⟨y, by rw [heap_alloc_lt (lt_of_heap hy), hy], hr.mono hle⟩
  · intro h h' bi bi' hg hg' hb hb' he
    by_cases e : h = 2 * H.n
    · by_cases e' : h' = 2 * H.n
      · rw [e, e']
      · rw [embAdd_ne e'] at hb'
        subst e; simp at hb; subst hb
        have := hR.lt h' bi' hb'
        simp at he; omega
    · by_cases e' : h' = 2 * H.n
      · rw [embAdd_ne e] at hb
        subst e'; simp at hb'; subst hb'
        have := hR.lt h bi hb
        simp at he; omega
      · rw [embAdd_ne e] at hb
        rw [embAdd_ne e'] at hb'
        rw [DH.get_alloc, if_neg e] at hg
        rw [DH.get_alloc, if_neg e'] at hg'
        exact hR.inj h h' bi bi' hg hg' hb hb' he
  · intro k hk
    simp at hk
    rw [embAdd_ne (by omega)]
    exact hR.fresh k (by omega)
  · intro h bi hb
    by_cases e : h = 2 * H.n
    · subst e; simp at hb; subst hb; simp
    · rw [embAdd_ne e] at hb
      have := hR.lt h bi hb
      simp; omega
  · intro r hr _
    rw [heap_alloc_lt hr]
  · intro h bi hg hb
    by_cases e : h = 2 * H.n
    · subst e; simp at hb; subst hb; exact .inr (Nat.le_refl _)
    · rw [embAdd_ne e] at hb
      rw [DH.get_alloc, if_neg e] at hg
      exact .inl ⟨h, bi, hg, hb, rfl⟩

/-- A live handle's block is written. -/
theorem R.write {β : Emb} {H : DH} {w : World} (hR : R β H w) {h : Nat} {bi : BI} (hg : H.get h ≠ none) (hb : β h = some bi) (o : DO) (x : Obj) (ho : ObjRel β bi o x) :
    R β (H.set h (some o)) (setBlk w bi.rb x) ∧ Ext β H w β (H.set h (some o)) (setBlk w bi.rb x) := by
  refine ⟨⟨?_, ?_, ?_, ?_⟩, ⟨EmbLe.refl β, by simp, ?_, ?_, rfl, rfl, rfl, by simp, fun _ _ hb => .inl hb⟩⟩
  · intro j o' bj hj hbj
    by_cases e : j = h
    · subst e
      simp at hj; subst hj
      rw [hb] at hbj; cases hbj
      exact ⟨x, by rw [heap_setBlk, if_pos rfl, if_pos (hR.lt _ _ hb)], ho⟩
    · rw [DH.get_set, if_neg e] at hj
      obtain ⟨y, hy, hr⟩ := hR.obj j o' bj hj hbj
      refine ⟨y, ?_, hr⟩
      rw [heap_setBlk_ne, hy]
      intro he
      exact e (hR.inj j h bj bi (by rw [hj]; simp) hg hbj hb he)
  · intro j j' bj bj' hj hj' hbj hbj' he
    refine hR.inj j j' bj bj' ?_ ?_ hbj hbj' he
    · by_cases e : j = h
      · subst e; exact hg
      · rwa [DH.get_set, if_neg e] at hj
    · by_cases e : j' = h
      · subst e; exact hg
      · rwa [DH.get_set, if_neg e] at hj'
  · exact fun k hk => hR.fresh k hk
  · intro j bj hbj; simpa using hR.lt j bj hbj
  · intro r hr hn
    rw [heap_setBlk_ne]
    exact fun e => hn h bi hg hb e.symm
  · intro j bj hj hbj
    refine .inl ⟨j, bj, ?_, hbj, rfl⟩
    by_cases e : j = h
    · subst e; exact hg
    · rwa [DH.get_set, if_neg e] at hj

/-- A live handle dies; another takes its block, from some cell on. -/
theorem R.move {β : Emb} {H : DH} {w : World} (hR : R β H w) {h : Nat} {bi : BI} (hg : H.get h ≠ none) (hb : β h = some bi) (o : DO) (x : Obj) (base : Nat)
    (ho : ObjRel (embAdd β (2 * H.n) ⟨bi.rb, base, bi.size⟩) ⟨bi.rb, base, bi.size⟩ o x) :
    R (embAdd β (2 * H.n) ⟨bi.rb, base, bi.size⟩) ((H.set h none).alloc o) (setBlk w bi.rb x) ∧ Ext β H w (embAdd β (2 * H.n) ⟨bi.rb, base, bi.size⟩) ((H.set h none).alloc o) (setBlk w bi.rb x) := by
  have hle := embAdd_le (bi := (⟨bi.rb, base, bi.size⟩ : BI)) (hR.fresh H.n (Nat.le_refl _))
  have get' : ∀ j, ((H.set h none).alloc o).get j = if j = 2 * H.n then some o else if j = h then none else H.get j := fun j => by simp
  refine ⟨⟨?_, ?_, ?_, ?_⟩, ⟨hle, by simp, ?_, ?_, rfl, rfl, rfl, by simp, fun j bj hj => by
    by_cases e : j = 2 * H.n
    · exact .inr ⟨H.n, e, Nat.le_refl _⟩
    · rw [embAdd_ne e] at hj; exact .inl hj⟩⟩
  · intro j o' bj hj hbj
    rw [get'] at hj
    by_cases e : j = 2 * H.n
    · subst e
      simp at hj hbj
      subst hj; subst hbj
      exact ⟨x, by rw [heap_setBlk, if_pos rfl, if_pos (hR.lt _ _ hb)], ho⟩
    · rw [if_neg e] at hj
      rw [embAdd_ne e] at hbj
      by_cases e2 : j = h
      · rw [if_pos e2] at hj; cases hj
      · rw [if_neg e2] at hj
        obtain ⟨y, hy, hr⟩ := hR.obj j o' bj hj hbj
        refine ⟨y, ?_, hr.mono hle⟩
        rw [heap_setBlk_ne, hy]
        intro he
        exact e2 (hR.inj j h bj bi (by rw [hj]; simp) hg hbj hb he)
  · intro j j' bj bj' hj hj' hbj hbj' he
    rw [get'] at hj hj'
    by_cases e : j = 2 * H.n
    · by_cases e' : j' = 2 * H.n
      · rw [e, e']
      · rw [embAdd_ne e'] at hbj'
        rw [if_neg e'] at hj'
        subst e; simp at hbj; subst hbj
        by_cases e2 : j' = h
        · rw [if_pos e2] at hj'; exact absurd rfl hj'
        · rw [if_neg e2] at hj'
          exact absurd (hR.inj j' h bj' bi hj' hg hbj' hb he.symm) e2
    · rw [embAdd_ne e] at hbj
      rw [if_neg e] at hj
      have e2 : j ≠ h := fun e2 => by rw [if_pos e2] at hj; exact hj rfl
      rw [if_neg e2] at hj
      by_cases e' : j' = 2 * H.n
      · subst e'; simp at hbj'; subst hbj'
        exact absurd (hR.inj j h bj bi hj hg hbj hb he) e2
      · rw [embAdd_ne e'] at hbj'
        rw [if_neg e'] at hj'
        have e3 : j' ≠ h := fun e2 => by rw [if_pos e2] at hj'; exact hj' rfl
        rw [if_neg e3] at hj'
        exact hR.inj j j' bj bj' hj hj' hbj hbj' he
  · intro k hk
    simp at hk
    rw [embAdd_ne (by omega)]
    exact hR.fresh k (by omega)
  · intro j bj hbj
    by_cases e : j = 2 * H.n
    · subst e; simp at hbj; subst hbj; simpa using hR.lt h bi hb
    · rw [embAdd_ne e] at hbj
      simpa using hR.lt j bj hbj
  · intro r hr hn
    rw [heap_setBlk_ne]
    exact fun e => hn h bi hg hb e.symm
  · intro j bj hj hbj
    rw [get'] at hj
    by_cases e : j = 2 * H.n
    · subst e; simp at hbj; subst hbj; exact .inl ⟨h, bi, hg, hb, rfl⟩
    · rw [embAdd_ne e] at hbj
      rw [if_neg e] at hj
      have e2 : j ≠ h := fun e2 => by rw [if_pos e2] at hj; exact hj rfl
      rw [if_neg e2] at hj
      exact .inl ⟨j, bj, hj, hbj, rfl⟩
/-- A live handle dies. -/
theorem R.drop {β : Emb} {H : DH} {w : World} (hR : R β H w) (h : Nat) : R β (H.set h none) w ∧ Ext β H w β (H.set h none) w := by
  have get' : ∀ j, (H.set h none).get j ≠ none → H.get j ≠ none ∧ j ≠ h := fun j hj => by
    by_cases e : j = h
    · subst e; simp at hj
    · rw [DH.get_set, if_neg e] at hj; exact ⟨hj, e⟩
  refine ⟨⟨?_, ?_, hR.fresh, hR.lt⟩, ⟨EmbLe.refl β, Nat.le_refl _, fun _ _ _ => rfl, ?_, rfl, rfl, rfl, Nat.le_refl _, fun _ _ hb => .inl hb⟩⟩
  · intro j o' bj hj hbj
    have e := (get' j (by rw [hj]; simp)).2
    rw [DH.get_set, if_neg e] at hj
    exact hR.obj j o' bj hj hbj
  · intro j j' bj bj' hj hj' hbj hbj' he
    exact hR.inj j j' bj bj' (get' j hj).1 (get' j' hj').1 hbj hbj' he
  · intro j bj hj hbj
    exact .inl ⟨j, bj, (get' j hj).1, hbj, rfl⟩

/-- A handle that is known already gets its block only now. -/
theorem R.late {β : Emb} {H : DH} {w : World} (hR : R β H w) {h : Nat} (hb : β h = none) (heven : ∃ k, h = 2 * k ∧ k < H.n) {o : DO} (hg : H.get h = some o) (x : Obj) (size : Nat) (ho : ObjRel (embAdd β h ⟨w.heap.size, 0, size⟩) ⟨w.heap.size, 0, size⟩ o x) :
    R (embAdd β h ⟨w.heap.size, 0, size⟩) H (w.alloc x) ∧ EmbLe β (embAdd β h ⟨w.heap.size, 0, size⟩) ∧
    (∀ r, r < w.heap.size → (w.alloc x).heap[r]? = w.heap[r]?) := by
  have hle := embAdd_le (bi := (⟨w.heap.size, 0, size⟩ : BI)) hb
  refine ⟨⟨?_, ?_, ?_, ?_⟩, hle, fun r hr => heap_alloc_lt hr⟩
  · intro j o' bi hj hbj
    by_cases e : j = h
    · subst e
      simp at hbj
      rw [hg] at hj
      cases hj
      subst hbj
      exact ⟨x, by rw [heap_alloc, if_pos rfl], ho⟩
    · rw [embAdd_ne e] at hbj
      obtain ⟨y, hy, hr⟩ := hR.obj j o' bi hj hbj
      exact ⟨y, by rw [heap_alloc_lt (lt_of_heap hy), hy], hr.mono hle⟩
  · intro j j' bi bi' hj hj' hbj hbj' he
    by_cases e : j = h
    · by_cases e' : j' = h
      · rw [e, e']
      · rw [embAdd_ne e'] at hbj'
        subst e; simp at hbj; subst hbj
        have := hR.lt j' bi' hbj'
        simp at he; omega
    · by_cases e' : j' = h
      · rw [embAdd_ne e] at hbj
        subst e'; simp at hbj'; subst hbj'
        have := hR.lt j bi hbj
        simp at he; omega
      · rw [embAdd_ne e] at hbj
        rw [embAdd_ne e'] at hbj'
        exact hR.inj j j' bi bi' hj hj' hbj hbj' he
  · intro k hk
    obtain ⟨k0, rfl, hk0⟩ := heven
    rw [embAdd_ne (by omega)]
    exact hR.fresh k hk
  · intro j bi hbj
    by_cases e : j = h
    · subst e; simp at hbj; subst hbj; simp
    · rw [embAdd_ne e] at hbj
      have := hR.lt j bi hbj
      simp; omega
end
end Go.Ds
