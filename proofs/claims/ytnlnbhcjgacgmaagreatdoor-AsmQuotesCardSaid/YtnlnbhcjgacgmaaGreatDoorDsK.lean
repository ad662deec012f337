/- A deterministic layer over the model, part K: conversions, made slices, iterators, the rest of the builtins. -/
import Derived.Test.YtnlnbhcjgacgmaaGreatDoorDsJ
set_option linter.unusedVariables false
set_option linter.unusedSimpArgs false
namespace Go.Ds
noncomputable section

theorem VL_bytes (β : Emb) (l : List UInt8) : VL β (l.map fun b => (.int .u8 (b.toNat : Int) : Value)) (l.map fun b => .int .u8 b.toNat) := by
  refine VL.of_plain (p := plainN 0) (fun x hx => plainN_V β 0 x hx) ?_
  rw [List.all_eq_true]
  intro y hy
  obtain ⟨b, _, rfl⟩ := List.mem_map.1 hy
  rfl
theorem VL_drunes (β : Emb) (s : ByteArray) (b i : Nat) : VL β (drunes s b i) (drunes s b i) := by
  refine VL.of_plain (p := plainN 0) (fun x hx => plainN_V β 0 x hx) ?_
  induction b generalizing i with
  | zero => rfl
  | succ b ih =>
    simp only [drunes]
    split
    · simp only [List.all_cons, ih, Bool.and_true]; rfl
    · rfl
theorem runesFrom_eq (s : ByteArray) : ∀ (b i : Nat) (acc : Array Value), (Conv.runesFrom s b i acc).toList = acc.toList ++ drunes s b i := by
  intro b
  induction b with
  | zero => intro i acc; simp [Conv.runesFrom, drunes]
  | succ b ih =>
    intro i acc
    simp only [Conv.runesFrom, drunes]
    split
    · rw [ih]; simp
    · simp

theorem bytes_loop (P : Program) (w : World) (f : Value → ByteArray → Sem (ForInStep ByteArray)) (hf : ∀ n r, f (.int .u8 n) r = Pure.pure (ForInStep.yield (r.push (UInt8.ofNat n.toNat)))) : ∀ (cells : List Value) (l : List UInt8) (acc : ByteArray), bytesOfCells cells = some l →
    (forIn cells acc f).run P w = .ok ⟨⟨acc.data.toList ++ l⟩⟩ w := by
  intro cells
  induction cells with
  | nil => intro l acc h; simp only [bytesOfCells, Option.some.injEq] at h; subst h; simp
  | cons c cells ih =>
    intro l acc h
    unfold bytesOfCells at h
    split at h
    · rename_i e; cases e
    · rename_i n r e
      cases e
      obtain ⟨l', hl, rfl⟩ := Option.map_eq_some_iff.1 h
      simp only [List.forIn_cons, hf, Sem.run_bind, Sem.run_pure, Result.andThen_ok]
      rw [ih l' _ hl]
      congr 3
      simp [ByteArray.data_push]
    · cases h
theorem runes_loop (P : Program) (w : World) (f : Value → ByteArray → Sem (ForInStep ByteArray)) (hf : ∀ n r, f (.int .i32 n) r = Pure.pure (ForInStep.yield (r ++ Utf8.encode n))) : ∀ (cells : List Value) (l : List UInt8) (acc : ByteArray), runesOfCells cells = some l →
    (forIn cells acc f).run P w = .ok ⟨⟨acc.data.toList ++ l⟩⟩ w := by
  intro cells
  induction cells with
  | nil => intro l acc h; simp only [runesOfCells, Option.some.injEq] at h; subst h; simp
  | cons c cells ih =>
    intro l acc h
    unfold runesOfCells at h
    split at h
    · rename_i e; cases e
    · rename_i n r e
      cases e
      obtain ⟨l', hl, rfl⟩ := Option.map_eq_some_iff.1 h
      simp only [List.forIn_cons, hf, Sem.run_bind, Sem.run_pure, Result.andThen_ok]
      rw [ih l' _ hl]
      congr 3
      simp
    · cases h
theorem bytesOfCells_eq {β : Emb} : ∀ {a b : List Value} {l : List UInt8}, bytesOfCells a = some l → VL β a b → b = a := by
  intro a
  induction a with
  | nil => intro b l _ h; exact h.nil_inv
  | cons x a ih =>
    intro b l h hv
    obtain ⟨y, ys, rfl, h1, h2⟩ := hv.cons_inv
    unfold bytesOfCells at h
    split at h
    · rename_i e; cases e
    · rename_i n r e
      cases e
      obtain ⟨l', hl, rfl⟩ := Option.map_eq_some_iff.1 h
      cases h1
      rw [ih hl h2]
    · cases h
theorem runesOfCells_eq {β : Emb} : ∀ {a b : List Value} {l : List UInt8}, runesOfCells a = some l → VL β a b → b = a := by
  intro a
  induction a with
  | nil => intro b l _ h; exact h.nil_inv
  | cons x a ih =>
    intro b l h hv
    obtain ⟨y, ys, rfl, h1, h2⟩ := hv.cons_inv
    unfold runesOfCells at h
    split at h
    · rename_i e; cases e
    · rename_i n r e
      cases e
      obtain ⟨l', hl, rfl⟩ := Option.map_eq_some_iff.1 h
      cases h1
      rw [ih hl h2]
    · cases h

theorem freeze_alloc (w : World) (c : Array Value) (e : TypeId) (n : Nat) : (w.alloc (.cells c e)).freeze ⟨w.heap.size, n, none⟩ 1 = w.alloc (.cells c e (n, n + 1)) := by
  unfold World.freeze World.alloc
  simp only [Nat.succ_ne_zero, if_false]
  congr 1
  apply Array.ext (by simp)
  intro i h1 h2
  rw [Array.getElem_modify]
  simp only [Array.getElem_push]
  by_cases e2 : w.heap.size = i
  · subst e2; simp
  · rw [if_neg e2]
    simp only [Array.size_push] at h2
    rw [dif_pos (by omega), dif_pos (by omega)]

theorem loadBytes_run (P : Program) (w : World) (r : Nat) {c : Array Value} {e : TypeId} {fr : Nat × Nat} (hx : w.heap[r]? = some (.cells c e fr)) : ∀ (n o : Nat) (acc : ByteArray) (l : List UInt8), o + n ≤ c.size → bytesOfCells ((c.toList.drop o).take n) = some l →
    (loadBytes ⟨r, o, none⟩ acc n).run P w = .ok ⟨⟨acc.data.toList ++ l⟩⟩ w := by
  intro n
  induction n with
  | zero => intro o acc l _ h; simp only [List.take_zero, bytesOfCells, Option.some.injEq] at h; subst h; simp [loadBytes]
  | succ n ih =>
    intro o acc l hl h
    have hlt : o < c.toList.length := by simp; omega
    rw [List.drop_eq_getElem_cons hlt, List.take_succ_cons] at h
    unfold bytesOfCells at h
    split at h
    · rename_i e2; cases e2
    · rename_i b rest e2
      simp only [List.cons.injEq] at e2
      obtain ⟨e3, rfl⟩ := e2
      obtain ⟨l', hl', rfl⟩ := Option.map_eq_some_iff.1 h
      have hc : w.cell? ⟨r, o, none⟩ = some (.int .u8 b) := by
        rw [cell_of hx, ← Array.getElem?_toList, List.getElem?_eq_getElem hlt, e3]
      simp only [loadBytes, Sem.run_bind, run_load, hc, Result.andThen_ok, addr_add]
      rw [ih (o + 1) _ l' (by omega) hl']
      congr 3
      simp [ByteArray.data_push, Nat.toUInt8]
    · cases h

section
variable {P : Program} {C : Ctx} (hC : CtxOK P C) {β : Emb} {H : DH} {w : World}

theorem drow_sound {x x' : Value} {size : Nat} {cells : List Value} (h : drow x size H = some cells) (hx : V β x x') (hR : R β H w) :
    (x' = .slice none 0 0 ∧ cells = []) ∨ ∃ ad n c' cells', x' = .slice (some ad) n c' ∧ (loadCells ad (n * size)).run P w = .ok ⟨cells'⟩ w ∧ VL β cells cells' := by
  unfold drow at h
  split at h
  · cases hx; cases h; exact .inl ⟨rfl, rfl⟩
  · rename_i hh o s n cc
    split at h
    · rename_i cs0 e lo hi hg
      split at h
      · rename_i hc
        obtain ⟨rfl, hle⟩ := hc
        cases h
        cases hx with
        | sl hb hn hcc ha =>
          rename_i c' ad bi
          obtain ⟨cs, fr, hxx, hsz, hle2, hvl, hf⟩ := hR.row hg hb
          rcases ha with ha | ⟨rfl, ha⟩
          · have : n = 0 := by omega
            subst this
            exact .inr ⟨ad, 0, c', [], rfl, by simp [loadCells, loadCellsFrom], by simp; exact VL.nil β⟩
          · exact .inr ⟨_, n, c', _, rfl, run_loadCells' P bi.rb (bi.base + o) (n * s) w cs e fr hxx (by omega), take_drop_view hvl o _ hle⟩
      · cases h
    · cases h
  · cases h

include hC
omit hC in
theorem dk_unsafe {d : TypeDesc} (h : dkRel .unsafeP d = true) : d = .unsafePointer := by cases d <;> simp [dkRel] at h; rfl
omit hC in
theorem seenAt_row {r : Nat} {o : Nat} {w : World} {c : Array Value} {e : TypeId} {fr : Nat × Nat} (h : w.heap[r]? = some (.cells c e fr)) :
    (Conv.seenAt ⟨r, o, none⟩).run P w = .ok ⟨r, o, none⟩ w := by
  simp [Conv.seenAt, viewAt, shape_of h]
omit hC in
theorem rowAt_count {fits : TypeId → Bool} {d : Nat} {e : TypeId} {o k : Nat} (ho : o < P.cellsOf e) (hk : 1 ≤ k) (h : rowAt P fits d e 1 o 1 = true) : rowAt P fits d e k o 1 = true := by
  cases d with
  | zero => simp [rowAt] at h
  | succ d =>
    unfold rowAt at h ⊢
    have hs : P.cellsOf e ≠ 0 := by omega
    have h1 : o / P.cellsOf e = 0 := Nat.div_eq_of_lt ho
    simp only [hs, if_false, h1, Nat.zero_add, Nat.le_refl, decide_true, Bool.and_true, Nat.lt_one_iff, Nat.zero_lt_one, Bool.true_and] at h ⊢
    have h2 : decide (1 ≤ k) = true := by simpa using hk
    have h3 : decide (0 < k) = true := by simp; omega
    rw [h2, h3]
    simpa using h
theorem dconvert_sound {src dst : TypeId} {x x' r : Value} {H' : DH} (h : dconvert C src dst x H = some (r, H')) (hx : V β x x') (hR : R β H w) :
    ∃ r' w' β', (convert src dst x').run P w = .ok r' w' ∧ V β' r r' ∧ R β' H' w' ∧ Ext β H w β' H' w' := by
  unfold dconvert at h
  split at h
  · rename_i i j hi hj
    obtain ⟨d1, hd1, _, hr1⟩ := run_kind hC hi
    obtain ⟨d2, hd2, _, hr2⟩ := run_kind hC hj
    split at h
    · rename_i e hh o hk1 hk2
      rw [hk1] at hd1; cases dk_ptr hd1
      rw [hk2] at hd2; cases dk_unsafe hd2
      split at h
      · rename_i ie cells e' lo hi hte hg
        split at h
        · rename_i hc
          cases h
          cases hx with
          | ptr hb =>
            rename_i bi
            obtain ⟨cs, fr, hxx, hsz, hle, hvl, hf⟩ := hR.row hg hb
            refine ⟨.pointer (some ⟨bi.rb, bi.base + o, none⟩), w, β, ?_, V.ptr hb, hR, Ext.refl _ _ _⟩
            have hz := run_size (hC.ty e ie hte)
            have h2 : ¬ cs.size ≤ bi.base + o := by omega
            simp [convert, hr1, hr2, Conv.unsafePointer, seenAt_row hxx, cellsIn, shape_of hxx, hz, hc.1, h2]
        · cases h
      · cases h
    · rename_i u hh o hk1 hk2
      rw [hk1] at hd1; cases dk_unsafe hd1
      rw [hk2] at hd2; cases dk_ptr hd2
      split at h
      · rename_i cells e lo hi hg
        split at h
        · rename_i ie iu hte htu
          split at h
          · rename_i hc
            cases h
            obtain ⟨hc1, hc2, hc3, hc4, hc5⟩ := hc
            cases hx with
            | ptr hb =>
              rename_i bi
              obtain ⟨cs, fr, hxx, hsz, hle, hvl, hf⟩ := hR.row hg hb
              refine ⟨.pointer (some ⟨bi.rb, bi.base + o, none⟩), w, β, ?_, V.ptr hb, hR, Ext.refl _ _ _⟩
              have hbase : bi.base = 0 := by
                rcases hf with hf | hf | hf
                · exact hf.2 hc1 hc2
                · omega
                · omega
              have hz := run_size (hC.ty u iu htu)
              obtain ⟨p, hp, hpe⟩ := List.any_eq_true.1 hc3
              simp only [Bool.and_eq_true] at hpe
              obtain ⟨⟨q1, q2⟩, q3⟩ := hpe
              have q1 := Nat.eq_of_beq_eq_true q1
              have q2 := Nat.eq_of_beq_eq_true q2
              have q3 := Nat.eq_of_beq_eq_true q3
              obtain ⟨l1, l2⟩ := hC.lies p hp
              rw [q1, q2] at l1
              rw [q1, q2, q3] at l2
              have hce : P.cellsOf e = ie.size := by
                obtain ⟨info, i1, i2, i3, i4⟩ := (hC.ty e ie hte).info
                unfold Program.cellsOf
                rw [i1]
                exact i2
              have hpos : 0 < P.cellsOf e := by omega
              have hcount : 1 ≤ cs.size / P.cellsOf e := by
                rw [Nat.le_div_iff_mul_le hpos]
                omega
              have hlies : ∃ d, P.depth = d + 1 := by
                cases hd : P.depth with
                | zero => rw [hd] at l2; simp [rowAt] at l2
                | succ d => exact ⟨d, rfl⟩
              obtain ⟨d, hd⟩ := hlies
              have hl : liesAt P P.depth e (cs.size / P.cellsOf e) o u 1 = true := by
                have := rowAt_count l1 hcount l2
                rw [hd]
                unfold liesAt
                rw [this]
                rfl
              rw [hbase, Nat.zero_add]
              simp [convert, hr1, hr2, Conv.unsafePointer, seenAt_row hxx, hz, hc5, variablesAt, shape_of hxx, hl]
          · cases h
        · cases h
      · cases h
    · rename_i e1 e hh o s n c hk1 hk2
      rw [hk1] at hd1; cases dk_slice hd1
      rw [hk2] at hd2; cases dk_slice hd2
      split at h
      · rename_i ie cells e2 lo hi hte hg
        split at h
        · rename_i hke
          obtain ⟨de, hde, _, hre⟩ := run_kind hC hte
          rw [hke] at hde; cases dk_int hde
          split at h
          · rename_i hc
            cases h
            obtain ⟨hc1, hc2, hc0⟩ := hc
            subst hc1
            cases hx with
            | sl hb hn hcc ha =>
              rename_i c' ad bi
              rcases ha with ha | ⟨rfl, ha⟩
              · omega
              · obtain ⟨cs, fr, hxx, hsz, hle, hvl, hf⟩ := hR.row hg hb
                have hfz : w.freeze ⟨bi.rb, cs.size, none⟩ 1 = setBlk w bi.rb (.cells cs e2 (if fr.1 == fr.2 then (cs.size, cs.size + 1) else (min fr.1 cs.size, max fr.2 (cs.size + 1)))) := by
                  unfold World.freeze setBlk
                  rw [if_neg (by omega)]
                  congr 1
                  obtain ⟨hlt, hge⟩ := Array.getElem?_eq_some_iff.1 hxx
                  apply Array.ext (by simp)
                  intro j h1 h2
                  rw [Array.getElem_modify, Array.getElem_setIfInBounds (by simpa using h2)]
                  by_cases ej : bi.rb = j
                  · subst ej; simp [hge]
                  · simp [ej]
                have hnew : ObjRel β bi (.row cells e2 1 0) (.cells cs e2 (if fr.1 == fr.2 then (cs.size, cs.size + 1) else (min fr.1 cs.size, max fr.2 (cs.size + 1)))) := by
                  refine ⟨rfl, hsz, hle, hvl, .inr (.inr ⟨by omega, ?_⟩)⟩
                  by_cases hfe : fr.1 = fr.2
                  · simp only [hfe, beq_self_eq_true, if_true]; omega
                  · have hfe2 : (fr.1 == fr.2) = false := by simpa using hfe
                    simp only [hfe2, Bool.false_eq_true, if_false]
                    rcases hf with hf | hf | hf
                    · exact absurd hf.1 hfe
                    · omega
                    · omega
                obtain ⟨r1, r2⟩ := hR.write (by rw [hg]; simp) hb _ _ hnew
                refine ⟨.slice (some ⟨bi.rb, bi.base + o, none⟩) n c', _, β, ?_, .sl hb hn hcc (.inr ⟨rfl, ha⟩), r1.bump, r2.trans (Ext.bump _ _ _)⟩
                have he1 : e1 = e := by
                  have q := hr1 w
                  rw [hr2 w] at q
                  cases q; rfl
                subst he1
                simp [convert, hr1, hre, markStringish, shape_of hxx, hfz]
          · cases h
        · cases h
      · cases h
    · rename_i k k2 n hk
      rw [hk] at hd2; cases dk_int hd2
      cases hx; cases h
      exact ⟨_, w, β, by simp [convert, hr1, hr2, Conv.intToInt], .int _ _, hR, Ext.refl _ _ _⟩
    · rename_i k2 n hk
      rw [hk] at hd2; cases dk_string hd2
      cases hx; cases h
      exact ⟨_, w, β, by simp [convert, hr1, hr2, Conv.intToString], .string _, hR, Ext.refl _ _ _⟩
    · rename_i s hk
      rw [hk] at hd2; cases dk_string hd2
      cases hx; cases h
      exact ⟨_, w, β, by simp [convert, hr1, hr2], .string _, hR, Ext.refl _ _ _⟩
    · rename_i e s hk
      rw [hk] at hd2; cases dk_slice hd2
      cases hx
      split at h
      · rename_i ie hte
        obtain ⟨de, hde, _, hre⟩ := run_kind hC hte
        split at h
        · rename_i hke
          rw [hke] at hde; cases dk_int hde
          split at h
          · rename_i hs1
            cases h
            have hRd := hR.draw (w.drawn + 1)
            have hcap : s.size ≤ Question.cut (.appendCap s.size 0 e) (w.tape w.drawn (.appendCap s.size 0 e)) := by simp [Question.cut]
            generalize hcp : Question.cut (.appendCap s.size 0 e) (w.tape w.drawn (.appendCap s.size 0 e)) = cap at hcap
            have hlen : (s.data.toList.map fun b => (.int .u8 (b.toNat : Int) : Value)).length = s.size := by simp
            obtain ⟨β', hb, r1, r2⟩ := dnewRow_sound (w := { w with drawn := w.drawn + 1 }) e (VL_bytes β s.data.toList) (List.replicate (cap - s.size) (.int .u8 0)) hRd (lo := 1) (hi := 0) (fr := (cap, cap + 1)) (.inr (.inr ⟨by omega, by simp [hlen]; omega⟩))
            refine ⟨.slice (some ⟨w.heap.size, 0, none⟩) s.size cap, _, β', ?_, ?_, r1, (Ext.draw β H w _).trans r2⟩
            · have hsh : ∀ (c : Array Value), (w.drew.alloc (.cells c e)).shape? w.heap.size = some (e, c.size) := fun c => by
                have := shape_of (w := w.drew.alloc (.cells c e)) (r := w.heap.size) (c := c) (e := e) (fr := (0, 0)) (by rw [heap_alloc]; exact if_pos rfl)
                exact this
              simp [convert, hr1, hr2, hre, Conv.stringToBytes, Question.forced, hcp, newRow, markStringish, hsh]
              have hsz2 : s.size + (cap - s.size) = cap := by omega
              rw [hsz2]
              have := freeze_alloc w.drew ((s.data.map fun b => (.int .u8 (b.toNat : Int) : Value)) ++ Array.replicate (cap - s.size) (.int .u8 0)) e cap
              simp only [World.size_drew] at this
              rw [this]
              congr 2
              congr 1
              apply Array.ext'
              simp
            · refine .sl hb (Nat.le_refl _) hcap (.inr ⟨by simp, ?_⟩)
              simp; omega
          · cases h
        · rename_i hke
          rw [hke] at hde; cases dk_int hde
          split at h
          · rename_i hs1
            cases h
            have hRd := hR.draw (w.drawn + 1)
            have hel : (Conv.runesFrom s s.size 0 #[]).toList = drunes s s.size 0 := by rw [runesFrom_eq]; simp
            have hsz : (Conv.runesFrom s s.size 0 #[]).size = (drunes s s.size 0).length := by rw [← hel]; simp
            generalize hEl : Conv.runesFrom s s.size 0 #[] = els at hel hsz
            have hcap : els.size ≤ Question.cut (.appendCap els.size 0 e) (w.tape w.drawn (.appendCap els.size 0 e)) := by simp [Question.cut]
            generalize hcp : Question.cut (.appendCap els.size 0 e) (w.tape w.drawn (.appendCap els.size 0 e)) = cap at hcap
            obtain ⟨β', hb, r1, r2⟩ := dnewRow_sound (w := { w with drawn := w.drawn + 1 }) e (VL_drunes β s s.size 0) (List.replicate (cap - els.size) (.int .i32 0)) hRd (FR_none _ 0 0 fun _ h => absurd h (Nat.lt_irrefl _))
            refine ⟨.slice (some ⟨w.heap.size, 0, none⟩) els.size cap, _, β', ?_, ?_, r1, (Ext.draw β H w _).trans r2⟩
            · simp [convert, hr1, hr2, hre, Conv.stringToRunes, hEl, Question.forced, hcp, newRow]
              congr 2
              apply Array.ext'
              simp [hel]
            · rw [hsz]
              refine .sl hb (Nat.le_refl _) (by omega) (.inr ⟨by simp, ?_⟩)
              simp; omega
          · cases h
        · cases h
      · cases h
    · rename_i e hk1 hk2 hn1 hn2
      rw [hk1] at hd1; cases dk_slice hd1
      rw [hk2] at hd2; cases dk_string hd2
      split at h
      · rename_i ie cells hte hrow
        obtain ⟨de, hde, _, hre⟩ := run_kind hC hte
        have hrs := drow_sound (P := P) hrow hx hR
        split at h
        · rename_i hke
          rw [hke] at hde; cases dk_int hde
          obtain ⟨l, hl, he⟩ := Option.map_eq_some_iff.1 h
          cases he
          refine ⟨mkS l, w, β, ?_, .string _, hR, Ext.refl _ _ _⟩
          rcases hrs with ⟨rfl, rfl⟩ | ⟨ad, n, c', cells', rfl, hld, hvl⟩
          · simp only [bytesOfCells, Option.some.injEq] at hl
            subst hl
            simp [convert, hr1, hr2, hre, Conv.bytesToString]
            rfl
          · have := bytesOfCells_eq hl hvl
            subst this
            simp only [Nat.mul_one] at hld
            simp only [convert, hr1, hr2, hre, Conv.bytesToString, Sem.run_bind, Result.andThen_ok, hld]
            rw [← Array.forIn_toList]
            rw [bytes_loop P w _ (fun n r => rfl) cells' l ByteArray.empty hl]
            rfl
        · rename_i hke
          rw [hke] at hde; cases dk_int hde
          obtain ⟨l, hl, he⟩ := Option.map_eq_some_iff.1 h
          cases he
          refine ⟨mkS l, w, β, ?_, .string _, hR, Ext.refl _ _ _⟩
          rcases hrs with ⟨rfl, rfl⟩ | ⟨ad, n, c', cells', rfl, hld, hvl⟩
          · simp only [runesOfCells, Option.some.injEq] at hl
            subst hl
            simp [convert, hr1, hr2, hre, Conv.runesToString]
            rfl
          · have := runesOfCells_eq hl hvl
            subst this
            simp only [Nat.mul_one] at hld
            simp only [convert, hr1, hr2, hre, Conv.runesToString, Sem.run_bind, Result.andThen_ok, hld]
            rw [← Array.forIn_toList]
            rw [runes_loop P w _ (fun n r => rfl) cells' l ByteArray.empty hl]
            rfl
        · cases h
      · cases h
    · cases h
  · cases h
end
end
end Go.Ds
