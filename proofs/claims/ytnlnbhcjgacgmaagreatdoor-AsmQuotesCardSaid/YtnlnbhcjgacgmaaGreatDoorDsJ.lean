/- A deterministic layer over the model, part J: append and copy. -/
import Derived.Test.YtnlnbhcjgacgmaaGreatDoorDsI
set_option linter.unusedVariables false
set_option linter.unusedSimpArgs false
namespace Go.Ds
noncomputable section

section
variable {P : Program} {C : Ctx} (hC : CtxOK P C) {β : Emb} {H : DH} {w : World}
include hC

theorem dbuildSlice_sound {t : TypeId} {len : Nat} {parts parts' : List (Nat × Value)} {r : Value} {H' : DH} (h : dbuildSlice C t len parts H = some (r, H')) (hm : parts.map (·.1) = parts'.map (·.1)) (hvl : VL β (parts.map (·.2)) (parts'.map (·.2))) (hR : R β H w) :
    ∃ r' w' β', (Instr.buildSlice t len ⟨parts'⟩).run P w = .ok r' w' ∧ V β' r r' ∧ R β' H' w' ∧ Ext β H w β' H' w' := by
  unfold dbuildSlice at h
  cases ht : C.ty.get t with
  | none => simp [ht] at h
  | some i =>
    obtain ⟨d, hd, _, hr⟩ := run_kind hC ht
    simp only [ht] at h
    split at h
    · rename_i e hk
      rw [hk] at hd; cases dk_slice hd
      cases hte : C.ty.get e with
      | none => simp [hte] at h
      | some ie =>
        have hie := hC.ty e ie hte
        simp only [hte] at h
        cases hz : ie.zero with
        | none => simp [hz] at h
        | some z =>
          simp only [hz] at h
          obtain ⟨hpz, hzs⟩ := hie.zero z hz
          split at h
          · rename_i hc
            obtain ⟨hc1, hc2⟩ := hc
            split at h
            · rename_i cs hf
              cases h
              have hvz : VL β z.cells.toList z.cells.toList := (plain_V β hpz).cells
              have hzero := run_zero hie hz w
              have hrep : ((Array.range (len * ie.size)).map (z.cells[· % z.cells.size]!)).toList = rep z.cells.toList len := by rw [← hzs]; exact rep_model z.cells (by omega) len
              have hrepl : VL β (rep z.cells.toList len) ((Array.range (len * ie.size)).map (z.cells[· % z.cells.size]!)).toList := by rw [hrep]; exact VL_rep hvz len
              obtain ⟨r', hr', hvr⟩ := dfill_sound (β := β) (place' := fun j => some (j * ie.size, ie.size)) (fun j p hp => hp) parts parts' _ _ cs hf hrepl hm hvl
              have hlen : cs.length = len * ie.size := by
                have : ∀ (ps : List (Nat × Value)) (c r : List Value), dfill (fun j => some (j * ie.size, ie.size)) c ps = some r → r.length = c.length := by
                  intro ps
                  induction ps with
                  | nil => intro c r h; simp only [dfill, Option.some.injEq] at h; subst h; rfl
                  | cons p ps ih =>
                    intro c r h
                    obtain ⟨j, v⟩ := p
                    simp only [dfill] at h
                    split at h
                    · rename_i hcc
                      rw [ih _ _ h, length_splice _ _ _ (by simp; omega)]
                    · cases h
                rw [this _ _ _ hf, rep_length]
                simp [hzs]
              obtain ⟨β', hb, r1, r2⟩ := dnewRow_sound e hvr [] hR (FR_none _ 0 0 fun _ h => absurd h (Nat.lt_irrefl _))
              simp only [List.append_nil] at r1 r2
              refine ⟨.slice (some ⟨w.heap.size, 0, none⟩) len len, _, β', ?_, ?_, r1, r2⟩
              · have h24 : ¬ len * ie.size > 2 ^ 24 := by omega
                by_cases h0 : len * ie.size = 0
                · have hzero2 : ((Array.range (len * ie.size)).map (z.cells[· % z.cells.size]!)) = #[] := by rw [h0]; simp
                  have hzero3 : ∀ q : Array Value, ((Array.range (len * ie.size)).map (q[· % q.size]!)) = #[] := by intro q; rw [h0]; simp
                  rw [hzero2] at hr'
                  have e0 : Array.range 0 = (#[] : Array Nat) := by rw [← Array.size_eq_zero_iff]; simp
                  simp [Instr.buildSlice, hr, run_size hie, h0, hr', newRow, e0]
                · simp [Instr.buildSlice, hr, run_size hie, h24, h0, hzero, hr', newRow]
              · refine .sl hb (Nat.le_refl _) (Nat.le_refl _) (.inr ⟨by simp, ?_⟩)
                have := hvr.1
                simp only [Array.length_toList] at this
                simp; omega
            · cases h
          · cases h
    · cases h

omit hC in
theorem size_zeroCells (z : Array Value) (n : Nat) : (Builtin.zeroCells z n).size = n * z.size := by simp [Builtin.zeroCells]

/-- What the model's append comes to. -/
theorem run_append {st t2 ty e : TypeId} {ie : TI} (hst : ∀ w, (underlying st).run P w = .ok (.slice e) w) {d2 : TypeDesc} (ht2 : ∀ w, (underlying t2).run P w = .ok d2 w) (hd2 : ∀ k, d2 ≠ .int k)
    (hte : C.ty.get e = some ie) {z : Value} (hz : ie.zero = some z) {base : Option Addr} {n c m : Nat} {x' : Value} (hlen : (Builtin.lenOf x').run P w = .ok m w) {news : List Value}
    (hnews : ∀ dn, (Builtin.firstCells ie.size m x').run P { w with drawn := dn } = .ok ⟨news⟩ { w with drawn := dn }) (hb0 : ie.bytes ≠ 0) (hb : (n + m) * ie.bytes ≤ maxN) :
    (n + m ≤ c → ∀ w', (match base with | some a => storeCells (a.add (n * ie.size)) news | none => Pure.pure ()).run P w = .ok () w' → (Builtin.append_ #[st, t2] ty #[.slice base n c, x']).run P w = .ok (.slice base (n + m) c) w') ∧
    (¬ n + m ≤ c → ∀ old, (∀ dn, (Builtin.firstCells ie.size n (.slice base n c)).run P { w with drawn := dn } = .ok ⟨old⟩ { w with drawn := dn }) →
      ∃ cap, n + m ≤ cap ∧ (Builtin.append_ #[st, t2] ty #[.slice base n c, x']).run P w = .ok (.slice (some ⟨w.heap.size, 0, none⟩) (n + m) cap) (({ w with drawn := w.drawn + 1 } : World).alloc (.cells ⟨old ++ news ++ (Builtin.zeroCells z.cells (cap - (n + m))).toList⟩ e))) := by
  have hie := hC.ty e ie hte
  obtain ⟨info, hi1, hi2, hinf⟩ := run_info hie
  have hsz := run_size hie
  have hzr := fun w => run_zero hie hz w
  have hn0 := hnews w.drawn
  have hint : ∀ w, ((do let d ← underlying t2; Pure.pure (d matches .int _)) : Sem Bool).run P w = .ok false w := by
    intro w
    simp only [Sem.run_bind, ht2, Result.andThen_ok]
    cases d2 <;> first | rfl | exact absurd rfl (hd2 _)
  have hz1 : (match d2 with | .int _ => true | _ => false) = false := by cases d2 <;> first | rfl | exact absurd rfl (hd2 _)
  constructor
  · intro hle w' hst'
    cases base with
    | none =>
      simp only [Sem.run_pure, Result.ok.injEq, true_and] at hst'
      subst hst'
      simp [Builtin.append_, hst, hsz, ht2, hz1, hlen, hle, hn0]
    | some a =>
      simp only at hst'
      simp [Builtin.append_, hst, hsz, ht2, hz1, hlen, hle, hn0, hst']
  · intro hle old hold
    have hlt : c < n + m := by omega
    have hgrow : ¬ 2 ^ 48 < Builtin.nextslicecap (n + m) c * info.bytes := by
      have h1 := nextslicecap_le hlt
      have h2 : Builtin.nextslicecap (n + m) c * info.bytes ≤ 2 * (n + m) * info.bytes := Nat.mul_le_mul_right _ h1
      rw [hi2] at h2 ⊢
      have h3 : 2 * (n + m) * ie.bytes = 2 * ((n + m) * ie.bytes) := by rw [Nat.mul_assoc]
      unfold maxN at hb
      omega
    have hb1 : info.bytes ≠ 0 := by rw [hi2]; exact hb0
    refine ⟨Question.cut (.appendCap (n + m) c e) (w.tape w.drawn (.appendCap (n + m) c e)), ?_, ?_⟩
    · simp [Question.cut]
    · have ho : (Builtin.firstCells ie.size n (.slice base n c)).run P w.drew = .ok ⟨old⟩ w.drew := hold (w.drawn + 1)
      have hn1 : (Builtin.firstCells ie.size m x').run P w.drew = .ok ⟨news⟩ w.drew := hnews (w.drawn + 1)
      simp [Builtin.append_, hst, hsz, ht2, hz1, hlen, hle, hinf, hb1, hgrow, Question.forced, newRow, ho, hn1, hzr]
      congr 2
      apply Array.ext'
      simp

omit hC in
theorem dk_sos {k : DK} {d : TypeDesc} (h : dkRel k d = true) (hs : sliceOrString k = true) : ∀ i, d ≠ .int i := by
  intro i e; subst e
  cases k <;> simp [dkRel, sliceOrString] at h hs

theorem dappendTo_sound {st t2 ty e : TypeId} {ie : TI} (hst : ∀ w, (underlying st).run P w = .ok (.slice e) w) {d2 : TypeDesc} (ht2 : ∀ w, (underlying t2).run P w = .ok d2 w) (hd2 : ∀ k, d2 ≠ .int k)
    (hte : C.ty.get e = some ie) {z : Value} (hz : ie.zero = some z) {n m : Nat} {s s' x' : Value} (hs : V β s s') (hls : dlen s = some n) (hlen : (Builtin.lenOf x').run P w = .ok m w) {news news' : List Value}
    (hnews : ∀ dn, (Builtin.firstCells ie.size m x').run P { w with drawn := dn } = .ok ⟨news'⟩ { w with drawn := dn }) (hvn : VL β news news') (hnl : news.length = m * ie.size) (h1 : news.all (·.oneCell') = true) (hs0 : ie.size ≠ 0) (hb0 : ie.bytes ≠ 0) (hb : (n + m) * ie.bytes ≤ maxN)
    {r : Value} {H' : DH} (h : dappendTo e ie.size s m news H = some (r, H')) (hR : R β H w) :
    ∃ r' w' β', (Builtin.append_ #[st, t2] ty #[s', x']).run P w = .ok r' w' ∧ V β' r r' ∧ R β' H' w' ∧ Ext β H w β' H' w' := by
  have hzs := (hC.ty e ie hte).zero z hz
  have hnl' : news'.length = m * ie.size := by rw [← hvn.1]; exact hnl
  have zlen : ∀ k, (Builtin.zeroCells z.cells k).toList.length = k * ie.size := by
    intro k; rw [Array.length_toList, size_zeroCells, hzs.2]
  unfold dappendTo at h
  split at h
  · -- nil
    cases hs
    simp only [dlen, Option.some.injEq] at hls
    subst hls
    obtain ⟨hA, hB⟩ := run_append hC (ty := ty) hst ht2 hd2 hte hz (base := none) (n := 0) (c := 0) hlen hnews hb0 hb
    split at h
    · rename_i hm0
      cases h
      exact ⟨_, w, β, hA (by omega) w rfl, by simp only [hm0, Nat.add_zero]; exact .slNil, hR, Ext.refl _ _ _⟩
    · rename_i hm0
      cases h
      obtain ⟨cap, hc1, hrun⟩ := hB (by omega) [] (fun dn => rfl)
      have hRd := hR.draw (w.drawn + 1)
      obtain ⟨β', hbb, r1, r2⟩ := dnewRow_sound (w := { w with drawn := w.drawn + 1 }) e hvn (Builtin.zeroCells z.cells (cap - (0 + m))).toList hRd (FR_none _ 0 0 fun _ h => absurd h (Nat.lt_irrefl _))
      simp only [List.nil_append] at hrun
      refine ⟨_, _, β', hrun, ?_, r1, (Ext.draw β H w _).trans r2⟩
      simp only [Nat.zero_add] at hc1 ⊢
      refine .sl hbb (Nat.le_refl _) hc1 (.inr ⟨by simp, ?_⟩)
      simp only [Nat.zero_add, hnl', zlen, ← Nat.add_mul]
      exact Nat.mul_le_mul_right _ (by omega)
  · rename_i hh o sz nn c
    simp only [dlen, Option.some.injEq] at hls
    subst hls
    cases hs with
    | sl hbi hn hcc ha =>
      rename_i c' ad bi
      split at h
      · cases h
      · rename_i hsz
        have hsz : sz = ie.size := by simpa using hsz
        subst hsz
        obtain ⟨hA, hB⟩ := run_append hC (ty := ty) hst ht2 hd2 hte hz (base := some ad) (n := nn) (c := c') hlen hnews hb0 hb
        split at h
        · rename_i hle
          split at h
          · rename_i hm0
            cases h
            subst hm0
            have hn0 : news' = [] := List.eq_nil_of_length_eq_zero (by rw [hnl']; simp)
            subst hn0
            refine ⟨_, w, β, hA (by omega) w rfl, .sl hbi (by omega) hcc ha, hR, Ext.refl _ _ _⟩
          · rename_i hm0
            obtain ⟨H2, hw, he⟩ := Option.map_eq_some_iff.1 h
            cases he
            rcases ha with ha | ⟨rfl, ha⟩
            · omega
            · obtain ⟨w', hrun, r1, r2⟩ := dwrite_sound (P := P) hw hbi hvn hR
              refine ⟨_, w', β, hA (by omega) w' (by simp only [addr_add, Nat.add_assoc]; exact hrun), .sl hbi hle hcc (.inr ⟨rfl, ha⟩), r1, r2⟩
        · rename_i hle
          unfold dgrow at h
          split at h
          · rename_i cells e' lo hi hg
            split at h
            · rename_i hc
              obtain ⟨rfl, hcl, hfz⟩ := hc
              cases h
              obtain ⟨cs, fr, hx, hsz, hle2, hvl, hf⟩ := hR.row hg hbi
              have hold : VL β ((cells.drop o).take (nn * ie.size)) ((cs.toList.drop (bi.base + o)).take (nn * ie.size)) := take_drop_view hvl o _ hcl
              have holdl : ((cells.drop o).take (nn * ie.size)).length = nn * ie.size := by simp; omega
              by_cases hroom : nn + m ≤ c'
              · -- in place
                rcases ha with ha | ⟨rfl, ha⟩
                · omega
                · have h4 : (nn + m) * ie.size ≤ c' * ie.size := Nat.mul_le_mul_right _ hroom
                  rw [Nat.add_mul] at h4
                  have hrun := run_storeCells P bi.rb (bi.base + o + nn * ie.size) news' 0 w cs e' fr hx (by omega) (fun j hj => by
                    rcases hf with hf | ⟨hf1, hf2, hf3⟩ | ⟨hf1, hf2⟩
                    · omega
                    · omega
                    · omega) (hvn.oneCell h1)
                  have hle3 := embAdd_le (bi := (⟨bi.rb, bi.base + o, bi.size⟩ : BI)) (hR.fresh H.n (Nat.le_refl _))
                  have hnew : ObjRel (embAdd β (2 * H.n) ⟨bi.rb, bi.base + o, bi.size⟩) ⟨bi.rb, bi.base + o, bi.size⟩
                      (.row ((cells.drop o).take (nn * ie.size) ++ news) e' (if lo < hi then lo - o else if hi < lo then 1 else 0) (if lo < hi then hi - o else 0)) (.cells (spliceA cs (bi.base + o + nn * ie.size) news') e' fr) := by
                    refine ⟨rfl, by rw [spliceA_size]; exact hsz, by simp only [List.length_append, holdl, hnl]; omega, ?_, ?_⟩
                    · refine VL_view (by rw [spliceA_size]; simp only [List.length_append, holdl, hnl]; omega) fun i x y hx hy => ?_
                      simp only at hy
                      rw [getElem?_spliceA] at hy
                      rcases Nat.lt_or_ge i (nn * ie.size) with hi2 | hi2
                      · rw [List.getElem?_append_left (by omega)] at hx
                        rw [if_neg (by omega)] at hy
                        refine (hold.2 i x y hx ?_).mono hle3
                        rw [view_get hi2]; exact hy
                      · rw [List.getElem?_append_right (by omega), holdl] at hx
                        have hi3 : i - nn * ie.size < news.length := (List.getElem?_eq_some_iff.1 hx).1
                        rw [if_pos (by omega)] at hy
                        refine (hvn.2 _ x y hx ?_).mono hle3
                        rw [← hy]; congr 1; omega
                    · unfold FR
                      simp only
                      rcases hf with hf | ⟨hf1, hf2, hf3⟩ | ⟨hf1, hf2⟩
                      · refine .inl ⟨hf.1, fun h1 h2 => ?_⟩
                        exfalso
                        split at h1 <;> split at h2 <;> (try split at h1) <;> (try split at h2) <;> omega
                      · rw [if_pos hf1, if_pos hf1]
                        exact .inr (.inl (by omega))
                      · rw [if_neg (by omega), if_pos hf1, if_neg (by omega)]
                        exact .inr (.inr (by omega))
                  obtain ⟨r1, r2⟩ := hR.move (by rw [hg]; simp) hbi _ _ (bi.base + o) hnew
                  refine ⟨_, _, _, hA hroom _ (by simp only [addr_add]; exact hrun), ?_, r1, r2⟩
                  refine .sl (embAdd_same _ _ _) (Nat.le_refl _) hroom (.inr ⟨by simp, by simp; omega⟩)
              · -- a new row
                have holdrun : ∀ dn, (Builtin.firstCells ie.size nn (.slice (some ad) nn c')).run P { w with drawn := dn } = .ok ⟨(cs.toList.drop (bi.base + o)).take (nn * ie.size)⟩ { w with drawn := dn } := by
                  intro dn
                  rcases ha with ha | ⟨rfl, ha⟩
                  · have : nn = 0 := by omega
                    subst this
                    simp [Builtin.firstCells, loadCells, loadCellsFrom]
                  · exact run_loadCells' P bi.rb (bi.base + o) (nn * ie.size) { w with drawn := dn } cs e' fr hx (by omega)
                obtain ⟨cap, hc1, hrun⟩ := hB hroom _ holdrun
                have hRd := (hR.draw (w.drawn + 1)).drop hh
                have hvv := hold.append hvn
                obtain ⟨β', hbb, r1, r2⟩ := dnewRow_sound (w := { w with drawn := w.drawn + 1 }) (H := H.set hh none) e' hvv (Builtin.zeroCells z.cells (cap - (nn + m))).toList hRd.1
                  (lo := if lo < hi then lo - o else if hi < lo then 1 else 0) (hi := if lo < hi then hi - o else 0) (FR_none _ _ _ fun _ _ => rfl)
                refine ⟨_, _, β', hrun, ?_, r1, ((Ext.draw β H w _).trans hRd.2).trans r2⟩
                refine .sl hbb (Nat.le_refl _) hc1 (.inr ⟨by simp, ?_⟩)
                have hl3 : ((cs.toList.drop (bi.base + o)).take (nn * ie.size)).length = nn * ie.size := by rw [← hold.1]; exact holdl
                simp only [List.length_append, hl3, hnl', zlen, ← Nat.add_mul, Nat.zero_add]
                exact Nat.mul_le_mul_right _ (by omega)
            · cases h
          · cases h
  · cases h

theorem dappend_sound {st t2 ty : TypeId} {s s' x x' : Value} {r : Value} {H' : DH} (h : dappend C st t2 s x H = some (r, H')) (hs : V β s s') (hx : V β x x') (hR : R β H w) :
    ∃ r' w' β', (Builtin.append_ #[st, t2] ty #[s', x']).run P w = .ok r' w' ∧ V β' r r' ∧ R β' H' w' ∧ Ext β H w β' H' w' := by
  unfold dappend at h
  split at h
  · rename_i i i2 ht ht2
    split at h
    · rename_i hss
      obtain ⟨d, hd, _, hr⟩ := run_kind hC ht
      obtain ⟨d2, hd2, _, hr2⟩ := run_kind hC ht2
      split at h
      · rename_i e hk
        rw [hk] at hd; cases dk_slice hd
        split at h
        · rename_i ie m n hte hlx hls
          split at h
          · cases h
          · rename_i hc
            simp only [not_or] at hc
            obtain ⟨hc1, hc2, hc3, hc4⟩ := hc
            split at h
            · cases h
            · rename_i news hsrc
              split at h
              · rename_i h1
                obtain ⟨news', hn1, hn2, hn3⟩ := dsrc_sound (P := P) hsrc hlx (Nat.le_refl _) hx hR
                cases hz : ie.zero with
                | none => simp [hz] at hc4
                | some z => exact dappendTo_sound hC hr hr2 (dk_sos hd2 hss) hte hz hs hls (run_lenOf hlx hx w) hn1 hn2 hn3 h1 hc1 hc2 (by omega) h hR
              · cases h
        · cases h
      · cases h
    · cases h
  · cases h

theorem dcopy_sound {t ty : TypeId} {ts : Array TypeId} (hts : ts[0]? = some t) {d d' x x' : Value} {r : Value} {H' : DH} (h : dcopy C t d x H = some (r, H')) (hd : V β d d') (hx : V β x x') (hR : R β H w) :
    ∃ r' w', (Builtin.copy_ ts ty #[d', x']).run P w = .ok r' w' ∧ V β r r' ∧ R β H' w' ∧ Ext β H w β H' w' := by
  unfold dcopy at h
  cases ht : C.ty.get t with
  | none => simp [ht] at h
  | some i =>
    obtain ⟨dd, hdd, _, hr⟩ := run_kind hC ht
    simp only [ht] at h
    split at h
    · rename_i e hk
      rw [hk] at hdd; cases dk_slice hdd
      split at h
      · rename_i ie m base n cc hte hlx
        split at h
        · cases h
        · rename_i cells hsrc
          obtain ⟨cells', hc1, hc2, hc3⟩ := dsrc_sound (P := P) hsrc hlx (Nat.min_le_left _ _) hx hR
          have hrun0 := hc1 w.drawn
          have hlen := run_lenOf (P := P) hlx hx w
          have hmin : Nat.min m n = min m n := rfl
          split at h
          · split at h
            · rename_i hn0
              cases h
              subst hn0
              cases hd
              refine ⟨.int .i64 0, w, ?_, .int _ _, hR, Ext.refl _ _ _⟩
              simp only [Nat.min_zero] at hrun0
              simp [Builtin.copy_, hts, hr, hlen, run_size (hC.ty _ _ hte), hrun0, goInt]
            · cases h
          · rename_i hh o sz
            split at h
            · cases h
            · rename_i hsz
              have hsz : sz = ie.size := by simpa using hsz
              subst hsz
              obtain ⟨H2, hw, he⟩ := Option.map_eq_some_iff.1 h
              cases he
              cases hd with
              | sl hbi hn hcc ha =>
                rename_i c' ad bi
                rcases ha with ha | ⟨rfl, ha⟩
                · have hn0 : n = 0 := by omega
                  subst hn0
                  have hnil : cells = [] := List.eq_nil_of_length_eq_zero (by rw [hc3]; simp)
                  subst hnil
                  have hnil2 := hc2.nil_inv
                  subst hnil2
                  obtain ⟨w', hrun, r1, r2⟩ := dwrite_sound (P := P) hw hbi (VL.nil β) hR
                  simp only [storeCells, Sem.run_pure, Result.ok.injEq, true_and] at hrun
                  subst hrun
                  refine ⟨_, w, ?_, .int _ _, r1, r2⟩
                  simp only [Nat.min_zero] at hrun0
                  simp [Builtin.copy_, hts, hr, hlen, run_size (hC.ty _ _ hte), hrun0, goInt, storeCells]
                · obtain ⟨w', hrun, r1, r2⟩ := dwrite_sound (P := P) hw hbi hc2 hR
                  refine ⟨_, w', ?_, .int _ _, r1, r2⟩
                  simp [Builtin.copy_, hts, hr, hlen, run_size (hC.ty _ _ hte), hmin, hrun0, goInt, hrun]
          · cases h
      · cases h
    · cases h
end
end
end Go.Ds
