/- The context of the Asm seat, and what the interpreter finds there. -/
import Derived.Test.YtnlnbhcjgacgmaaGreatDoorDxF
import Derived.Lib.Bytealg
import Derived.Lib.Builder
set_option linter.unusedVariables false
set_option linter.unusedSimpArgs false
set_option maxRecDepth 100000
namespace Go.Ds
noncomputable section
namespace Tr
variable {α : Type}
def AllP (p : Nat → α → Prop) (t : Tr α) : (Nat → Nat) → Prop :=
  Tr.rec (motive := fun _ => (Nat → Nat) → Prop) (fun _ => True) (fun v _ _ al ar f => (∀ x, v = some x → p (f 0) x) ∧ al (fun k => f (2 * k + 1)) ∧ ar (fun k => f (2 * k + 2))) t
theorem AllP.nil {p : Nat → α → Prop} {f : Nat → Nat} : AllP p .nil f := trivial
theorem AllP.nodeN {p : Nat → α → Prop} {f : Nat → Nat} {l r : Tr α} (hl : AllP p l (fun k => f (2 * k + 1))) (hr : AllP p r (fun k => f (2 * k + 2))) : AllP p (.node none l r) f := ⟨fun x h => (by cases h), hl, hr⟩
theorem AllP.nodeS {p : Nat → α → Prop} {f : Nat → Nat} {x : α} {l r : Tr α} (h : p (f 0) x) (hl : AllP p l (fun k => f (2 * k + 1))) (hr : AllP p r (fun k => f (2 * k + 2))) : AllP p (.node (some x) l r) f := ⟨fun y e => (by cases e; exact h), hl, hr⟩
theorem AllP.get {p : Nat → α → Prop} {t : Tr α} : ∀ {f : Nat → Nat}, t.AllP p f → ∀ k x, t.get k = some x → p (f k) x := by
  induction t with
  | nil => intro f _ k x h; cases h
  | node v l r ihl ihr =>
    intro f h k x hk
    change (∀ x, v = some x → p (f 0) x) ∧ AllP p l (fun k => f (2 * k + 1)) ∧ AllP p r (fun k => f (2 * k + 2)) at h
    obtain ⟨h1, h2, h3⟩ := h
    cases k with
    | zero => rw [get_zero] at hk; exact h1 x hk
    | succ j =>
      rw [get_succ] at hk
      by_cases e : j % 2 = 0
      · rw [if_pos e] at hk
        have := ihl h2 _ _ hk
        rwa [show 2 * (j / 2) + 1 = j + 1 by omega] at this
      · rw [if_neg e] at hk
        have := ihr h3 _ _ hk
        rwa [show 2 * (j / 2) + 2 = j + 1 by omega] at this
end Tr
/-! ### Functions without a body, sound -/
theorem findB_eq (c : Nat) : ∀ (l : List UInt8) (i : Nat) (h : c < 256), (match findB l c i with | some j => (j : Int) | none => -1) = (if Lib.indexByte l c.toUInt8 = -1 then -1 else Lib.indexByte l c.toUInt8 + i) := by
  intro l
  induction l with
  | nil => intro i h; rfl
  | cons b l ih =>
    intro i h
    unfold findB Lib.indexByte
    by_cases e : b.toNat = c
    · have hb : (b == c.toUInt8) = true := by
        rw [beq_iff_eq]; apply UInt8.toNat_inj.1; rw [e]; simp; omega
      rw [Tr.beq_true e, if_pos hb]
      simp
    · have hb : ¬ (b == c.toUInt8) = true := by
        rw [beq_iff_eq]; intro h2; apply e; rw [h2]; simp; omega
      rw [Tr.beq_false e, if_neg hb]
      simp only
      rw [ih (i + 1) h]
      by_cases e2 : Lib.indexByte l c.toUInt8 = -1
      · simp [e2]
      · have hge := Lib.indexByte_ge l c.toUInt8
        have e3 : ¬ (Lib.indexByte l c.toUInt8 == -1) = true := by simpa using e2
        rw [if_neg e2, if_neg e3, if_neg (by omega)]
        push_cast
        omega
theorem countB_eq (c : Nat) (h : c < 256) : ∀ (l : List UInt8) (n : Nat), countB l c n = n + Lib.countByte l c.toUInt8 := by
  intro l
  induction l with
  | nil => intro n; simp [countB, Lib.countByte]
  | cons b l ih =>
    intro n
    unfold countB Lib.countByte
    rw [List.count_cons]
    by_cases e : b.toNat = c
    · have hb : (b == c.toUInt8) = true := by
        rw [beq_iff_eq]; apply UInt8.toNat_inj.1; rw [e]; simp; omega
      rw [Tr.beq_true e, if_pos hb]
      simp only
      rw [ih]; unfold Lib.countByte; omega
    · have hb : ¬ (b == c.toUInt8) = true := by
        rw [beq_iff_eq]; intro h2; apply e; rw [h2]; simp; omega
      rw [Tr.beq_false e, if_neg hb]
      simp only
      rw [ih]; unfold Lib.countByte; omega
theorem xNoEscape_ok {P : Program} {args : List Value} {v : Value} (h : xNoEscape args = some v) {β : Emb} {args' : List Value} (w : World) (ha : VL β args args') : ∃ v', (Extern.AbiNoEscape.same ⟨args'⟩).run P w = .ok v' w ∧ V β v v' := by
  unfold xNoEscape at h
  split at h
  · cases h
    obtain ⟨y, ys, rfl, h1, h2⟩ := ha.cons_inv
    rw [h2.nil_inv]
    exact ⟨y, rfl, h1⟩
  · cases h
theorem xIndexByteString_ok {P : Program} {args : List Value} {v : Value} (h : xIndexByteString args = some v) {β : Emb} {args' : List Value} (w : World) (ha : VL β args args') : ∃ v', (Extern.BytealgIndexByte.indexByte ⟨args'⟩).run P w = .ok v' w ∧ V β v v' := by
  unfold xIndexByteString at h
  split at h
  · rename_i s c
    split at h
    · rename_i hc
      obtain ⟨y, ys, rfl, h1, h2⟩ := ha.cons_inv
      obtain ⟨z, zs, rfl, h3, h4⟩ := h2.cons_inv
      rw [h4.nil_inv]
      cases h1; cases h3
      refine ⟨_, Lib.run_indexByteString s c w, ?_⟩
      have hidx : (match findB s.data.toList c.toNat 0 with | some j => (j : Int) | none => -1) = Lib.indexByte s.data.toList c.toNat.toUInt8 := by
        rw [findB_eq c.toNat s.data.toList 0 (by omega)]
        split
        · rename_i hi; exact hi.symm
        · exact Int.add_zero _
      rw [← hidx]
      split at h
      · rename_i i hf
        rw [hf]
        cases h
        exact .int _ _
      · rename_i hf
        rw [hf]
        cases h
        exact .int _ _
    · cases h
  · cases h
theorem xCountString_ok {P : Program} {args : List Value} {v : Value} (h : xCountString args = some v) {β : Emb} {args' : List Value} (w : World) (ha : VL β args args') : ∃ v', (Extern.BytealgCount.count ⟨args'⟩).run P w = .ok v' w ∧ V β v v' := by
  unfold xCountString at h
  split at h
  · rename_i s c
    split at h
    · rename_i hc
      obtain ⟨y, ys, rfl, h1, h2⟩ := ha.cons_inv
      obtain ⟨z, zs, rfl, h3, h4⟩ := h2.cons_inv
      rw [h4.nil_inv]
      cases h1; cases h3; cases h
      refine ⟨_, Lib.run_countString s c w, ?_⟩
      rw [countB_eq c.toNat (by omega), Nat.zero_add]
      exact .int _ _
    · cases h
  · cases h
end
end Go.Ds
namespace Go.Ds.Seat
open Go.Proofs
noncomputable section
theorem fn_all : Tr.AllP (fun k F => Tryz.prog.funcs[k]? = some F) fnT id :=
  (Tr.AllP.nodeN (Tr.AllP.nodeN (Tr.AllP.nodeS Tryz.func3 (Tr.AllP.nodeS Tryz.func7 (Tr.AllP.nodeS Tryz.func15 (Tr.AllP.nodeS Tryz.func31 (Tr.AllP.nodeS Tryz.func63 (Tr.AllP.nodeS Tryz.func127 Tr.AllP.nil Tr.AllP.nil) (Tr.AllP.nodeS Tryz.func191 Tr.AllP.nil Tr.AllP.nil)) (Tr.AllP.nodeS Tryz.func95 (Tr.AllP.nodeS Tryz.func159 Tr.AllP.nil Tr.AllP.nil) Tr.AllP.nil)) (Tr.AllP.nodeS Tryz.func47 (Tr.AllP.nodeS Tryz.func79 (Tr.AllP.nodeS Tryz.func143 Tr.AllP.nil Tr.AllP.nil) (Tr.AllP.nodeS Tryz.func207 Tr.AllP.nil Tr.AllP.nil)) (Tr.AllP.nodeS Tryz.func111 (Tr.AllP.nodeS Tryz.func175 Tr.AllP.nil Tr.AllP.nil) Tr.AllP.nil))) (Tr.AllP.nodeS Tryz.func23 (Tr.AllP.nodeS Tryz.func39 (Tr.AllP.nodeS Tryz.func71 (Tr.AllP.nodeS Tryz.func135 Tr.AllP.nil Tr.AllP.nil) (Tr.AllP.nodeS Tryz.func199 Tr.AllP.nil Tr.AllP.nil)) (Tr.AllP.nodeS Tryz.func103 (Tr.AllP.nodeS Tryz.func167 Tr.AllP.nil Tr.AllP.nil) Tr.AllP.nil)) (Tr.AllP.nodeS Tryz.func55 (Tr.AllP.nodeS Tryz.func87 (Tr.AllP.nodeS Tryz.func151 Tr.AllP.nil Tr.AllP.nil) Tr.AllP.nil) (Tr.AllP.nodeS Tryz.func119 (Tr.AllP.nodeS Tryz.func183 Tr.AllP.nil Tr.AllP.nil) Tr.AllP.nil)))) (Tr.AllP.nodeS Tryz.func11 (Tr.AllP.nodeS Tryz.func19 (Tr.AllP.nodeS Tryz.func35 (Tr.AllP.nodeS Tryz.func67 (Tr.AllP.nodeS Tryz.func131 Tr.AllP.nil Tr.AllP.nil) (Tr.AllP.nodeS Tryz.func195 Tr.AllP.nil Tr.AllP.nil)) (Tr.AllP.nodeS Tryz.func99 (Tr.AllP.nodeS Tryz.func163 Tr.AllP.nil Tr.AllP.nil) Tr.AllP.nil)) (Tr.AllP.nodeS Tryz.func51 (Tr.AllP.nodeS Tryz.func83 (Tr.AllP.nodeS Tryz.func147 Tr.AllP.nil Tr.AllP.nil) (Tr.AllP.nodeS Tryz.func211 Tr.AllP.nil Tr.AllP.nil)) (Tr.AllP.nodeS Tryz.func115 Tr.AllP.nil (Tr.AllP.nodeS Tryz.func243 Tr.AllP.nil Tr.AllP.nil)))) (Tr.AllP.nodeS Tryz.func27 (Tr.AllP.nodeS Tryz.func43 (Tr.AllP.nodeS Tryz.func75 Tr.AllP.nil (Tr.AllP.nodeS Tryz.func203 Tr.AllP.nil Tr.AllP.nil)) (Tr.AllP.nodeS Tryz.func107 (Tr.AllP.nodeS Tryz.func171 Tr.AllP.nil Tr.AllP.nil) Tr.AllP.nil)) (Tr.AllP.nodeS Tryz.func59 (Tr.AllP.nodeS Tryz.func91 (Tr.AllP.nodeS Tryz.func155 Tr.AllP.nil Tr.AllP.nil) Tr.AllP.nil) (Tr.AllP.nodeS Tryz.func123 (Tr.AllP.nodeS Tryz.func187 Tr.AllP.nil Tr.AllP.nil) Tr.AllP.nil))))) (Tr.AllP.nodeS Tryz.func5 (Tr.AllP.nodeS Tryz.func9 (Tr.AllP.nodeS Tryz.func17 (Tr.AllP.nodeS Tryz.func33 (Tr.AllP.nodeS Tryz.func65 (Tr.AllP.nodeS Tryz.func129 Tr.AllP.nil Tr.AllP.nil) (Tr.AllP.nodeS Tryz.func193 Tr.AllP.nil Tr.AllP.nil)) (Tr.AllP.nodeS Tryz.func97 (Tr.AllP.nodeS Tryz.func161 Tr.AllP.nil Tr.AllP.nil) Tr.AllP.nil)) (Tr.AllP.nodeS Tryz.func49 (Tr.AllP.nodeS Tryz.func81 (Tr.AllP.nodeS Tryz.func145 Tr.AllP.nil Tr.AllP.nil) (Tr.AllP.nodeS Tryz.func209 Tr.AllP.nil Tr.AllP.nil)) (Tr.AllP.nodeS Tryz.func113 (Tr.AllP.nodeS Tryz.func177 Tr.AllP.nil Tr.AllP.nil) Tr.AllP.nil))) (Tr.AllP.nodeS Tryz.func25 (Tr.AllP.nodeS Tryz.func41 (Tr.AllP.nodeS Tryz.func73 (Tr.AllP.nodeS Tryz.func137 Tr.AllP.nil Tr.AllP.nil) (Tr.AllP.nodeS Tryz.func201 Tr.AllP.nil Tr.AllP.nil)) (Tr.AllP.nodeS Tryz.func105 Tr.AllP.nil Tr.AllP.nil)) (Tr.AllP.nodeS Tryz.func57 (Tr.AllP.nodeS Tryz.func89 (Tr.AllP.nodeS Tryz.func153 Tr.AllP.nil Tr.AllP.nil) Tr.AllP.nil) (Tr.AllP.nodeS Tryz.func121 (Tr.AllP.nodeS Tryz.func185 Tr.AllP.nil Tr.AllP.nil) Tr.AllP.nil)))) (Tr.AllP.nodeS Tryz.func13 (Tr.AllP.nodeS Tryz.func21 (Tr.AllP.nodeS Tryz.func37 (Tr.AllP.nodeS Tryz.func69 (Tr.AllP.nodeS Tryz.func133 Tr.AllP.nil Tr.AllP.nil) (Tr.AllP.nodeS Tryz.func197 Tr.AllP.nil Tr.AllP.nil)) (Tr.AllP.nodeS Tryz.func101 (Tr.AllP.nodeS Tryz.func165 Tr.AllP.nil Tr.AllP.nil) Tr.AllP.nil)) (Tr.AllP.nodeS Tryz.func53 (Tr.AllP.nodeS Tryz.func85 (Tr.AllP.nodeS Tryz.func149 Tr.AllP.nil Tr.AllP.nil) Tr.AllP.nil) (Tr.AllP.nodeS Tryz.func117 (Tr.AllP.nodeS Tryz.func181 Tr.AllP.nil Tr.AllP.nil) Tr.AllP.nil))) (Tr.AllP.nodeS Tryz.func29 (Tr.AllP.nodeS Tryz.func45 (Tr.AllP.nodeS Tryz.func77 (Tr.AllP.nodeS Tryz.func141 Tr.AllP.nil Tr.AllP.nil) (Tr.AllP.nodeS Tryz.func205 Tr.AllP.nil Tr.AllP.nil)) (Tr.AllP.nodeS Tryz.func109 (Tr.AllP.nodeS Tryz.func173 Tr.AllP.nil Tr.AllP.nil) Tr.AllP.nil)) (Tr.AllP.nodeS Tryz.func61 (Tr.AllP.nodeS Tryz.func93 (Tr.AllP.nodeS Tryz.func157 Tr.AllP.nil Tr.AllP.nil) Tr.AllP.nil) (Tr.AllP.nodeS Tryz.func125 (Tr.AllP.nodeS Tryz.func189 Tr.AllP.nil Tr.AllP.nil) Tr.AllP.nil)))))) (Tr.AllP.nodeS Tryz.func2 (Tr.AllP.nodeS Tryz.func4 (Tr.AllP.nodeS Tryz.func8 (Tr.AllP.nodeS Tryz.func16 (Tr.AllP.nodeS Tryz.func32 (Tr.AllP.nodeS Tryz.func64 (Tr.AllP.nodeS Tryz.func128 Tr.AllP.nil Tr.AllP.nil) (Tr.AllP.nodeS Tryz.func192 Tr.AllP.nil Tr.AllP.nil)) (Tr.AllP.nodeS Tryz.func96 (Tr.AllP.nodeS Tryz.func160 Tr.AllP.nil Tr.AllP.nil) Tr.AllP.nil)) (Tr.AllP.nodeS Tryz.func48 (Tr.AllP.nodeS Tryz.func80 (Tr.AllP.nodeS Tryz.func144 Tr.AllP.nil Tr.AllP.nil) (Tr.AllP.nodeS Tryz.func208 Tr.AllP.nil Tr.AllP.nil)) (Tr.AllP.nodeS Tryz.func112 (Tr.AllP.nodeS Tryz.func176 Tr.AllP.nil Tr.AllP.nil) Tr.AllP.nil))) (Tr.AllP.nodeS Tryz.func24 (Tr.AllP.nodeS Tryz.func40 (Tr.AllP.nodeN (Tr.AllP.nodeS Tryz.func136 Tr.AllP.nil Tr.AllP.nil) (Tr.AllP.nodeS Tryz.func200 Tr.AllP.nil Tr.AllP.nil)) (Tr.AllP.nodeS Tryz.func104 (Tr.AllP.nodeS Tryz.func168 Tr.AllP.nil Tr.AllP.nil) Tr.AllP.nil)) (Tr.AllP.nodeS Tryz.func56 (Tr.AllP.nodeS Tryz.func88 (Tr.AllP.nodeS Tryz.func152 Tr.AllP.nil Tr.AllP.nil) Tr.AllP.nil) (Tr.AllP.nodeS Tryz.func120 (Tr.AllP.nodeS Tryz.func184 Tr.AllP.nil Tr.AllP.nil) Tr.AllP.nil)))) (Tr.AllP.nodeS Tryz.func12 (Tr.AllP.nodeS Tryz.func20 (Tr.AllP.nodeS Tryz.func36 (Tr.AllP.nodeS Tryz.func68 (Tr.AllP.nodeS Tryz.func132 Tr.AllP.nil Tr.AllP.nil) (Tr.AllP.nodeS Tryz.func196 Tr.AllP.nil Tr.AllP.nil)) (Tr.AllP.nodeS Tryz.func100 (Tr.AllP.nodeS Tryz.func164 Tr.AllP.nil Tr.AllP.nil) Tr.AllP.nil)) (Tr.AllP.nodeS Tryz.func52 (Tr.AllP.nodeS Tryz.func84 (Tr.AllP.nodeS Tryz.func148 Tr.AllP.nil Tr.AllP.nil) (Tr.AllP.nodeS Tryz.func212 Tr.AllP.nil Tr.AllP.nil)) (Tr.AllP.nodeS Tryz.func116 (Tr.AllP.nodeS Tryz.func180 Tr.AllP.nil Tr.AllP.nil) Tr.AllP.nil))) (Tr.AllP.nodeS Tryz.func28 (Tr.AllP.nodeS Tryz.func44 (Tr.AllP.nodeS Tryz.func76 (Tr.AllP.nodeS Tryz.func140 Tr.AllP.nil Tr.AllP.nil) (Tr.AllP.nodeS Tryz.func204 Tr.AllP.nil Tr.AllP.nil)) (Tr.AllP.nodeS Tryz.func108 (Tr.AllP.nodeS Tryz.func172 Tr.AllP.nil Tr.AllP.nil) Tr.AllP.nil)) (Tr.AllP.nodeS Tryz.func60 (Tr.AllP.nodeS Tryz.func92 (Tr.AllP.nodeS Tryz.func156 Tr.AllP.nil Tr.AllP.nil) Tr.AllP.nil) (Tr.AllP.nodeS Tryz.func124 (Tr.AllP.nodeS Tryz.func188 Tr.AllP.nil Tr.AllP.nil) Tr.AllP.nil))))) (Tr.AllP.nodeS Tryz.func6 (Tr.AllP.nodeS Tryz.func10 (Tr.AllP.nodeS Tryz.func18 (Tr.AllP.nodeS Tryz.func34 (Tr.AllP.nodeS Tryz.func66 (Tr.AllP.nodeS Tryz.func130 Tr.AllP.nil Tr.AllP.nil) (Tr.AllP.nodeS Tryz.func194 Tr.AllP.nil Tr.AllP.nil)) (Tr.AllP.nodeS Tryz.func98 Tr.AllP.nil Tr.AllP.nil)) (Tr.AllP.nodeS Tryz.func50 (Tr.AllP.nodeS Tryz.func82 (Tr.AllP.nodeS Tryz.func146 Tr.AllP.nil Tr.AllP.nil) (Tr.AllP.nodeS Tryz.func210 Tr.AllP.nil Tr.AllP.nil)) (Tr.AllP.nodeS Tryz.func114 (Tr.AllP.nodeS Tryz.func178 Tr.AllP.nil Tr.AllP.nil) Tr.AllP.nil))) (Tr.AllP.nodeS Tryz.func26 (Tr.AllP.nodeS Tryz.func42 (Tr.AllP.nodeS Tryz.func74 (Tr.AllP.nodeS Tryz.func138 Tr.AllP.nil Tr.AllP.nil) (Tr.AllP.nodeS Tryz.func202 Tr.AllP.nil Tr.AllP.nil)) (Tr.AllP.nodeS Tryz.func106 (Tr.AllP.nodeS Tryz.func170 Tr.AllP.nil Tr.AllP.nil) Tr.AllP.nil)) (Tr.AllP.nodeS Tryz.func58 (Tr.AllP.nodeS Tryz.func90 (Tr.AllP.nodeS Tryz.func154 Tr.AllP.nil Tr.AllP.nil) Tr.AllP.nil) (Tr.AllP.nodeS Tryz.func122 (Tr.AllP.nodeS Tryz.func186 Tr.AllP.nil Tr.AllP.nil) Tr.AllP.nil)))) (Tr.AllP.nodeS Tryz.func14 (Tr.AllP.nodeS Tryz.func22 (Tr.AllP.nodeS Tryz.func38 (Tr.AllP.nodeS Tryz.func70 (Tr.AllP.nodeS Tryz.func134 Tr.AllP.nil Tr.AllP.nil) (Tr.AllP.nodeS Tryz.func198 Tr.AllP.nil Tr.AllP.nil)) (Tr.AllP.nodeS Tryz.func102 (Tr.AllP.nodeS Tryz.func166 Tr.AllP.nil Tr.AllP.nil) Tr.AllP.nil)) (Tr.AllP.nodeS Tryz.func54 (Tr.AllP.nodeS Tryz.func86 (Tr.AllP.nodeS Tryz.func150 Tr.AllP.nil Tr.AllP.nil) Tr.AllP.nil) (Tr.AllP.nodeS Tryz.func118 (Tr.AllP.nodeS Tryz.func182 Tr.AllP.nil Tr.AllP.nil) Tr.AllP.nil))) (Tr.AllP.nodeS Tryz.func30 (Tr.AllP.nodeS Tryz.func46 (Tr.AllP.nodeS Tryz.func78 (Tr.AllP.nodeS Tryz.func142 Tr.AllP.nil Tr.AllP.nil) (Tr.AllP.nodeS Tryz.func206 Tr.AllP.nil Tr.AllP.nil)) (Tr.AllP.nodeS Tryz.func110 (Tr.AllP.nodeS Tryz.func174 Tr.AllP.nil Tr.AllP.nil) Tr.AllP.nil)) (Tr.AllP.nodeS Tryz.func62 (Tr.AllP.nodeS Tryz.func94 (Tr.AllP.nodeS Tryz.func158 Tr.AllP.nil Tr.AllP.nil) Tr.AllP.nil) (Tr.AllP.nodeS Tryz.func126 (Tr.AllP.nodeS Tryz.func190 Tr.AllP.nil Tr.AllP.nil) Tr.AllP.nil)))))))

theorem fn_chk : fnT.all fnOkB id = true := by kernel_rfl
theorem ty_chk : tyT.all tyOkB id = true := by kernel_rfl
theorem fn_ok {f : Nat} {F : Func} (h : fnT.get f = some F) : Tryz.prog.funcs[f]? = some F ∧ F.body.isSome = true ∧ (F.name == "runtime.NumGoroutine") = false ∧ ∀ c, F.body = some c → codeOk F.ntmps 8 (drF f) c = true := by
  have h1 := fn_all.get f F h
  have h2 := Tr.all_spec fn_chk f F h
  refine ⟨h1, ?_⟩
  unfold fnOkB at h2
  split at h2
  · rename_i c hc
    simp only [Bool.and_eq_true, Bool.not_eq_true'] at h2
    exact ⟨by rw [hc]; rfl, h2.2, fun c' hc' => by rw [hc] at hc'; cases hc'; exact h2.1⟩
  · cases h2
theorem fns_ok : FnsOK ctx 8 drF := fun f F c h hc => (fn_ok h).2.2.2 c hc
theorem ctx_ok : CtxOK Tryz.prog ctx where
  ty := fun t i h => tiChk2_ok (Tr.all_spec ty_chk t i h)
  fn := fun f F h => ⟨(fn_ok h).1, (fn_ok h).2.1, (fn_ok h).2.2.1⟩
  ext := fun f g h => by
    have h' : ext f = some g := h
    unfold ext at h'
    split at h'
    · cases h'
      exact ⟨_, _, Tryz.func72, by kernel_rfl, by kernel_rfl, by kernel_rfl, (by kernel_rfl : Extern.find Tryz.f72 = some Extern.AbiNoEscape.same), fun args v hv β args' w ha => xNoEscape_ok hv w ha⟩
    · cases h'
      exact ⟨_, _, Tryz.func169, by kernel_rfl, by kernel_rfl, by kernel_rfl, (by kernel_rfl : Extern.find Tryz.f169 = some Extern.BytealgIndexByte.indexByte), fun args v hv β args' w ha => xIndexByteString_ok hv w ha⟩
    · cases h'
      exact ⟨_, _, Tryz.func179, by kernel_rfl, by kernel_rfl, by kernel_rfl, (by kernel_rfl : Extern.find Tryz.f179 = some Extern.BytealgCount.count), fun args v hv β args' w ha => xCountString_ok hv w ha⟩
    · cases h'
  lies := fun p hp => by
    have hp' : p = (53, 0, 53) ∨ p = (69, 7, 53) := by simpa [ctx] using hp
    rcases hp' with rfl | rfl
    · exact ⟨Nat.le_of_ble_eq_true (by kernel_rfl), by kernel_rfl⟩
    · exact ⟨Nat.le_of_ble_eq_true (by kernel_rfl), by kernel_rfl⟩
  mth := fun t n f h => by cases h
theorem mixed : Tryz.prog.follows .mixedOrders = true := by kernel_rfl
end
end Go.Ds.Seat
