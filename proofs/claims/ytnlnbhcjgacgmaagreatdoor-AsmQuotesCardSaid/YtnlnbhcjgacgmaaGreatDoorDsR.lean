/- A deterministic layer over the model, part R: code, functions, calls. -/
import Derived.Test.YtnlnbhcjgacgmaaGreatDoorDsPm
set_option linter.unusedVariables false
set_option linter.unusedSimpArgs false
namespace Go.Ds
noncomputable section

/-- Orders and masks of a function's drawn regions, by the region's number. -/
abbrev Draws := List (Nat × List Nat × List Nat)
def findDraw : Draws → Nat → Option (List Nat × List Nat)
  | [], _ => none
  | (i, p) :: r, id => match Nat.beq i id with | true => some p | false => findDraw r id

def loopN (body : Tr Value → DH → DRes) : Nat → Tr Value → DH → DRes
  | 0, _, _ => none
  | n + 1, T, H =>
    match body T H with
    | some (.normal, T', H') => loopN body n T' H'
    | r => r
def evalCode (C : Ctx) (call : Calling) (dr : Draws) (fuel : Nat) : Code → Tr Value → DH → DRes
  | .skip, T, H => some (.normal, T, H)
  | .region id ops false, T, H => evalOps C call ops ops.toList T H
  | .region id ops true, T, H =>
    match findDraw dr id with
    | some (L, M) =>
      match L with
      | [] => (match M with | [tm, ic] => evalPm C call ops tm ic T H | _ => none)
      | _ => evalL C call ops M L T H []
    | none => none
  | .seq a b, T, H =>
    match evalCode C call dr fuel a T H with
    | some (.normal, T', H') => evalCode C call dr fuel b T' H'
    | r => r
  | .cond c a b, T, H =>
    match deval T c with
    | .bool true => evalCode C call dr fuel a T H
    | .bool false => evalCode C call dr fuel b T H
    | _ => none
  | .block id b, T, H =>
    match evalCode C call dr fuel b T H with
    | some (.exit i, T', H') => match Nat.beq i id with | true => some (.normal, T', H') | false => some (.exit i, T', H')
    | r => r
  | .loop b, T, H => loopN (evalCode C call dr fuel b) fuel T H
  | .exit id, T, H => some (.exit id, T, H)
  | .ret, T, H => some (.ret, T, H)
  | .label _, T, H => some (.normal, T, H)
  | .scope b, T, H => evalCode C call dr fuel b T H
  | _, _, _ => none
def codeOk (n ng : Nat) (dr : Draws) : Code → Bool
  | .region id ops false => ops.toList.all (opOk n ng)
  | .region id ops true => match findDraw dr id with | some (L, M) => (match L with | [] => (match M with | [tm, ic] => pmStat n ng ops tm ic | _ => true) | _ => drawOk n ng ops L M) | none => true
  | .seq a b => codeOk n ng dr a && codeOk n ng dr b
  | .cond c a b => okOpd ng c && codeOk n ng dr a && codeOk n ng dr b
  | .block _ b => codeOk n ng dr b
  | .loop b => codeOk n ng dr b
  | .scope b => codeOk n ng dr b
  | _ => true

section
variable {P : Program} {C : Ctx} (hC : CtxOK P C) {ng n : Nat} {D : List Deferred}
theorem Post.normal {β : Emb} {H : DH} {w : World} {T : Tr Value} {H' : DH} {e' : Exit} {a' : Act} {w' : World} (h : Post ng n D β H w .normal T H' e' a' w') :
    e' = .normal ∧ ∃ β', TR ng β' n D T a' ∧ R β' H' w' ∧ Ext β H w β' H' w' := by
  obtain ⟨β', h1, h2, h3, h4, h5⟩ := h
  cases e' <;> simp only [ERel] at h1
  exact ⟨rfl, β', h2 rfl, h4, h5⟩
theorem Post.not_normal {β : Emb} {H : DH} {w : World} {e : DExit} {T : Tr Value} {H' : DH} {e' : Exit} {a' : Act} {w' : World} (h : Post ng n D β H w e T H' e' a' w') (he : e ≠ .normal) {next : Act → World → Prop} :
    Exit.then next (Post ng n D β H w e T H') e' a' w' := by
  have h0 := h
  obtain ⟨β', h1, -⟩ := h
  cases e <;> cases e' <;> simp only [ERel] at h1 <;> first | exact absurd rfl he | exact h0
theorem TR.start {β : Emb} {T : Tr Value} {a : Act} (h : TR ng β n D T a) {H : DH} {w : World} (hR : R β H w) : Post ng n D β H w .normal T H .normal a w :=
  ⟨β, trivial, fun _ => h, h.defers, hR, Ext.refl _ _ _⟩

include hC
theorem evalCode_sound (hm : P.follows .mixedOrders = true) {call : Calling} (hcall : CallOK P ng call) (dr : Draws) (fuel : Nat) : ∀ (c : Code) (T : Tr Value) (H : DH) (e : DExit) (T' : Tr Value) (H' : DH),
    codeOk n ng dr c = true → evalCode C call dr fuel c T H = some (e, T', H') → ∀ β w a, TR ng β n D T a → R β H w → c.wp P (Post ng n D β H w e T' H') a w := by
  intro c
  induction c with
  | skip =>
    intro T H e T' H' _ h β w a hT hR
    cases h
    exact wp_skip (hT.start hR)
  | region id ops draw =>
    intro T H e T' H' hok h β w a hT hR
    cases draw with
    | false => exact wp_region_list (evalOps_sound hC hcall ops ops.toList T H e T' H' hok h β w a hT hR)
    | true =>
      simp only [evalCode, codeOk] at h hok
      cases hd : findDraw dr id with
      | none => rw [hd] at h; cases h
      | some p =>
        obtain ⟨L, M⟩ := p
        rw [hd] at h hok
        cases L with
        | cons i L => exact evalL_sound hC (drawOk_spec hok) hm hcall hT hR h
        | nil =>
          simp only at h hok
          split at h
          · rename_i tm ic
            exact evalPm_sound hC hm hcall hok hT hR h
          · cases h
  | seq x y ihx ihy =>
    intro T H e T' H' hok h β w a hT hR
    simp only [codeOk, Bool.and_eq_true] at hok
    simp only [evalCode] at h
    refine wp_seq ?_
    cases hx : evalCode C call dr fuel x T H with
    | none => rw [hx] at h; cases h
    | some r =>
      obtain ⟨e1, T1, H1⟩ := r
      have hxs := ihx T H e1 T1 H1 hok.1 hx β w a hT hR
      rw [hx] at h
      by_cases hn : e1 = .normal
      · subst hn
        simp only at h
        refine wp_mono hxs fun e' a' w' hp => ?_
        obtain ⟨rfl, β', h1, h2, h3⟩ := hp.normal
        exact wp_mono (ihy T1 H1 e T' H' hok.2 h β' w' a' h1 h2) fun _ _ _ hq => Post.trans h3 hq
      · have he : e = e1 ∧ T' = T1 ∧ H' = H1 := by
          cases e1 <;> first | exact absurd rfl hn | (cases h; exact ⟨rfl, rfl, rfl⟩)
        obtain ⟨rfl, rfl, rfl⟩ := he
        exact wp_mono hxs fun e' a' w' hp => hp.not_normal hn
  | cond c x y ihx ihy =>
    intro T H e T' H' hok h β w a hT hR
    simp only [codeOk, Bool.and_eq_true] at hok
    simp only [evalCode] at h
    have hv := hT.eval hok.1.1
    cases hc : deval T c with
    | bool t =>
      rw [hc] at h hv
      have hb : a.eval c = .bool t := by
        generalize a.eval c = u at hv
        cases hv; rfl
      cases t with
      | true => exact wp_cond_true hb (ihx T H e T' H' hok.1.2 h β w a hT hR)
      | false => exact wp_cond_false hb (ihy T H e T' H' hok.2 h β w a hT hR)
    | _ => rw [hc] at h; cases h
  | block id b ih =>
    intro T H e T' H' hok h β w a hT hR
    simp only [evalCode] at h
    refine wp_block ?_
    cases hx : evalCode C call dr fuel b T H with
    | none => rw [hx] at h; cases h
    | some r =>
      obtain ⟨e1, T1, H1⟩ := r
      have hxs := ih T H e1 T1 H1 hok hx β w a hT hR
      rw [hx] at h
      refine wp_mono hxs fun e' a' w' hp => ?_
      have hp0 := hp
      obtain ⟨β', h1, h2, h3, h4, h5⟩ := hp
      cases e1 with
      | exit i =>
        simp only at h
        cases e' <;> simp only [ERel] at h1
        subst h1
        rename_i j
        cases hb : Nat.beq j id with
        | true =>
          rw [hb] at h
          cases h
          have := Nat.eq_of_beq_eq_true hb
          subst this
          simp only [Exit.inBlock, if_true]
          exact ⟨β', trivial, fun _ => h2 rfl, h3, h4, h5⟩
        | false =>
          rw [hb] at h
          cases h
          have hne : j ≠ id := fun e => by subst e; simp at hb
          simp only [Exit.inBlock, if_neg hne]
          exact hp0
      | normal => cases h; cases e' <;> simp only [ERel] at h1; exact hp0
      | ret => cases h; cases e' <;> simp only [ERel] at h1; exact hp0
      | panic v b => cases h; cases e' <;> simp only [ERel] at h1; exact hp0
  | loop b ih =>
    intro T H e T' H' hok h β w a hT hR
    simp only [evalCode] at h
    refine wp_loop_rounds fuel ?_
    have key : ∀ (k : Nat) (T : Tr Value) (H : DH), loopN (evalCode C call dr fuel b) k T H = some (e, T', H') → ∀ β w a, TR ng β n D T a → R β H w → Code.rounds P b (Post ng n D β H w e T' H') k a w := by
      intro k
      induction k with
      | zero => intro T H h; cases h
      | succ k ihk =>
        intro T H h β w a hT hR
        simp only [loopN] at h
        unfold Code.rounds
        cases hx : evalCode C call dr fuel b T H with
        | none => rw [hx] at h; cases h
        | some r =>
          obtain ⟨e1, T1, H1⟩ := r
          have hxs := ih T H e1 T1 H1 hok hx β w a hT hR
          rw [hx] at h
          by_cases hn : e1 = .normal
          · subst hn
            simp only at h
            refine wp_mono hxs fun e' a' w' hp => ?_
            obtain ⟨rfl, β', h1, h2, h3⟩ := hp.normal
            have hk := ihk T1 H1 h β' w' a' h1 h2
            have rmono : ∀ (k : Nat) (Q Q' : Exit → Act → World → Prop), (∀ e a w, Q e a w → Q' e a w) → ∀ a w, Code.rounds P b Q k a w → Code.rounds P b Q' k a w := by
              intro k
              induction k with
              | zero => intro Q Q' _ a w h; exact h.elim
              | succ k ih2 =>
                intro Q Q' hq a w h
                unfold Code.rounds at h ⊢
                refine wp_mono h fun e a w hh => ?_
                cases e <;> simp only [Exit.then] at hh ⊢ <;> first | exact ih2 Q Q' hq _ _ hh | exact hq _ _ _ hh
            exact rmono k _ _ (fun _ _ _ hq => Post.trans h3 hq) _ _ hk
          · have he : e = e1 ∧ T' = T1 ∧ H' = H1 := by
              cases e1 <;> first | exact absurd rfl hn | (cases h; exact ⟨rfl, rfl, rfl⟩)
            obtain ⟨rfl, rfl, rfl⟩ := he
            exact wp_mono hxs fun e' a' w' hp => hp.not_normal hn
    exact key fuel T H h β w a hT hR
  | exit id =>
    intro T H e T' H' _ h β w a hT hR
    cases h
    exact wp_exit ⟨β, rfl, fun _ => hT, hT.defers, hR, Ext.refl _ _ _⟩
  | ret =>
    intro T H e T' H' _ h β w a hT hR
    cases h
    exact wp_ret ⟨β, trivial, fun _ => hT, hT.defers, hR, Ext.refl _ _ _⟩
  | label l =>
    intro T H e T' H' _ h β w a hT hR
    cases h
    exact wp_label (hT.start hR)
  | scope b ih =>
    intro T H e T' H' hok h β w a hT hR
    refine wp_scope_straight (wp_mono (ih T H e T' H' hok h β w a hT hR) fun e' a' w' hp => ?_)
    have hp0 := hp
    obtain ⟨β', h1, -⟩ := hp
    cases e' with
    | goto l => cases e <;> exact h1.elim
    | _ => exact hp0
  | _ => intro T H e T' H' _ h; cases h
end

/-! ### Functions -/
def dresults (C : Ctx) (T : Tr Value) (H : DH) : List ResultVar → Option (List Value)
  | [] => some []
  | .tmp t :: r => match dresults C T H r with | some vs => some (tget T t :: vs) | none => none
  | .cell a t :: r => match dload C t (tget T a) H, dresults C T H r with | some v, some vs => some (v :: vs) | _, _ => none
def dtup : List Value → Value
  | [v] => v
  | vs => .tuple ⟨vs⟩
def callF (C : Ctx) (call : Calling) (dr : Draws) (fuel : Nat) (fn : Func) (args : List Value) (H : DH) : Option (DOut × DH) :=
  match fn.body, Nat.ble args.length fn.ntmps with
  | some c, true =>
    match evalCode C call dr fuel c (Tr.ofList args 0 .nil) H with
    | some (.normal, T, H') => match dresults C T H' fn.results.toList with | some vs => some (.ret (dtup vs), H') | none => none
    | some (.ret, T, H') => match dresults C T H' fn.results.toList with | some vs => some (.ret (dtup vs), H') | none => none
    | some (.panic v _, _, H') => some (.panic v, H')
    | _ => none
  | _, _ => none
/-- Calls, d deep; what the base knows is taken from there. -/
def callN (C : Ctx) (dr : Nat → Draws) (fuel : Nat) (base : Calling) : Nat → Calling
  | 0 => base
  | d + 1 => fun f args H =>
    match base f args H with
    | some r => some r
    | none =>
      match C.fn.get f with
      | some fn => callF C (callN C dr fuel base d) (dr f) fuel fn args H
      | none => none

def resOne (tmps : Array Value) : ResultVar → Sem Value
  | .tmp t => pure (tmps.getD t undef)
  | .cell b t => do loadVar t (← asAddr (tmps.getD b undef))
theorem results_eq (fn : Func) (tmps : Array Value) : results fn tmps = (do
    let vs ← fn.results.mapM (resOne tmps)
    pure (if h : vs.size = 1 then vs[0] else .tuple vs)) := by
  unfold results
  congr 1
section
variable {P : Program} {C : Ctx} (hC : CtxOK P C) {ng n : Nat} {D : List Deferred}
include hC
theorem resList_sound {β : Emb} {H : DH} {w : World} {T : Tr Value} {a : Act} (hT : TR ng β n D T a) (hR : R β H w) : ∀ (l : List ResultVar) (vs : List Value), dresults C T H l = some vs →
    ∃ vs', (l.mapM (resOne a.tmps)).run P w = .ok vs' w ∧ VL β vs vs' := by
  intro l
  induction l with
  | nil => intro vs h; cases h; exact ⟨[], by simp, VL.nil β⟩
  | cons x l ih =>
    intro vs h
    cases x with
    | tmp t =>
      simp only [dresults] at h
      cases hr : dresults C T H l with
      | none => rw [hr] at h; cases h
      | some us =>
        rw [hr] at h
        cases h
        obtain ⟨us', h1, h2⟩ := ih us hr
        have h5 : (resOne a.tmps (.tmp t)).run P w = .ok (a.tmps.getD t undef) w := by simp [resOne]
        exact ⟨a.tmps.getD t undef :: us', by rw [List.mapM_cons]; simp [h1, h5, -Array.getD_eq_getD_getElem?], VL.cons (hT.val t) h2⟩
    | cell b t =>
      simp only [dresults] at h
      cases hl : dload C t (tget T b) H with
      | none => rw [hl] at h; cases h
      | some v =>
        cases hr : dresults C T H l with
        | none => rw [hl, hr] at h; cases h
        | some us =>
          rw [hl, hr] at h
          cases h
          obtain ⟨us', h1, h2⟩ := ih us hr
          obtain ⟨v', h3, h4⟩ := dload_sound hC hl (hT.val b) hR
          have hv := hT.val b
          have h5 : (resOne a.tmps (.cell b t)).run P w = .ok v' w := by
            unfold resOne
            unfold dload at hl
            split at hl
            · rename_i hh o e
              rw [e] at hv
              have h6 : ∀ u, V β (.pointer (some ⟨hh, o, none⟩)) u → (Instr.loadAt t u).run P w = .ok v' w → (do loadVar t (← asAddr u) : Sem Value).run P w = .ok v' w := by
                intro u hu hr
                cases hu
                simpa [Instr.loadAt, Instr.sureAddr, asAddr] using hr
              exact h6 _ hv h3
            · cases hl
          exact ⟨v' :: us', by rw [List.mapM_cons]; simp [h1, h5, -Array.getD_eq_getD_getElem?], VL.cons h4 h2⟩
theorem results_sound {β : Emb} {H : DH} {w : World} {T : Tr Value} {a : Act} (hT : TR ng β n D T a) (hR : R β H w) (fn : Func) {vs : List Value} (h : dresults C T H fn.results.toList = some vs) :
    ∃ v', (results fn a.tmps).run P w = .ok v' w ∧ V β (dtup vs) v' := by
  obtain ⟨vs', h1, h2⟩ := resList_sound hC hT hR _ _ h
  have h3 : (fn.results.mapM (resOne a.tmps)).run P w = .ok ⟨vs'⟩ w := by
    rw [Array.mapM_eq_mapM_toList]
    simp [h1]
  rw [results_eq]
  refine ⟨if h : (⟨vs'⟩ : Array Value).size = 1 then (⟨vs'⟩ : Array Value)[0] else .tuple ⟨vs'⟩, by simp [h3], ?_⟩
  have hl := h2.1
  match vs, vs', h2, hl with
  | [], [], h2, _ => exact V.tuple' (VL.nil β)
  | [v], [v'], h2, _ => simpa [dtup] using h2.2 0 v v' rfl rfl
  | v :: v2 :: r, v' :: v2' :: r', h2, _ =>
    rw [dif_neg (by simp)]
    exact V.tuple' h2

def FnsOK (C : Ctx) (ng : Nat) (dr : Nat → Draws) : Prop := ∀ f F c, C.fn.get f = some F → F.body = some c → codeOk F.ntmps ng (dr f) c = true
theorem TR.enter {β : Emb} {args : List Value} {args' : List Value} (h : VL β args args') (hG : GOK ng β) (hn : args.length ≤ n) : TR ng β n [] (Tr.ofList args 0 .nil) { tmps := (⟨args'⟩ : Array Value) ++ Array.replicate (n - args'.length) Go.undef, defers := [] } := by
  have _ := hC
  have hl := h.1
  refine ⟨fun t => ?_, by simp; omega, rfl, hG⟩
  unfold tget
  rw [Tr.get_ofList]
  by_cases ht : t < args.length
  · rw [if_pos (by omega)]
    have h1 : args[t - 0]? = some args[t] := by simp [ht]
    rw [h1]
    obtain ⟨y, hy, hv⟩ := h.get h1
    have : ((⟨args'⟩ : Array Value) ++ Array.replicate (n - args'.length) Go.undef).getD t Go.undef = y := by
      rw [Array.getD_eq_getD_getElem?, Array.getElem?_append_left (by simp; omega)]
      simp only [Nat.sub_zero] at hy
      simp [hy]
    rw [this]; exact hv
  · rw [if_neg (by omega)]
    have : ((⟨args'⟩ : Array Value) ++ Array.replicate (n - args'.length) Go.undef).getD t Go.undef = Go.undef := by
      rw [Array.getD_eq_getD_getElem?, Array.getElem?_append_right (by simp; omega)]
      rw [Array.getElem?_replicate]
      split <;> rfl
    rw [this]
    exact V.undef β
theorem callF_sound (hm : P.follows .mixedOrders = true) {call : Calling} (hcall : CallOK P ng call) {dr : Draws} {fuel : Nat} {f : FuncId} {fn : Func} (hf : P.funcs[f]? = some fn) {c : Code} (hb : fn.body = some c) (hok : codeOk fn.ntmps ng dr c = true)
    {args : List Value} {H : DH} {out : DOut} {H' : DH} (h : callF C call dr fuel fn args H = some (out, H')) {β : Emb} {w : World} {args' : List Value} (hargs : VL β args args') (hR : R β H w) (hG : GOK ng β) :
    Calls P f ⟨args'⟩ w fun e w' => ∃ β', OutRel β' out e ∧ R β' H' w' ∧ Ext β H w β' H' w' := by
  unfold callF at h
  rw [hb] at h
  cases hn : Nat.ble args.length fn.ntmps with
  | false => rw [hn] at h; cases h
  | true =>
    rw [hn] at h
    simp only at h
    have hn := Nat.le_of_ble_eq_true hn
    refine calls_of_wp hf hb ?_
    have hT := TR.enter hC hargs hG hn
    cases hx : evalCode C call dr fuel c (Tr.ofList args 0 .nil) H with
    | none => rw [hx] at h; cases h
    | some r =>
      obtain ⟨e1, T1, H1⟩ := r
      have hs := evalCode_sound hC hm hcall dr fuel c _ _ e1 T1 H1 hok hx β w _ hT hR
      rw [hx] at h
      refine wp_mono hs fun e' a' w' hp => ?_
      obtain ⟨β', h1, h2, h3, h4, h5⟩ := hp
      have fin : e1.pan = false → (match dresults C T1 H1 fn.results.toList with | some vs => some (DOut.ret (dtup vs), H1) | none => none) = some (out, H') → a'.defers = [] ∧ ∃ v, (results fn a'.tmps).run P w' = .ok v w' ∧ ∃ β', OutRel β' out (.returned v) ∧ R β' H' w' ∧ Ext β H w β' H' w' := by
        intro hpan h
        cases hr : dresults C T1 H1 fn.results.toList with
        | none => rw [hr] at h; cases h
        | some vs =>
          rw [hr] at h
          cases h
          obtain ⟨v', hv1, hv2⟩ := results_sound hC (h2 hpan) h4 fn hr
          exact ⟨h3, v', hv1, β', hv2, h4, h5⟩
      cases e1 with
      | normal => cases e' <;> simp only [ERel] at h1; exact fin rfl h
      | ret => cases e' <;> simp only [ERel] at h1; exact fin rfl h
      | exit i => cases h
      | panic v b =>
        cases h
        cases e' <;> simp only [ERel] at h1
        exact ⟨h3, β', h1, h4, h5⟩
theorem callN_ok (hm : P.follows .mixedOrders = true) {dr : Nat → Draws} (hF : FnsOK C ng dr) {fuel : Nat} {base : Calling} (hbase : CallOK P ng base) : ∀ d, CallOK P ng (callN C dr fuel base d) := by
  intro d
  induction d with
  | zero => exact hbase
  | succ d ih =>
    intro f args H out H' h β w args' hargs hR hG
    simp only [callN] at h
    cases hb : base f args H with
    | some r =>
      rw [hb] at h
      cases h
      exact hbase f args H out H' hb β w args' hargs hR hG
    | none =>
      rw [hb] at h
      cases hf : C.fn.get f with
      | none => rw [hf] at h; cases h
      | some fn =>
        rw [hf] at h
        simp only at h
        obtain ⟨h1, h2, h3⟩ := hC.fn f fn hf
        obtain ⟨c, hc⟩ := Option.isSome_iff_exists.1 h2
        exact callF_sound hC hm ih h1 hc (hF f fn c hf hc) h hargs hR hG
end
end
end Go.Ds
