/- A deterministic layer over the model, part A: tries, handles, the relation between handles' values and the model's values. -/
import Derived.Calls
import Derived.Orders
import Derived.KernelRfl
import Derived.Laws.Sem
import Derived.Laws.World
import Derived.Laws.Cells
set_option linter.unusedVariables false
set_option linter.unusedSimpArgs false
namespace Go.Ds
noncomputable section

/-! ### Tries -/
inductive Tr (α : Type) : Type where
  | nil : Tr α
  | node (v : Option α) (l r : Tr α) : Tr α

namespace Tr
variable {α : Type}
def get (t : Tr α) : Nat → Option α :=
  Tr.rec (motive := fun _ => Nat → Option α) (fun _ => none) (fun v _ _ gl gr k => Nat.rec (motive := fun _ => Option α) v (fun j _ => Bool.rec (motive := fun _ => Option α) (gr (Nat.div j 2)) (gl (Nat.div j 2)) (Nat.beq (Nat.mod j 2) 0)) k) t
def sing (x : Option α) (fuel : Nat) : Nat → Tr α :=
  Nat.rec (motive := fun _ => Nat → Tr α) (fun _ => .nil) (fun _ ih k => Nat.rec (motive := fun _ => Tr α) (.node x .nil .nil) (fun j _ => Bool.rec (motive := fun _ => Tr α) (.node none .nil (ih (Nat.div j 2))) (.node none (ih (Nat.div j 2)) .nil) (Nat.beq (Nat.mod j 2) 0)) k) fuel
def set (t : Tr α) (k : Nat) (x : Option α) : Tr α :=
  Tr.rec (motive := fun _ => Nat → Tr α) (fun k => sing x (k + 1) k) (fun v l r sl sr k => Nat.rec (motive := fun _ => Tr α) (.node x l r) (fun j _ => Bool.rec (motive := fun _ => Tr α) (.node v l (sr (Nat.div j 2))) (.node v (sl (Nat.div j 2)) r) (Nat.beq (Nat.mod j 2) 0)) k) t k

theorem beq_true {a b : Nat} (h : a = b) : Nat.beq a b = true := by subst h; exact Nat.beq_refl a
theorem beq_false {a b : Nat} (h : a ≠ b) : Nat.beq a b = false := by
  cases hb : Nat.beq a b with
  | false => rfl
  | true => exact absurd (Nat.eq_of_beq_eq_true hb) h

@[simp] theorem get_nil (k : Nat) : (Tr.nil : Tr α).get k = none := rfl
theorem get_zero (v : Option α) (l r : Tr α) : (Tr.node v l r).get 0 = v := rfl
theorem get_succ (v : Option α) (l r : Tr α) (j : Nat) : (Tr.node v l r).get (j + 1) = if j % 2 = 0 then l.get (j / 2) else r.get (j / 2) := by
  change Bool.rec (motive := fun _ => Option α) (r.get (Nat.div j 2)) (l.get (Nat.div j 2)) (Nat.beq (Nat.mod j 2) 0) = _
  by_cases h : j % 2 = 0
  · rw [if_pos h, show Nat.beq (Nat.mod j 2) 0 = true from beq_true h]; rfl
  · rw [if_neg h, show Nat.beq (Nat.mod j 2) 0 = false from beq_false h]; rfl
theorem get_sing (x : Option α) : ∀ (f k j : Nat), k < f → (sing x f k).get j = if j = k then x else none := by
  intro f
  induction f with
  | zero => intro k j h; omega
  | succ f ih =>
    intro k j hk
    cases k with
    | zero =>
      change (Tr.node x .nil .nil).get j = _
      cases j with
      | zero => rfl
      | succ j => rw [get_succ, if_neg (show ¬ j + 1 = 0 by omega)]; split <;> rfl
    | succ k =>
      change (Bool.rec (motive := fun _ => Tr α) (.node none .nil (sing x f (Nat.div k 2))) (.node none (sing x f (Nat.div k 2)) .nil) (Nat.beq (Nat.mod k 2) 0) : Tr α).get j = _
      by_cases h : k % 2 = 0
      · rw [show Nat.beq (Nat.mod k 2) 0 = true from beq_true h]
        change (Tr.node none (sing x f (k / 2)) .nil).get j = _
        cases j with
        | zero => rw [get_zero, if_neg (by omega)]
        | succ j =>
          rw [get_succ, ih _ _ (by omega)]
          by_cases hj : j % 2 = 0
          · rw [if_pos hj]
            by_cases e : j = k
            · subst e; simp
            · rw [if_neg (by omega), if_neg (by omega)]
          · rw [if_neg hj, if_neg (by omega)]; rfl
      · rw [show Nat.beq (Nat.mod k 2) 0 = false from beq_false h]
        change (Tr.node none .nil (sing x f (k / 2))).get j = _
        cases j with
        | zero => rw [get_zero, if_neg (by omega)]
        | succ j =>
          rw [get_succ, ih _ _ (by omega)]
          by_cases hj : j % 2 = 0
          · rw [if_pos hj, if_neg (by omega)]; rfl
          · rw [if_neg hj]
            by_cases e : j = k
            · subst e; simp
            · rw [if_neg (by omega), if_neg (by omega)]
@[simp] theorem get_set (t : Tr α) : ∀ (k : Nat) (x : Option α) (j : Nat), (t.set k x).get j = if j = k then x else t.get j := by
  induction t with
  | nil =>
    intro k x j
    change (sing x (k + 1) k).get j = _
    rw [get_sing x _ _ _ (Nat.lt_succ_self k)]; rfl
  | node v l r ihl ihr =>
    intro k x j
    cases k with
    | zero =>
      change (Tr.node x l r).get j = _
      cases j with
      | zero => rfl
      | succ j => rw [get_succ, get_succ, if_neg (show ¬ j + 1 = 0 by omega)]
    | succ k =>
      change (Bool.rec (motive := fun _ => Tr α) (.node v l (r.set (Nat.div k 2) x)) (.node v (l.set (Nat.div k 2) x) r) (Nat.beq (Nat.mod k 2) 0) : Tr α).get j = _
      by_cases h : k % 2 = 0
      · rw [show Nat.beq (Nat.mod k 2) 0 = true from beq_true h]
        change (Tr.node v (l.set (k / 2) x) r).get j = _
        cases j with
        | zero => rw [get_zero, get_zero, if_neg (by omega)]
        | succ j =>
          rw [get_succ, get_succ, ihl]
          by_cases hj : j % 2 = 0
          · rw [if_pos hj, if_pos hj]
            by_cases e : j = k
            · subst e; simp
            · rw [if_neg (by omega), if_neg (by omega)]
          · rw [if_neg hj, if_neg hj, if_neg (by omega)]
      · rw [show Nat.beq (Nat.mod k 2) 0 = false from beq_false h]
        change (Tr.node v l (r.set (k / 2) x)).get j = _
        cases j with
        | zero => rw [get_zero, get_zero, if_neg (by omega)]
        | succ j =>
          rw [get_succ, get_succ, ihr]
          by_cases hj : j % 2 = 0
          · rw [if_pos hj, if_pos hj, if_neg (by omega)]
          · rw [if_neg hj, if_neg hj]
            by_cases e : j = k
            · subst e; simp
            · rw [if_neg (by omega), if_neg (by omega)]
/-- A trie of a list. -/
def ofList : List α → Nat → Tr α → Tr α
  | [], _, t => t
  | x :: xs, k, t => ofList xs (k + 1) (t.set k (some x))
theorem get_ofList : ∀ (l : List α) (k : Nat) (t : Tr α) (j : Nat), (ofList l k t).get j = if k ≤ j ∧ j < k + l.length then l[j - k]? else t.get j := by
  intro l
  induction l with
  | nil => intro k t j; simp only [ofList]; rw [if_neg (by simp)]
  | cons x xs ih =>
    intro k t j
    simp only [ofList, ih, get_set, List.length_cons]
    by_cases h : k + 1 ≤ j ∧ j < k + 1 + xs.length
    · rw [if_pos h, if_pos (by omega)]
      obtain ⟨d, rfl⟩ : ∃ d, j = k + 1 + d := ⟨j - (k + 1), by omega⟩
      rw [show k + 1 + d - (k + 1) = d by omega, show k + 1 + d - k = d + 1 by omega]
      simp
    · rw [if_neg h]
      by_cases e : j = k
      · subst e; rw [if_pos rfl, if_pos (by omega)]; simp
      · rw [if_neg e, if_neg (by omega)]
end Tr

/-! ### Values: handles in the place of blocks -/
/-- Where a handle's cells stand: the block, the first cell, how many cells the block has. -/
structure BI where
  rb : Nat
  base : Nat
  size : Nat

abbrev Emb := Nat → Option BI

/-- A value over handles, and the model's. A slice's address bears, as its spot, the cells of an element; its capacity is a lower bound. -/
inductive V (β : Emb) : Value → Value → Prop where
  | bool (b : Bool) : V β (.bool b) (.bool b)
  | int (k : IntKind) (n : Int) : V β (.int k n) (.int k n)
  | string (s : ByteArray) : V β (.string s) (.string s)
  | ptrNil : V β (.pointer none) (.pointer none)
  | ptr {h o : Nat} {bi : BI} (hb : β h = some bi) : V β (.pointer (some ⟨h, o, none⟩)) (.pointer (some ⟨bi.rb, bi.base + o, none⟩))
  | slNil : V β (.slice none 0 0) (.slice none 0 0)
  | sl {h o s n c c' : Nat} {ad : Addr} {bi : BI} (hb : β h = some bi) (hn : n ≤ c) (hc : c ≤ c') (ha : c' = 0 ∨ (ad = ⟨bi.rb, bi.base + o, none⟩ ∧ bi.base + o + c' * s ≤ bi.size)) :
      V β (.slice (some ⟨h, o, some s⟩) n c) (.slice (some ad) n c')
  | mapNil : V β (.map none) (.map none)
  | map {h : Nat} {bi : BI} (hb : β h = some bi) : V β (.map (some h)) (.map (some bi.rb))
  | nilFunc : V β .nilFunc .nilFunc
  | func (fn : Fn) {f f' c c' : Array Value} (hf : f.size = f'.size) (hfi : ∀ i (h : i < f.size) (h' : i < f'.size), V β f[i] f'[i])
      (hc : c.size = c'.size) (hci : ∀ i (h : i < c.size) (h' : i < c'.size), V β c[i] c'[i]) : V β (.func fn f c) (.func fn f' c')
  | nilIface : V β .nilIface .nilIface
  | iface (t : TypeId) {v v' : Value} (h : V β v v') : V β (.iface t v) (.iface t v')
  | agg {xs ys : Array Value} (hs : xs.size = ys.size) (hi : ∀ i (h : i < xs.size) (h' : i < ys.size), V β xs[i] ys[i]) : V β (.agg xs) (.agg ys)
  | tuple {xs ys : Array Value} (hs : xs.size = ys.size) (hi : ∀ i (h : i < xs.size) (h' : i < ys.size), V β xs[i] ys[i]) : V β (.tuple xs) (.tuple ys)

/-- Lists of values, place by place. -/
def VL (β : Emb) (xs ys : List Value) : Prop := xs.length = ys.length ∧ ∀ (i : Nat) (x y : Value), xs[i]? = some x → ys[i]? = some y → V β x y
/-- Arrays of values. -/
def VA (β : Emb) (xs ys : Array Value) : Prop := VL β xs.toList ys.toList

def EmbLe (β β' : Emb) : Prop := ∀ h bi, β h = some bi → β' h = some bi
theorem EmbLe.refl (β : Emb) : EmbLe β β := fun _ _ h => h
theorem EmbLe.trans {a b c : Emb} (h : EmbLe a b) (k : EmbLe b c) : EmbLe a c := fun x bi hx => k x bi (h x bi hx)

theorem V.mono {β β' : Emb} (hle : EmbLe β β') {v v' : Value} (h : V β v v') : V β' v v' := by
  induction h with
  | bool b => exact .bool b
  | int k n => exact .int k n
  | string s => exact .string s
  | ptrNil => exact .ptrNil
  | ptr hb => exact .ptr (hle _ _ hb)
  | slNil => exact .slNil
  | sl hb hn hc ha => exact .sl (hle _ _ hb) hn hc ha
  | mapNil => exact .mapNil
  | map hb => exact .map (hle _ _ hb)
  | nilFunc => exact .nilFunc
  | func fn hf hfi hc hci ih1 ih2 => exact .func fn hf (fun i h h' => ih1 i h h') hc (fun i h h' => ih2 i h h')
  | nilIface => exact .nilIface
  | iface t h ih => exact .iface t ih
  | agg hs hi ih => exact .agg hs (fun i h h' => ih i h h')
  | tuple hs hi ih => exact .tuple hs (fun i h h' => ih i h h')

theorem VL.mono {β β' : Emb} (hle : EmbLe β β') {xs ys : List Value} (h : VL β xs ys) : VL β' xs ys :=
  ⟨h.1, fun i x y hx hy => (h.2 i x y hx hy).mono hle⟩
theorem VA.mono {β β' : Emb} (hle : EmbLe β β') {xs ys : Array Value} (h : VA β xs ys) : VA β' xs ys := VL.mono hle h

theorem VL.nil (β : Emb) : VL β [] [] := ⟨rfl, fun i x y h => by simp at h⟩
theorem VL.cons {β : Emb} {x y : Value} {xs ys : List Value} (h : V β x y) (hs : VL β xs ys) : VL β (x :: xs) (y :: ys) :=
  ⟨by simp [hs.1], fun i a b ha hb => by
    cases i with
    | zero => simp at ha hb; subst ha; subst hb; exact h
    | succ i => simp at ha hb; exact hs.2 i a b ha hb⟩
theorem VL.cons_inv {β : Emb} {x : Value} {xs zs : List Value} (h : VL β (x :: xs) zs) : ∃ y ys, zs = y :: ys ∧ V β x y ∧ VL β xs ys := by
  obtain ⟨hl, hi⟩ := h
  cases zs with
  | nil => simp at hl
  | cons y ys => exact ⟨y, ys, rfl, hi 0 x y rfl rfl, by simpa using hl, fun i a b ha hb => hi (i + 1) a b (by simpa using ha) (by simpa using hb)⟩
theorem VL.nil_inv {β : Emb} {zs : List Value} (h : VL β [] zs) : zs = [] := by
  have := h.1; simp at this; exact List.eq_nil_of_length_eq_zero this.symm
theorem VL.append {β : Emb} {a b c d : List Value} (h : VL β a b) (k : VL β c d) : VL β (a ++ c) (b ++ d) := by
  refine ⟨by simp [h.1, k.1], fun i x y hx hy => ?_⟩
  rcases Nat.lt_or_ge i a.length with hi | hi
  · rw [List.getElem?_append_left hi] at hx
    rw [List.getElem?_append_left (by rw [← h.1]; exact hi)] at hy
    exact h.2 i x y hx hy
  · rw [List.getElem?_append_right hi] at hx
    rw [List.getElem?_append_right (by rw [← h.1]; exact hi), ← h.1] at hy
    exact k.2 _ x y hx hy
theorem VL.take {β : Emb} {a b : List Value} (h : VL β a b) (n : Nat) : VL β (a.take n) (b.take n) := by
  refine ⟨by simp [h.1], fun i x y hx hy => ?_⟩
  rw [List.getElem?_take] at hx hy
  split at hx
  · rename_i hi; rw [if_pos hi] at hy; exact h.2 i x y hx hy
  · simp at hx
theorem VL.drop {β : Emb} {a b : List Value} (h : VL β a b) (n : Nat) : VL β (a.drop n) (b.drop n) := by
  refine ⟨by simp [h.1], fun i x y hx hy => ?_⟩
  rw [List.getElem?_drop] at hx hy
  exact h.2 _ x y hx hy
theorem VL.get {β : Emb} {a b : List Value} (h : VL β a b) {i : Nat} {x : Value} (hx : a[i]? = some x) : ∃ y, b[i]? = some y ∧ V β x y := by
  have hi : i < a.length := (List.getElem?_eq_some_iff.1 hx).1
  have hi' : i < b.length := h.1 ▸ hi
  exact ⟨b[i], List.getElem?_eq_getElem hi', h.2 i x _ hx (List.getElem?_eq_getElem hi')⟩
theorem VL.set {β : Emb} {a b : List Value} (h : VL β a b) (i : Nat) {x y : Value} (hv : V β x y) : VL β (a.set i x) (b.set i y) := by
  refine ⟨by simp [h.1], fun j u v hu hw => ?_⟩
  rw [List.getElem?_set] at hu hw
  by_cases e : i = j
  · subst e
    rw [if_pos rfl] at hu hw
    split at hu
    · rename_i hl; rw [if_pos (h.1 ▸ hl)] at hw; cases hu; cases hw; exact hv
    · cases hu
  · rw [if_neg e] at hu hw; exact h.2 j u v hu hw

theorem VA.of_all {β : Emb} {xs ys : Array Value} (hs : xs.size = ys.size) (hi : ∀ i (h : i < xs.size) (h' : i < ys.size), V β xs[i] ys[i]) : VA β xs ys := by
  refine ⟨by simpa using hs, fun i x y hx hy => ?_⟩
  have h1 := (List.getElem?_eq_some_iff.1 hx)
  have h2 := (List.getElem?_eq_some_iff.1 hy)
  obtain ⟨l1, e1⟩ := h1
  obtain ⟨l2, e2⟩ := h2
  subst e1; subst e2
  exact hi i (by simpa using l1) (by simpa using l2)
theorem VA.all {β : Emb} {xs ys : Array Value} (h : VA β xs ys) : xs.size = ys.size ∧ ∀ i (h : i < xs.size) (h' : i < ys.size), V β xs[i] ys[i] :=
  ⟨by simpa using h.1, fun i h1 h2 => h.2 i _ _ (by simp [h1]) (by simp [h2])⟩
theorem V.agg' {β : Emb} {xs ys : Array Value} (h : VA β xs ys) : V β (.agg xs) (.agg ys) := .agg h.all.1 h.all.2
theorem V.tuple' {β : Emb} {xs ys : Array Value} (h : VA β xs ys) : V β (.tuple xs) (.tuple ys) := .tuple h.all.1 h.all.2
theorem V.func' {β : Emb} (fn : Fn) {f f' c c' : Array Value} (h : VA β f f') (k : VA β c c') : V β (.func fn f c) (.func fn f' c') := .func fn h.all.1 h.all.2 k.all.1 k.all.2
theorem V.agg_inv {β : Emb} {xs : Array Value} {v : Value} (h : V β (.agg xs) v) : ∃ ys, v = .agg ys ∧ VA β xs ys := by
  cases h with
  | agg hs hi => exact ⟨_, rfl, VA.of_all hs hi⟩
theorem V.tuple_inv {β : Emb} {xs : Array Value} {v : Value} (h : V β (.tuple xs) v) : ∃ ys, v = .tuple ys ∧ VA β xs ys := by
  cases h with
  | tuple hs hi => exact ⟨_, rfl, VA.of_all hs hi⟩
theorem V.func_inv {β : Emb} {fn : Fn} {f c : Array Value} {v : Value} (h : V β (.func fn f c) v) : ∃ f' c', v = .func fn f' c' ∧ VA β f f' ∧ VA β c c' := by
  cases h with
  | func fn hf hfi hc hci => exact ⟨_, _, rfl, VA.of_all hf hfi, VA.of_all hc hci⟩
theorem V.undef (β : Emb) : V β Go.undef Go.undef := V.tuple' (VL.nil β)

/-- The cells of a value. -/
theorem V.cells {β : Emb} {v v' : Value} (h : V β v v') : VA β v.cells v'.cells := by
  cases h with
  | agg hs hi => exact VA.of_all hs hi
  | _ => exact VL.cons (by first | exact .bool _ | exact .int _ _ | exact .string _ | exact .ptrNil | exact .ptr ‹_› | exact .slNil | exact .sl ‹_› ‹_› ‹_› ‹_› | exact .mapNil | exact .map ‹_› | exact .nilFunc | exact .func _ ‹_› ‹_› ‹_› ‹_› | exact .nilIface | exact .iface _ ‹_› | exact .tuple ‹_› ‹_›) (VL.nil β)
theorem V.oneCell {β : Emb} {v v' : Value} (h : V β v v') : v.oneCell' = v'.oneCell' := by cases h <;> rfl

/-- No address, no function within. -/
def plainN : Nat → Value → Bool
  | _, .bool _ => true
  | _, .int _ _ => true
  | _, .string _ => true
  | _, .nilIface => true
  | _, .nilFunc => true
  | _, .pointer none => true
  | _, .map none => true
  | _, .slice none 0 0 => true
  | n + 1, .agg cs => cs.toList.all (plainN n)
  | n + 1, .tuple cs => cs.toList.all (plainN n)
  | n + 1, .iface _ v => plainN n v
  | n + 1, .func _ f c => f.toList.all (plainN n) && c.toList.all (plainN n)
  | _, _ => false
def plain (v : Value) : Bool := plainN 12 v

theorem VL.eq_of_plain {β : Emb} {p : Value → Bool} (hp : ∀ x y, p x = true → V β x y → y = x) : ∀ {xs ys : List Value}, xs.all p = true → VL β xs ys → ys = xs := by
  intro xs
  induction xs with
  | nil => intro ys _ h; exact h.nil_inv
  | cons x xs ih =>
    intro ys ha h
    obtain ⟨y, ys', rfl, h1, h2⟩ := h.cons_inv
    simp only [List.all_cons, Bool.and_eq_true] at ha
    rw [hp x y ha.1 h1, ih ha.2 h2]
theorem VL.of_plain {β : Emb} {p : Value → Bool} (hp : ∀ x, p x = true → V β x x) : ∀ {xs : List Value}, xs.all p = true → VL β xs xs := by
  intro xs
  induction xs with
  | nil => intro _; exact VL.nil β
  | cons x xs ih =>
    intro ha
    simp only [List.all_cons, Bool.and_eq_true] at ha
    exact VL.cons (hp x ha.1) (ih ha.2)
theorem plainN_eq {β : Emb} : ∀ (n : Nat) (v v' : Value), plainN n v = true → V β v v' → v' = v := by
  intro n
  induction n with
  | zero =>
    intro v v' hp h
    cases h <;> first
      | rfl
      | (simp [plainN] at hp; done)
  | succ n ih =>
    intro v v' hp h
    cases h <;> first
      | rfl
      | (simp [plainN] at hp; done)
      | skip
    case func fn f f' c c' hf hfi hc hci =>
      simp only [plainN, Bool.and_eq_true] at hp
      have e1 := VL.eq_of_plain (β := β) (fun x y => ih x y) hp.1 (VA.of_all hf hfi)
      have e2 := VL.eq_of_plain (β := β) (fun x y => ih x y) hp.2 (VA.of_all hc hci)
      rw [Array.ext' e1, Array.ext' e2]
    case iface t v v' h => simp only [plainN] at hp; rw [ih v v' hp h]
    case agg xs ys hs hi =>
      simp only [plainN] at hp
      rw [Array.ext' (VL.eq_of_plain (β := β) (fun x y => ih x y) hp (VA.of_all hs hi))]
    case tuple xs ys hs hi =>
      simp only [plainN] at hp
      rw [Array.ext' (VL.eq_of_plain (β := β) (fun x y => ih x y) hp (VA.of_all hs hi))]
theorem plainN_V (β : Emb) : ∀ (n : Nat) (v : Value), plainN n v = true → V β v v := by
  intro n
  induction n with
  | zero =>
    intro v hp
    unfold plainN at hp
    split at hp <;> first
      | exact .bool _ | exact .int _ _ | exact .string _ | exact .nilIface | exact .nilFunc | exact .ptrNil | exact .mapNil | exact .slNil
      | (simp at hp; done)
      | skip
    all_goals (first | (rename_i h; simp at h; done) | (exact absurd hp (by simp)) | cases ‹_ + 1 = 0›)
  | succ n ih =>
    intro v hp
    unfold plainN at hp
    split at hp <;> first
      | exact .bool _ | exact .int _ _ | exact .string _ | exact .nilIface | exact .nilFunc | exact .ptrNil | exact .mapNil | exact .slNil
      | (simp at hp; done)
      | skip
    · rename_i m cs e; cases e; exact V.agg' (VL.of_plain (fun x => ih x) hp)
    · rename_i m cs e; cases e; exact V.tuple' (VL.of_plain (fun x => ih x) hp)
    · rename_i m t v e; cases e; exact .iface t (ih v hp)
    · rename_i m fn f c e; cases e
      simp only [Bool.and_eq_true] at hp
      exact V.func' fn (VL.of_plain (fun x => ih x) hp.1) (VL.of_plain (fun x => ih x) hp.2)
theorem plain_eq {β : Emb} {v v' : Value} (hp : plain v = true) (h : V β v v') : v' = v := plainN_eq 12 v v' hp h
theorem plain_V (β : Emb) {v : Value} (hp : plain v = true) : V β v v := plainN_V β 12 v hp
end
end Go.Ds
