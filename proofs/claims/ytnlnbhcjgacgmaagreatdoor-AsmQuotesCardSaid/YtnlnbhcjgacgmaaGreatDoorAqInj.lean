/- The plain law of AsmQuotes, second part: lengths, letters, and that quoting is one-to-one on what is read. No program in sight. -/
import Derived.Test.YtnlnbhcjgacgmaaGreatDoorAqPure
set_option linter.unusedVariables false
set_option linter.unusedSimpArgs false
namespace Go.Aq
open Go.Lib

def hN (n : Nat) : Nat := if n < 10 then 48 + n else 87 + n
def escN (r : Nat) : List Nat :=
  if r = 34 ∨ r = 92 then [92, r]
  else if r = 10 then [92, 110]
  else if r < 32 ∨ r = 127 then [92, 120, hN (r / 16), hN (r % 16)]
  else if r < 128 then [r]
  else if r < 2048 then [192 + r / 64, 128 + r % 64]
  else if r < 65536 then [224 + r / 4096, 128 + r / 64 % 64, 128 + r % 64]
  else [240 + r / 262144, 128 + r / 4096 % 64, 128 + r / 64 % 64, 128 + r % 64]
def scalar (r : Nat) : Prop := r < 55296 ∨ (57344 ≤ r ∧ r ≤ 1114111)

theorem hexd_toNat (n : Nat) (h : n < 16) : (hexd n).toNat = hN n := by
  have : ∀ x : Fin 16, (hexd x.val).toNat = hN x.val := by decide
  exact this ⟨n, h⟩
theorem hN_inj {m n : Nat} (hm : m < 16) (hn : n < 16) (h : hN m = hN n) : m = n := by
  unfold hN at h; split at h <;> split at h <;> omega
theorem hN_range (n : Nat) (h : n < 16) : 48 ≤ hN n ∧ hN n ≤ 102 := by unfold hN; split <;> omega
theorem byte_toNat (z : Int) (n : Nat) (h : z = n) (hn : n < 256) : z.toNat.toUInt8.toNat = n := by
  subst h; simp; omega
theorem enc_toNat (r : Nat) (h : scalar r) : (encodeRune (r : Int)).map UInt8.toNat = (if r < 128 then [r] else if r < 2048 then [192 + r / 64, 128 + r % 64] else if r < 65536 then [224 + r / 4096, 128 + r / 64 % 64, 128 + r % 64] else [240 + r / 262144, 128 + r / 4096 % 64, 128 + r / 64 % 64, 128 + r % 64]) := by
  unfold encodeRune
  unfold scalar at h
  split
  · rw [encodeRuneZ_one (by omega) (by omega)]
    simp only [List.map_cons, List.map_nil]
    rw [byte_toNat _ r (by omega) (by omega)]
  · split
    · rw [encodeRuneZ_two (by omega) (by omega)]
      simp only [List.map_cons, List.map_nil]
      rw [byte_toNat _ (192 + r / 64) (by omega) (by omega), byte_toNat _ (128 + r % 64) (by omega) (by omega)]
    · split
      · rw [encodeRuneZ_three (by omega)]
        simp only [List.map_cons, List.map_nil]
        rw [byte_toNat _ (224 + r / 4096) (by omega) (by omega), byte_toNat _ (128 + r / 64 % 64) (by omega) (by omega), byte_toNat _ (128 + r % 64) (by omega) (by omega)]
      · rw [encodeRuneZ_four (by omega) (by omega)]
        simp only [List.map_cons, List.map_nil]
        rw [byte_toNat _ (240 + r / 262144) (by omega) (by omega), byte_toNat _ (128 + r / 4096 % 64) (by omega) (by omega), byte_toNat _ (128 + r / 64 % 64) (by omega) (by omega), byte_toNat _ (128 + r % 64) (by omega) (by omega)]
theorem esc_toNat (r : Nat) (h : scalar r) : (esc r).map UInt8.toNat = escN r := by
  unfold esc escN
  split
  · rename_i h1
    rw [List.map_append, enc_toNat r h, if_pos (by omega)]
    rfl
  · split
    · rfl
    · split
      · rename_i h1 h2 h3
        simp only [List.map_append, List.map_cons, List.map_nil]
        rw [hexd_toNat _ (by omega), hexd_toNat _ (by omega)]
        rfl
      · rw [enc_toNat r h]
theorem escN_inj (r s : Nat) (hr : scalar r) (hs : scalar s) (x y : List Nat) (h : escN r ++ x = escN s ++ y) : r = s := by
  unfold scalar at hr hs
  unfold escN at h
  by_cases a1 : r = 34 ∨ r = 92
  · rw [if_pos a1] at h
    split at h
    · simp at h; omega
    · split at h
      · simp at h; omega
      · split at h
        · simp at h; omega
        · split at h
          · simp at h; omega
          · split at h
            · simp at h; omega
            · split at h
              · simp at h; omega
              · simp at h; omega
  · rw [if_neg a1] at h
    by_cases a2 : r = 10
    · rw [if_pos a2] at h
      split at h
      · simp at h; omega
      · split at h
        · omega
        · split at h
          · simp at h
          · split at h
            · simp at h; omega
            · split at h
              · simp at h; omega
              · split at h
                · simp at h; omega
                · simp at h; omega
    · rw [if_neg a2] at h
      by_cases a3 : r < 32 ∨ r = 127
      · rw [if_pos a3] at h
        split at h
        · simp at h; omega
        · split at h
          · simp at h
          · split at h
            · simp at h
              have e1 := hN_inj (by omega) (by omega) h.1
              have e2 := hN_inj (by omega) (by omega) h.2.1
              omega
            · split at h
              · simp at h; omega
              · split at h
                · simp at h; omega
                · split at h
                  · simp at h; omega
                  · simp at h; omega
      · rw [if_neg a3] at h
        by_cases a4 : r < 128
        · rw [if_pos a4] at h
          repeat' split at h
          all_goals (simp at h; omega)
        · rw [if_neg a4] at h
          by_cases a5 : r < 2048
          · rw [if_pos a5] at h
            repeat' split at h
            all_goals (simp at h; omega)
          · rw [if_neg a5] at h
            by_cases a6 : r < 65536
            · rw [if_pos a6] at h
              repeat' split at h
              all_goals (simp at h; omega)
            · rw [if_neg a6] at h
              repeat' split at h
              all_goals (simp at h; omega)
theorem map_toNat_inj : ∀ {a b : List UInt8}, a.map UInt8.toNat = b.map UInt8.toNat → a = b := by
  intro a
  induction a with
  | nil => intro b h; cases b <;> simp at h ⊢
  | cons x a ih =>
    intro b h
    cases b with
    | nil => simp at h
    | cons y b =>
      simp only [List.map_cons, List.cons.injEq] at h
      rw [UInt8.toNat_inj.1 h.1, ih h.2]
theorem esc_inj (r s : Nat) (hr : scalar r) (hs : scalar s) (x y : List UInt8) (h : esc r ++ x = esc s ++ y) : r = s ∧ x = y := by
  have h2 := congrArg (List.map UInt8.toNat) h
  rw [List.map_append, List.map_append, esc_toNat r hr, esc_toNat s hs] at h2
  have e := escN_inj r s hr hs _ _ h2
  subst e
  exact ⟨rfl, List.append_cancel_left h⟩
theorem next_scalar (l : List UInt8) (h : (nextL l).2 ≠ 0) : scalar (nextL l).1 := by
  unfold nextL at h ⊢
  unfold scalar
  simp only at h ⊢
  repeat' split at h
  all_goals first
    | (simp at h; done)
    | skip
  all_goals
    repeat' split
    all_goals first
      | (simp only [contB_spec] at *; omega)
      | omega
theorem esc_ne (r : Nat) : esc r ≠ [] := by
  unfold esc
  repeat' split
  all_goals first
    | (simp; done)
    | (intro e; have := encodeRuneZ_length (r : Int); have h2 := congrArg List.length e; simp [encodeRune] at h2; rw [h2] at this; simp at this)
theorem body_inj : ∀ (f g : Nat) (a b : List UInt8), a.length ≤ f → b.length ≤ g → okL f a = true → okL g b = true → body f a = body g b → a = b := by
  have nilcase : ∀ (g : Nat) (b : List UInt8), b.length ≤ g → body g b = [] → b = [] := by
    intro g b hb h
    cases g with
    | zero => exact List.eq_nil_of_length_eq_zero (by omega)
    | succ g =>
      by_cases e : b = []
      · exact e
      · simp only [body, if_neg e] at h
        exact absurd (List.append_eq_nil_iff.1 h).1 (esc_ne _)
  intro f
  induction f with
  | zero =>
    intro g a b ha hb _ _ h
    have e : a = [] := List.eq_nil_of_length_eq_zero (by omega)
    subst e
    exact (nilcase g b hb h.symm).symm
  | succ f ih =>
    intro g a b ha hb hoa hob h
    by_cases ea : a = []
    · subst ea
      simp only [body, if_true] at h
      exact (nilcase g b hb h.symm).symm
    · have hla : 0 < a.length := List.length_pos_iff.2 ea
      have eb : b ≠ [] := by
        intro e
        subst e
        have : body g [] = [] := by cases g <;> simp [body]
        rw [this] at h
        exact ea (nilcase (f + 1) a ha h)
      have hlb : 0 < b.length := List.length_pos_iff.2 eb
      cases g with
      | zero => omega
      | succ g =>
        simp only [okL, if_neg ea, if_neg eb] at hoa hob
        simp only [body, if_neg ea, if_neg eb] at h
        split at hoa
        · cases hoa
        · rename_i na
          split at hob
          · cases hob
          · rename_i nb
            obtain ⟨d1, v1⟩ := next_decode a ea na
            obtain ⟨d2, v2⟩ := next_decode b eb nb
            have s1 := next_scalar a na
            have s2 := next_scalar b nb
            rw [← d1] at s1 hoa
            rw [← d2] at s2 hob
            obtain ⟨e1, e2⟩ := esc_inj _ _ s1 s2 _ _ h
            have t1 := encode_decode a ea v1
            have t2 := encode_decode b eb v2
            have w1 := decodeL_width a
            have w2 := decodeL_width b
            have e3 := ih g _ _ (by rw [List.length_drop]; omega) (by rw [List.length_drop]; omega) hoa hob e2
            rw [← List.take_append_drop (decodeL a).2 a, ← List.take_append_drop (decodeL b).2 b, ← t1, ← t2, e1, e3]
/-- Two texts that are quoted alike are alike. -/
theorem quote_inj (a b : List UInt8) (ha : okL a.length a = true) (hb : okL b.length b = true) (h : quote a = quote b) : a = b := by
  unfold quote at h
  exact body_inj _ _ a b (Nat.le_refl _) (Nat.le_refl _) ha hb (List.append_cancel_left (List.append_cancel_right h))

/-! ### Letters and lengths -/
theorem decode_scalar (l : List UInt8) : scalar (decodeL l).1 := by
  rw [decodeL_N]
  have k0 := (l.getD 0 0).toNat_lt
  unfold scalar
  rcases decodeN_shape l.length (l.getD 0 0).toNat (l.getD 1 0).toNat (l.getD 2 0).toNat (l.getD 3 0).toNat with ⟨c, e⟩ | ⟨c1, c2, c3, cv, e⟩ | ⟨c1, c2, c3, c4, cv, cs, e⟩ | ⟨c1, c2, c3, c4, c5, cv, cw, e⟩ | e
  all_goals (rw [e]; dsimp only; omega)
theorem escN_letters (r : Nat) (h : scalar r) : ∀ c ∈ escN r, 32 ≤ c ∧ c ≠ 127 := by
  unfold scalar at h
  unfold escN
  intro c hc
  have h1 := hN_range (r / 16)
  have h2 := hN_range (r % 16) (by omega)
  repeat' split at hc
  all_goals (simp at hc; omega)
theorem esc_letters (r : Nat) (h : scalar r) : ∀ c ∈ esc r, 32 ≤ c.toNat ∧ c.toNat ≠ 127 := by
  intro c hc
  exact escN_letters r h c.toNat (by rw [← esc_toNat r h]; exact List.mem_map.2 ⟨c, hc, rfl⟩)
theorem body_letters : ∀ (f : Nat) (l : List UInt8), ∀ c ∈ body f l, 32 ≤ c.toNat ∧ c.toNat ≠ 127 := by
  intro f
  induction f with
  | zero => intro l c hc; simp [body] at hc
  | succ f ih =>
    intro l c hc
    simp only [body] at hc
    split at hc
    · simp at hc
    · rcases List.mem_append.1 hc with hc | hc
      · exact esc_letters _ (decode_scalar l) c hc
      · exact ih _ c hc
theorem quote_letters (l : List UInt8) : ∀ c ∈ quote l, 32 ≤ c.toNat ∧ c.toNat ≠ 127 := by
  intro c hc
  unfold quote at hc
  rcases List.mem_append.1 hc with hc | hc
  · rcases List.mem_append.1 hc with hc | hc
    · simp at hc; subst hc; decide
    · exact body_letters _ _ c hc
  · simp at hc; subst hc; decide
theorem width_esc (l : List UInt8) : (decodeL l).2 ≤ (esc (decodeL l).1).length := by
  have hs := decode_scalar l
  have hl : (esc (decodeL l).1).length = (escN (decodeL l).1).length := by rw [← esc_toNat _ hs, List.length_map]
  rw [hl]
  rw [decodeL_N]
  have k0 := (l.getD 0 0).toNat_lt
  rcases decodeN_shape l.length (l.getD 0 0).toNat (l.getD 1 0).toNat (l.getD 2 0).toNat (l.getD 3 0).toNat with ⟨c, e⟩ | ⟨c1, c2, c3, cv, e⟩ | ⟨c1, c2, c3, c4, cv, cs, e⟩ | ⟨c1, c2, c3, c4, c5, cv, cw, e⟩ | e
  all_goals
    rw [e]
    dsimp only
    unfold escN
    repeat' split
    all_goals first
      | (simp; done)
      | omega
theorem body_length : ∀ (f : Nat) (l : List UInt8), l.length ≤ f → l.length ≤ (body f l).length := by
  intro f
  induction f with
  | zero => intro l h; exact h
  | succ f ih =>
    intro l h
    simp only [body]
    split
    · rename_i e; subst e; simp
    · rename_i e
      have w := decodeL_width l
      have w2 := width_esc l
      have := ih (l.drop (decodeL l).2) (by rw [List.length_drop]; have := List.length_pos_iff.2 e; omega)
      rw [List.length_drop] at this
      rw [List.length_append]
      omega
theorem quote_length (l : List UInt8) : l.length + 2 ≤ (quote l).length := by
  have := body_length l.length l (Nat.le_refl _)
  unfold quote
  simp
  omega
end Go.Aq
