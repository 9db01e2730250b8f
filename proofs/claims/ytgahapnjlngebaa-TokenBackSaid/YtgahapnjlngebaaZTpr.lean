/- A word has at least one byte, and lies within its text. -/
import Derived.Test.YtgahapnjlngebaaZTnx
namespace Go.Proofs.Ytgahapnjlngebaa
open Go.RowKit

theorem parenW_ge : ∀ (n : Nat) (l : List UInt8), l.length ≤ n → ∀ (i deep : Nat) (b : List UInt8), (parenW l i deep b).1 = 0 → i + 1 ≤ (parenW l i deep b).2.2
  | n, [], _, i, deep, b => by rw [parenW]; intro h; simp at h
  | 0, c :: t, h, _, _, _ => by simp at h
  | n + 1, c :: t, h, i, deep, b => by
    have hl : t.length ≤ n := by simpa using h
    have ih := fun l (hl : l.length ≤ n) => parenW_ge n l hl
    rw [parenW]
    repeat' split
    all_goals first
      | (intro h; exact absurd h (by decide))
      | exact fun h => Nat.le_trans (by omega) (ih t hl _ _ _ h)
      | exact fun h => Nat.le_trans (by omega) (ih (t.drop 1) (by rw [List.length_drop]; omega) _ _ _ h)
      | exact fun h => Nat.le_trans (by omega) (ih (t.drop (escF t).2.1) (by rw [List.length_drop]; omega) _ _ _ h)
      | exact fun _ => Nat.le_refl _
theorem hexW_ge (l : List UInt8) : ∀ (i : Nat) (half : Int) (b : List UInt8), (hexW l i half b).1 = 0 → i + 1 ≤ (hexW l i half b).2.2 := by
  induction l with
  | nil => intro i half b; rw [hexW]; intro h; simp at h
  | cons c t ih =>
    intro i half b
    rw [hexW]
    repeat' split
    all_goals first
      | (intro h; exact absurd h (by decide))
      | exact fun h => Nat.le_trans (by omega) (ih _ _ _ h)
      | exact fun _ => Nat.le_refl _
theorem eightyW_ge (l : List UInt8) : ∀ (i : Nat) (g b : List UInt8), (eightyW l i g b).1 = 0 → i + 1 ≤ (eightyW l i g b).2.2 := by
  induction l with
  | nil => intro i g b; rw [eightyW]; intro h; simp at h
  | cons c t ih =>
    intro i g b
    rw [eightyW]
    repeat' split
    all_goals first
      | (intro h; exact absurd h (by decide))
      | exact fun h => Nat.le_trans (by omega) (ih _ _ _ h)
      | exact fun _ => Nat.le_succ _
      | (intro h; exact absurd h (by assumption))
theorem takeF_ge (l : List UInt8) (h : (takeF l).1 = 0) : 1 ≤ (takeF l).2.2 := by
  unfold takeF at h ⊢
  split at h
  · rename_i h0
    rw [if_pos h0]
    unfold takeW at h ⊢
    split at h
    · rename_i h1
      rw [if_pos h1]
      exact Nat.le_trans (by omega) (parenW_ge _ _ (Nat.le_refl _) _ _ _ h)
    · rename_i h1
      rw [if_neg h1]
      split at h
      · rename_i h2
        rw [if_pos h2]
        exact Nat.le_trans (by omega) (eightyW_ge _ _ _ _ h)
      · rename_i h2
        rw [if_neg h2]
        split at h
        · rename_i h3
          rw [if_pos h3]
          exact Nat.le_trans (by omega) (hexW_ge _ _ _ _ h)
        · simp at h
  · rename_i h0
    exact absurd h h0
/-- Where skipping stops, neither a blank nor a remark begins. -/
theorem skip_stop : ∀ (l : List UInt8), (∀ c t, l.drop (skipL false l) = c :: t → ¬ kindI c.toNat = 1 ∧ ¬ c = 37) ∧ (∀ c t, l.drop (skipL true l) = c :: t → ¬ kindI c.toNat = 1 ∧ ¬ c = 37)
  | [] => ⟨fun c t h => by simp at h, fun c t h => by simp at h⟩
  | x :: l => by
    obtain ⟨ih1, ih2⟩ := skip_stop l
    constructor
    · intro c t
      rw [skipL]
      split
      · rw [Nat.add_comm, List.drop_succ_cons]; exact ih1 c t
      · split
        · rw [Nat.add_comm, List.drop_succ_cons]; exact ih2 c t
        · intro h
          rw [List.drop_zero] at h
          injection h with h1 h2
          subst h1
          exact ⟨by assumption, by assumption⟩
    · intro c t
      rw [skipL]
      split
      · rw [Nat.add_comm, List.drop_succ_cons]; exact ih1 c t
      · rw [Nat.add_comm, List.drop_succ_cons]; exact ih2 c t
theorem pre_len (k : Nat) (l : List UInt8) (h : pre k l = true) : (signL k).length ≤ l.length := by
  unfold pre at h
  rw [List.isPrefixOf_iff_prefix] at h
  exact h.length_le
theorem sgF_spec : ∀ (f k : Nat) (l : List UInt8), sgF f k l ≠ 0 → k ≤ sgF f k l ∧ sgF f k l < k + f ∧ pre (sgF f k l) l = true
  | 0, k, l, h => by simp [sgF] at h
  | f + 1, k, l, h => by
    unfold sgF at h ⊢
    by_cases hp : pre k l = true
    · rw [if_pos hp] at h ⊢; exact ⟨Nat.le_refl _, by omega, hp⟩
    · rw [if_neg hp] at h ⊢
      obtain ⟨h1, h2, h3⟩ := sgF_spec f (k + 1) l h
      exact ⟨by omega, by omega, h3⟩
theorem sgF_zero : ∀ (f k : Nat) (l : List UInt8), 0 < k → sgF f k l = 0 → ∀ j, k ≤ j → j < k + f → ¬ pre j l = true
  | 0, k, l, _, _, j, h1, h2 => by omega
  | f + 1, k, l, hk, h, j, h1, h2 => by
    unfold sgF at h
    by_cases hp : pre k l = true
    · rw [if_pos hp] at h; omega
    · rw [if_neg hp] at h
      by_cases hj : j = k
      · subst hj; exact hp
      · exact sgF_zero f (k + 1) l (by omega) h j (by omega) (by omega)
theorem signL_len (k : Nat) (h : 7 ≤ k) (h' : k < 13) : 1 ≤ (signL k).length := by
  have : k = 7 ∨ k = 8 ∨ k = 9 ∨ k = 10 ∨ k = 11 ∨ k = 12 := by omega
  rcases this with rfl | rfl | rfl | rfl | rfl | rfl <;> decide
theorem kind_reg (c : UInt8) (h1 : ¬ kindI c.toNat = 1) (h2 : c ≠ 40 ∧ c ≠ 41 ∧ c ≠ 60 ∧ c ≠ 62 ∧ c ≠ 91 ∧ c ≠ 93 ∧ c ≠ 123 ∧ c ≠ 125 ∧ c ≠ 47 ∧ c ≠ 37) : kindI c.toNat = 3 := by
  unfold kindI at h1 ⊢
  split at h1
  · simp at h1
  · rename_i hb
    rw [if_neg hb, if_neg]
    intro h
    have e : ∀ n : UInt8, (c.toNat : Int) = n.toNat → c = n := fun n hn => UInt8.toNat_inj.1 (by omega)
    obtain ⟨a1, a2, a3, a4, a5, a6, a7, a8, a9, a10⟩ := h2
    rcases h with h | h | h | h | h | h | h | h | h | h
    · exact a1 (e 40 h)
    · exact a2 (e 41 h)
    · exact a3 (e 60 h)
    · exact a4 (e 62 h)
    · exact a5 (e 91 h)
    · exact a6 (e 93 h)
    · exact a7 (e 123 h)
    · exact a8 (e 125 h)
    · exact a9 (e 47 h)
    · exact a10 (e 37 h)
theorem nameF_len (k : Int) (l : List UInt8) : (nameF k l).2.2 ≤ l.length := by
  unfold nameF
  split
  · exact Nat.zero_le _
  · exact regL_le l
theorem wordF_len (l : List UInt8) : (wordF l).2.2 ≤ l.length := by
  unfold wordF
  split
  · rename_i h
    exact pre_len _ _ (sgF_spec 6 7 l h).2.2
  · split
    · exact takeF_len l
    · split
      · exact Nat.zero_le _
      · split
        · rename_i h
          split
          · rename_i h2
            have := nameF_len 5 (l.drop 2)
            rw [List.length_drop] at this
            match l, h, h2 with
            | [], h, _ => simp at h
            | [x], _, h2 => simp at h2
            | x :: y :: r, _, _ => simp only [List.length_cons] at this ⊢; omega
          · have := nameF_len 4 (l.drop 1)
            rw [List.length_drop] at this
            cases l with
            | nil => simp at h
            | cons => simp only [List.length_cons] at this ⊢; omega
        · split
          · exact regL_le l
          · split
            · exact Nat.zero_le _
            · exact nameF_len 3 l
theorem wordF_ge (c : UInt8) (t : List UInt8) (h1 : ¬ kindI c.toNat = 1) (h2 : ¬ c = 37) (h0 : (wordF (c :: t)).1 = 0) : 1 ≤ (wordF (c :: t)).2.2 := by
  unfold wordF at h0 ⊢
  by_cases c1 : sgF 6 7 (c :: t) ≠ 0
  · rw [if_pos c1]
    obtain ⟨a1, a2, -⟩ := sgF_spec 6 7 (c :: t) c1
    exact signL_len _ a1 a2
  rw [if_neg c1] at h0 ⊢
  by_cases c2 : (c :: t).head? = some 40 ∨ (c :: t).head? = some 60
  · rw [if_pos c2] at h0 ⊢; exact takeF_ge _ h0
  rw [if_neg c2] at h0 ⊢
  by_cases c3 : (c :: t).head? = some 62 ∨ (c :: t).head? = some 41
  · rw [if_pos c3] at h0; simp at h0
  rw [if_neg c3] at h0 ⊢
  by_cases c4 : (c :: t).head? = some 47
  · rw [if_pos c4]; split <;> simp only <;> omega
  rw [if_neg c4] at h0 ⊢
  have hz := sgF_zero 6 7 (c :: t) (by omega) (by omega)
  have hn : ∀ k : Nat, 7 ≤ k → k < 13 → ∀ x, signL k = [x] → c ≠ x := fun k hk hk' x hx e => hz k hk hk' (by
    unfold pre; rw [hx, e]; simp [List.isPrefixOf])
  have hr : kindI c.toNat = 3 := kind_reg c h1 ⟨fun e => c2 (.inl (by rw [e]; rfl)), fun e => c3 (.inr (by rw [e]; rfl)), fun e => c2 (.inr (by rw [e]; rfl)), fun e => c3 (.inl (by rw [e]; rfl)),
    hn 9 (by omega) (by omega) 91 rfl, hn 10 (by omega) (by omega) 93 rfl, hn 7 (by omega) (by omega) 123 rfl, hn 8 (by omega) (by omega) 125 rfl, fun e => c4 (by rw [e]; rfl), h2⟩
  have hg : 1 ≤ regL (c :: t) := by
    unfold regL isReg
    rw [List.takeWhile_cons, hr]
    simp
  split at h0
  · rename_i h3; rw [if_pos h3]; exact hg
  · rename_i h3
    rw [if_neg h3]
    split at h0
    · simp at h0
    · rename_i h4
      rw [if_neg h4]
      unfold nameF at h0 ⊢
      split at h0
      · simp at h0
      · rename_i h5; rw [if_neg h5]; exact hg
theorem readS_kind (l : List UInt8) (k : Nat) (b : Bool) : (readS l k b).2.2 = 0 → 1 ≤ (readS l k b).1 ∧ (readS l k b).1 ≤ 2 := by
  unfold readS
  repeat' split
  all_goals first
    | (intro h; exact absurd h (by decide))
    | exact fun _ => ⟨show (1 : Int) ≤ 1 by decide, show (1 : Int) ≤ 2 by decide⟩
    | exact fun _ => ⟨show (1 : Int) ≤ 2 by decide, show (2 : Int) ≤ 2 by decide⟩
theorem readF_kind (l : List UInt8) (h : (readF l).2.2 = 0) : 1 ≤ (readF l).1 ∧ (readF l).1 ≤ 2 := by
  unfold readF at h ⊢
  cases hb : basedF l with
  | some v =>
    rw [hb] at h
    simp only at h ⊢
    split at h
    · exact absurd h (by decide)
    · rename_i h2; rw [if_neg h2]; simp
  | none =>
    rw [hb] at h
    simp only at h ⊢
    by_cases c1 : l.head? = some 43
    · rw [if_pos c1] at h ⊢; exact readS_kind l 1 false h
    · rw [if_neg c1] at h ⊢
      by_cases c2 : l.head? = some 45
      · rw [if_pos c2] at h ⊢; exact readS_kind l 1 true h
      · rw [if_neg c2] at h ⊢; exact readS_kind l 0 false h
theorem nameF_kind (k : Int) (l : List UInt8) (h0 : (nameF k l).1 = 0) : (nameF k l).2.1.kind = k := by
  unfold nameF at h0 ⊢
  split at h0
  · exact absurd h0 (by decide)
  · rename_i h; rw [if_neg h]
theorem wordF_kind (l : List UInt8) (h0 : (wordF l).1 = 0) : 1 ≤ (wordF l).2.1.kind := by
  unfold wordF at h0 ⊢
  by_cases c1 : sgF 6 7 l ≠ 0
  · rw [if_pos c1]
    have := (sgF_spec 6 7 l c1).1
    show (1 : Int) ≤ (sgF 6 7 l : Nat)
    omega
  rw [if_neg c1] at h0 ⊢
  by_cases c2 : l.head? = some 40 ∨ l.head? = some 60
  · rw [if_pos c2]; simp
  rw [if_neg c2] at h0 ⊢
  by_cases c3 : l.head? = some 62 ∨ l.head? = some 41
  · rw [if_pos c3] at h0; exact absurd h0 (by decide)
  rw [if_neg c3] at h0 ⊢
  by_cases c4 : l.head? = some 47
  · rw [if_pos c4] at h0 ⊢
    split at h0
    · rename_i c5; rw [if_pos c5]; have := nameF_kind 5 _ h0; simp only; omega
    · rename_i c5; rw [if_neg c5]; have := nameF_kind 4 _ h0; simp only; omega
  rw [if_neg c4] at h0 ⊢
  by_cases c5 : (readF (l.take (regL l))).2.2 = 0
  · rw [if_pos c5]; exact (readF_kind _ c5).1
  rw [if_neg c5] at h0 ⊢
  split at h0
  · exact absurd h0 (by decide)
  · rename_i c6; rw [if_neg c6]; have := nameF_kind 3 _ h0; omega
/-- The next word lies within the text, and is not empty. -/
theorem next_prog (a : Nat) (l : List UInt8) (h : (tokAt a l).kind ≠ 0) : 1 ≤ (nextF l).2.2.1 + (nextF l).2.2.2 ∧ (nextF l).2.2.1 + (nextF l).2.2.2 ≤ l.length ∧ (tokAt a l).pos = ((a + (nextF l).2.2.1 : Nat) : Int) := by
  unfold tokAt at h ⊢
  by_cases c : l.drop (skipL false l) = [] ∨ (nextF l).1 ≠ 0
  · rw [if_pos c] at h; exact absurd rfl h
  rw [if_neg c]
  have c1 : ¬ l.drop (skipL false l) = [] := fun e => c (.inl e)
  have c2 : (nextF l).1 = 0 := Classical.byContradiction fun e => c (.inr e)
  have hk := skipL_len false l
  have hst := (skip_stop l).1
  unfold nextF at c2 ⊢
  rw [if_neg c1] at c2 ⊢
  split at c2
  · rename_i c3
    rw [if_pos c3]
    have hw := wordF_len (l.drop (skipL false l))
    rw [List.length_drop] at hw
    cases hd : l.drop (skipL false l) with
    | nil => exact absurd hd c1
    | cons x t =>
      obtain ⟨h1, h2⟩ := hst x t hd
      rw [hd] at c3 hw
      have := wordF_ge x t h1 h2 c3
      refine ⟨by simp only; omega, by simp only; omega, rfl⟩
  · rename_i c3; exact absurd c2 c3
end Go.Proofs.Ytgahapnjlngebaa
