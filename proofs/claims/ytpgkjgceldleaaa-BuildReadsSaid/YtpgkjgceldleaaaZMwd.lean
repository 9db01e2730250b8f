/- Plain: whatever word is read may be. -/
import Derived.Test.YtpgkjgceldleaaaZPrf
import Derived.Test.YtpgkjgceldleaaaZTokc
namespace Go.Proofs.Ytpgkjgceldleaaa
open Go.RowKit

theorem parenW_most : ∀ (n : Nat) (l : List UInt8), l.length ≤ n → ∀ (i deep : Nat) (b : List UInt8), b.length ≤ 4000 → (parenW l i deep b).2.1.length ≤ 4000
  | n, [], _, i, deep, b, _ => by rw [parenW]; simp
  | 0, c :: t, h, _, _, _, _ => by simp at h
  | n + 1, c :: t, h, i, deep, b, hb => by
    have ht : t.length ≤ n := by simpa using h
    rw [parenW]
    repeat' split
    all_goals first
      | exact Nat.zero_le _
      | exact hb
      | exact parenW_most n _ (by first | exact ht | (rw [List.length_drop]; omega)) _ _ _ (by first | exact hb | (rw [List.length_append]; simp only [List.length_cons, List.length_nil]; omega))
theorem hexW_most : ∀ (l : List UInt8) (i : Nat) (half : Int) (b : List UInt8), b.length ≤ 4000 → (hexW l i half b).2.1.length ≤ 4000
  | [], i, half, b, _ => by rw [hexW]; simp
  | c :: t, i, half, b, hb => by
    rw [hexW]
    repeat' split
    all_goals first
      | exact Nat.zero_le _
      | exact hb
      | (show (b ++ [_]).length ≤ 4000; rw [List.length_append]; simp only [List.length_cons, List.length_nil]; omega)
      | exact hexW_most t _ _ _ (by first | exact hb | (rw [List.length_append]; simp only [List.length_cons, List.length_nil]; omega))
theorem four_len (v : Int) : (four v).length = 4 := rfl
theorem lastF_most (g b : List UInt8) (hb : b.length ≤ 4000) : (lastF g b).2.2.length ≤ 4000 := by
  unfold lastF
  repeat' split
  all_goals first
    | exact hb
    | (show (b ++ _).length ≤ 4000; rw [List.length_append, List.length_take]; omega)
theorem eightyW_most : ∀ (l : List UInt8) (i : Nat) (g b : List UInt8), b.length ≤ 4000 → (eightyW l i g b).2.1.length ≤ 4000
  | [], i, g, b, _ => by rw [eightyW]; simp
  | c :: t, i, g, b, hb => by
    rw [eightyW]
    repeat' split
    all_goals first
      | exact Nat.zero_le _
      | exact lastF_most g b hb
      | exact eightyW_most t _ _ _ (by first | exact hb | (rw [List.length_append]; simp only [four_len, List.length_cons, List.length_nil]; omega))
theorem takeF_most (l : List UInt8) : (takeF l).2.1.length ≤ 4000 := by
  unfold takeF
  split
  · unfold takeW
    repeat' split
    · exact parenW_most _ _ (Nat.le_refl _) _ _ _ (by simp)
    · exact eightyW_most _ _ _ _ (by simp)
    · exact hexW_most _ _ _ _ (by simp)
    · exact Nat.zero_le _
  · exact Nat.zero_le _
theorem accB_ge (base : Int) (h : 0 ≤ base) : ∀ (l : List UInt8) (v r : Int), 0 ≤ v → accB base v l = some r → 0 ≤ r
  | [], v, r, h0, hr => by
    rw [accB] at hr; injection hr with hr; omega
  | c :: l, v, r, h0, hr => by
    rw [accB] at hr
    split at hr
    · exact absurd hr (by simp)
    · rename_i hc
      have h2 : 0 ≤ v * base := Int.mul_nonneg h0 h
      refine accB_ge base h l _ r ?_ hr
      split <;> omega
theorem dig_acc (l : List UInt8) (m : Int) (h : 0 ≤ m) : 0 ≤ accD m 0 (digL l) := (accD_le m h (digL l) (digL_all l) 0 (by omega) h).1
theorem readS_may (l : List UInt8) (k : Nat) (b : Bool) :
    ((readS l k b).2.2 = 0 → ((readS l k b).1 = 1 ∧ -2147483647 ≤ (readS l k b).2.1 ∧ (readS l k b).2.1 ≤ 2147483647) ∨ ((readS l k b).1 = 2 ∧ -1073741823 ≤ (readS l k b).2.1 ∧ (readS l k b).2.1 ≤ 1073741823)) ∧
    ((readS l k b).2.2 = 0 ∨ (readS l k b).2.2 = 2 ∨ (readS l k b).2.2 = 3) := by
  have h1 := dig_acc (l.drop k) 2147483648 (by decide)
  have h2 := dig_acc (l.drop (k + (digL (l.drop k)).length + 1)) 1000000000000 (by decide)
  have h3 : (1 : Int) ≤ 10 ^ (digL (l.drop (k + (digL (l.drop k)).length + 1))).length := by
    have : (0 : Int) < 10 ^ (digL (l.drop (k + (digL (l.drop k)).length + 1))).length := Int.pow_pos (by decide)
    omega
  have h4 := (nearI_le (accD 1000000000000 0 (digL (l.drop (k + (digL (l.drop k)).length + 1))) * 65536) _ (by omega) h3).1
  unfold readS
  generalize nearI _ _ = x at *
  generalize accD 2147483648 0 _ = y at *
  have hs : ∀ z m : Int, 0 ≤ z → z ≤ m → -m ≤ sgnI b z ∧ sgnI b z ≤ m := fun z m a c => by unfold sgnI; split <;> omega
  repeat' split
  all_goals first
    | exact ⟨fun h => absurd h (show ¬ (2 : Int) = 0 by decide), .inr (.inl rfl)⟩
    | exact ⟨fun h => absurd h (show ¬ (3 : Int) = 0 by decide), .inr (.inr rfl)⟩
    | exact ⟨fun _ => .inl ⟨rfl, hs _ _ (by omega) (by omega)⟩, .inl rfl⟩
    | exact ⟨fun _ => .inr ⟨rfl, hs _ _ (by omega) (by omega)⟩, .inl rfl⟩
theorem readF_may (l : List UInt8) :
    ((readF l).2.2 = 0 → ((readF l).1 = 1 ∧ -2147483647 ≤ (readF l).2.1 ∧ (readF l).2.1 ≤ 2147483647) ∨ ((readF l).1 = 2 ∧ -1073741823 ≤ (readF l).2.1 ∧ (readF l).2.1 ≤ 1073741823)) ∧
    ((readF l).2.2 = 0 ∨ (readF l).2.2 = 2 ∨ (readF l).2.2 = 3) := by
  unfold readF
  cases hb : basedF l with
  | some v =>
    simp only
    have hv : 0 ≤ v := by
      unfold basedF at hb
      split at hb
      · exact absurd hb (by simp)
      · exact accB_ge _ (dig_acc l 1000 (by decide)) _ 0 v (by omega) hb
    split
    · exact ⟨fun h => absurd h (show ¬ (2 : Int) = 0 by decide), .inr (.inl rfl)⟩
    · exact ⟨fun _ => .inl ⟨rfl, by show -2147483647 ≤ v; omega, by show v ≤ 2147483647; omega⟩, .inl rfl⟩
  | none =>
    simp only
    split
    · exact readS_may l 1 false
    split
    · exact readS_may l 1 true
    · exact readS_may l 0 false
theorem take_reg (l : List UInt8) : l.take (regL l) = l.takeWhile isReg := by
  unfold regL
  induction l with
  | nil => rfl
  | cons c l ih =>
    rw [List.takeWhile_cons]
    split
    · rw [List.length_cons, List.take_succ_cons, ih]
    · rfl
theorem reg_reg (l : List UInt8) : regL (l.take (regL l)) = (l.take (regL l)).length := by
  rw [take_reg]
  have := reg_len (l.takeWhile isReg) [] (List.all_takeWhile ..) (.inl rfl)
  rwa [List.append_nil] at this
theorem nameF_may (k : Int) (l : List UInt8) (h0 : (nameF k l).1 = 0) (hk : k = 4 ∨ k = 5 ∨ (k = 3 ∧ (readF (l.take (regL l))).2.2 = 3 ∧ l.take (regL l) ≠ [])) : mayT (nameF k l).2.1 = true := by
  unfold nameF at h0 ⊢
  split at h0
  · simp at h0
  · rename_i h
    rw [if_neg h]
    have hr := reg_reg l
    have hle : (l.take (regL l)).length ≤ 100 := by rw [List.length_take]; omega
    have hsz : (bytesB (l.take (regL l))).size = (l.take (regL l)).length := rfl
    unfold mayT
    simp only [nameT]
    rw [bytesB_lst, hsz, hr]
    rcases hk with rfl | rfl | ⟨rfl, h3, h4⟩
    · generalize (l.take (regL l)).length = m at *
      simp [hle]
    · generalize (l.take (regL l)).length = m at *
      simp [hle]
    · have h5 : (l.take (regL l)).length ≠ 0 := fun e => h4 (List.eq_nil_of_length_eq_zero e)
      rw [h3]
      generalize (l.take (regL l)).length = m at *
      simp [hle, h5]
theorem word_may (c : UInt8) (t : List UInt8) (h1 : ¬ kindI c.toNat = 1) (h2 : ¬ c = 37) (h0 : (wordF (c :: t)).1 = 0) : mayT (wordF (c :: t)).2.1 = true := by
  unfold wordF at h0 ⊢
  by_cases c1 : sgF 6 7 (c :: t) ≠ 0
  · rw [if_pos c1]
    obtain ⟨a1, a2, -⟩ := sgF_spec 6 7 (c :: t) c1
    generalize sgF 6 7 (c :: t) = k at *
    have : k = 7 ∨ k = 8 ∨ k = 9 ∨ k = 10 ∨ k = 11 ∨ k = 12 := by omega
    rcases this with rfl | rfl | rfl | rfl | rfl | rfl <;> rfl
  rw [if_neg c1] at h0 ⊢
  by_cases c2 : (c :: t).head? = some 40 ∨ (c :: t).head? = some 60
  · rw [if_pos c2]
    have := takeF_most (c :: t)
    show decide ((bytesB (takeF (c :: t)).2.1).size ≤ 4000) = true
    exact decide_eq_true this
  rw [if_neg c2] at h0 ⊢
  by_cases c3 : (c :: t).head? = some 62 ∨ (c :: t).head? = some 41
  · rw [if_pos c3] at h0; simp at h0
  rw [if_neg c3] at h0 ⊢
  by_cases c4 : (c :: t).head? = some 47
  · rw [if_pos c4] at h0 ⊢
    split at h0
    · rename_i h5; rw [if_pos h5]; exact nameF_may 5 _ h0 (.inr (.inl rfl))
    · rename_i h5; rw [if_neg h5]; exact nameF_may 4 _ h0 (.inl rfl)
  rw [if_neg c4] at h0 ⊢
  have hz := sgF_zero 6 7 (c :: t) (by omega) (by omega)
  have hn : ∀ k : Nat, 7 ≤ k → k < 13 → ∀ x, signL k = [x] → c ≠ x := fun k hk hk' x hx e => hz k hk hk' (by
    unfold pre; rw [hx, e]; simp [List.isPrefixOf])
  have hr : kindI c.toNat = 3 := kind_reg c h1 ⟨fun e => c2 (.inl (by rw [e]; rfl)), fun e => c3 (.inr (by rw [e]; rfl)), fun e => c2 (.inr (by rw [e]; rfl)), fun e => c3 (.inl (by rw [e]; rfl)),
    hn 9 (by omega) (by omega) 91 rfl, hn 10 (by omega) (by omega) 93 rfl, hn 7 (by omega) (by omega) 123 rfl, hn 8 (by omega) (by omega) 125 rfl, fun e => c4 (by rw [e]; rfl), h2⟩
  have hg : (c :: t).take (regL (c :: t)) ≠ [] := by
    rw [take_reg, List.takeWhile_cons]
    unfold isReg
    rw [hr]
    simp
  obtain ⟨r1, r2⟩ := readF_may ((c :: t).take (regL (c :: t)))
  by_cases c5 : (readF ((c :: t).take (regL (c :: t)))).2.2 = 0
  · rw [if_pos c5]
    generalize readF ((c :: t).take (regL (c :: t))) = R at *
    obtain ⟨rk, rv, re⟩ := R
    rcases r1 c5 with ⟨h5, h6, h7⟩ | ⟨h5, h6, h7⟩
    · simp only at h5 h6 h7; subst h5
      show (decide ((⟨#[]⟩ : ByteArray).size = 0) && decide (-2147483647 ≤ rv) && decide (rv ≤ 2147483647)) = true
      rw [decide_eq_true h6, decide_eq_true h7]; rfl
    · simp only at h5 h6 h7; subst h5
      show (decide ((⟨#[]⟩ : ByteArray).size = 0) && decide (-1073741823 ≤ rv) && decide (rv ≤ 1073741823)) = true
      rw [decide_eq_true h6, decide_eq_true h7]; rfl
  rw [if_neg c5] at h0 ⊢
  by_cases c6 : (readF ((c :: t).take (regL (c :: t)))).2.2 = 2
  · rw [if_pos c6] at h0; simp at h0
  rw [if_neg c6] at h0 ⊢
  exact nameF_may 3 _ h0 (.inr (.inr ⟨rfl, by omega, hg⟩))
theorem may_pos (t : Tok) (p : Int) : mayT { t with pos := p } = mayT t := rfl
theorem tokAt_may (l : List UInt8) (a : Nat) (h0 : (nextF l).1 = 0) (hk : (tokAt a l).kind ≠ 0) : mayT (tokAt a l) = true := by
  unfold tokAt at hk ⊢
  by_cases h1 : l.drop (skipL false l) = [] ∨ (nextF l).1 ≠ 0
  · rw [if_pos h1] at hk; exact absurd rfl hk
  · rw [if_neg h1, may_pos]
    cases hd : l.drop (skipL false l) with
    | nil => exact absurd (.inl hd) h1
    | cons c t =>
      obtain ⟨h2, h3⟩ := (skip_stop l).1 c t hd
      unfold nextF at h0 ⊢
      rw [hd] at h0 ⊢
      rw [if_neg (by simp)] at h0 ⊢
      by_cases h4 : (wordF (c :: t)).1 = 0
      · rw [if_pos h4]; exact word_may c t h2 h3 h4
      · rw [if_neg h4] at h0; exact absurd h0 h4
theorem allW_may : ∀ (f : Nat) (l : List UInt8) (a : Nat) (acc : List Tok), (∀ t ∈ acc, mayT t = true) → acc.length ≤ 4000 → (∀ t ∈ (allW f l a acc).2.1, mayT t = true) ∧ (allW f l a acc).2.1.length ≤ 4000 ∧ ((allW f l a acc).1 ≠ 0 → (allW f l a acc).2.1 = [])
  | 0, l, a, acc, h, hl => ⟨h, hl, fun e => absurd rfl e⟩
  | f + 1, l, a, acc, h, hl => by
    rw [allW]
    split
    · exact ⟨by simp, by simp, fun _ => rfl⟩
    rename_i h0
    split
    · exact ⟨h, hl, fun e => absurd rfl e⟩
    rename_i h1
    split
    · exact ⟨by simp, by simp, fun _ => rfl⟩
    rename_i h2
    have h3 := tokAt_may l a (by simpa using h0) h1
    refine allW_may f _ _ _ (fun t ht => ?_) (by rw [List.length_append]; simp only [List.length_cons, List.length_nil]; omega)
    rcases List.mem_append.1 ht with h4 | h4
    · exact h t h4
    · rw [List.mem_singleton.1 h4]; exact h3
theorem allF_may (l : List UInt8) : (∀ t ∈ (allF l).2.1, mayT t = true) ∧ (allF l).2.1.length ≤ 4000 ∧ ((allF l).1 ≠ 0 → (allF l).2.1 = []) := by
  unfold allF
  split
  · exact ⟨by simp, by simp, fun _ => rfl⟩
  · exact allW_may _ _ _ [] (by simp) (by simp)
end Go.Proofs.Ytpgkjgceldleaaa
