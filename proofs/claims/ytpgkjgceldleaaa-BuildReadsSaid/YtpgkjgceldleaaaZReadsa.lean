/- Uva, Uvb, Uvc -/
import Derived.Test.YtpgkjgceldleaaaZPrg
import Derived.Test.YtpgkjgceldleaaaZTokc
import Derived.Test.YtpgkjgceldleaaaZBuildc
import Derived.Test.YtpgkjgceldleaaaZSayb
import Derived.Test.YtpgkjgceldleaaaZUbu
/- BuildReads, plain: a text of words, some of them in braces, is read back. -/
namespace Go.Proofs.Ytpgkjgceldleaaa
open Go.RowKit

/-- Nothing, or first a byte that ends a name, and no stroke. -/
def EndR (T : List UInt8) : Prop := T = [] ∨ ∃ c t, T = c :: t ∧ (isReg c = false ∧ c ≠ 47)
theorem reg_appR : ∀ (s T : List UInt8), s.all isReg = true → EndR T → (s ++ T).takeWhile isReg = s
  | [], T, _, hT => by
    rcases hT with rfl | ⟨c, t, rfl, hc⟩
    · rfl
    · rw [List.nil_append, List.takeWhile_cons, hc.1]; rfl
  | c :: s, T, hs, hT => by
    rw [List.all_cons, Bool.and_eq_true] at hs
    rw [List.cons_append, List.takeWhile_cons, hs.1, if_pos rfl, reg_appR s T hs.2 hT]
theorem reg_lenR (s T : List UInt8) (hs : s.all isReg = true) (hT : EndR T) : regL (s ++ T) = s.length := by unfold regL; rw [reg_appR s T hs hT]
theorem reg_takeR (s T : List UInt8) (hs : s.all isReg = true) (hT : EndR T) : (s ++ T).take (regL (s ++ T)) = s := by rw [reg_lenR s T hs hT, List.take_left]
theorem nameF_ofR (k : Int) (s T : List UInt8) (hs : s.all isReg = true) (hT : EndR T) (h : s.length ≤ 100) : nameF k (s ++ T) = (0, nameT k s, s.length) := by
  unfold nameF
  rw [reg_takeR s T hs hT, reg_lenR s T hs hT, if_neg (by omega)]
theorem word_regR (s T : List UInt8) (hs : s.all isReg = true) (hn : s ≠ []) (hT : EndR T) : wordF (s ++ T) =
    if (readF s).2.2 = 0 then (0, ⟨(readF s).1, (readF s).2.1, ⟨#[]⟩, 0⟩, s.length) else if (readF s).2.2 = 2 then (2, Tok.nil, 0) else nameF 3 (s ++ T) := by
  have ht := reg_takeR s T hs hT
  have hl := reg_lenR s T hs hT
  cases s with
  | nil => exact absurd rfl hn
  | cons c s =>
    rw [List.all_cons, Bool.and_eq_true] at hs
    obtain ⟨a1, a2, a3, a4, a5, a6, a7, a8, a9, a10⟩ := reg_ne c hs.1
    have hh : ((c :: s) ++ T).head? = some c := rfl
    unfold wordF
    rw [ht, hl, hh]
    rw [show (c :: s) ++ T = c :: (s ++ T) from rfl, sg_none c _ a3 a4 a5 a6 a7 a8]
    simp [a1, a2, a3, a4, a9]
theorem word_backR (t : Tok) (hm : mayT t = true) (T : List UInt8) (hT : EndR T) : wordF (printL t ++ T) = (0, { t with pos := 0 }, (printL t).length) := by
  obtain ⟨k, n, s, p⟩ := t
  unfold mayT at hm
  unfold printL
  simp only at hm ⊢
  by_cases h1 : k = 1
  · subst h1
    simp only [if_true, Bool.and_eq_true, decide_eq_true_eq] at hm ⊢
    obtain ⟨⟨h2, h3⟩, h4⟩ := hm
    rw [word_regR _ T (int_reg n).1 (int_reg n).2 hT, int_read n h3 h4, size0 h2]
    rfl
  rw [if_neg h1] at hm ⊢
  by_cases h2 : k = 2
  · subst h2
    simp only [if_true, Bool.and_eq_true, decide_eq_true_eq] at hm ⊢
    obtain ⟨⟨h2, h3⟩, h4⟩ := hm
    rw [word_regR _ T (fix_reg n).1 (fix_reg n).2 hT, fix_read n h3 h4, size0 h2]
    rfl
  rw [if_neg h2] at hm ⊢
  by_cases hn : n ≠ 0
  · rw [if_pos hn] at hm; exact absurd hm (by decide)
  rw [if_neg hn] at hm
  obtain rfl : n = 0 := by omega
  by_cases h3 : k = 3
  · subst h3
    simp only [if_true, Bool.and_eq_true, decide_eq_true_eq] at hm ⊢
    obtain ⟨⟨⟨h4, h5⟩, h6⟩, h7⟩ := hm
    have hr := all_reg s.toList (by rw [h7, tl_size])
    have hne : s.toList ≠ [] := fun h => h5 (by rw [← tl_size, h]; rfl)
    rw [word_regR _ T hr hne hT, h4, if_neg (by decide), if_neg (by decide), nameF_ofR 3 _ T hr hT (by rw [tl_size]; exact h6)]
    unfold nameT
    rw [bytes_tl]
  rw [if_neg h3] at hm ⊢
  have hsl : ∀ (u : List UInt8), sgF 6 7 (47 :: u) = 0 := fun u => sg_none 47 u (by decide) (by decide) (by decide) (by decide) (by decide) (by decide)
  by_cases h4 : k = 4
  · subst h4
    simp only [true_or, if_true, Bool.and_eq_true, decide_eq_true_eq] at hm ⊢
    obtain ⟨h6, h7⟩ := hm
    have hr := all_reg s.toList (by rw [h7, tl_size])
    have hh : ¬ (s.toList ++ T).head? = some 47 := by
      cases hs : s.toList with
      | nil =>
        rcases hT with rfl | ⟨c, u, rfl, hc⟩
        · simp
        · simp; exact hc.2
      | cons c u =>
        rw [hs, List.all_cons, Bool.and_eq_true] at hr
        simp
        exact (reg_ne c hr.1).2.2.2.2.2.2.2.2.1
    unfold wordF
    rw [List.cons_append, hsl]
    simp only [List.head?_cons, List.drop_succ_cons, List.drop_zero]
    rw [if_neg (by decide), if_neg (by decide), if_neg (by decide), if_pos trivial, if_neg hh, nameF_ofR 4 _ T hr hT (by rw [tl_size]; exact h6)]
    unfold nameT
    rw [bytes_tl]
    simp; omega
  rw [if_neg h4]
  by_cases h5 : k = 5
  · subst h5
    simp only [or_true, if_true, Bool.and_eq_true, decide_eq_true_eq] at hm ⊢
    obtain ⟨h6, h7⟩ := hm
    have hr := all_reg s.toList (by rw [h7, tl_size])
    unfold wordF
    rw [List.cons_append, List.cons_append, hsl]
    simp only [List.head?_cons, List.drop_succ_cons, List.drop_zero]
    rw [if_neg (by decide), if_neg (by decide), if_neg (by decide), if_pos trivial, if_pos trivial, nameF_ofR 5 _ T hr hT (by rw [tl_size]; exact h6)]
    unfold nameT
    rw [bytes_tl]
    simp; omega
  rw [if_neg (fun h => h.elim h4 h5)] at hm
  rw [if_neg h5]
  by_cases h6 : k = 6
  · subst h6
    simp only [if_true, decide_eq_true_eq] at hm ⊢
    have hp : sgF 6 7 (parenL s.toList ++ T) = 0 := sg_none 40 _ (by decide) (by decide) (by decide) (by decide) (by decide) (by decide)
    unfold wordF
    rw [hp, paren_back _ T (by rw [tl_size]; exact hm)]
    rw [if_neg (by decide), if_pos (.inl rfl), bytes_tl]
  rw [if_neg h6] at hm ⊢
  simp only [Bool.and_eq_true, decide_eq_true_eq] at hm
  obtain ⟨h7, h8⟩ := hm
  rw [size0 h8]
  have hk : k = 7 ∨ k = 8 ∨ k = 9 ∨ k = 10 ∨ k = 11 ∨ k = 12 := by
    unfold signL at h7
    repeat' split at h7
    all_goals first | omega | exact absurd rfl h7
  rcases hk with rfl | rfl | rfl | rfl | rfl | rfl
  · have : sgF 6 7 (signL 7 ++ T) = 7 := by simp [sgF, pre, signL, List.isPrefixOf]
    unfold wordF; rw [this]; rfl
  · have : sgF 6 7 (signL 8 ++ T) = 8 := by simp [sgF, pre, signL, List.isPrefixOf]
    unfold wordF; rw [this]; rfl
  · have : sgF 6 7 (signL 9 ++ T) = 9 := by simp [sgF, pre, signL, List.isPrefixOf]
    unfold wordF; rw [this]; rfl
  · have : sgF 6 7 (signL 10 ++ T) = 10 := by simp [sgF, pre, signL, List.isPrefixOf]
    unfold wordF; rw [this]; rfl
  · have : sgF 6 7 (signL 11 ++ T) = 11 := by simp [sgF, pre, signL, List.isPrefixOf]
    unfold wordF; rw [this]; rfl
  · have : sgF 6 7 (signL 12 ++ T) = 12 := by simp [sgF, pre, signL, List.isPrefixOf]
    unfold wordF; rw [this]; rfl

theorem all_fuelR : ∀ (f g : Nat) (l : List UInt8) (a : Nat) (acc : List Tok), l.length < f → l.length < g → allW f l a acc = allW g l a acc
  | 0, _, l, _, _, h, _ => by omega
  | _ + 1, 0, l, _, _, _, h => by omega
  | f + 1, g + 1, l, a, acc, h1, h2 => by
    rw [allW, allW]
    by_cases c1 : (nextF l).1 ≠ 0
    · rw [if_pos c1, if_pos c1]
    rw [if_neg c1, if_neg c1]
    by_cases c2 : (tokAt a l).kind = 0
    · rw [if_pos c2, if_pos c2]
    rw [if_neg c2, if_neg c2]
    by_cases c3 : acc.length = 4000
    · rw [if_pos c3, if_pos c3]
    rw [if_neg c3, if_neg c3]
    have hp := next_prog a l c2
    exact all_fuelR f g _ _ _ (by rw [List.length_drop]; omega) (by rw [List.length_drop]; omega)
/-- One word that stands first. -/
theorem all_oneR (X T : List UInt8) (t : Tok) (c : UInt8) (u : List UInt8) (hX : X = c :: u) (h2 : kindI c.toNat ≠ 1) (h3 : c ≠ 37) (hw : wordF (X ++ T) = (0, t, X.length)) (hk : t.kind ≠ 0) (f a : Nat) (acc : List Tok) (hf : (X ++ T).length < f) (hn : acc.length < 4000) :
    allW f (X ++ T) a acc = allW f T (a + X.length) (acc ++ [{ t with pos := (a : Int) }]) := by
  have hs : skipL false (X ++ T) = 0 := by rw [hX, List.cons_append, skipL, if_neg h2, if_neg h3]
  have hne : ¬ (X ++ T) = [] := by rw [hX]; simp
  have hnx : nextF (X ++ T) = (0, t, 0, X.length) := by
    unfold nextF
    rw [hs, List.drop_zero, hw, if_neg hne]
    rfl
  have hta : tokAt a (X ++ T) = { t with pos := (a : Int) } := by
    unfold tokAt
    rw [hs, List.drop_zero, hnx, if_neg (by simp [hne])]
    rfl
  have hlX : 0 < X.length := by rw [hX]; simp
  rw [List.length_append] at hf
  obtain ⟨g, rfl⟩ : ∃ g, f = g + 1 := ⟨f - 1, by omega⟩
  rw [all_fuelR (g + 1) g T _ _ (by omega) (by omega)]
  rw [allW, hnx, hta]
  simp only [ne_eq, not_true_eq_false, if_false]
  rw [if_neg hk, if_neg (by omega), Nat.zero_add, List.drop_left]
  rfl
/-- A blank is skipped. -/
theorem all_blankR (T : List UInt8) (f a : Nat) (acc : List Tok) (hf : T.length + 1 < f) : allW f (32 :: T) a acc = allW f T (a + 1) acc := by
  have hs : skipL false (32 :: T) = 1 + skipL false T := skip_blank T
  have hd : ∀ n, (32 :: T).drop (1 + n) = T.drop n := fun n => by rw [Nat.add_comm, List.drop_succ_cons]
  have h1 : (nextF (32 :: T)).1 = (nextF T).1 ∧ (nextF (32 :: T)).2.1 = (nextF T).2.1 ∧ (nextF (32 :: T)).2.2.1 = 1 + (nextF T).2.2.1 ∧ (nextF (32 :: T)).2.2.2 = (nextF T).2.2.2 := by
    unfold nextF
    rw [hs, hd]
    split
    · exact ⟨rfl, rfl, rfl, rfl⟩
    · split <;> exact ⟨rfl, rfl, rfl, rfl⟩
  have h2 : tokAt a (32 :: T) = tokAt (a + 1) T := by
    unfold tokAt
    rw [hs, hd, h1.1, h1.2.1, show a + (1 + skipL false T) = a + 1 + skipL false T by omega]
  obtain ⟨g, rfl⟩ : ∃ g, f = g + 1 := ⟨f - 1, by omega⟩
  rw [allW, allW, h2, h1.1, h1.2.2.1, h1.2.2.2]
  have e1 : ∀ n, a + (1 + (nextF T).2.2.1) + n = a + 1 + (nextF T).2.2.1 + n := fun n => by omega
  rw [e1, show a + (1 + (nextF T).2.2.1) = a + 1 + (nextF T).2.2.1 by omega, show 1 + (nextF T).2.2.1 + (nextF T).2.2.2 = 1 + ((nextF T).2.2.1 + (nextF T).2.2.2) by omega, hd]
/-- What a word says, but for its place. -/
def k3 (t : Tok) : Int × Int × ByteArray := (t.kind, t.n, t.s)
theorem alike_k3 : ∀ (l m : List Tok), l.map k3 = m.map k3 → Alike false l m
  | [], [], _ => Alike.refl _ _
  | [], _ :: _, h => by simp at h
  | _ :: _, [], h => by simp at h
  | t :: l, u :: m, h => by
    simp only [List.map_cons, List.cons.injEq] at h
    obtain ⟨h1, h2⟩ := alike_k3 l m h.2
    refine ⟨by simp [h1], fun i x y hx hy => ?_⟩
    cases i with
    | zero =>
      simp only [List.getElem?_cons_zero, Option.some.injEq] at hx hy
      subst hx hy
      have := h.1
      simp only [k3, Prod.mk.injEq] at this
      exact ⟨this.1, this.2.1, this.2.2, fun h => Bool.noConfusion h⟩
    | succ i =>
      simp only [List.getElem?_cons_succ] at hx hy
      exact h2 i x y hx hy
/-- A text that is read as these words, whatever ends it. -/
def Rds (X : List UInt8) (ts : List Tok) : Prop := ∀ (T : List UInt8) (f a : Nat) (acc : List Tok), EndR T → (X ++ T).length < f → acc.length + ts.length ≤ 4000 →
  ∃ us, us.map k3 = ts.map k3 ∧ allW f (X ++ T) a acc = allW f T (a + X.length) (acc ++ us)
theorem Rds.nil : Rds [] [] := fun T f a acc _ _ _ => ⟨[], rfl, by simp⟩
theorem Rds.word (t : Tok) (hm : mayT t = true) : Rds (printL t) [t] := fun T f a acc hT hf hn => by
  obtain ⟨c, u, h1, h2, h3⟩ := print_head t hm
  simp only [List.length_cons, List.length_nil] at hn
  exact ⟨[{ t with pos := (a : Int) }], rfl, all_oneR (printL t) T { t with pos := 0 } c u h1 h2 h3 (word_backR t hm T hT) (may_kind t hm) f a acc hf (by omega)⟩
theorem Rds.cat {X Y : List UInt8} {ts us : List Tok} (h1 : Rds X ts) (h2 : Rds Y us) : Rds (X ++ 32 :: Y) (ts ++ us) := fun T f a acc hT hf hn => by
  have e : X ++ 32 :: Y ++ T = X ++ (32 :: (Y ++ T)) := by simp
  rw [e] at hf ⊢
  rw [List.length_append] at hn
  obtain ⟨v1, k1, e1⟩ := h1 (32 :: (Y ++ T)) f a acc (.inr ⟨32, _, rfl, by decide, by decide⟩) hf (by omega)
  have l1 : v1.length = ts.length := by have := congrArg List.length k1; simpa using this
  rw [List.length_append, List.length_cons] at hf
  obtain ⟨v2, k2, e2⟩ := h2 T f (a + X.length + 1) (acc ++ v1) hT (by omega) (by rw [List.length_append]; omega)
  refine ⟨v1 ++ v2, by rw [List.map_append, List.map_append, k1, k2], ?_⟩
  rw [e1, all_blankR _ _ _ _ (by omega), e2, List.append_assoc, List.length_append, List.length_cons]
  congr 1
  omega
theorem word_7 (T : List UInt8) : wordF (123 :: T) = (0, ⟨7, 0, ⟨#[]⟩, 0⟩, 1) := by
  have : sgF 6 7 (123 :: T) = 7 := by simp [sgF, pre, signL, List.isPrefixOf]
  unfold wordF; rw [this]; rfl
theorem word_8 (T : List UInt8) : wordF (125 :: T) = (0, ⟨8, 0, ⟨#[]⟩, 0⟩, 1) := by
  have : sgF 6 7 (125 :: T) = 8 := by simp [sgF, pre, signL, List.isPrefixOf]
  unfold wordF; rw [this]; rfl
theorem Rds.brace {X : List UInt8} {ts : List Tok} (h : Rds X ts) : Rds (123 :: (X ++ [125])) (⟨7, 0, ⟨#[]⟩, 0⟩ :: (ts ++ [⟨8, 0, ⟨#[]⟩, 0⟩])) := fun T f a acc hT hf hn => by
  simp only [List.length_cons, List.length_append, List.length_nil] at hn
  have e : 123 :: (X ++ [125]) ++ T = [123] ++ (X ++ (125 :: T)) := by simp
  rw [e] at hf ⊢
  have e1 := all_oneR [123] (X ++ 125 :: T) ⟨7, 0, ⟨#[]⟩, 0⟩ 123 [] rfl (by decide) (by decide) (word_7 _) (by decide) f a acc hf (by omega)
  rw [e1]
  simp only [List.length_append, List.length_cons, List.length_nil] at hf
  obtain ⟨v, k, e2⟩ := h (125 :: T) f (a + 1) (acc ++ [⟨7, 0, ⟨#[]⟩, (a : Int)⟩]) (.inr ⟨125, _, rfl, by decide, by decide⟩) (by simp; omega) (by simp; omega)
  have l1 : v.length = ts.length := by have := congrArg List.length k; simpa using this
  have e3 := all_oneR [125] T ⟨8, 0, ⟨#[]⟩, 0⟩ 125 [] rfl (by decide) (by decide) (word_8 _) (by decide) f (a + 1 + X.length) (acc ++ [⟨7, 0, ⟨#[]⟩, (a : Int)⟩] ++ v) (by simp; omega) (by simp; omega)
  refine ⟨⟨7, 0, ⟨#[]⟩, (a : Int)⟩ :: (v ++ [⟨8, 0, ⟨#[]⟩, ((a + 1 + X.length : Nat) : Int)⟩]), ?_, ?_⟩
  · simp [k, k3]
  · refine e2.trans (e3.trans ?_)
    simp only [List.length_cons, List.length_append, List.length_nil, List.append_assoc, List.cons_append, List.nil_append]
    congr 1
    omega
theorem Rds.all {X : List UInt8} {ts : List Tok} (h : Rds X ts) (hl : X.length ≤ 20000) (hn : ts.length ≤ 4000) : ∃ us, Alike false us ts ∧ allF X = (0, us, 0) := by
  obtain ⟨us, h1, h2⟩ := h [] (X.length + 1) 0 [] (.inl rfl) (by simp) (by simpa using hn)
  refine ⟨us, alike_k3 _ _ h1, ?_⟩
  unfold allF
  rw [if_neg (by omega)]
  rw [List.append_nil] at h2
  rw [h2, allW, next_nil, tokAt_nil]
  rfl
end Go.Proofs.Ytpgkjgceldleaaa
/- BuildReads, plain: what objects stand for as words, and as text. -/
namespace Go.Proofs.Ytpgkjgceldleaaa
open Go.RowKit

theorem findE_appR {H : List C} (X : List C) {o : O} (h : findE H o = 0) : findE (H ++ X) o = 0 ∧ o.n.toNat < H.length ∧ mayH H o = true := by
  unfold findE at h ⊢
  by_cases c : held o = false
  · rw [if_pos c] at h; exact absurd h (by decide)
  · rw [if_neg c] at h ⊢
    by_cases c2 : mayH H o = false
    · rw [if_pos c2] at h; exact absurd h (by decide)
    · have hm : mayH H o = true := by simpa using c2
      refine ⟨by rw [mayH_app X hm]; rfl, ?_, hm⟩
      unfold mayH at hm
      rw [Bool.and_eq_true] at hm
      have hh : held o = true := by simpa using c
      have h2 := hm.2
      rw [hh] at h2
      simp only [Bool.not_true, Bool.false_or, Bool.and_eq_true, decide_eq_true_eq] at h2
      cases hc : H[o.n.toNat]? with
      | none => rw [hc] at h2; simp at h2
      | some c => exact (List.getElem?_eq_some_iff.1 hc).1
theorem items_find {H : List C} {o : O} (h : (itemsH H o).2 = 0) : findE H o = 0 := by
  unfold itemsH at h
  by_cases c : findE H o ≠ 0
  · rw [if_pos c] at h; exact h
  · omega
theorem bytes_find {H : List C} {o : O} (h : (bytesH H o).2 = 0) : findE H o = 0 := by
  unfold bytesH at h
  by_cases c : findE H o ≠ 0
  · rw [if_pos c] at h; exact h
  · omega
theorem items_appR {H : List C} (X : List C) {o : O} (h : (itemsH H o).2 = 0) : itemsH (H ++ X) o = itemsH H o := by
  have hf := items_find h
  obtain ⟨h1, h2, -⟩ := findE_appR X hf
  unfold itemsH
  rw [h1, hf, List.getElem?_append_left h2]
theorem bytes_appR {H : List C} (X : List C) {o : O} (h : (bytesH H o).2 = 0) : bytesH (H ++ X) o = bytesH H o := by
  have hf := bytes_find h
  obtain ⟨h1, h2, -⟩ := findE_appR X hf
  unfold bytesH
  rw [h1, hf, List.getElem?_append_left h2]
/-- The word that an object stands for. -/
def wordO (H : List C) (o : O) : Tok := if o.kind = 3 then ⟨1, o.n, ⟨#[]⟩, 0⟩ else if o.kind = 4 then ⟨2, o.n, ⟨#[]⟩, 0⟩ else if o.kind = 5 then ⟨if o.exec then 3 else 4, 0, o.s, 0⟩ else ⟨6, 0, (bytesH H o).1, 0⟩
def leafG (H : List C) (o : O) : Prop := mayT (wordO H o) = true ∧ (o = ⟨3, false, o.n, 0, 0, ⟨#[]⟩⟩ ∨ o = ⟨4, false, o.n, 0, 0, ⟨#[]⟩⟩ ∨ o = ⟨5, o.exec, 0, 0, 0, o.s⟩ ∨ (o.kind = 8 ∧ (bytesH H o).2 = 0))
theorem leafG.no9 {H : List C} {o : O} (h : leafG H o) : ¬ o.kind = 9 := by
  rcases h.2 with h | h | h | h
  · rw [h]; show ¬ (3 : Int) = 9; decide
  · rw [h]; show ¬ (4 : Int) = 9; decide
  · rw [h]; show ¬ (5 : Int) = 9; decide
  · rw [h.1]; decide
theorem leafG.app {H : List C} {o : O} (X : List C) (h : leafG H o) : leafG (H ++ X) o ∧ wordO (H ++ X) o = wordO H o := by
  obtain ⟨h1, h2⟩ := h
  have e : wordO (H ++ X) o = wordO H o := by
    rcases h2 with h | h | h | h
    · rw [h]; rfl
    · rw [h]; rfl
    · rw [h]; rfl
    · unfold wordO; rw [bytes_appR X h.2]
  refine ⟨⟨by rw [e]; exact h1, ?_⟩, e⟩
  rcases h2 with h | h | h | h
  · exact .inl h
  · exact .inr (.inl h)
  · exact .inr (.inr (.inl h))
  · exact .inr (.inr (.inr ⟨h.1, by rw [bytes_appR X h.2]; exact h.2⟩))
theorem leafG.may {H : List C} {o : O} (h : leafG H o) : mayH H o = true := by
  obtain ⟨h1, h2⟩ := h
  rcases h2 with h | h | h | h
  · rw [h] at h1 ⊢
    unfold wordO mayT at h1
    simp only [if_true, Bool.and_eq_true, decide_eq_true_eq] at h1
    simp [mayH, held, mayO, eqO, bareO, O.nil]; omega
  · rw [h] at h1 ⊢
    unfold wordO mayT at h1
    simp only [if_true, Bool.and_eq_true, decide_eq_true_eq, show ¬ (4 : Int) = 3 by decide, if_false, show ¬ (2 : Int) = 1 by decide] at h1
    simp [mayH, held, mayO, eqO, bareO, O.nil]; omega
  · rw [h]
    refine may_name _ _ _ ?_
    rw [h] at h1
    unfold wordO mayT at h1
    cases hx : o.exec with
    | true =>
      rw [hx] at h1
      simp only [if_true, Bool.and_eq_true, decide_eq_true_eq, show ¬ (5 : Int) = 3 by decide, show ¬ (5 : Int) = 4 by decide, show ¬ (3 : Int) = 1 by decide, show ¬ (3 : Int) = 2 by decide, if_false, ne_eq, not_true_eq_false] at h1
      exact h1.1.2
    | false =>
      rw [hx] at h1
      simp only [if_true, Bool.false_eq_true, Bool.and_eq_true, decide_eq_true_eq, show ¬ (5 : Int) = 3 by decide, show ¬ (5 : Int) = 4 by decide, show ¬ (4 : Int) = 1 by decide, show ¬ (4 : Int) = 2 by decide, show ¬ (4 : Int) = 3 by decide, if_false, ne_eq, not_true_eq_false, true_or] at h1
      exact h1.1
  · exact (findE_appR [] (bytes_find h.2)).2.2
abbrev tkOR : Tok := ⟨7, 0, ⟨#[]⟩, 0⟩
abbrev tkCR : Tok := ⟨8, 0, ⟨#[]⟩, 0⟩
def GoodR (H : List C) : Nat → O → Prop
  | 0, o => leafG H o
  | d + 1, o => if o.kind = 9 then o.exec = true ∧ (itemsH H o).2 = 0 ∧ (itemsH H o).1.length ≤ 100000 ∧ ∀ x ∈ (itemsH H o).1, GoodR H d x else leafG H o
def toksH (H : List C) : Nat → O → List Tok
  | 0, o => [wordO H o]
  | d + 1, o => if o.kind = 9 then tkOR :: ((itemsH H o).1.flatMap (toksH H d) ++ [tkCR]) else [wordO H o]
def textR (H : List C) : Nat → O → List UInt8
  | 0, o => printL (wordO H o)
  | d + 1, o => if o.kind = 9 then arrT true (textR H d) (itemsH H o).1 else printL (wordO H o)
theorem leafG.good {H : List C} {o : O} (h : leafG H o) (d : Nat) : GoodR H d o ∧ toksH H d o = [wordO H o] := by
  cases d with
  | zero => exact ⟨h, rfl⟩
  | succ d => rw [GoodR, toksH, if_neg h.no9, if_neg h.no9]; exact ⟨h, rfl⟩
theorem GoodR.may {H : List C} : ∀ {d : Nat} {o : O}, GoodR H d o → mayH H o = true
  | 0, _, h => leafG.may h
  | d + 1, o, h => by
    rw [GoodR] at h
    by_cases c : o.kind = 9
    · rw [if_pos c] at h; exact (findE_appR [] (items_find h.2.1)).2.2
    · rw [if_neg c] at h; exact h.may
theorem flat_congr {α β : Type} {f g : α → List β} : ∀ {l : List α}, (∀ x ∈ l, f x = g x) → l.flatMap f = l.flatMap g
  | [], _ => rfl
  | x :: l, h => by rw [List.flatMap_cons, List.flatMap_cons, h x (List.mem_cons_self ..), flat_congr fun y hy => h y (List.mem_cons_of_mem _ hy)]
theorem GoodR.app {H : List C} (X : List C) : ∀ {d : Nat} {o : O}, GoodR H d o → GoodR (H ++ X) d o ∧ toksH (H ++ X) d o = toksH H d o
  | 0, o, h => ⟨(leafG.app X h).1, by rw [toksH, toksH, (leafG.app X h).2]⟩
  | d + 1, o, h => by
    rw [GoodR] at h
    rw [GoodR, toksH, toksH]
    by_cases c : o.kind = 9
    · rw [if_pos c] at h
      obtain ⟨h1, h2, h3, h4⟩ := h
      rw [if_pos c, if_pos c, if_pos c, items_appR X h2]
      exact ⟨⟨h1, h2, h3, fun x hx => (GoodR.app X (h4 x hx)).1⟩, by rw [flat_congr fun x hx => (GoodR.app X (h4 x hx)).2]⟩
    · rw [if_neg c] at h
      rw [if_neg c, if_neg c, if_neg c]
      exact ⟨(h.app X).1, by rw [(h.app X).2]⟩
/-! ### Read back -/
theorem jn_rds {T : O → List UInt8} {K : O → List Tok} {l : List O} (h : ∀ x ∈ l, Rds (T x) (K x)) : ∀ i, i ≤ l.length → Rds (jn T l i) ((l.take i).flatMap K) := by
  intro i
  induction i with
  | zero => intro _; exact Rds.nil
  | succ i ih =>
    intro hi
    have hlt : i < l.length := by omega
    have hx := h l[i] (List.getElem_mem hlt)
    rw [jn, List.take_succ_eq_append_getElem hlt, List.flatMap_append, List.getD_eq_getElem?_getD, List.getElem?_eq_getElem hlt, Option.getD_some, List.flatMap_cons, List.flatMap_nil, List.append_nil]
    by_cases c : i = 0
    · subst c
      rw [if_pos rfl]
      simpa [jn] using hx
    · rw [if_neg c]
      exact Rds.cat (ih (by omega)) hx
theorem good_rds {H : List C} : ∀ {d : Nat} {o : O}, GoodR H d o → Rds (textR H d o) (toksH H d o)
  | 0, o, h => by rw [textR, toksH]; exact Rds.word _ h.1
  | d + 1, o, h => by
    rw [GoodR] at h
    rw [textR, toksH]
    by_cases c : o.kind = 9
    · rw [if_pos c] at h
      obtain ⟨-, -, -, h4⟩ := h
      rw [if_pos c, if_pos c]
      have := jn_rds (T := textR H d) (K := toksH H d) (fun x hx => good_rds (h4 x hx)) _ (Nat.le_refl _)
      rw [List.take_length] at this
      exact Rds.brace this
    · rw [if_neg c] at h
      rw [if_neg c, if_neg c]
      exact Rds.word _ h.1
/-! ### How long it is -/
theorem fix_lenR (x : Int) (x0 : -1073741823 ≤ x) (x1 : x ≤ 1073741823) : (fixL x).length ≤ 12 := by
  obtain ⟨k1, k2⟩ := kF_rng x.natAbs
  have main : ∀ (k : Nat), 1 ≤ k → k ≤ 5 → ((if x < 0 then [45] else []) ++ sizeL k (nearF k x.natAbs)).length ≤ 12 := by
    intro k k1 k2
    obtain ⟨s, hs⟩ : ∃ s : Int, s = x.natAbs := ⟨_, rfl⟩
    have s0 : 0 ≤ s := by omega
    have s1 : s ≤ 1073741823 := by omega
    rw [← hs]
    have hn : ∀ a, 0 ≤ a → 0 ≤ nearI a 65536 ∧ nearI a 65536 ≤ a / 65536 + 1 := fun a h => by unfold nearI; split <;> omega
    have h1 : (nearF k s / 10 ^ k).toNat < 10 ^ (4 + 1) ∧ (nearF k s % 10 ^ k).toNat < 10 ^ (k - 1 + 1) := by
      have hk : k = 1 ∨ k = 2 ∨ k = 3 ∨ k = 4 ∨ k = 5 := by omega
      unfold nearF
      rcases hk with rfl | rfl | rfl | rfl | rfl
      · have := hn (s * 10 ^ 1) (by omega)
        simp only [Int.reducePow, Nat.reducePow, Nat.reduceAdd, Nat.reduceSub] at *
        omega
      · have := hn (s * 10 ^ 2) (by omega)
        simp only [Int.reducePow, Nat.reducePow, Nat.reduceAdd, Nat.reduceSub] at *
        omega
      · have := hn (s * 10 ^ 3) (by omega)
        simp only [Int.reducePow, Nat.reducePow, Nat.reduceAdd, Nat.reduceSub] at *
        omega
      · have := hn (s * 10 ^ 4) (by omega)
        simp only [Int.reducePow, Nat.reducePow, Nat.reduceAdd, Nat.reduceSub] at *
        omega
      · have := hn (s * 10 ^ 5) (by omega)
        simp only [Int.reducePow, Nat.reducePow, Nat.reduceAdd, Nat.reduceSub] at *
        omega
    have l1 := decL_len _ 4 h1.1
    have l2 := decL_len _ (k - 1) h1.2
    have l3 : (padL k (decL (nearF k s % 10 ^ k).toNat)).length = k := padL_len _ _ (by omega)
    unfold sizeL
    simp only [List.length_append, List.length_cons]
    rw [l3]
    split <;> simp only [List.length_cons, List.length_nil] <;> omega
  exact main _ k1 k2
/-- What the law counts for a word. -/
def costT (t : Tok) : Nat := 4 * t.s.size + 15
def costs (l : List Tok) : Nat := (l.map costT).sum
theorem costs_app (l m : List Tok) : costs (l ++ m) = costs l + costs m := by simp [costs]
theorem word_len {H : List C} {o : O} (h : leafG H o) : (printL (wordO H o)).length + 1 ≤ costT (wordO H o) := by
  obtain ⟨h1, h2⟩ := h
  unfold costT
  rcases h2 with h | h | h | h
  · rw [h] at h1 ⊢
    generalize o.n = n at *
    unfold wordO mayT at h1
    simp only [if_true, Bool.and_eq_true, decide_eq_true_eq] at h1
    show (intL n).length + 1 ≤ _
    have hd := decL_len n.natAbs 9 (by simp only [Nat.reducePow, Nat.reduceAdd]; omega)
    unfold intL
    split
    · rw [List.length_cons]; omega
    · omega
  · rw [h] at h1 ⊢
    generalize o.n = n at *
    unfold wordO mayT at h1
    simp only [if_true, Bool.and_eq_true, decide_eq_true_eq, show ¬ (4 : Int) = 3 by decide, if_false, show ¬ (2 : Int) = 1 by decide] at h1
    show (fixL n).length + 1 ≤ _
    have := fix_lenR n h1.1.2 h1.2
    omega
  · rw [h]
    generalize o.s = s at *
    have := size_lst s
    cases o.exec with
    | true => show s.toList.length + 1 ≤ 4 * s.size + 15; omega
    | false => show (47 :: s.toList).length + 1 ≤ 4 * s.size + 15; rw [List.length_cons]; omega
  · have e : wordO H o = ⟨6, 0, (bytesH H o).1, 0⟩ := by unfold wordO; rw [if_neg (by omega), if_neg (by omega), if_neg (by omega)]
    rw [e]
    generalize (bytesH H o).1 = s at *
    have := size_lst s
    have hq := quote_len s.toList
    show (parenL s.toList).length + 1 ≤ 4 * s.size + 15
    unfold parenL
    simp only [List.length_cons, List.length_append, List.length_nil]
    omega
theorem jn_len {T : O → List UInt8} {K : O → List Tok} {l : List O} (h : ∀ x ∈ l, (T x).length + 1 ≤ costs (K x)) : ∀ i, i ≤ l.length → (jn T l i).length ≤ costs ((l.take i).flatMap K) := by
  intro i
  induction i with
  | zero => intro _; exact Nat.zero_le _
  | succ i ih =>
    intro hi
    have hlt : i < l.length := by omega
    have hx := h l[i] (List.getElem_mem hlt)
    have ih := ih (by omega)
    rw [jn, List.take_succ_eq_append_getElem hlt, List.flatMap_append, List.getD_eq_getElem?_getD, List.getElem?_eq_getElem hlt, Option.getD_some, List.flatMap_cons, List.flatMap_nil, List.append_nil, costs_app]
    have : (if i = 0 then ([] : List UInt8) else [32]).length ≤ 1 := by split <;> simp
    simp only [List.length_append]
    omega
theorem good_len {H : List C} : ∀ {d : Nat} {o : O}, GoodR H d o → (textR H d o).length + 1 ≤ costs (toksH H d o)
  | 0, o, h => by rw [textR, toksH]; have := word_len h; simpa [costs] using this
  | d + 1, o, h => by
    rw [GoodR] at h
    rw [textR, toksH]
    by_cases c : o.kind = 9
    · rw [if_pos c] at h
      obtain ⟨-, -, -, h4⟩ := h
      rw [if_pos c, if_pos c]
      have := jn_len (T := textR H d) (K := toksH H d) (fun x hx => good_len (h4 x hx)) _ (Nat.le_refl _)
      rw [List.take_length] at this
      have e : ∀ ts : List Tok, costs (tkOR :: (ts ++ [tkCR])) = 30 + costs ts := fun ts => by
        simp only [costs, List.map_cons, List.map_append, List.map_nil, List.sum_cons, List.sum_append, List.sum_nil]
        simp only [show costT tkOR = 15 from rfl, show costT tkCR = 15 from rfl]
        omega
      rw [e]
      unfold arrT
      simp only [List.length_cons, List.length_append, List.length_nil]
      omega
    · rw [if_neg c] at h
      rw [if_neg c, if_neg c]
      have := word_len h
      simpa [costs] using this
end Go.Proofs.Ytpgkjgceldleaaa
/- BuildReads, plain: what Program makes of words stands for them. -/
namespace Go.Proofs.Ytpgkjgceldleaaa
open Go.RowKit

theorem string_at (L : List C) (s : ByteArray) (h1 : L.length < 2000) (h2 : used L + s.size ≤ 40000) : stringH L s = (L ++ [txt s.toList], ⟨8, false, L.length, 0, s.size, ⟨#[]⟩⟩, 0) := by
  have hz := size_toList s
  unfold stringH
  rw [if_neg (by omega), add_fits _ _ h1 (by rw [txt_size]; omega)]
  simp [objOf, C.kind, C.size, hz]
theorem used_txt (L : List C) (s : ByteArray) : used (L ++ [txt s.toList]) = used L + s.size := by
  rw [used_cat']
  simp [used, C.size, size_toList]
/-- How deep a word leads. -/
def dpT (t : Tok) : Int := if t.kind = 7 then 1 else if t.kind = 8 then -1 else 0
def dpF (l : List Tok) : Int := (l.map dpT).sum
theorem dpF_app (l m : List Tok) : dpF (l ++ m) = dpF l + dpF m := by simp [dpF]
/-- What lies open, as words. -/
inductive StkR (L : List C) : Nat → List (List O) → List Tok → Prop
  | base {l : List O} : (∀ x ∈ l, GoodR L 19 x) → StkR L 0 [l] (l.flatMap (toksH L 19))
  | up {j : Nat} {l : List O} {ls : List (List O)} {us : List Tok} : StkR L j ls us → (∀ x ∈ l, GoodR L (18 - j) x) → StkR L (j + 1) (l :: ls) (us ++ tkOR :: l.flatMap (toksH L (18 - j)))
theorem StkR.app {L : List C} (X : List C) {j : Nat} {ls : List (List O)} {us : List Tok} (h : StkR L j ls us) : StkR (L ++ X) j ls us := by
  induction h with
  | base h =>
    rw [← flat_congr fun x hx => ((h x hx).app X).2]
    exact .base fun x hx => ((h x hx).app X).1
  | up _ h ih =>
    rw [← flat_congr fun x hx => ((h x hx).app X).2]
    exact .up ih fun x hx => ((h x hx).app X).1
theorem StkR.push {L : List C} {j : Nat} {ls : List (List O)} {us : List Tok} (h : StkR L j ls us) {x : O} (hx : GoodR L (19 - j) x) : ∃ ls', putB x ls = ls' ∧ StkR L j ls' (us ++ toksH L (19 - j) x) := by
  cases h with
  | @base l h =>
    refine ⟨_, rfl, ?_⟩
    have := StkR.base (L := L) (l := l ++ [x]) (fun y hy => by
      rcases List.mem_append.1 hy with hy | hy
      · exact h y hy
      · simp only [List.mem_cons, List.not_mem_nil, or_false] at hy
        rw [hy]; exact hx)
    rw [List.flatMap_append, List.flatMap_cons, List.flatMap_nil, List.append_nil] at this
    exact this
  | @up j l ls us h0 h =>
    refine ⟨_, rfl, ?_⟩
    have e : 19 - (j + 1) = 18 - j := by omega
    rw [e] at hx ⊢
    have := StkR.up (l := l ++ [x]) h0 (fun y hy => by
      rcases List.mem_append.1 hy with hy | hy
      · exact h y hy
      · simp only [List.mem_cons, List.not_mem_nil, or_false] at hy
        rw [hy]; exact hx)
    rw [List.flatMap_append, List.flatMap_cons, List.flatMap_nil, List.append_nil] at this
    rw [List.append_assoc, List.cons_append]
    exact this
theorem toksH_pos (L : List C) (d : Nat) (o : O) : 1 ≤ (toksH L d o).length := by
  cases d with
  | zero => exact Nat.le_refl _
  | succ d => rw [toksH]; split <;> simp
theorem flat_len (L : List C) (d : Nat) : ∀ l : List O, l.length ≤ (l.flatMap (toksH L d)).length
  | [] => Nat.zero_le _
  | x :: l => by
    have := flat_len L d l
    have := toksH_pos L d x
    rw [List.flatMap_cons, List.length_append, List.length_cons]
    omega
/-- The list that is open last. -/
theorem StkR.top {L : List C} {j : Nat} {ls : List (List O)} {us : List Tok} (h : StkR L j ls us) : ∃ l r, ls = l :: r ∧ l.length ≤ us.length ∧ ∀ x ∈ l, GoodR L (19 - j) x := by
  cases h with
  | base h => exact ⟨_, _, rfl, flat_len _ _ _, h⟩
  | @up j l ls us h0 h =>
    refine ⟨_, _, rfl, ?_, ?_⟩
    · have := flat_len L (18 - j) l
      rw [List.length_append, List.length_cons]; omega
    · rw [show 19 - (j + 1) = 18 - j by omega]; exact h
/-- A row, whole, as an object. -/
theorem row_good {L : List C} {xs : List O} {d : Nat} (h : ∀ x ∈ xs, GoodR L d x) (hL : L.length ≤ 2000) (hx : xs.length ≤ 1000) : GoodR (L ++ [rowC xs]) (d + 1) (arX L.length xs.length) ∧ toksH (L ++ [rowC xs]) (d + 1) (arX L.length xs.length) = tkOR :: (xs.flatMap (toksH L d) ++ [tkCR]) := by
  have hi : itemsH (L ++ [rowC xs]) (arX L.length xs.length) = (xs, 0) := items_arX (N := L.length) (by rw [List.getElem?_append_right (Nat.le_refl _), Nat.sub_self]; rfl) (by omega) (by omega) _ rfl
  rw [GoodR, toksH, hi, if_pos rfl, if_pos rfl]
  exact ⟨⟨rfl, rfl, by simp only; omega, fun x hx => ((h x hx).app _).1⟩, by simp only; rw [flat_congr fun x hx => ((h x hx).app [rowC xs]).2]⟩
/-- Which words. -/
def OkR (t : Tok) : Prop := mayT t = true ∧ t.s.size ≤ 20 ∧ t.kind ≠ 5 ∧ t.kind ≠ 9 ∧ t.kind ≠ 10 ∧ t.kind ≠ 11 ∧ t.kind ≠ 12
theorem may_kinds {t : Tok} (h : mayT t = true) : t.kind = 1 ∨ t.kind = 2 ∨ t.kind = 3 ∨ t.kind = 4 ∨ t.kind = 5 ∨ t.kind = 6 ∨ t.kind = 7 ∨ t.kind = 8 ∨ t.kind = 9 ∨ t.kind = 10 ∨ t.kind = 11 ∨ t.kind = 12 := by
  obtain ⟨k, n, s, p⟩ := t
  simp only
  by_cases h1 : k = 1 ∨ k = 2 ∨ k = 3 ∨ k = 4 ∨ k = 5 ∨ k = 6
  · omega
  · unfold mayT at h
    simp only at h
    rw [if_neg (by omega), if_neg (by omega)] at h
    by_cases hn : n ≠ 0
    · rw [if_pos hn] at h; exact absurd h (by decide)
    rw [if_neg hn, if_neg (by omega), if_neg (by omega), if_neg (by omega)] at h
    simp only [Bool.and_eq_true, decide_eq_true_eq] at h
    have h7 := h.1
    unfold signL at h7
    repeat' split at h7
    all_goals first | omega | exact absurd rfl h7
theorem may_none {k n p : Int} {s : ByteArray} (h : mayT ⟨k, n, s, p⟩ = true) (hk : k ≠ 3 ∧ k ≠ 4 ∧ k ≠ 5 ∧ k ≠ 6) : s = ⟨#[]⟩ := by
  obtain ⟨k3, k4, k5, k6⟩ := hk
  unfold mayT at h
  simp only at h
  by_cases h1 : k = 1
  · rw [if_pos h1] at h
    simp only [Bool.and_eq_true, decide_eq_true_eq] at h
    exact size0 h.1.1
  rw [if_neg h1] at h
  by_cases h2 : k = 2
  · rw [if_pos h2] at h
    simp only [Bool.and_eq_true, decide_eq_true_eq] at h
    exact size0 h.1.1
  rw [if_neg h2] at h
  by_cases hn : n ≠ 0
  · rw [if_pos hn] at h; exact absurd h (by decide)
  rw [if_neg hn, if_neg k3, if_neg (by omega), if_neg k6] at h
  simp only [Bool.and_eq_true, decide_eq_true_eq] at h
  exact size0 h.2
theorem may_zero {k n p : Int} {s : ByteArray} (h : mayT ⟨k, n, s, p⟩ = true) (h1 : k ≠ 1) (h2 : k ≠ 2) : n = 0 := by
  unfold mayT at h
  simp only at h
  rw [if_neg h1, if_neg h2] at h
  by_cases hn : n ≠ 0
  · rw [if_pos hn] at h; exact absurd h (by decide)
  · omega
/-- The object of a word that opens and closes nothing. -/
theorem leaf_good {L : List C} {t : Tok} (h : OkR t) (h7 : t.kind ≠ 7) (h8 : t.kind ≠ 8) (hL : L.length < 2000) (hu : used L + t.s.size ≤ 40000) :
    ∃ X x, leafB noF L t = (L ++ X, x, 0) ∧ leafG (L ++ X) x ∧ k3 (wordO (L ++ X) x) = k3 t ∧ X.length ≤ 1 ∧ used (L ++ X) ≤ used L + 20 := by
  obtain ⟨hm, h20, h5, h9, h10, h11, h12⟩ := h
  have hk := may_kinds hm
  obtain ⟨k, n, s, p⟩ := t
  simp only at *
  have hc : k = 1 ∨ k = 2 ∨ k = 3 ∨ k = 4 ∨ k = 6 := by omega
  rcases hc with rfl | rfl | rfl | rfl | rfl
  · obtain rfl := may_none hm (by decide)
    exact ⟨[], ⟨3, false, n, 0, 0, ⟨#[]⟩⟩, by rw [List.append_nil]; exact leaf_1, ⟨(show mayT ⟨1, n, ⟨#[]⟩, 0⟩ = true from hm), .inl rfl⟩, rfl, by simp, by simp⟩
  · obtain rfl := may_none hm (by decide)
    exact ⟨[], ⟨4, false, n, 0, 0, ⟨#[]⟩⟩, by rw [List.append_nil]; exact leaf_2, ⟨(show mayT ⟨2, n, ⟨#[]⟩, 0⟩ = true from hm), .inr (.inl rfl)⟩, rfl, by simp, by simp⟩
  · obtain rfl := may_zero hm (by decide) (by decide)
    exact ⟨[], ⟨5, true, 0, 0, 0, s⟩, by rw [List.append_nil]; exact leaf_3, ⟨(show mayT ⟨3, 0, s, 0⟩ = true from hm), .inr (.inr (.inl rfl))⟩, rfl, by simp, by simp⟩
  · obtain rfl := may_zero hm (by decide) (by decide)
    exact ⟨[], ⟨5, false, 0, 0, 0, s⟩, by rw [List.append_nil]; exact leaf_4, ⟨(show mayT ⟨4, 0, s, 0⟩ = true from hm), .inr (.inr (.inl rfl))⟩, rfl, by simp, by simp⟩
  · obtain rfl := may_zero hm (by decide) (by decide)
    have hb := bytes_str (L ++ [txt s.toList]) L.length s false (by rw [List.getElem?_append_right (Nat.le_refl _), Nat.sub_self]; rfl) (by omega) (by omega)
    have hw : wordO (L ++ [txt s.toList]) ⟨8, false, L.length, 0, s.size, ⟨#[]⟩⟩ = ⟨6, 0, s, 0⟩ := by unfold wordO; rw [if_neg (by show ¬ (8 : Int) = 3; decide), if_neg (by show ¬ (8 : Int) = 4; decide), if_neg (by show ¬ (8 : Int) = 5; decide), hb]
    refine ⟨[txt s.toList], _, leaf_6.trans (string_at L s hL hu), ⟨by rw [hw]; exact hm, .inr (.inr (.inr ⟨rfl, by rw [hb]⟩))⟩, by rw [hw]; rfl, by simp, by rw [used_txt]; omega⟩
theorem dpT_leaf {t : Tok} (h7 : t.kind ≠ 7) (h8 : t.kind ≠ 8) : dpT t = 0 := by unfold dpT; rw [if_neg h7, if_neg h8]
theorem run_reads (L0 : List C) (hL0 : L0.length ≤ 100) (hu0 : used L0 ≤ 10000) (ts : List Tok) (hn : ts.length ≤ 25) (hok : ∀ t ∈ ts, OkR t) (hd : ∀ j, j ≤ ts.length → 0 ≤ dpF (ts.take j) ∧ dpF (ts.take j) ≤ 15) :
    ∀ k, k ≤ ts.length → ∃ L j ls bg us, runO noF 0 (ts.take k) (L0, [[]], []) = .inl (L, ls, bg) ∧ StkR L j ls us ∧ (j : Int) = dpF (ts.take k) ∧ bg.length = j ∧ us.map k3 = (ts.take k).map k3 ∧ L.length ≤ L0.length + k ∧ used L ≤ used L0 + 45 * k := by
  intro k
  induction k with
  | zero =>
    intro _
    refine ⟨L0, 0, [[]], [], [], rfl, ?_, rfl, rfl, rfl, by omega, by omega⟩
    exact StkR.base (l := []) (fun x hx => absurd hx (by simp))
  | succ k ih =>
    intro hk
    obtain ⟨L, j, ls, bg, us, h1, h2, h3, h4, h5, h6, h7⟩ := ih (by omega)
    have hlt : k < ts.length := by omega
    have htk : ts.take (k + 1) = ts.take k ++ [ts[k]] := List.take_succ_eq_append_getElem hlt
    have ht := hok ts[k] (List.getElem_mem hlt)
    have hdk := hd (k + 1) hk
    rw [htk] at hdk ⊢
    generalize ts[k] = t at *
    have hus : us.length = k := by
      have := congrArg List.length h5
      simp only [List.length_map, List.length_take] at this
      omega
    have hdp : dpF (ts.take k ++ [t]) = j + dpT t := by rw [dpF_app, ← h3]; simp [dpF]
    rw [hdp] at hdk ⊢
    have hj : j ≤ 15 := by have := hd k (by omega); omega
    rw [runO_snoc _ _ _ _ _ _ h1]
    obtain ⟨l, r, rfl, hl1, hl2⟩ := h2.top
    by_cases c7 : t.kind = 7
    · obtain ⟨tk, tn, ts', tp⟩ := t
      simp only at c7
      subst c7
      obtain rfl := may_none ht.1 (by decide)
      obtain rfl := may_zero ht.1 (by decide) (by decide)
      refine ⟨L, j + 1, _, _, us ++ tkOR :: [], step_open ht.1 (by omega), StkR.up (l := []) h2 (fun x hx => absurd hx (by simp)), by simp [dpT], by simp [h4], ?_, by omega, by omega⟩
      rw [List.map_append, List.map_append, h5]
      rfl
    by_cases c8 : t.kind = 8
    · have hd8 : dpT t = -1 := by unfold dpT; rw [if_neg c7, if_pos c8]
      rw [hd8] at hdk ⊢
      obtain ⟨tk, tn, ts', tp⟩ := t
      simp only at c8
      subst c8
      obtain rfl := may_none ht.1 (by decide)
      obtain rfl := may_zero ht.1 (by decide) (by decide)
      cases h2 with
      | base => exact absurd hdk.1 (by decide)
      | @up j l ls us h0 hg =>
        have ha := arrB_ok L l (by omega) (by omega) (fun x hx => (hg x hx).may)
        obtain ⟨b0, bg, rfl⟩ : ∃ b0 bg', bg = b0 :: bg' := by
          cases bg with
          | nil => simp at h4
          | cons b bg => exact ⟨_, _, rfl⟩
        obtain ⟨g1, g2⟩ := row_good (L := L) (xs := l) hg (by omega) (by omega)
        have e : 18 - j + 1 = 19 - j := by omega
        rw [e] at g1 g2
        obtain ⟨ls', hls, g3⟩ := (h0.app [rowC l]).push g1
        refine ⟨_, j, ls', bg, _, ?_, g3, by omega, by simpa using h4, ?_, by simp; omega, by rw [used_row]; omega⟩
        · rw [step_shut ht.1 ha, hls]
        · rw [g2, List.map_append, List.map_append, ← h5]
          simp [k3]
    · obtain ⟨X, x, g1, g2, g3, g4, g5⟩ := leaf_good (L := L) ht c7 c8 (by omega) (by have := ht.2.1; omega)
      obtain ⟨g6, g7⟩ := g2.good (19 - j)
      obtain ⟨ls', hls, g8⟩ := (h2.app X).push g6
      rw [dpT_leaf c7 c8]
      refine ⟨L ++ X, j, ls', bg, _, ?_, g8, by omega, h4, ?_, by rw [List.length_append]; omega, by omega⟩
      · obtain ⟨tk, tn, ts', tp⟩ := t
        rw [step_leaf ht.1 c7 c8 g1, ← hls]
        rfl
      · rw [g7, List.map_append, List.map_append, h5]
        simp [g3]
/-- All of Program. -/
theorem prog_reads (L0 : List C) (hL0 : L0.length ≤ 100) (hu0 : used L0 ≤ 10000) (ts : List Tok) (hn : ts.length ≤ 25) (hok : ∀ t ∈ ts, OkR t) (hd : ∀ j, j ≤ ts.length → 0 ≤ dpF (ts.take j) ∧ dpF (ts.take j) ≤ 15) (h0 : dpF ts = 0) :
    ∃ L o, progB noF L0 ts = (L, o, 0, 0) ∧ GoodR L 20 o ∧ (toksH L 20 o).map k3 = (tkOR :: (ts ++ [tkCR])).map k3 := by
  obtain ⟨L, j, ls, bg, us, h1, h2, h3, h4, h5, h6, h7⟩ := run_reads L0 hL0 hu0 ts hn hok hd ts.length (Nat.le_refl _)
  rw [List.take_length] at h1 h3 h5
  obtain rfl : j = 0 := by omega
  have hus : us.length = ts.length := by have := congrArg List.length h5; simpa using this
  cases h2 with
  | @base l hg =>
    have hl := flat_len L 19 l
    obtain rfl : bg = [] := List.eq_nil_of_length_eq_zero h4
    have ha := arrB_ok L l (by omega) (by omega) (fun x hx => (hg x hx).may)
    obtain ⟨g1, g2⟩ := row_good (L := L) (xs := l) hg (by omega) (by omega)
    refine ⟨_, _, ?_, g1, ?_⟩
    · have ho : objsB noF L0 ts = (L, l, 0, 0) := by unfold objsB; rw [h1]; rfl
      unfold progB
      rw [ho]
      simp only [if_true]
      rw [ha]
      simp
    · rw [g2]
      simp [h5]
theorem costs_k3 : ∀ (l m : List Tok), l.map k3 = m.map k3 → costs l = costs m
  | [], [], _ => rfl
  | [], _ :: _, h => by simp at h
  | _ :: _, [], h => by simp at h
  | t :: l, u :: m, h => by
    simp only [List.map_cons, List.cons.injEq] at h
    have := costs_k3 l m h.2
    have e := h.1
    simp only [k3, Prod.mk.injEq] at e
    have e1 : ∀ (v : Tok) (vs : List Tok), costs (v :: vs) = costT v + costs vs := fun v vs => by simp [costs]
    rw [e1, e1, this]
    unfold costT
    rw [e.2.2]
/-- The text of the program, and how it is read. -/
theorem reads_text {L : List C} {o : O} {ts : List Tok} (hg : GoodR L 20 o) (hk : (toksH L 20 o).map k3 = (tkOR :: (ts ++ [tkCR])).map k3) (hc : costs ts ≤ 900) (hn : ts.length ≤ 25) :
    (textR L 20 o).length ≤ 1000 ∧ ∃ us, Alike false us (tkOR :: (ts ++ [tkCR])) ∧ us.length = ts.length + 2 ∧ allF (textR L 20 o) = (0, us, 0) := by
  have h1 := good_len hg
  have h2 := costs_k3 _ _ hk
  have e : costs (tkOR :: (ts ++ [tkCR])) = 30 + costs ts := by
    simp only [costs, List.map_cons, List.map_append, List.map_nil, List.sum_cons, List.sum_append, List.sum_nil]
    simp only [show costT tkOR = 15 from rfl, show costT tkCR = 15 from rfl]
    omega
  have hlen : (toksH L 20 o).length = ts.length + 2 := by have := congrArg List.length hk; simpa using this
  refine ⟨by omega, ?_⟩
  obtain ⟨us, h3, h4⟩ := (good_rds hg) [] ((textR L 20 o).length + 1) 0 [] (.inl rfl) (by simp) (by simp only [List.length_nil]; omega)
  obtain ⟨vs, h5, h6⟩ := (good_rds hg).all (by omega) (by omega)
  refine ⟨vs, ?_, by have := h5.1; omega, h6⟩
  have e7 : vs.map k3 = (toksH L 20 o).map k3 := by
    refine List.ext_getElem? fun i => ?_
    rw [List.getElem?_map, List.getElem?_map]
    by_cases hi : i < vs.length
    · have hi2 : i < (toksH L 20 o).length := by rw [← h5.1]; exact hi
      rw [List.getElem?_eq_getElem hi, List.getElem?_eq_getElem hi2]
      have := h5.2 i _ _ (List.getElem?_eq_getElem hi) (List.getElem?_eq_getElem hi2)
      simp [k3, this.1, this.2.1, this.2.2.1]
    · rw [List.getElem?_eq_none (by omega), List.getElem?_eq_none (by rw [← h5.1]; omega)]
  exact alike_k3 _ _ (e7.trans hk)
end Go.Proofs.Ytpgkjgceldleaaa
