/- Parts of the proof: Prn, Prw, Qpr, Tmy, Tma, Tmz. -/
import Derived.StillTailTactics
import Derived.Test.YtpiomapnmempoaaGreatY22
import Derived.Test.YtpiomapnmempoaaGreatY24
namespace Go.Proofs.YtpiomapnmempoaaGreat
open Go.RowKit
def oneQ (c : UInt8) : List UInt8 :=
 if c = 40 ∨ c = 41 ∨ c = 92 then [92, c]
 else if c = 8 then [92, 98]
 else if c = 9 then [92, 116]
 else if c = 10 then [92, 110]
 else if c = 12 then [92, 102]
 else if c = 13 then [92, 114]
 else if c < 32 ∨ 126 < c then [92, 48 + c / 64, 48 + c / 8 % 8, 48 + c % 8]
 else [c]
def quoteQ (l : List UInt8) : List UInt8 := l.flatMap oneQ
def parenL (l : List UInt8) : List UInt8 := 40 :: (quoteQ l ++ [41])
theorem parenW_step (c : UInt8) (t : List UInt8) (i deep : Nat) (b : List UInt8) : parenW (c :: t) i deep b =
 if c = 40 then if 4000 ≤ b.length then (5, [], 0) else parenW t (i + 1) (deep + 1) (b ++ [c])
 else if c = 41 then if deep = 1 then (0, b, i + 1) else if 4000 ≤ b.length then (5, [], 0) else parenW t (i + 1) (deep - 1) (b ++ [c])
 else if c = 13 then if 4000 ≤ b.length then (5, [], 0) else if t.head? = some 10 then parenW (t.drop 1) (i + 2) deep (b ++ [10]) else parenW t (i + 1) deep (b ++ [10])
 else if c = 92 then
  if t = [] then (4, [], 0)
  else if (escF t).2.2 = true then if 4000 ≤ b.length then (5, [], 0) else parenW (t.drop (escF t).2.1) (i + 1 + (escF t).2.1) deep (b ++ [u8of (escF t).1])
  else parenW (t.drop (escF t).2.1) (i + 1 + (escF t).2.1) deep b
 else if 4000 ≤ b.length then (5, [], 0) else parenW t (i + 1) deep (b ++ [c]) := by
 rw [parenW]
theorem esc_step (t T : List UInt8) (c : UInt8) (i : Nat) (b : List UInt8) (hb : b.length < 4000) (he : escF (t ++ T) = ((c.toNat : Int), t.length, true)) (ht : t ≠ []) : parenW (92 :: (t ++ T)) i 1 b = parenW T (i + 1 + t.length) 1 (b ++ [c]) := by
 rw [parenW_step, if_neg (by decide), if_neg (by decide), if_neg (by decide), if_pos rfl, if_neg (by simp [ht]), he]; simp only [if_true]; rw [if_neg (by omega), List.drop_left]; simp [u8of]
theorem oct3 (T : List UInt8) : ∀ c : UInt8, escF ([48 + c / 64, 48 + c / 8 % 8, 48 + c % 8] ++ T) = ((c.toNat : Int), 3, true) := by
 intro c
 have key : ∀ n : Fin 256, (fun c : UInt8 => 48 + c / 64 ≠ 98 ∧ 48 + c / 64 ≠ 116 ∧ 48 + c / 64 ≠ 110 ∧ 48 + c / 64 ≠ 102 ∧ 48 + c / 64 ≠ 114 ∧ 48 + c / 64 ≠ 13 ∧ 48 + c / 64 ≠ 10 ∧ isOct (48 + c / 64) = true ∧ isOct (48 + c / 8 % 8) = true ∧ isOct (48 + c % 8) = true ∧ octV 0 [48 + c / 64, 48 + c / 8 % 8, 48 + c % 8] % 256 = (c.toNat : Int)) (UInt8.ofNat n.val) := by decide +kernel
 have kc := key ⟨c.toNat, c.toNat_lt⟩; simp only [UInt8.ofNat_toNat] at kc; obtain ⟨h1, h2, h3, h4, h5, h6, h7, h8, h9, h10, h11⟩ := kc
 have ho : octL ([48 + c / 64, 48 + c / 8 % 8, 48 + c % 8] ++ T) = [48 + c / 64, 48 + c / 8 % 8, 48 + c % 8] := by
  unfold octL; simp [h8, h9, h10]
 have h12 : ¬ (((48 + c / 64).toNat : Int) < 48 ∨ 55 < ((48 + c / 64).toNat : Int)) := by
  unfold isOct at h8; simp only [Bool.and_eq_true, decide_eq_true_eq] at h8; omega
 show escF ((48 + c / 64) :: ([48 + c / 8 % 8, 48 + c % 8] ++ T)) = _; rw [escF, if_neg h1, if_neg h2, if_neg h3, if_neg h4, if_neg h5, if_neg (fun h => h6 h.1), if_neg (fun h => h.elim h7 h6), if_neg h12]; rw [show (48 + c / 64) :: ([48 + c / 8 % 8, 48 + c % 8] ++ T) = [48 + c / 64, 48 + c / 8 % 8, 48 + c % 8] ++ T from rfl, ho, h11]; rfl
theorem one_back (c : UInt8) (T : List UInt8) (i : Nat) (b : List UInt8) (hb : b.length < 4000) : parenW (oneQ c ++ T) i 1 b = parenW T (i + (oneQ c).length) 1 (b ++ [c]) := by
 unfold oneQ; split
 · rename_i h
   rw [show [92, c] ++ T = 92 :: ([c] ++ T) from rfl, esc_step [c] T c i b hb (by rcases h with rfl | rfl | rfl <;> rfl) (by simp)]; simp [Nat.add_assoc]
 split
 · rename_i h; subst h
   rw [show [92, 98] ++ T = 92 :: ([98] ++ T) from rfl, esc_step [98] T 8 i b hb rfl (by simp)]; simp [Nat.add_assoc]
 split
 · rename_i h; subst h
   rw [show [92, 116] ++ T = 92 :: ([116] ++ T) from rfl, esc_step [116] T 9 i b hb rfl (by simp)]; simp [Nat.add_assoc]
 split
 · rename_i h; subst h
   rw [show [92, 110] ++ T = 92 :: ([110] ++ T) from rfl, esc_step [110] T 10 i b hb rfl (by simp)]; simp [Nat.add_assoc]
 split
 · rename_i h; subst h
   rw [show [92, 102] ++ T = 92 :: ([102] ++ T) from rfl, esc_step [102] T 12 i b hb rfl (by simp)]; simp [Nat.add_assoc]
 split
 · rename_i h; subst h
   rw [show [92, 114] ++ T = 92 :: ([114] ++ T) from rfl, esc_step [114] T 13 i b hb rfl (by simp)]; simp [Nat.add_assoc]
 split
 · rw [show [92, 48 + c / 64, 48 + c / 8 % 8, 48 + c % 8] ++ T = 92 :: ([48 + c / 64, 48 + c / 8 % 8, 48 + c % 8] ++ T) from rfl, esc_step _ T c i b hb (oct3 T c) (by simp)]; simp [Nat.add_assoc]
 · rename_i h1 _ _ _ _ h6 _
   rw [show [c] ++ T = c :: T from rfl, parenW_step, if_neg (fun h => h1 (.inl h)), if_neg (fun h => h1 (.inr (.inl h))), if_neg h6, if_neg (fun h => h1 (.inr (.inr h))), if_neg (by omega)]; rfl
theorem quote_back : ∀ (l T : List UInt8) (i : Nat) (b : List UInt8), b.length + l.length ≤ 4000 → parenW (quoteQ l ++ 41 :: T) i 1 b = (0, b ++ l, i + (quoteQ l).length + 1)
 | [], T, i, b, _ => by
  show parenW (41 :: T) i 1 b = _; rw [parenW_step, if_neg (by decide), if_pos rfl, if_pos rfl]; simp [quoteQ]
 | c :: l, T, i, b, h => by
  simp only [List.length_cons] at h; rw [show quoteQ (c :: l) = oneQ c ++ quoteQ l from rfl, List.append_assoc, one_back c _ i b (by omega), quote_back l T _ _ (by simp; omega)]; simp [Nat.add_assoc]
theorem paren_back (l T : List UInt8) (h : l.length ≤ 4000) : takeF (parenL l ++ T) = (0, l, (parenL l).length) := by
 have : takeW (parenL l ++ T) = (0, l, (parenL l).length) := by
  unfold takeW parenL; rw [show 40 :: (quoteQ l ++ [41]) ++ T = 40 :: (quoteQ l ++ 41 :: T) by simp, if_pos (show (40 :: (quoteQ l ++ 41 :: T)).head? = some 40 from rfl), show (40 :: (quoteQ l ++ 41 :: T)).drop 1 = quoteQ l ++ 41 :: T from rfl, quote_back l T 1 [] (by simpa using h)]; simp
  omega
 unfold takeF; rw [this]; rfl
def printL (t : Tok) : List UInt8 :=
 if t.kind = 1 then intL t.n
 else if t.kind = 2 then fixL t.n
 else if t.kind = 3 then t.s.toList
 else if t.kind = 4 then 47 :: t.s.toList
 else if t.kind = 5 then 47 :: 47 :: t.s.toList
 else if t.kind = 6 then parenL t.s.toList
 else signL t.kind
def mayT (t : Tok) : Bool :=
 if t.kind = 1 then decide (t.s.size = 0) && decide (-2147483647 ≤ t.n) && decide (t.n ≤ 2147483647)
 else if t.kind = 2 then decide (t.s.size = 0) && decide (-1073741823 ≤ t.n) && decide (t.n ≤ 1073741823)
 else if t.n ≠ 0 then false
 else if t.kind = 3 then decide ((readF t.s.toList).2.2 = 3) && decide (t.s.size ≠ 0) && decide (t.s.size ≤ 100) && decide (regL t.s.toList = t.s.size)
 else if t.kind = 4 ∨ t.kind = 5 then decide (t.s.size ≤ 100) && decide (regL t.s.toList = t.s.size)
 else if t.kind = 6 then decide (t.s.size ≤ 4000)
 else decide (signL t.kind ≠ []) && decide (t.s.size = 0)
theorem reg_ne (c : UInt8) (h : isReg c = true) : c ≠ 40 ∧ c ≠ 41 ∧ c ≠ 60 ∧ c ≠ 62 ∧ c ≠ 91 ∧ c ≠ 93 ∧ c ≠ 123 ∧ c ≠ 125 ∧ c ≠ 47 ∧ c ≠ 37 := by
 refine ⟨?_, ?_, ?_, ?_, ?_, ?_, ?_, ?_, ?_, ?_⟩ <;> rintro rfl <;> exact absurd h (by decide)
theorem all_reg : ∀ s : List UInt8, regL s = s.length → s.all isReg = true
 | [], _ => rfl
 | c :: s, h => by
  unfold regL at h; rw [List.takeWhile_cons] at h; split at h
  · rename_i hc
    simp only [List.length_cons, Nat.add_right_cancel_iff] at h; rw [List.all_cons, hc, all_reg s h]; rfl
  · simp at h
theorem sg_none (c : UInt8) (t : List UInt8) (h1 : c ≠ 60) (h2 : c ≠ 62) (h3 : c ≠ 91) (h4 : c ≠ 93) (h5 : c ≠ 123) (h6 : c ≠ 125) : sgF 6 7 (c :: t) = 0 := by
 simp [sgF, pre, signL, List.isPrefixOf, h1.symm, h2.symm, h3.symm, h4.symm, h5.symm, h6.symm]
theorem dig_reg (c : UInt8) (h : isDig c = true) : isReg c = true := by
 unfold isDig at h; simp only [Bool.and_eq_true, decide_eq_true_eq] at h; unfold isReg kindI; rw [beq_iff_eq, if_neg (by omega), if_neg (by omega)]
theorem digs_reg (l : List UInt8) (h : l.all isDig = true) : l.all isReg = true := by
 rw [List.all_eq_true] at h ⊢; exact fun c hc => dig_reg c (h c hc)
theorem int_reg (v : Int) : (intL v).all isReg = true ∧ intL v ≠ [] := by
 unfold intL; split
 · exact ⟨by rw [List.all_cons, digs_reg _ (decL_dig _)]; rfl, by simp⟩
 · exact ⟨digs_reg _ (decL_dig _), decL_ne _⟩
theorem fix_reg (v : Int) : (fixL v).all isReg = true ∧ fixL v ≠ [] := by
 unfold fixL sizeL; refine ⟨?_, by simp⟩; rw [List.all_append, List.all_append, List.all_cons, digs_reg _ (decL_dig _), digs_reg _ (padL_dig _ _ (decL_dig _))]
 split <;> rfl
theorem size0 {s : ByteArray} (h : s.size = 0) : s = ⟨#[]⟩ := by
 apply ByteArray.ext
 exact Array.eq_empty_of_size_eq_zero h
theorem tl_size (s : ByteArray) : s.toList.length = s.size := size_lst s
theorem bytes_tl (s : ByteArray) : bytesB s.toList = s := by unfold bytesB; rw [ByteArray.toList_eq]
theorem print_head (t : Tok) (hm : mayT t = true) : ∃ c u, printL t = c :: u ∧ kindI c.toNat ≠ 1 ∧ c ≠ 37 := by
 have hreg : ∀ l : List UInt8, l.all isReg = true → l ≠ [] → ∃ c u, l = c :: u ∧ kindI c.toNat ≠ 1 ∧ c ≠ 37 := fun l h hn => by
  cases l with
  | nil => exact absurd rfl hn
  | cons c u =>
   rw [List.all_cons, Bool.and_eq_true] at h; refine ⟨c, u, rfl, ?_, (reg_ne c h.1).2.2.2.2.2.2.2.2.2⟩; have := h.1; unfold isReg at this; rw [beq_iff_eq] at this; rw [this]; decide
 obtain ⟨k, n, s, p⟩ := t; unfold mayT at hm; unfold printL; simp only at hm ⊢
 by_cases h1 : k = 1
 · rw [if_pos h1]; exact hreg _ (int_reg n).1 (int_reg n).2
 rw [if_neg h1] at hm ⊢
 by_cases h2 : k = 2
 · rw [if_pos h2]; exact hreg _ (fix_reg n).1 (fix_reg n).2
 rw [if_neg h2] at hm ⊢
 by_cases hn : n ≠ 0
 · rw [if_pos hn] at hm; exact absurd hm (by decide)
 rw [if_neg hn] at hm
 by_cases h3 : k = 3
 · rw [if_pos h3] at hm ⊢; simp only [Bool.and_eq_true, decide_eq_true_eq] at hm; obtain ⟨⟨⟨h4, h5⟩, h6⟩, h7⟩ := hm; exact hreg _ (all_reg s.toList (by rw [h7, tl_size])) (fun h => h5 (by rw [← tl_size, h]; rfl))
 rw [if_neg h3] at hm ⊢
 by_cases h4 : k = 4
 · rw [if_pos h4]; exact ⟨47, _, rfl, by decide, by decide⟩
 rw [if_neg h4]
 by_cases h5 : k = 5
 · rw [if_pos h5]; exact ⟨47, _, rfl, by decide, by decide⟩
 rw [if_neg (fun h => h.elim h4 h5)] at hm; rw [if_neg h5]
 by_cases h6 : k = 6
 · rw [if_pos h6]; exact ⟨40, _, rfl, by decide, by decide⟩
 rw [if_neg h6] at hm ⊢; simp only [Bool.and_eq_true, decide_eq_true_eq] at hm; unfold signL at hm ⊢
 repeat' split
 all_goals first | exact ⟨_, _, rfl, by decide, by decide⟩ | (exfalso; simp_all)
theorem at8_of (w : World) (cs : Array Value) (l : List UInt8) (h : ∀ j, j < l.length → cs[j]? = some (u8V (l.getD j 0))) : At8 (w.alloc (.cells cs 5)) w.heap.size l := fun j hj => by
 rw [cells_of (blk_new w _) j]; exact h j hj
def QOwn (w0 w : World) (v : Value) (b : List UInt8) : Prop := Chg NoB w0 w ∧ w.ownsRow w0.heap.size 5 1 v b.length (u8L b)
theorem QOwn.put {w0 w : World} {v : Value} {b : List UInt8} (A : QOwn w0 w v b) (cs : Array Value) (m : List UInt8) (h : ∀ j, j < m.length → cs[j]? = some (u8V (m.getD j 0))) (hl : b.length + m.length ≤ 1000000) (n : Nat) (hn : m.length = n) :
 Calls Tryz.prog 85 #[v, .slice (some ⟨w.heap.size, 0, none⟩) n n] (w.alloc (.cells cs 5)) fun e w' => ∃ v', e = .returned v' ∧ QOwn w0 w' v' (b ++ m) := by
 subst hn; have X := (Chg.refl NoB w).alloc (.cells cs 5); have h1 := ownB A.2 X (fun _ _ e => e); refine (qput_any h1 (by have := A.1.size; simp; omega) w.heap.size m m.length (at8_of w cs m h) hl).mono ?_; rintro e w' ⟨v', rfl, h2, h3, h4⟩; exact ⟨v', rfl, Chg.grown (A.1.pure X) h3 (fun k hk => .inr (own_ge h1 k (by rw [hk]; simp)).1), h2⟩
theorem quote_snoc (l : List UInt8) (c : UInt8) : quoteQ (l ++ [c]) = quoteQ l ++ oneQ c := by simp [quoteQ]
theorem oneQ_len (c : UInt8) : (oneQ c).length ≤ 4 := by
 unfold oneQ
 repeat' split
 all_goals simp
theorem quote_len : ∀ l : List UInt8, (quoteQ l).length ≤ 4 * l.length
 | [] => by simp [quoteQ]
 | c :: l => by
  have := quote_len l; have := oneQ_len c; rw [show quoteQ (c :: l) = oneQ c ++ quoteQ l from rfl, List.length_append, List.length_cons]; omega
theorem oct_val (c : UInt8) : ((48 + c / 64).toNat : Int) = 48 + (c.toNat : Int) / 64 ∧ ((48 + c / 8 % 8).toNat : Int) = 48 + (c.toNat : Int) / 8 % 8 ∧ ((48 + c % 8).toNat : Int) = 48 + (c.toNat : Int) % 8 := by
 have key : ∀ n : Fin 256, (fun c : UInt8 => ((48 + c / 64).toNat : Int) = 48 + (c.toNat : Int) / 64 ∧ ((48 + c / 8 % 8).toNat : Int) = 48 + (c.toNat : Int) / 8 % 8 ∧ ((48 + c % 8).toNat : Int) = 48 + (c.toNat : Int) % 8) (UInt8.ofNat n.val) := by decide +kernel
 have kc := key ⟨c.toNat, c.toNat_lt⟩; simp only [UInt8.ofNat_toNat] at kc; exact kc
set_option maxRecDepth 100000 in
set_option maxHeartbeats 1000000 in
theorem parenP_any (s : ByteArray) (hs : s.size ≤ 100000) (w : World) :
 Calls Tryz.prog 54 #[.string s] w fun r w' => r = .returned (.string (bytesB (parenL s.toList))) ∧ Chg NoB w w' := by
 have H0 := hid' (QOwn.put (w0 := w) (w := w) (v := .slice none 0 0) (b := []) ⟨Chg.refl _ _, World.ownsRow_nil _ _ _ _⟩ #[.int .u8 40] [40] (by intro j hj; simp at hj; subst hj; rfl) (by simp) 1 rfl)
 have hsi : (s.size : Int) ≤ 100000 := by omega
 go_enter Tryz.func54, Tryz.ntmps54
 go_wp2_with fail
 refine H0.out.mono ?_; rintro e w1 ⟨v1, rfl, A1⟩; clear H0; go_wp2_with fail
 go_loopw [3, 4] (fun ov iv wr => ∃ i : Nat, i ≤ s.size ∧ iv = .int .i64 i ∧ QOwn w wr ov (40 :: quoteQ (s.toList.take i))) (fun _ iv _ => s.size - (intOf iv).toNat)
 case atStart => exact ⟨0, Nat.zero_le _, rfl, A1⟩
 case round =>
  obtain ⟨i, hi, rfl, A2⟩ := hrel; clear A1
  by_cases hlt : i < s.size
  · have hc : s.toList[i]? = some s[i] := lst_get s i hlt; have hlen := quote_len (s.toList.take i); rw [List.length_take, size_lst] at hlen; have HP := hid' (fun (cs : Array Value) (m : List UInt8) (h : ∀ j, j < m.length → cs[j]? = some (u8V (m.getD j 0))) (n : Nat) (hn : m.length = n) (hn4 : n ≤ 4) => QOwn.put A2 cs m h (by simp; omega) n hn)
    have HT := hid' (show ∀ m, m = oneQ s[i] → 40 :: quoteQ (s.toList.take i) ++ m = 40 :: quoteQ (s.toList.take (i + 1)) from fun m hm => by
     rw [List.take_add_one, hc, Option.toList_some, quote_snoc, hm]; rfl)
    have hil : (i : Int) < s.size := by omega
    have hbd : (s[i].toNat : Int) < 256 := by have := s[i].toNat_lt; omega
    have hb0 : (0 : Int) ≤ s[i].toNat := by omega
    generalize hcc : s[i] = c at *; clear hc hlen A2; have HN := hid' (qname_any c.toNat)
    by_cases h1 : c = 40 ∨ c = 41 ∨ c = 92
    · rcases h1 with rfl | rfl | rfl
      · have e : qnameI 40 = (0, false) := by decide
        have HN := hid' (qname_any 40); rw [e] at HN; go_wp2_with fail
        refine (HN.out _).mono ?_; rintro e w2 ⟨rfl, rfl⟩; go_wp2_with fail
        refine (HP.out _ [92, 40] ?_ 2 rfl (by decide)).mono ?_
        · intro j hj; rcases j with _ | _ | j
          · rfl
          · rfl
          · simp at hj; omega
        rintro e w3 ⟨v3, rfl, A3⟩; rw [HT.out [92, 40] (by decide)] at A3; go_wp2_with fail
        go_roundw
        case rel => exact ⟨i + 1, by omega, by go_num, A3⟩
        case measure => simp [intOf]; omega
      · have e : qnameI 41 = (0, false) := by decide
        have HN := hid' (qname_any 41); rw [e] at HN; go_wp2_with fail
        refine (HN.out _).mono ?_; rintro e w2 ⟨rfl, rfl⟩; go_wp2_with fail
        refine (HP.out _ [92, 41] ?_ 2 rfl (by decide)).mono ?_
        · intro j hj; rcases j with _ | _ | j
          · rfl
          · rfl
          · simp at hj; omega
        rintro e w3 ⟨v3, rfl, A3⟩; rw [HT.out [92, 41] (by decide)] at A3; go_wp2_with fail
        go_roundw
        case rel => exact ⟨i + 1, by omega, by go_num, A3⟩
        case measure => simp [intOf]; omega
      · have e : qnameI 92 = (0, false) := by decide
        have HN := hid' (qname_any 92); rw [e] at HN; go_wp2_with fail
        refine (HN.out _).mono ?_; rintro e w2 ⟨rfl, rfl⟩; go_wp2_with fail
        refine (HP.out _ [92, 92] ?_ 2 rfl (by decide)).mono ?_
        · intro j hj; rcases j with _ | _ | j
          · rfl
          · rfl
          · simp at hj; omega
        rintro e w3 ⟨v3, rfl, A3⟩; rw [HT.out [92, 92] (by decide)] at A3; go_wp2_with fail
        go_roundw
        case rel => exact ⟨i + 1, by omega, by go_num, A3⟩
        case measure => simp [intOf]; omega
    by_cases h2 : c = 8 ∨ c = 9 ∨ c = 10 ∨ c = 12 ∨ c = 13
    · rcases h2 with rfl | rfl | rfl | rfl | rfl
      · have e : qnameI 8 = (98, true) := by decide
        have HN := hid' (qname_any 8); rw [e] at HN; go_wp2_with fail
        refine (HN.out _).mono ?_; rintro e w2 ⟨rfl, rfl⟩; go_wp2_with fail
        refine (HP.out _ [92, 98] ?_ 2 rfl (by decide)).mono ?_
        · intro j hj; rcases j with _ | _ | j
          · rfl
          · rfl
          · simp at hj; omega
        rintro e w3 ⟨v3, rfl, A3⟩; rw [HT.out [92, 98] (by decide)] at A3; go_wp2_with fail
        go_roundw
        case rel => exact ⟨i + 1, by omega, by go_num, A3⟩
        case measure => simp [intOf]; omega
      · have e : qnameI 9 = (116, true) := by decide
        have HN := hid' (qname_any 9); rw [e] at HN; go_wp2_with fail
        refine (HN.out _).mono ?_; rintro e w2 ⟨rfl, rfl⟩; go_wp2_with fail
        refine (HP.out _ [92, 116] ?_ 2 rfl (by decide)).mono ?_
        · intro j hj; rcases j with _ | _ | j
          · rfl
          · rfl
          · simp at hj; omega
        rintro e w3 ⟨v3, rfl, A3⟩; rw [HT.out [92, 116] (by decide)] at A3; go_wp2_with fail
        go_roundw
        case rel => exact ⟨i + 1, by omega, by go_num, A3⟩
        case measure => simp [intOf]; omega
      · have e : qnameI 10 = (110, true) := by decide
        have HN := hid' (qname_any 10); rw [e] at HN; go_wp2_with fail
        refine (HN.out _).mono ?_; rintro e w2 ⟨rfl, rfl⟩; go_wp2_with fail
        refine (HP.out _ [92, 110] ?_ 2 rfl (by decide)).mono ?_
        · intro j hj; rcases j with _ | _ | j
          · rfl
          · rfl
          · simp at hj; omega
        rintro e w3 ⟨v3, rfl, A3⟩; rw [HT.out [92, 110] (by decide)] at A3; go_wp2_with fail
        go_roundw
        case rel => exact ⟨i + 1, by omega, by go_num, A3⟩
        case measure => simp [intOf]; omega
      · have e : qnameI 12 = (102, true) := by decide
        have HN := hid' (qname_any 12); rw [e] at HN; go_wp2_with fail
        refine (HN.out _).mono ?_; rintro e w2 ⟨rfl, rfl⟩; go_wp2_with fail
        refine (HP.out _ [92, 102] ?_ 2 rfl (by decide)).mono ?_
        · intro j hj; rcases j with _ | _ | j
          · rfl
          · rfl
          · simp at hj; omega
        rintro e w3 ⟨v3, rfl, A3⟩; rw [HT.out [92, 102] (by decide)] at A3; go_wp2_with fail
        go_roundw
        case rel => exact ⟨i + 1, by omega, by go_num, A3⟩
        case measure => simp [intOf]; omega
      · have e : qnameI 13 = (114, true) := by decide
        have HN := hid' (qname_any 13); rw [e] at HN; go_wp2_with fail
        refine (HN.out _).mono ?_; rintro e w2 ⟨rfl, rfl⟩; go_wp2_with fail
        refine (HP.out _ [92, 114] ?_ 2 rfl (by decide)).mono ?_
        · intro j hj; rcases j with _ | _ | j
          · rfl
          · rfl
          · simp at hj; omega
        rintro e w3 ⟨v3, rfl, A3⟩; rw [HT.out [92, 114] (by decide)] at A3; go_wp2_with fail
        go_roundw
        case rel => exact ⟨i + 1, by omega, by go_num, A3⟩
        case measure => simp [intOf]; omega
    simp only [not_or] at h1 h2
    have e : qnameI (c.toNat : Int) = (0, false) := by
     have f : ∀ (n : UInt8) (m : Int), m = n.toNat → ¬ c = n → ¬ (c.toNat : Int) = m := fun n m hm h e => h (UInt8.toNat_inj.1 (by omega)); unfold qnameI; rw [if_neg (f 8 8 rfl h2.1), if_neg (f 9 9 rfl h2.2.1), if_neg (f 10 10 rfl h2.2.2.1), if_neg (f 12 12 rfl h2.2.2.2.1), if_neg (f 13 13 rfl h2.2.2.2.2)]
    rw [e] at HN; have g1 := u8F 40 h1.1 40; have g2 := u8F 41 h1.2.1 41; have g3 := u8F 92 h1.2.2 92
    by_cases h3 : c < 32 ∨ 126 < c
    · have ho : [92, 48 + c / 64, 48 + c / 8 % 8, 48 + c % 8] = oneQ c := by
       unfold oneQ; rw [if_neg (by simp only [not_or]; exact h1), if_neg h2.1, if_neg h2.2.1, if_neg h2.2.2.1, if_neg h2.2.2.2.1, if_neg h2.2.2.2.2, if_pos h3]
      have hd : (decide ((c.toNat : Int) < 32) || decide (126 < (c.toNat : Int))) = true := by
       rcases h3 with h | h
       · have : (c.toNat : Int) < 32 := by have := UInt8.lt_iff_toNat_lt.1 h; have e : (32 : UInt8).toNat = 32 := rfl; omega
         simp [this]
       · have : 126 < (c.toNat : Int) := by have := UInt8.lt_iff_toNat_lt.1 h; have e : (126 : UInt8).toNat = 126 := rfl; omega
         simp [this]
      clear h1 h2 h3 e
      by_cases d0 : (c.toNat : Int) < 32
      · have d1 : decide ((c.toNat : Int) < 32) = true := by simpa using d0
        clear d0 hd; go_wp2_with fail
        refine (HN.out _).mono ?_; rintro e w2 ⟨rfl, rfl⟩; go_wp2_with fail
        refine (HP.out _ [92, 48 + c / 64, 48 + c / 8 % 8, 48 + c % 8] ?_ 4 rfl (by decide)).mono ?_
        · obtain ⟨o1, o2, o3⟩ := oct_val c; intro j hj
          rcases j with _ | _ | _ | _ | j
          · rfl
          · exact congrArg (fun x => some (Value.int .u8 x)) o1.symm
          · exact congrArg (fun x => some (Value.int .u8 x)) o2.symm
          · exact congrArg (fun x => some (Value.int .u8 x)) o3.symm
          · simp at hj; omega
        rintro e w3 ⟨v3, rfl, A3⟩; rw [HT.out _ ho] at A3; go_wp2_with fail
        go_roundw
        case rel => exact ⟨i + 1, by omega, by go_num, A3⟩
        case measure => simp [intOf]; omega
      · have d1 : decide ((c.toNat : Int) < 32) = false := by simpa using d0
        have d2 : decide (126 < (c.toNat : Int)) = true := by rw [d1, Bool.false_or] at hd; exact hd
        clear d0 hd; go_wp2_with fail
        refine (HN.out _).mono ?_; rintro e w2 ⟨rfl, rfl⟩; go_wp2_with fail
        refine (HP.out _ [92, 48 + c / 64, 48 + c / 8 % 8, 48 + c % 8] ?_ 4 rfl (by decide)).mono ?_
        · obtain ⟨o1, o2, o3⟩ := oct_val c; intro j hj
          rcases j with _ | _ | _ | _ | j
          · rfl
          · exact congrArg (fun x => some (Value.int .u8 x)) o1.symm
          · exact congrArg (fun x => some (Value.int .u8 x)) o2.symm
          · exact congrArg (fun x => some (Value.int .u8 x)) o3.symm
          · simp at hj; omega
        rintro e w3 ⟨v3, rfl, A3⟩; rw [HT.out _ ho] at A3; go_wp2_with fail
        go_roundw
        case rel => exact ⟨i + 1, by omega, by go_num, A3⟩
        case measure => simp [intOf]; omega
    · have h32 : ¬ (c.toNat : Int) < 32 := fun h => h3 (.inl (UInt8.lt_iff_toNat_lt.2 (by show c.toNat < 32; omega))); have h126 : ¬ 126 < (c.toNat : Int) := fun h => h3 (.inr (UInt8.lt_iff_toNat_lt.2 (by show 126 < c.toNat; omega)))
      have d1 : decide ((c.toNat : Int) < 32) = false := by simpa using h32
      have d2 : decide (126 < (c.toNat : Int)) = false := by simpa using h126
      have ho : [c] = oneQ c := by
       unfold oneQ; rw [if_neg (by simp only [not_or]; exact h1), if_neg h2.1, if_neg h2.2.1, if_neg h2.2.2.1, if_neg h2.2.2.2.1, if_neg h2.2.2.2.2, if_neg h3]
      clear h1 h2 h3 h32 h126 e; go_wp2_with fail
      refine (HN.out _).mono ?_; rintro e w2 ⟨rfl, rfl⟩; go_wp2_with fail
      refine (HP.out _ [c] ?_ 1 rfl (by decide)).mono ?_
      · intro j hj; rcases j with _ | j
        · rfl
        · simp at hj
      rintro e w3 ⟨v3, rfl, A3⟩; rw [HT.out [c] ho] at A3; go_wp2_with fail
      go_roundw
      case rel => exact ⟨i + 1, by omega, by go_num, A3⟩
      case measure => simp [intOf]; omega
  · obtain rfl : i = s.size := by omega
    rw [List.take_of_length_le (by rw [size_lst]; exact Nat.le_refl _)] at A2; have hlen := quote_len s.toList; rw [size_lst] at hlen; have HP := hid' (QOwn.put A2 #[.int .u8 41] [41] (by intro j hj; simp at hj; subst hj; rfl) (by simp; omega) 1 rfl); clear A2 hlen; go_wp2_with fail
    refine HP.out.mono ?_; rintro e w3 ⟨v3, rfl, A3⟩; have hcv := own_str A3.2 w3 (Chg.refl _ _); have X3 := A3.1; clear A3; go_wp2_with fail
    go_ret; exact ⟨rfl, X3⟩
abbrev tokBox (k n : Int) (s : ByteArray) (p : Int) : Obj := .cells #[.int .i64 k, .int .i64 n, .string s, .int .i64 p] 73
set_option maxRecDepth 100000 in
theorem sign_all (k : Int) (h0 : -9223372036854775808 ≤ k) (h1 : k ≤ 9223372036854775807) (w : World) : Calls Tryz.prog 80 #[.int .i64 k] w fun e w' => e = .returned (.string (signB k)) ∧ w = w' := by
 have hr : signL k = if k = 7 then [123] else if k = 8 then [125] else if k = 9 then [91] else if k = 10 then [93] else if k = 11 then [60, 60] else if k = 12 then [62, 62] else [] := rfl
 by_cases c7 : k = 7
 · subst c7; go_enter Tryz.func80, Tryz.ntmps80
   go_wp2
   go_ret; exact ⟨rfl, rfl⟩
 by_cases c8 : k = 8
 · subst c8; go_enter Tryz.func80, Tryz.ntmps80
   go_wp2
   go_ret; exact ⟨rfl, rfl⟩
 by_cases c9 : k = 9
 · subst c9; go_enter Tryz.func80, Tryz.ntmps80
   go_wp2
   go_ret; exact ⟨rfl, rfl⟩
 by_cases c10 : k = 10
 · subst c10; go_enter Tryz.func80, Tryz.ntmps80
   go_wp2
   go_ret; exact ⟨rfl, rfl⟩
 by_cases c11 : k = 11
 · subst c11; go_enter Tryz.func80, Tryz.ntmps80
   go_wp2
   go_ret; exact ⟨rfl, rfl⟩
 by_cases c12 : k = 12
 · subst c12; go_enter Tryz.func80, Tryz.ntmps80
   go_wp2
   go_ret; exact ⟨rfl, rfl⟩
 rw [if_neg c7, if_neg c8, if_neg c9, if_neg c10, if_neg c11, if_neg c12] at hr; have HR := hid' hr
 have u7 : (wrap64 (k - 7) == 0) = false := by
  have : wrap64 (k - 7) ≠ 0 := by unfold wrap64; omega
  simpa using this
 have u8 : (wrap64 (k - 7) == 1) = false := by
  have : wrap64 (k - 7) ≠ 1 := by unfold wrap64; omega
  simpa using this
 have u9 : (wrap64 (k - 7) == 2) = false := by
  have : wrap64 (k - 7) ≠ 2 := by unfold wrap64; omega
  simpa using this
 have u10 : (wrap64 (k - 7) == 3) = false := by
  have : wrap64 (k - 7) ≠ 3 := by unfold wrap64; omega
  simpa using this
 have u11 : (wrap64 (k - 7) == 4) = false := by
  have : wrap64 (k - 7) ≠ 4 := by unfold wrap64; omega
  simpa using this
 have u12 : (wrap64 (k - 7) == 5) = false := by
  have : wrap64 (k - 7) ≠ 5 := by unfold wrap64; omega
  simpa using this
 clear hr c7 c8 c9 c10 c11 c12; go_enter Tryz.func80, Tryz.ntmps80
 go_wp2
 go_ret; exact ⟨by rw [signB, HR.out]; rfl, rfl⟩
theorem some_ne {s : ByteArray} (c1 : s.size ≠ 0) : s.toList.isEmpty = false := by
 have := tl_size s
 cases hl : s.toList with
 | nil => rw [hl] at this; exact absurd this.symm c1
 | cons => rfl
set_option maxRecDepth 100000 in
theorem mayK_1 (n p : Int) (s : ByteArray) (v : Bool) (hv : (decide (s.size = 0) && decide (-2147483647 ≤ n) && decide (n ≤ 2147483647)) = v) (w : World) :
 Calls Tryz.prog 67 #[Tok.val ⟨1, n, s, p⟩] w fun r w' => r = .returned (.bool v) ∧ Chg NoB w w' := by
 have X1 := (Chg.refl NoB w).alloc (tokBox 1 n s p)
 by_cases c1 : s.size = 0
 · obtain rfl := size0 c1; rw [c1, show decide ((0 : Nat) = 0) = true from rfl, Bool.true_and] at hv; clear c1
   by_cases c2 : -2147483647 ≤ n
   · have d2 : decide (-2147483647 ≤ n) = true := decide_eq_true c2; rw [d2, Bool.true_and] at hv; clear c2; go_enter Tryz.func67, Tryz.ntmps67
     go_wp2_with fail
     go_ret; exact ⟨rfl, X1⟩
   · have d2 : decide (-2147483647 ≤ n) = false := decide_eq_false c2; rw [d2, Bool.false_and] at hv; subst hv; clear c2; go_enter Tryz.func67, Tryz.ntmps67
     go_wp2_with fail
     go_ret; exact ⟨rfl, X1⟩
 · have c2 := some_ne c1; rw [decide_eq_false c1, Bool.false_and, Bool.false_and] at hv; subst hv; clear c1; go_enter Tryz.func67, Tryz.ntmps67
   go_wp2_with fail
   go_ret; exact ⟨rfl, X1⟩
set_option maxRecDepth 100000 in
theorem mayK_2 (n p : Int) (s : ByteArray) (v : Bool) (hv : (decide (s.size = 0) && decide (-1073741823 ≤ n) && decide (n ≤ 1073741823)) = v) (w : World) :
 Calls Tryz.prog 67 #[Tok.val ⟨2, n, s, p⟩] w fun r w' => r = .returned (.bool v) ∧ Chg NoB w w' := by
 have X1 := (Chg.refl NoB w).alloc (tokBox 2 n s p)
 by_cases c1 : s.size = 0
 · obtain rfl := size0 c1; rw [c1, show decide ((0 : Nat) = 0) = true from rfl, Bool.true_and] at hv; clear c1
   by_cases c2 : -1073741823 ≤ n
   · have d2 : decide (-1073741823 ≤ n) = true := decide_eq_true c2; rw [d2, Bool.true_and] at hv; clear c2; go_enter Tryz.func67, Tryz.ntmps67
     go_wp2_with fail
     go_ret; exact ⟨rfl, X1⟩
   · have d2 : decide (-1073741823 ≤ n) = false := decide_eq_false c2; rw [d2, Bool.false_and] at hv; subst hv; clear c2; go_enter Tryz.func67, Tryz.ntmps67
     go_wp2_with fail
     go_ret; exact ⟨rfl, X1⟩
 · have c2 := some_ne c1; rw [decide_eq_false c1, Bool.false_and, Bool.false_and] at hv; subst hv; clear c1; go_enter Tryz.func67, Tryz.ntmps67
   go_wp2_with fail
   go_ret; exact ⟨rfl, X1⟩
set_option maxRecDepth 100000 in
theorem mayK_n (k n p : Int) (s : ByteArray) (h1 : k ≠ 1) (h2 : k ≠ 2) (hn : n ≠ 0) (w : World) :
 Calls Tryz.prog 67 #[Tok.val ⟨k, n, s, p⟩] w fun r w' => r = .returned (.bool false) ∧ Chg NoB w w' := by
 have X1 := (Chg.refl NoB w).alloc (tokBox k n s p)
 have e1 : (k == 1) = false := by simpa using h1
 have e2 : (k == 2) = false := by simpa using h2
 have e3 : (n == 0) = false := by simpa using hn
 clear h1 h2 hn; go_enter Tryz.func67, Tryz.ntmps67
 go_wp2_with fail
 go_ret; exact ⟨rfl, X1⟩
set_option maxRecDepth 100000 in
theorem mayK_6 (p : Int) (s : ByteArray) (hs : s.size ≤ 9223372036854775807) (w : World) :
 Calls Tryz.prog 67 #[Tok.val ⟨6, 0, s, p⟩] w fun r w' => r = .returned (.bool (decide (s.size ≤ 4000))) ∧ Chg NoB w w' := by
 have X1 := (Chg.refl NoB w).alloc (tokBox 6 0 s p); have hm := IntWalk.i64_in (s.size) (by omega)
 have e : decide (s.size ≤ 4000) = decide ((s.size : Int) ≤ 4000) := by
  rw [decide_eq_decide]; omega
 rw [e]; go_enter Tryz.func67, Tryz.ntmps67
 go_wp2_with fail
 go_ret; exact ⟨rfl, X1⟩
theorem signB_ne (k : Int) (h : signL k ≠ []) : (signB k).toList.isEmpty = false := by
 apply some_ne
 intro e; exact h (List.eq_nil_of_length_eq_zero e)
set_option maxRecDepth 100000 in
theorem mayK_s (k p : Int) (s : ByteArray) (h0 : -9223372036854775808 ≤ k) (h9 : k ≤ 9223372036854775807) (hk : ∀ j : Int, 1 ≤ j → j ≤ 6 → k ≠ j) (v : Bool) (hv : (decide (signL k ≠ []) && decide (s.size = 0)) = v) (w : World) :
 Calls Tryz.prog 67 #[Tok.val ⟨k, 0, s, p⟩] w fun r w' => r = .returned (.bool v) ∧ Chg NoB w w' := by
 have X1 := (Chg.refl NoB w).alloc (tokBox k 0 s p); have HI := hid' (fun w' => sign_all k h0 h9 w')
 have e1 : (k == 1) = false := by simpa using hk 1 (by omega) (by omega)
 have e2 : (k == 2) = false := by simpa using hk 2 (by omega) (by omega)
 have e3 : (k == 3) = false := by simpa using hk 3 (by omega) (by omega)
 have e4 : (k == 4) = false := by simpa using hk 4 (by omega) (by omega)
 have e5 : (k == 5) = false := by simpa using hk 5 (by omega) (by omega)
 have e6 : (k == 6) = false := by simpa using hk 6 (by omega) (by omega)
 have hb := blk_new w (tokBox k 0 s p); clear hk h0 h9
 by_cases c1 : signL k = []
 · rw [decide_eq_false (not_not_intro c1), Bool.false_and] at hv; subst hv; rw [show signB k = ⟨#[]⟩ by unfold signB; rw [c1]] at HI; clear c1; go_enter Tryz.func67, Tryz.ntmps67
   go_wp2_with fail
   refine (HI.out _).mono ?_; rintro r w2 ⟨rfl, rfl⟩; have R1 := cells_of hb; have l1 := blk_lt hb; go_wp2_with fail
   go_ret; exact ⟨rfl, X1⟩
 · rw [decide_eq_true c1, Bool.true_and] at hv; have c3 := signB_ne k c1; generalize signB k = B at *; clear c1
   by_cases c2 : s.size = 0
   · obtain rfl := size0 c2; rw [decide_eq_true c2] at hv; subst hv; go_enter Tryz.func67, Tryz.ntmps67
     go_wp2_with fail
     refine (HI.out _).mono ?_; rintro r w2 ⟨rfl, rfl⟩; have R1 := cells_of hb; have l1 := blk_lt hb; go_wp2_with fail
     go_ret; exact ⟨rfl, X1⟩
   · have c4 := some_ne c2; rw [decide_eq_false c2] at hv; subst hv; clear c2; go_enter Tryz.func67, Tryz.ntmps67
     go_wp2_with fail
     refine (HI.out _).mono ?_; rintro r w2 ⟨rfl, rfl⟩; have R1 := cells_of hb; have l1 := blk_lt hb; go_wp2_with fail
     go_ret; exact ⟨rfl, X1⟩
set_option maxRecDepth 100000 in
theorem mayK_4 (p : Int) (s : ByteArray) (hs : s.size ≤ 9223372036854775807) (v : Bool) (hv : (decide (s.size ≤ 100) && decide (regL s.toList = s.size)) = v) (w : World) :
 Calls Tryz.prog 67 #[Tok.val ⟨4, 0, s, p⟩] w fun r w' => r = .returned (.bool v) ∧ Chg NoB w w' := by
 have hm := IntWalk.i64_in (s.size) (by omega); have X1 := (Chg.refl NoB w).alloc (tokBox 4 0 s p); have hb := blk_new w (tokBox 4 0 s p)
 by_cases h : s.size ≤ 100
 · have HR := hid' (fun w' => regular_any s 0 (by omega) (by omega) w'); rw [List.drop_zero] at HR
   have d1 : decide ((s.size : Int) ≤ 100) = true := by simp; omega
   have e1 : (((regL s.toList : Nat) : Int) == (s.size : Int)) = v := by
    rw [← hv]; simp [h]; rw [Bool.eq_iff_iff]; simp; omega
   clear h hv; go_enter Tryz.func67, Tryz.ntmps67
   go_upto_region 16 with (fail)
   generalize w.alloc _ = w1 at *; generalize w.heap.size = b at *; have RC := Chg.cells (S := NoB) hb id; have hS1 : Chg NoB w1 w1 := Chg.refl _ _; have l1 := blk_lt hb
   go_region_held3 (fun W' => Chg NoB w1 W') (first | (with_reducible assumption) | (with_reducible exact Chg.drew (by with_reducible assumption)))
    (first | (go_at_call 83; refine (HR.out _).mono ?_; rintro r w4 ⟨rfl, rfl⟩))
   go_wp2_with fail
   go_ret; exact ⟨rfl, X1.trans (by first | with_reducible assumption | (with_reducible exact Chg.drew (by with_reducible assumption)))⟩
 · have d1 : decide ((s.size : Int) ≤ 100) = false := by simp; omega
   have e1 : v = false := by rw [← hv]; simp; omega
   subst e1; clear h hv; go_enter Tryz.func67, Tryz.ntmps67
   go_upto_region 16 with (fail)
   generalize w.alloc _ = w1 at *; generalize w.heap.size = b at *; have R1 := cells_of hb; have l1 := blk_lt hb
   go_quiet (fail)
   go_wp2_with fail
   go_ret; exact ⟨rfl, X1.drewN _⟩
set_option maxRecDepth 100000 in
theorem mayK_5 (p : Int) (s : ByteArray) (hs : s.size ≤ 9223372036854775807) (v : Bool) (hv : (decide (s.size ≤ 100) && decide (regL s.toList = s.size)) = v) (w : World) :
 Calls Tryz.prog 67 #[Tok.val ⟨5, 0, s, p⟩] w fun r w' => r = .returned (.bool v) ∧ Chg NoB w w' := by
 have hm := IntWalk.i64_in (s.size) (by omega); have X1 := (Chg.refl NoB w).alloc (tokBox 5 0 s p); have hb := blk_new w (tokBox 5 0 s p)
 by_cases h : s.size ≤ 100
 · have HR := hid' (fun w' => regular_any s 0 (by omega) (by omega) w'); rw [List.drop_zero] at HR
   have d1 : decide ((s.size : Int) ≤ 100) = true := by simp; omega
   have e1 : (((regL s.toList : Nat) : Int) == (s.size : Int)) = v := by
    rw [← hv]; simp [h]; rw [Bool.eq_iff_iff]; simp; omega
   clear h hv; go_enter Tryz.func67, Tryz.ntmps67
   go_upto_region 16 with (fail)
   generalize w.alloc _ = w1 at *; generalize w.heap.size = b at *; have RC := Chg.cells (S := NoB) hb id; have hS1 : Chg NoB w1 w1 := Chg.refl _ _; have l1 := blk_lt hb
   go_region_held3 (fun W' => Chg NoB w1 W') (first | (with_reducible assumption) | (with_reducible exact Chg.drew (by with_reducible assumption)))
    (first | (go_at_call 83; refine (HR.out _).mono ?_; rintro r w4 ⟨rfl, rfl⟩))
   go_wp2_with fail
   go_ret; exact ⟨rfl, X1.trans (by first | with_reducible assumption | (with_reducible exact Chg.drew (by with_reducible assumption)))⟩
 · have d1 : decide ((s.size : Int) ≤ 100) = false := by simp; omega
   have e1 : v = false := by rw [← hv]; simp; omega
   subst e1; clear h hv; go_enter Tryz.func67, Tryz.ntmps67
   go_upto_region 16 with (fail)
   generalize w.alloc _ = w1 at *; generalize w.heap.size = b at *; have R1 := cells_of hb; have l1 := blk_lt hb
   go_quiet (fail)
   go_wp2_with fail
   go_ret; exact ⟨rfl, X1.drewN _⟩
set_option maxRecDepth 100000 in
set_option maxHeartbeats 400000 in
theorem mayK_3 (p : Int) (s : ByteArray) (hs : s.size ≤ 9223372036854775807) (v : Bool) (hv : (decide ((readF s.toList).2.2 = 3) && decide (s.size ≠ 0) && decide (s.size ≤ 100) && decide (regL s.toList = s.size)) = v) (w : World) :
 Calls Tryz.prog 67 #[Tok.val ⟨3, 0, s, p⟩] w fun r w' => r = .returned (.bool v) ∧ Chg NoB w w' := by
 have HD := hid' (fun w' => read_any s (by omega) w'); generalize readF s.toList = RD at *; obtain ⟨rk, rv, re⟩ := RD; simp only at hv; have hm := IntWalk.i64_in (s.size) (by omega); have X1 := (Chg.refl NoB w).alloc (tokBox 3 0 s p); have hb := blk_new w (tokBox 3 0 s p)
 by_cases c0 : re = 3
 · subst c0
   by_cases c1 : s.size = 0
   · obtain rfl := size0 c1
     have e1 : v = false := by rw [← hv, c1]; rfl
     subst e1; clear hv; go_enter Tryz.func67, Tryz.ntmps67
     go_wp2_with fail
     refine (HD.out _).mono ?_; rintro r w2 ⟨rfl, X2⟩; generalize hW : w.alloc _ = w1 at *; clear hW; have hb2 := X2.blk hb id; have X3 := X1.trans X2; generalize w.heap.size = b at *; clear hb X1 X2; have R1 := cells_of hb2; have l1 := blk_lt hb2; go_wp2_with fail
     go_ret; exact ⟨rfl, X3⟩
   · have c2 : s.toList.isEmpty = false := by
      have := tl_size s
      cases hl : s.toList with
      | nil => rw [hl] at this; exact absurd this.symm c1
      | cons => rfl
     by_cases h : s.size ≤ 100
     · have HR := hid' (fun w' => regular_any s 0 (by omega) (by omega) w'); rw [List.drop_zero] at HR
       have d1 : decide ((s.size : Int) ≤ 100) = true := by simp; omega
       have e1 : (((regL s.toList : Nat) : Int) == (s.size : Int)) = v := by
        rw [← hv]; simp [h, c1]; rw [Bool.eq_iff_iff]; simp; omega
       clear h hv c1; go_enter Tryz.func67, Tryz.ntmps67
       go_wp2_with fail
       refine (HD.out _).mono ?_; rintro r w2 ⟨rfl, X2⟩; generalize hW : w.alloc _ = w1 at *; clear hW; have hb2 := X2.blk hb id; have X3 := X1.trans X2; generalize w.heap.size = b at *; clear hb X1 X2; have R1 := cells_of hb2; have l1 := blk_lt hb2
       go_upto_region 16 with (fail)
       have RC := Chg.cells (S := NoB) hb2 id; have hS1 : Chg NoB w2 w2 := Chg.refl _ _
       go_region_held3 (fun W' => Chg NoB w2 W') (first | (with_reducible assumption) | (with_reducible exact Chg.drew (by with_reducible assumption)))
        (first | (go_at_call 83; refine (HR.out _).mono ?_; rintro r w4 ⟨rfl, rfl⟩))
       go_wp2_with fail
       go_ret; exact ⟨rfl, X3.trans (by first | with_reducible assumption | (with_reducible exact Chg.drew (by with_reducible assumption)))⟩
     · have d1 : decide ((s.size : Int) ≤ 100) = false := by simp; omega
       have e1 : v = false := by rw [← hv]; simp; omega
       subst e1; clear h hv c1; go_enter Tryz.func67, Tryz.ntmps67
       go_wp2_with fail
       refine (HD.out _).mono ?_; rintro r w2 ⟨rfl, X2⟩; generalize hW : w.alloc _ = w1 at *; clear hW; have hb2 := X2.blk hb id; have X3 := X1.trans X2; generalize w.heap.size = b at *; clear hb X1 X2; have R1 := cells_of hb2; have l1 := blk_lt hb2
       go_upto_region 16 with (fail)
       go_quiet (fail)
       go_wp2_with fail
       go_ret; exact ⟨rfl, X3.drewN _⟩
 · have e0 : (re == 3) = false := by simpa using c0
   have e1 : v = false := by rw [← hv]; simp [c0]
   subst e1; clear hv c0; go_enter Tryz.func67, Tryz.ntmps67
   go_wp2_with fail
   refine (HD.out _).mono ?_; rintro r w2 ⟨rfl, X2⟩; generalize hW : w.alloc _ = w1 at *; clear hW; have hb2 := X2.blk hb id; have X3 := X1.trans X2; generalize w.heap.size = b at *; clear hb X1 X2; have R1 := cells_of hb2; have l1 := blk_lt hb2; go_wp2_with fail
   all_goals first | (go_ret; exact ⟨rfl, X3⟩) | (exfalso; simp_all; done)
theorem mayTok_any (t : Tok) (hs : t.s.size ≤ 9223372036854775807) (h0 : -9223372036854775808 ≤ t.kind) (h9 : t.kind ≤ 9223372036854775807) (w : World) :
 Calls Tryz.prog 67 #[t.val] w fun r w' => r = .returned (.bool (mayT t)) ∧ Chg NoB w w' := by
 obtain ⟨k, n, s, p⟩ := t; simp only at hs h0 h9
 obtain ⟨v, hv⟩ : ∃ v, mayT ⟨k, n, s, p⟩ = v := ⟨_, rfl⟩
 rw [hv]; unfold mayT at hv; simp only at hv
 by_cases h1 : k = 1
 · subst h1; rw [if_pos rfl] at hv; exact mayK_1 n p s v hv w
 rw [if_neg h1] at hv
 by_cases h2 : k = 2
 · subst h2; rw [if_pos rfl] at hv; exact mayK_2 n p s v hv w
 rw [if_neg h2] at hv
 by_cases hn : n ≠ 0
 · rw [if_pos hn] at hv; subst hv; exact mayK_n k n p s h1 h2 hn w
 rw [if_neg hn] at hv
 have hn0 : n = 0 := by omega
 subst hn0
 by_cases h3 : k = 3
 · subst h3; rw [if_pos rfl] at hv; exact mayK_3 p s hs v hv w
 rw [if_neg h3] at hv
 by_cases h4 : k = 4
 · subst h4; rw [if_pos (.inl rfl)] at hv; exact mayK_4 p s hs v hv w
 by_cases h5 : k = 5
 · subst h5; rw [if_pos (.inr rfl)] at hv; exact mayK_5 p s hs v hv w
 rw [if_neg (fun h => h.elim h4 h5)] at hv
 by_cases h6 : k = 6
 · subst h6; rw [if_pos rfl] at hv; rw [← hv]; exact mayK_6 p s hs w
 rw [if_neg h6] at hv; exact mayK_s k p s h0 h9 (fun j a b => by omega) v hv w
end Go.Proofs.YtpiomapnmempoaaGreat
