/- Parts of the proof: Whf, Srp, Prf, Uva. -/
import Derived.Test.YtpiomapnmempoaaGreatY25
import Derived.Test.YtpiomapnmempoaaGreatY26
namespace Go.Proofs.YtpiomapnmempoaaGreat
open Go.RowKit
variable {w w0 : World} {M : List (Nat × List C)} {K : List (Nat × Obj)} {hp : Nat}
theorem Told.ask {bt : Nat} {b : List UInt8} {f : Nat} {args : Array Value} {r : Value} (A : Told w0 w M K hp bt b)
 (h : ∀ K', Ats w0 w M K' → Calls Tryz.prog f args w fun e w' => e = .returned r ∧ Ats w0 w' M K') :
 Calls Tryz.prog f args w fun e w' => e = .returned r ∧ Told w0 w' M K hp bt b := by
 obtain ⟨v, R, hR, A⟩ := A
 exact (h _ A).mono fun e w' ⟨h1, h2⟩ => ⟨h1, v, R, hR, h2⟩
set_option maxRecDepth 100000 in
theorem plain_str {H : List C} (A : Ats w0 w M K) (hm : (hp, H) ∈ M) (o : O) (hk : o.kind = 8) (b : ByteArray) (e : Int) (hb : bytesH H o = (b, e)) :
 Calls Tryz.prog 55 #[ptr hp, o.val] w fun r w' => r = .returned (.string b) ∧ Ats w0 w' M K := by
 have HB := hid' (fun (w' : World) (K' : List (Nat × Obj)) (A' : Ats w0 w' M K') => at_bytes A' o hb hm); obtain ⟨kk, kx, kn, kp, kl, ks⟩ := o; simp only at hk; subst hk; have A1 := A.alloc (.cells #[.int .i64 8, .bool kx, .int .i64 kn, .int .i64 kp, .int .i64 kl, .string ks] 49); clear A hb hm; go_enter Tryz.func55, Tryz.ntmps55
 go_wp2_with fail
 refine (HB.out _ _ A1).mono ?_; rintro r w2 ⟨rfl, A2⟩; go_wp2_with fail
 go_ret; exact ⟨rfl, A2.keep (List.sublist_cons_self _ _)⟩
set_option maxRecDepth 100000 in
set_option maxHeartbeats 400000 in
theorem whole_str {bt : Nat} {b : List UInt8} (A : Told w0 w M K hp bt b) (hb : b.length ≤ 1000) (deep : Int) {H : List C} (hM : (hp, H) ∈ M) (ex : Bool) (n a l : Int) (s x : ByteArray) (e : Int) (hx : bytesH H ⟨8, ex, n, a, l, s⟩ = (x, e)) (hsx : x.size ≤ 100000) :
 Calls Tryz.prog 33 #[ptr bt, O.val ⟨8, ex, n, a, l, s⟩, .int .i64 deep] w fun r w' => r = .returned (.bool (decide ((b ++ (bytesB (parenL x.toList)).toList).length < 1000))) ∧ Told w0 w' M K hp bt ((b ++ (bytesB (parenL x.toList)).toList).take 1000) := by
 have hsz : (bytesB (parenL x.toList)).size ≤ 1000000 := by
  have := quote_len x.toList; rw [size_lst] at this; show (parenL x.toList).length ≤ 1000000; simp [parenL]
  omega
 have HP := hid' (fun (w' : World) (K' : List (Nat × Obj)) (A' : Told w0 w' M K' hp bt b) => A'.ask (r := .string x) (fun K2 A2 => plain_str A2 hM ⟨8, ex, n, a, l, s⟩ rfl x e hx)); have HQ := hid' (fun w' => parenP_any x hsx w'); generalize bytesB (parenL x.toList) = T at *
 obtain ⟨R, hR⟩ : ∃ R, decide ((b ++ T.toList).length < 1000) = R := ⟨_, rfl⟩
 have HR := hid' hR; clear hR hx hsx hM; have A1 := A.alloc (.cells #[.int .i64 8, .bool ex, .int .i64 n, .int .i64 a, .int .i64 l, .string s] 49); have l1 := blk_lt (A1.box _ (List.mem_cons_self ..)); have RC := fun W => TellS.cells (w0 := w0) (M := M) (K := K) (hp := hp) (bt := bt) (g := w.heap.size) (cs := #[.int .i64 8, .bool ex, .int .i64 n, .int .i64 a, .int .i64 l, .string s]) (T := 49) (fz := (0, 0)) W; have LS := hid' (fun W b => Told.lose (w0 := w0) (w := W) (M := M) (K := K) (hp := hp) (bt := bt) (b := b) (q := (w.heap.size, .cells #[.int .i64 8, .bool ex, .int .i64 n, .int .i64 a, .int .i64 l, .string s] 49))); generalize ((w.heap.size, Obj.cells #[.int .i64 8, .bool ex, .int .i64 n, .int .i64 a, .int .i64 l, .string s] 49) :: K : List (Nat × Obj)) = K' at *
 have FIN : Hid (∀ (w2 : World) (A2 : Told w0 w2 M K' hp bt b),
  Calls Tryz.prog 53 #[ptr bt, .string T] w2 fun r w' => r = .returned (.bool R) ∧ Told w0 w' M K' hp bt ((b ++ T.toList).take 1000)) := hid' (fun w2 A2 => by
  have := at_tput A2 hb T hsz
  rwa [HR.out] at this)
 have HA := hid' A1
 have S0 : TellS w0 M K' hp bt (w.alloc (.cells #[.int .i64 8, .bool ex, .int .i64 n, .int .i64 a, .int .i64 l, .string s] 49)) := ⟨_, A1⟩
 have RT := fun W => TellS.tell (w0 := w0) (M := M) (K := K') (hp := hp) (bt := bt) W; simp only at l1; clear A A1; go_enter Tryz.func33, Tryz.ntmps33
 go_wp2_with fail
 generalize hW : w.alloc _ = w1 at *; clear hW; generalize w.heap.size = g at *
 go_region_held3 (fun W' => TellS w0 M K' hp bt W') (first | assumption | (exact TellS.drew (by assumption)) | (exact ⟨_, by assumption⟩))
  (first | (go_at_call 55; refine (HP.out _ _ (by first | exact HA.out | exact HA.out.pure (Chg.refl NoB w1).drew)).mono ?_; rintro r w4 ⟨rfl, A4⟩) | (go_at_call 54; refine (HQ.out _).mono ?_; rintro r w5 ⟨rfl, X5⟩; have A6 := A4.pure X5) | (go_at_call 53; refine (FIN.out _ A6).mono ?_; rintro r w5 ⟨rfl, A5⟩))
 go_wp2_with fail
 go_ret; rw [HR.out]; exact ⟨rfl, LS.out _ _ A5⟩
set_option maxRecDepth 100000 in
set_option maxHeartbeats 400000 in
theorem at_fullT (A : Ats w0 w M K) (o : O) (T : List UInt8) (HW : ∀ w K bt, Told w0 w M K hp bt [] → Calls Tryz.prog 33 #[ptr bt, o.val, .int .i64 0] w fun r w' => ∃ bv, r = .returned (.bool bv) ∧ Told w0 w' M K hp bt (T.take 1000)) :
 Calls Tryz.prog 18 #[ptr hp, o.val] w fun r w' => r = .returned (.string ⟨(T.take 1000).toArray⟩) ∧ Ats w0 w' M K := by
 obtain ⟨k, ex, n, a, l, s⟩ := o; have A1 := A.alloc (.cells #[.int .i64 k, .bool ex, .int .i64 n, .int .i64 a, .int .i64 l, .string s] 49); have A2 := A1.alloc (.cells #[ptr hp, .slice none 0 0] 80)
 have T0 : Told w0 ((w.alloc (.cells #[.int .i64 k, .bool ex, .int .i64 n, .int .i64 a, .int .i64 l, .string s] 49)).alloc (.cells #[ptr hp, .slice none 0 0] 80)) M ((w.heap.size, .cells #[.int .i64 k, .bool ex, .int .i64 n, .int .i64 a, .int .i64 l, .string s] 49) :: K) hp (w.heap.size + 1) [] :=
  ⟨.slice none 0 0, [], .inl ⟨rfl, rfl, rfl, rfl⟩, by have h := A2; rw [show (w.alloc (.cells #[.int .i64 k, .bool ex, .int .i64 n, .int .i64 a, .int .i64 l, .string s] 49)).heap.size = w.heap.size + 1 by simp] at h; exact h⟩
 have R2 := cells_of (T0.box _ (List.mem_cons_self ..)); have l2 := blk_lt (T0.box _ (List.mem_cons_self ..)); have P := HW _ _ _ T0; have HP := hid' P; simp only at R2 l2; clear A A1 A2 HW T0 P; go_enter Tryz.func18, Tryz.ntmps18
 go_wp2_with fail
 refine HP.out.mono ?_; rintro r w3 ⟨bv, rfl, A3⟩; obtain ⟨v, R, hR, A4⟩ := A3; have hv := own_strF (Ats.ownsG (A4.perm (List.perm_middle (l₁ := R) (l₂ := (w.heap.size, .cells #[.int .i64 k, .bool ex, .int .i64 n, .int .i64 a, .int .i64 l, .string s] 49) :: K) (a := (w.heap.size + 1, tlBox hp v))).symm) hR); have R4 := cells_of (A4.box _ (List.mem_cons_self ..)); have l4 := blk_lt (A4.box _ (List.mem_cons_self ..)); simp only at R4 l4; have HA := hid' A4; clear A4 hR; go_wp2_with fail
 go_ret; refine ⟨rfl, HA.out.keep ?_⟩; exact ((List.sublist_cons_self _ K).trans (List.sublist_append_right R _)).trans (List.sublist_cons_self _ _)
theorem mayT_kind (t : Tok) (hm : mayT t = true) : t.kind ≠ 0 := by
 obtain ⟨k, n, s, p⟩ := t; rintro rfl; unfold mayT at hm; simp [signL] at hm
theorem next_nil : nextF [] = (0, Tok.nil, 0, 0) := by decide +kernel
theorem tokAt_nil (a : Nat) : tokAt a [] = Tok.nil := by unfold tokAt; rw [if_pos (.inl (by simp))]
theorem skip_blank (l : List UInt8) : skipL false (32 :: l) = 1 + skipL false l := by
 rw [skipL, if_pos (by decide)]
def EndR (T : List UInt8) : Prop := T = [] ∨ ∃ c t, T = c :: t ∧ (isReg c = false ∧ c ≠ 47)
theorem reg_appR : ∀ (s T : List UInt8), s.all isReg = true → EndR T → (s ++ T).takeWhile isReg = s
 | [], T, _, hT => by
  rcases hT with rfl | ⟨c, t, rfl, hc⟩
  · rfl
  · rw [List.nil_append, List.takeWhile_cons, hc.1]; rfl
 | c :: s, T, hs, hT => by
  rw [List.all_cons, Bool.and_eq_true] at hs; rw [List.cons_append, List.takeWhile_cons, hs.1, if_pos rfl, reg_appR s T hs.2 hT]
theorem reg_lenR (s T : List UInt8) (hs : s.all isReg = true) (hT : EndR T) : regL (s ++ T) = s.length := by unfold regL; rw [reg_appR s T hs hT]
theorem reg_takeR (s T : List UInt8) (hs : s.all isReg = true) (hT : EndR T) : (s ++ T).take (regL (s ++ T)) = s := by rw [reg_lenR s T hs hT, List.take_left]
theorem nameF_ofR (k : Int) (s T : List UInt8) (hs : s.all isReg = true) (hT : EndR T) (h : s.length ≤ 100) : nameF k (s ++ T) = (0, nameT k s, s.length) := by
 unfold nameF; rw [reg_takeR s T hs hT, reg_lenR s T hs hT, if_neg (by omega)]
theorem word_regR (s T : List UInt8) (hs : s.all isReg = true) (hn : s ≠ []) (hT : EndR T) : wordF (s ++ T) =
 if (readF s).2.2 = 0 then (0, ⟨(readF s).1, (readF s).2.1, ⟨#[]⟩, 0⟩, s.length) else if (readF s).2.2 = 2 then (2, Tok.nil, 0) else nameF 3 (s ++ T) := by
 have ht := reg_takeR s T hs hT; have hl := reg_lenR s T hs hT
 cases s with
 | nil => exact absurd rfl hn
 | cons c s =>
  rw [List.all_cons, Bool.and_eq_true] at hs; obtain ⟨a1, a2, a3, a4, a5, a6, a7, a8, a9, a10⟩ := reg_ne c hs.1; have hh : ((c :: s) ++ T).head? = some c := rfl; unfold wordF; rw [ht, hl, hh]; rw [show (c :: s) ++ T = c :: (s ++ T) from rfl, sg_none c _ a3 a4 a5 a6 a7 a8]; simp [a1, a2, a3, a4, a9]
theorem word_backR (t : Tok) (hm : mayT t = true) (T : List UInt8) (hT : EndR T) : wordF (printL t ++ T) = (0, { t with pos := 0 }, (printL t).length) := by
 obtain ⟨k, n, s, p⟩ := t; unfold mayT at hm; unfold printL; simp only at hm ⊢
 by_cases h1 : k = 1
 · subst h1; simp only [if_true, Bool.and_eq_true, decide_eq_true_eq] at hm ⊢; obtain ⟨⟨h2, h3⟩, h4⟩ := hm; rw [word_regR _ T (int_reg n).1 (int_reg n).2 hT, int_read n h3 h4, size0 h2]; rfl
 rw [if_neg h1] at hm ⊢
 by_cases h2 : k = 2
 · subst h2; simp only [if_true, Bool.and_eq_true, decide_eq_true_eq] at hm ⊢; obtain ⟨⟨h2, h3⟩, h4⟩ := hm; rw [word_regR _ T (fix_reg n).1 (fix_reg n).2 hT, fix_read n h3 h4, size0 h2]; rfl
 rw [if_neg h2] at hm ⊢
 by_cases hn : n ≠ 0
 · rw [if_pos hn] at hm; exact absurd hm (by decide)
 rw [if_neg hn] at hm
 obtain rfl : n = 0 := by omega
 by_cases h3 : k = 3
 · subst h3; simp only [if_true, Bool.and_eq_true, decide_eq_true_eq] at hm ⊢; obtain ⟨⟨⟨h4, h5⟩, h6⟩, h7⟩ := hm; have hr := all_reg s.toList (by rw [h7, tl_size]); have hne : s.toList ≠ [] := fun h => h5 (by rw [← tl_size, h]; rfl); rw [word_regR _ T hr hne hT, h4, if_neg (by decide), if_neg (by decide), nameF_ofR 3 _ T hr hT (by rw [tl_size]; exact h6)]; unfold nameT; rw [bytes_tl]
 rw [if_neg h3] at hm ⊢; have hsl : ∀ (u : List UInt8), sgF 6 7 (47 :: u) = 0 := fun u => sg_none 47 u (by decide) (by decide) (by decide) (by decide) (by decide) (by decide)
 by_cases h4 : k = 4
 · subst h4; simp only [true_or, if_true, Bool.and_eq_true, decide_eq_true_eq] at hm ⊢; obtain ⟨h6, h7⟩ := hm; have hr := all_reg s.toList (by rw [h7, tl_size])
   have hh : ¬ (s.toList ++ T).head? = some 47 := by
    cases hs : s.toList with
    | nil =>
     rcases hT with rfl | ⟨c, u, rfl, hc⟩
     · simp
     · simp; exact hc.2
    | cons c u =>
     rw [hs, List.all_cons, Bool.and_eq_true] at hr; simp
     exact (reg_ne c hr.1).2.2.2.2.2.2.2.2.1
   unfold wordF; rw [List.cons_append, hsl]; simp only [List.head?_cons, List.drop_succ_cons, List.drop_zero]; rw [if_neg (by decide), if_neg (by decide), if_neg (by decide), if_pos trivial, if_neg hh, nameF_ofR 4 _ T hr hT (by rw [tl_size]; exact h6)]; unfold nameT; rw [bytes_tl]; simp; omega
 rw [if_neg h4]
 by_cases h5 : k = 5
 · subst h5; simp only [or_true, if_true, Bool.and_eq_true, decide_eq_true_eq] at hm ⊢; obtain ⟨h6, h7⟩ := hm; have hr := all_reg s.toList (by rw [h7, tl_size]); unfold wordF; rw [List.cons_append, List.cons_append, hsl]; simp only [List.head?_cons, List.drop_succ_cons, List.drop_zero]; rw [if_neg (by decide), if_neg (by decide), if_neg (by decide), if_pos trivial, if_pos trivial, nameF_ofR 5 _ T hr hT (by rw [tl_size]; exact h6)]; unfold nameT; rw [bytes_tl]; simp; omega
 rw [if_neg (fun h => h.elim h4 h5)] at hm; rw [if_neg h5]
 by_cases h6 : k = 6
 · subst h6; simp only [if_true, decide_eq_true_eq] at hm ⊢; have hp : sgF 6 7 (parenL s.toList ++ T) = 0 := sg_none 40 _ (by decide) (by decide) (by decide) (by decide) (by decide) (by decide); unfold wordF; rw [hp, paren_back _ T (by rw [tl_size]; exact hm)]; rw [if_neg (by decide), if_pos (.inl rfl), bytes_tl]
 rw [if_neg h6] at hm ⊢; simp only [Bool.and_eq_true, decide_eq_true_eq] at hm; obtain ⟨h7, h8⟩ := hm; rw [size0 h8]
 have hk : k = 7 ∨ k = 8 ∨ k = 9 ∨ k = 10 ∨ k = 11 ∨ k = 12 := by
  unfold signL at h7
  repeat' split at h7
  all_goals first | omega | exact absurd rfl h7
 rcases hk with rfl | rfl | rfl | rfl | rfl | rfl
 · have : sgF 6 7 (signL 7 ++ T) = 7 := by simp [sgF, pre, signL, List.isPrefixOf]
   unfold wordF; rw [this]; rfl
 · have : sgF 6 7 (signL 8 ++ T) = 8 := by simp [sgF, pre, signL, List.isPrefixOf]
   unfold wordF; rw [this]; rfl
 · have : sgF 6 7 (signL 9 ++ T) = 9 := by simp [sgF, pre, signL, List.isPrefixOf]
   unfold wordF; rw [this]; rfl
 · have : sgF 6 7 (signL 10 ++ T) = 10 := by simp [sgF, pre, signL, List.isPrefixOf]
   unfold wordF; rw [this]; rfl
 · have : sgF 6 7 (signL 11 ++ T) = 11 := by simp [sgF, pre, signL, List.isPrefixOf]
   unfold wordF; rw [this]; rfl
 · have : sgF 6 7 (signL 12 ++ T) = 12 := by simp [sgF, pre, signL, List.isPrefixOf]
   unfold wordF; rw [this]; rfl
theorem all_fuelR : ∀ (f g : Nat) (l : List UInt8) (a : Nat) (acc : List Tok), l.length < f → l.length < g → allW f l a acc = allW g l a acc
 | 0, _, l, _, _, h, _ => by omega
 | _ + 1, 0, l, _, _, _, h => by omega
 | f + 1, g + 1, l, a, acc, h1, h2 => by
  rw [allW, allW]
  by_cases c1 : (nextF l).1 ≠ 0
  · rw [if_pos c1, if_pos c1]
  rw [if_neg c1, if_neg c1]
  by_cases c2 : (tokAt a l).kind = 0
  · rw [if_pos c2, if_pos c2]
  rw [if_neg c2, if_neg c2]
  by_cases c3 : acc.length = 4000
  · rw [if_pos c3, if_pos c3]
  rw [if_neg c3, if_neg c3]; have hp := next_prog a l c2; exact all_fuelR f g _ _ _ (by rw [List.length_drop]; omega) (by rw [List.length_drop]; omega)
theorem all_oneR (X T : List UInt8) (t : Tok) (c : UInt8) (u : List UInt8) (hX : X = c :: u) (h2 : kindI c.toNat ≠ 1) (h3 : c ≠ 37) (hw : wordF (X ++ T) = (0, t, X.length)) (hk : t.kind ≠ 0) (f a : Nat) (acc : List Tok) (hf : (X ++ T).length < f) (hn : acc.length < 4000) :
 allW f (X ++ T) a acc = allW f T (a + X.length) (acc ++ [{ t with pos := (a : Int) }]) := by
 have hs : skipL false (X ++ T) = 0 := by rw [hX, List.cons_append, skipL, if_neg h2, if_neg h3]
 have hne : ¬ (X ++ T) = [] := by rw [hX]; simp
 have hnx : nextF (X ++ T) = (0, t, 0, X.length) := by
  unfold nextF; rw [hs, List.drop_zero, hw, if_neg hne]; rfl
 have hta : tokAt a (X ++ T) = { t with pos := (a : Int) } := by
  unfold tokAt; rw [hs, List.drop_zero, hnx, if_neg (by simp [hne])]; rfl
 have hlX : 0 < X.length := by rw [hX]; simp
 rw [List.length_append] at hf
 obtain ⟨g, rfl⟩ : ∃ g, f = g + 1 := ⟨f - 1, by omega⟩
 rw [all_fuelR (g + 1) g T _ _ (by omega) (by omega)]; rw [allW, hnx, hta]; simp only [ne_eq, not_true_eq_false, if_false]; rw [if_neg hk, if_neg (by omega), Nat.zero_add, List.drop_left]; rfl
theorem all_blankR (T : List UInt8) (f a : Nat) (acc : List Tok) (hf : T.length + 1 < f) : allW f (32 :: T) a acc = allW f T (a + 1) acc := by
 have hs : skipL false (32 :: T) = 1 + skipL false T := skip_blank T
 have hd : ∀ n, (32 :: T).drop (1 + n) = T.drop n := fun n => by rw [Nat.add_comm, List.drop_succ_cons]
 have h1 : (nextF (32 :: T)).1 = (nextF T).1 ∧ (nextF (32 :: T)).2.1 = (nextF T).2.1 ∧ (nextF (32 :: T)).2.2.1 = 1 + (nextF T).2.2.1 ∧ (nextF (32 :: T)).2.2.2 = (nextF T).2.2.2 := by
  unfold nextF; rw [hs, hd]; split
  · exact ⟨rfl, rfl, rfl, rfl⟩
  · split <;> exact ⟨rfl, rfl, rfl, rfl⟩
 have h2 : tokAt a (32 :: T) = tokAt (a + 1) T := by
  unfold tokAt; rw [hs, hd, h1.1, h1.2.1, show a + (1 + skipL false T) = a + 1 + skipL false T by omega]
 obtain ⟨g, rfl⟩ : ∃ g, f = g + 1 := ⟨f - 1, by omega⟩
 rw [allW, allW, h2, h1.1, h1.2.2.1, h1.2.2.2]
 have e1 : ∀ n, a + (1 + (nextF T).2.2.1) + n = a + 1 + (nextF T).2.2.1 + n := fun n => by omega
 rw [e1, show a + (1 + (nextF T).2.2.1) = a + 1 + (nextF T).2.2.1 by omega, show 1 + (nextF T).2.2.1 + (nextF T).2.2.2 = 1 + ((nextF T).2.2.1 + (nextF T).2.2.2) by omega, hd]
def k3 (t : Tok) : Int × Int × ByteArray := (t.kind, t.n, t.s)
def Rds (X : List UInt8) (ts : List Tok) : Prop := ∀ (T : List UInt8) (f a : Nat) (acc : List Tok), EndR T → (X ++ T).length < f → acc.length + ts.length ≤ 4000 →
 ∃ us, us.map k3 = ts.map k3 ∧ allW f (X ++ T) a acc = allW f T (a + X.length) (acc ++ us)
theorem Rds.nil : Rds [] [] := fun T f a acc _ _ _ => ⟨[], rfl, by simp⟩
theorem Rds.word (t : Tok) (hm : mayT t = true) : Rds (printL t) [t] := fun T f a acc hT hf hn => by
 obtain ⟨c, u, h1, h2, h3⟩ := print_head t hm; simp only [List.length_cons, List.length_nil] at hn; exact ⟨[{ t with pos := (a : Int) }], rfl, all_oneR (printL t) T { t with pos := 0 } c u h1 h2 h3 (word_backR t hm T hT) (mayT_kind t hm) f a acc hf (by omega)⟩
theorem Rds.cat {X Y : List UInt8} {ts us : List Tok} (h1 : Rds X ts) (h2 : Rds Y us) : Rds (X ++ 32 :: Y) (ts ++ us) := fun T f a acc hT hf hn => by
 have e : X ++ 32 :: Y ++ T = X ++ (32 :: (Y ++ T)) := by simp
 rw [e] at hf ⊢; rw [List.length_append] at hn; obtain ⟨v1, k1, e1⟩ := h1 (32 :: (Y ++ T)) f a acc (.inr ⟨32, _, rfl, by decide, by decide⟩) hf (by omega)
 have l1 : v1.length = ts.length := by have := congrArg List.length k1; simpa using this
 rw [List.length_append, List.length_cons] at hf; obtain ⟨v2, k2, e2⟩ := h2 T f (a + X.length + 1) (acc ++ v1) hT (by omega) (by rw [List.length_append]; omega); refine ⟨v1 ++ v2, by rw [List.map_append, List.map_append, k1, k2], ?_⟩; rw [e1, all_blankR _ _ _ _ (by omega), e2, List.append_assoc, List.length_append, List.length_cons]
 congr 1
 omega
theorem word_7 (T : List UInt8) : wordF (123 :: T) = (0, ⟨7, 0, ⟨#[]⟩, 0⟩, 1) := by
 have : sgF 6 7 (123 :: T) = 7 := by simp [sgF, pre, signL, List.isPrefixOf]
 unfold wordF; rw [this]; rfl
theorem word_8 (T : List UInt8) : wordF (125 :: T) = (0, ⟨8, 0, ⟨#[]⟩, 0⟩, 1) := by
 have : sgF 6 7 (125 :: T) = 8 := by simp [sgF, pre, signL, List.isPrefixOf]
 unfold wordF; rw [this]; rfl
theorem Rds.brace {X : List UInt8} {ts : List Tok} (h : Rds X ts) : Rds (123 :: (X ++ [125])) (⟨7, 0, ⟨#[]⟩, 0⟩ :: (ts ++ [⟨8, 0, ⟨#[]⟩, 0⟩])) := fun T f a acc hT hf hn => by
 simp only [List.length_cons, List.length_append, List.length_nil] at hn
 have e : 123 :: (X ++ [125]) ++ T = [123] ++ (X ++ (125 :: T)) := by simp
 rw [e] at hf ⊢; have e1 := all_oneR [123] (X ++ 125 :: T) ⟨7, 0, ⟨#[]⟩, 0⟩ 123 [] rfl (by decide) (by decide) (word_7 _) (by decide) f a acc hf (by omega); rw [e1]; simp only [List.length_append, List.length_cons, List.length_nil] at hf; obtain ⟨v, k, e2⟩ := h (125 :: T) f (a + 1) (acc ++ [⟨7, 0, ⟨#[]⟩, (a : Int)⟩]) (.inr ⟨125, _, rfl, by decide, by decide⟩) (by simp; omega) (by simp; omega)
 have l1 : v.length = ts.length := by have := congrArg List.length k; simpa using this
 have e3 := all_oneR [125] T ⟨8, 0, ⟨#[]⟩, 0⟩ 125 [] rfl (by decide) (by decide) (word_8 _) (by decide) f (a + 1 + X.length) (acc ++ [⟨7, 0, ⟨#[]⟩, (a : Int)⟩] ++ v) (by simp; omega) (by simp; omega); refine ⟨⟨7, 0, ⟨#[]⟩, (a : Int)⟩ :: (v ++ [⟨8, 0, ⟨#[]⟩, ((a + 1 + X.length : Nat) : Int)⟩]), ?_, ?_⟩
 · simp [k, k3]
 · refine e2.trans (e3.trans ?_); simp only [List.length_cons, List.length_append, List.length_nil, List.append_assoc, List.cons_append, List.nil_append]
   congr 1
   omega
end Go.Proofs.YtpiomapnmempoaaGreat
